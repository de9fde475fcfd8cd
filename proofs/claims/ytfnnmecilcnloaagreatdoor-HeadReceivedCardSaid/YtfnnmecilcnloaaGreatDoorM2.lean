import Derived.Test.YtfnnmecilcnloaaGreatDoorM1
import Derived.Scope
import Derived.Lib.SlBytesConst
import Derived.OrdersHeld
set_option linter.unusedSimpArgs false
set_option linter.unusedVariables false
set_option linter.unusedSectionVars false
set_option linter.defProp false
section
namespace Go.Am
open Go
variable [Tabs]
section
variable {P:Program} {L:List Nat} {N:Nat} {F:Nat→Prop} {γ:List Nat} {C C':Nat→List Value} {e:Env} {ah:AH} {ts:Array Value} {ds:List Deferred} {w w':World} {m:Bool}
variable {e':Env} {ax:AH}
def eA.k4:eA→Bool
 | .call _ _=>true
 | .jh _ _ _ _=>true
 | .nq _ _=>true
 |_=>false
theorem GL {o:Oper} {op:eA} (h:SR L N F γ C e ah ts w) (hd:∀x,o.dst=some x→x<N) (hc:cop P o=some op) (dy:op.k4=false)
 (hm:m=true∨((∀x n,op≠ .ld x n)∧∀x,op≠ .gU .bs x))
 (hev:bg L ⟨o.dst,op,none⟩ e ah=some (e',ax)):aR m P L N F γ C o ts ds w e' ax:=by
 obtain ⟨d,o,ty,pos,af,g⟩:=o
 simp only at hd hev
 cases o with
 |move x=>
  simp only [cop,Option.map_eq_some_iff] at hc
  obtain ⟨a,ha,rfl⟩:=hc
  simp only [bg,Option.some.injEq,Prod.mk.injEq] at hev
  obtain ⟨rfl,rfl⟩:=hev
  exact Uh h hd ha
 |assign x=>
  simp only [cop,Option.map_eq_some_iff] at hc
  obtain ⟨a,ha,rfl⟩:=hc
  exact Rd h hd ha hev
 |pick c a b=>
  simp only [cop] at hc
  split at hc
  · rename_i c' a' b' h1 h2 h3
    injection hc with hc;subst hc
    exact Nl h hd h1 h2 h3 hev
  · cases hc
 |alloc t=>
  simp only [cop,Option.map_eq_some_iff] at hc
  obtain ⟨a,ha,rfl⟩:=hc
  exact Kk h hd ha hev
 |box t x=>
  simp only [cop,Option.map_eq_some_iff] at hc
  obtain ⟨a,ha,rfl⟩:=hc
  exact Rz h hd ha hev
 |build t parts=>
  simp only [cop] at hc
  split at hc
  case h_3=>cases hc
  case h_2=>
   rename_i mm el hu
   split at hc
   case h_2=>cases hc
   rename_i z ps hz hp
   split at hc
   case isFalse=>cases hc
   rename_i hall
   split at hc
   · rename_i gE
     simp only [Option.map_eq_some_iff] at hc
     obtain ⟨z',hz',rfl⟩:=hc
     refine yW h hd hu hz hp hall ?_
     rw [←hev]
     simp only [bg]
     rw [En e ps z gE,hz']
     rfl
   · injection hc with hc;subst hc
     exact yW h hd hu hz hp hall hev
  rename_i fs hu
  split at hc
  case h_2=>cases hc
  rename_i z ps hz hp
  split at hc
  case isFalse=>cases hc
  rename_i hall
  injection hc with hc;subst hc
  exact Kq h hd hu hz hp hall hev
 |buildSlice t n parts=>
  simp only [cop] at hc
  split at hc
  case h_2=>cases hc
  rename_i el hel
  split at hc
  case isFalse=>cases hc
  rename_i hh
  obtain ⟨h1,h2,h3⟩:=hh
  simp only [Option.map_eq_some_iff] at hc
  obtain ⟨zq,ha,rfl⟩:=hc
  refine RG h hd ?_ h1 h2 h3 ha hev
  unfold AB at hel
  split at hel
  · rename_i e hu;injection hel with hel;subst hel;exact hu
  · cases hel
 |load t x=>
  simp only [cop] at hc
  split at hc
  case isFalse=>cases hc
  rename_i ht
  simp only [Option.map_eq_some_iff] at hc
  obtain ⟨a,ha,rfl⟩:=hc
  obtain rfl:m=true:=hm.resolve_right (fun h=>h.1 _ _ rfl)
  exact Uk h hd ha ht hev
 |store t a x=>
  simp only [cop] at hc
  split at hc
  case h_2=>cases hc
  rename_i a' x' ha hx
  split at hc
  case isFalse=>cases hc
  rename_i ht
  simp only [Bool.and_eq_true,Option.isNone_iff_eq_none] at ht
  obtain ⟨ht,rfl⟩:=ht
  injection hc with hc;subst hc
  exact Us h ha hx ht hev
 |nilCheck x=>
  simp only [cop,Option.map_eq_some_iff] at hc
  obtain ⟨a,ha,rfl⟩:=hc
  exact Re h hd ha hev
 |fieldAddr t x f=>
  simp only [cop] at hc
  split at hc
  case h_2=>cases hc
  rename_i x' fd hx hf
  split at hc
  case isTrue=>cases hc
  rename_i hs
  injection hc with hc;subst hc
  exact Rf h hd hx hf hs hev
 |field t x f=>
  simp only [cop] at hc
  split at hc
  case h_2=>cases hc
  rename_i x' fd hx hf
  split at hc
  case isFalse=>cases hc
  rename_i hs
  injection hc with hc;subst hc
  exact No h hd hx hf hs hev
 |binOp RI t x y lK=>
  simp only [cop] at hc
  split at hc
  case h_3=>cases hc
  case h_2=>
   rename_i x' hx hy
   split at hc
   · rename_i ms hu
     injection hc with hc;subst hc;exact ND h hd hx hu rfl hev
   · rename_i ms hu
     injection hc with hc;subst hc;exact ND h hd hx hu rfl hev
   · injection hc with hc;subst hc;cases dy
   · injection hc with hc;subst hc;cases dy
   · cases hc
  rename_i x' y' hx hy
  split at hc
  · rename_i fs hu
    split at hc
    case h_2=>cases hc
    rename_i ks hk
    split at hc
    · injection hc with hc;subst hc;exact Jq h hd hx hy hu hk rfl hev
    · injection hc with hc;subst hc;exact Jq h hd hx hy hu hk rfl hev
    · cases hc
  · injection hc with hc;subst hc;exact Jp h hd hx hy hev
  · injection hc with hc;subst hc;exact Jp h hd hx hy hev
  · rename_i hu
    split at hc
    · injection hc with hc;subst hc;exact Np h hd hx hy hu rfl hev
    · injection hc with hc;subst hc;exact Np h hd hx hy hu rfl hev
    · cases hc
  · rename_i u hu
    split at hc
    · injection hc with hc;subst hc;exact Nq h hd hx hy hu rfl hev
    · injection hc with hc;subst hc;exact Nq h hd hx hy hu rfl hev
    · cases hc
  · cases hc
 |unOp RI t x=>
  simp only [cop,Option.map_eq_some_iff] at hc
  obtain ⟨a,ha,rfl⟩:=hc
  exact Ul h hd ha hev
 |convert s t x=>
  simp only [cop] at hc
  split at hc
  case h_2=>cases hc
  rename_i hh x' k5 hx
  injection hc with hc;subst hc
  exact RA h hd hx k5 (hm.imp id fun q=>by rintro rfl;exact q.2 _ rfl) hev
 |makeFunc fn first cs=>
  cases fn with
  |func f=>
   simp only [cop] at hc
   split at hc
   case isFalse=>cases hc
   rename_i hf
   simp only [Option.map_eq_some_iff] at hc
   obtain ⟨a,ha,rfl⟩:=hc
   exact Rn h hd hf ha hev
  |_=>simp [cop] at hc
 |slice t x lo hi mx=>
  simp only [cop] at hc
  split at hc
  case h_2=>cases hc
  rename_i x' lo' hi' Un hx hlo hhi Kj
  split at hc
  · rename_i hu
    split at hc
    · injection hc with hc;subst hc
      have:mx=none:=by
       cases mx with
       |none=>rfl
       |some y=>simp only [lH] at Kj;cases hy:aU y<;>rw [hy] at Kj<;>simp at Kj
      subst this
      exact Rv h hd hx hlo hhi hu hev
    · cases hc
  · rename_i el hu
    split at hc
    case isFalse=>cases hc
    rename_i ht
    injection hc with hc;subst hc
    exact Rw h hd hx hlo hhi Kj hu ht hev
  · cases hc
 |indexAddr t x i=>
  simp only [cop] at hc
  split at hc
  case h_3=>cases hc
  case h_2=>
   rename_i x' i' hel hx hi
   split at hc
   case h_2=>cases hc
   rename_i mm el hu
   split at hc
   case isFalse=>cases hc
   rename_i ht
   injection hc with hc;subst hc
   exact Rs h hd hx hi hu ht hev
  rename_i el x' i' hel hx hi
  split at hc
  case isFalse=>cases hc
  rename_i ht
  injection hc with hc;subst hc
  unfold AB at hel
  split at hel
  · rename_i e hu;injection hel with hel;subst hel;exact Rr h hd hx hi hu ht hev
  · cases hel
 |index t x i=>
  simp only [cop] at hc
  split at hc
  case h_2=>cases hc
  rename_i x' i' hu hx hi
  injection hc with hc;subst hc
  exact Rq h hd hx hi hu hev
 |extract x i=>
  simp only [cop,Option.map_eq_some_iff] at hc
  obtain ⟨a,ha,rfl⟩:=hc
  exact Ro h hd ha hev
 |call c=>
  obtain ⟨callee,args,argTypes⟩:=c
  simp only [cop] at hc
  split at hc
  · rename_i x t h1 h2
    have e1:args= #[x]:=by rw [←Array.toArray_toList (xs:=args),h1]
    have e2:argTypes= #[t]:=by rw [←Array.toArray_toList (xs:=argTypes),h2]
    subst e1;subst e2
    split at hc
    · rename_i x' hu hx;injection hc with hc;subst hc;exact Nr h hd hx hu hev
    · rename_i s x' hu hx;injection hc with hc;subst hc;exact Rp h hd hx hu hev
    · cases hc
  · rename_i x y t u h1 h2
    have e1:args= #[x,y]:=by rw [←Array.toArray_toList (xs:=args),h1]
    have e2:argTypes= #[t,u]:=by rw [←Array.toArray_toList (xs:=argTypes),h2]
    subst e1;subst e2
    split at hc
    case h_2=>cases hc
    rename_i x' y' _ _ hx hy
    split at hc
    case isFalse=>cases hc
    rename_i htu
    injection hc with hc;subst hc
    obtain ⟨rfl, -⟩:=htu
    exact NF (mx:=true) h hd hx hy hev
  · rename_i x y t u h1 h2
    have e1:args= #[x,y]:=by rw [←Array.toArray_toList (xs:=args),h1]
    have e2:argTypes= #[t,u]:=by rw [←Array.toArray_toList (xs:=argTypes),h2]
    subst e1;subst e2
    split at hc
    case h_2=>cases hc
    rename_i x' y' _ _ hx hy
    split at hc
    case isFalse=>cases hc
    rename_i htu
    injection hc with hc;subst hc
    obtain ⟨rfl, -⟩:=htu
    exact NF (mx:=false) h hd hx hy hev
  · rename_i x y t u h1 h2
    have e1:args= #[x,y]:=by rw [←Array.toArray_toList (xs:=args),h1]
    have e2:argTypes= #[t,u]:=by rw [←Array.toArray_toList (xs:=argTypes),h2]
    subst e1;subst e2
    split at hc
    case h_2=>cases hc
    rename_i el x' hel hx
    have ht:P.underlying t=some (.slice el):=by
     unfold AB at hel
     split at hel
     · rename_i e hu;injection hel with hel;subst hel;exact hu
     · cases hel
    split at hc
    · rename_i s y' hu hy
      split at hc
      case isFalse=>cases hc
      rename_i hz
      injection hc with hc;subst hc
      exact RE h hd hx hy ht hu hz hev
    · rename_i y' hu hy
      split at hc
      case isFalse=>cases hc
      rename_i hz
      injection hc with hc;subst hc
      exact NJ h hd hx hy ht hu hz.2 hz.1 hev
    · cases hc
  · split at hc
    · injection hc with hc;subst hc;cases dy
    · cases hc
  · cases hc
 |_=>simp [cop] at hc
theorem RJ {o:Oper} {op:eA} (h:SR L N F γ C e ah ts w) (hd:∀x,o.dst=some x→x<N) (hc:cW P m o=some op) (dy:op.k4=false)
 (hev:bg L ⟨o.dst,op,none⟩ e ah=some (e',ax)):aR m P L N F γ C o ts ds w e' ax:=by
 cases m with
 |true=>exact GL h hd (by simpa [cW] using hc) dy (.inl rfl) hev
 |false=>
  simp only [cW,Bool.false_eq_true,if_false,Option.map_eq_some_iff] at hc
  obtain ⟨op',ho,rfl⟩:=hc
  by_cases vU:∃x,op'= .gU .bs x
  · obtain ⟨x,rfl⟩:=vU
    obtain ⟨d,oo,ty,pos,af,g⟩:=o
    cases oo with
    |convert s t y=>
     simp only [cop] at ho
     split at ho
     case h_2=>cases ho
     rename_i hh x' k5 hx
     injection ho with ho
     injection ho with e1 e2
     subst e1;subst e2
     exact NA h hd hx k5 hev
    |makeFunc fn first cs=>
     cases fn with
     |func f=>simp only [cop] at ho;split at ho<;>simp at ho
     |_=>simp [cop] at ho
    |_=>
     exfalso
     simp only [cop] at ho
     first
      |cases ho;done
      |(simp at ho;done)
      |(repeat' (split at ho))<;>(first|(cases ho;done)|(simp at ho;done))
  by_cases hl:∃x n,op'= .ld x n
  · obtain ⟨x,n,rfl⟩:=hl
    obtain ⟨d,oo,ty,pos,af,g⟩:=o
    cases oo with
    |load t y=>
     simp only [cop] at ho
     split at ho
     case isFalse=>cases ho
     rename_i ht
     simp only [Option.map_eq_some_iff] at ho
     obtain ⟨a,ha,he⟩:=ho
     injection he with e1 e2
     subst e1;subst e2
     exact Jo h hd ha ht hev
    |makeFunc fn first cs=>
     cases fn with
     |func f=>simp only [cop] at ho;split at ho<;>simp at ho
     |_=>simp [cop] at ho
    |_=>
     exfalso
     simp only [cop] at ho
     first
      |cases ho;done
      |(simp at ho;done)
      |(repeat' (split at ho))<;>(first|(cases ho;done)|(simp at ho;done))
  · have:op'.Gw=op':=by
     cases op' with
     |ld x n=>exact absurd ⟨_,_,rfl⟩ hl
     |gU hh x=>cases hh<;>first|rfl|exact absurd ⟨_,rfl⟩ vU
     |_=>rfl
    rw [this] at dy hev
    exact GL h hd ho dy (.inr ⟨fun x n he=>hl ⟨x,n,he⟩,fun x he=>vU ⟨x,he⟩⟩) hev
theorem NS {o:Oper} {x':Ar} (hc:cop P o=some (.aT x')):∃x,o=⟨o.dst, .assign x,o.type,o.pos,o.after,o.guard⟩∧ct P o.type x=some x':=by
 obtain ⟨d,oo,ty,pos,af,g⟩:=o
 cases oo with
 |assign y=>
  simp only [cop,Option.map_eq_some_iff] at hc
  obtain ⟨a,ha,he⟩:=hc
  injection he with he
  subst he
  exact ⟨y,rfl,ha⟩
 |makeFunc fn first cs=>
  cases fn with
  |func f=>simp only [cop] at hc;split at hc<;>simp at hc
  |_=>simp [cop] at hc
 |_=>
  exfalso
  simp only [cop] at hc
  first
   |cases hc;done
   |(simp at hc;done)
   |(repeat' (split at hc))<;>(first|(cases hc;done)|(simp at hc;done))
theorem yX {o:Oper} {k b:Nat} {x' y':Ar} (hop:cop P o=some (.app k b x' y')):
 ∃x y t u el s,o=⟨o.dst, .call {callee:= .builtin .append,args:= #[x,y],argTypes:= #[t,u]},o.type,o.pos,o.after,o.guard⟩∧ct P t x=some x'∧ct P u y=some y'∧
  P.underlying t=some (.slice el)∧P.underlying u=some (.slice s)∧(zeroOf P el).map List.length=some (bY P el)∧k=bY P el∧b=BY P el:=by
 obtain ⟨d,oo,ty,pos,af,g⟩:=o
 cases oo with
 |call c=>
  obtain ⟨callee,args,argTypes⟩:=c
  simp only [cop] at hop
  split at hop
  · split at hop<;>simp at hop
  · split at hop
    · split at hop<;>simp at hop
    · cases hop
  · split at hop
    · split at hop<;>simp at hop
    · cases hop
  · rename_i x y t u h1 h2
    have e1:args= #[x,y]:=by rw [←Array.toArray_toList (xs:=args),h1]
    have e2:argTypes= #[t,u]:=by rw [←Array.toArray_toList (xs:=argTypes),h2]
    subst e1;subst e2
    split at hop
    case h_2=>cases hop
    rename_i el x2 hel hx
    have ht:P.underlying t=some (.slice el):=by
     unfold AB at hel
     split at hel
     · rename_i e hu;injection hel with hel;subst hel;exact hu
     · cases hel
    split at hop
    · rename_i s y2 hu hy
      split at hop
      case isFalse=>cases hop
      rename_i hz
      injection hop with hop
      injection hop with q1 q2 q3 q4
      subst q1;subst q2;subst q3;subst q4
      exact ⟨x,y,t,u,el,s,rfl,hx,hy,ht,hu,hz,rfl,rfl⟩
    · split at hop<;>simp at hop
    · cases hop
  · split at hop<;>simp at hop
  · cases hop
 |makeFunc fn first cs=>
  cases fn with
  |func f=>simp only [cop] at hop;split at hop<;>simp at hop
  |_=>simp [cop] at hop
 |_=>
  exfalso
  simp only [cop] at hop
  first
   |cases hop;done
   |(simp at hop;done)
   |(repeat' (split at hop))<;>(first|(cases hop;done)|(simp at hop;done))
theorem Jv {o:Oper} {neq:Bool} {x':Ar} (hop:cop P o=some (.nq neq x')):
 ∃op t x lK el,o=⟨o.dst, .binOp op t x (.const (.slice none 0 0)) lK,o.type,o.pos,o.after,o.guard⟩∧aU x=some x'∧P.underlying t=some (.slice el)∧op=if neq then .neq else .eql:=by
 obtain ⟨d,oo,ty,pos,af,g⟩:=o
 cases oo with
 |binOp op t x y lK=>
  simp only [cop] at hop
  split at hop
  case h_3=>cases hop
  case h_2=>
   rename_i x2 hx hy
   split at hop
   · cases hop
   · cases hop
   · rename_i el hu
     injection hop with hop;injection hop with h1 h2;subst h1;subst h2
     exact ⟨_,t,x,lK,el,rfl,hx,hu,rfl⟩
   · rename_i el hu
     injection hop with hop;injection hop with h1 h2;subst h1;subst h2
     exact ⟨_,t,x,lK,el,rfl,hx,hu,rfl⟩
   · cases hop
  exfalso
  (repeat' (split at hop))<;>(first|(cases hop;done)|(simp at hop;done))
 |makeFunc fn first cs=>
  cases fn with
  |func f=>simp only [cop] at hop;split at hop<;>simp at hop
  |_=>simp [cop] at hop
 |_=>
  exfalso
  simp only [cop] at hop
  first
   |cases hop;done
   |(simp at hop;done)
   |(repeat' (split at hop))<;>(first|(cases hop;done)|(simp at hop;done))
theorem RL {op:eA} {n:Bool} {x:Ar} (h:op.Gw= .nq n x):op= .nq n x:=by
 cases op with
 |gU hh x=>cases hh<;>cases h
 |ld x n=>cases h
 |_=>exact h
theorem NT {op:eA} {k b:Nat} {x y:Ar} (h:op.Gw= .app k b x y):op= .app k b x y:=by
 cases op with
 |gU hh x=>cases hh<;>cases h
 |ld x n=>cases h
 |_=>exact h
theorem NU {op:eA} {x:Ar} (h:op.Gw= .aT x):op= .aT x:=by
 cases op with
 |gU hh x=>cases hh<;>cases h
 |ld x n=>cases h
 |_=>exact h
theorem vV {o:Oper} {k b:Nat} {x y:Ar} (hc:cW P m o=some (.app k b x y)):cop P o=some (.app k b x y):=by
 cases m with
 |true=>simpa [cW] using hc
 |false=>
  simp only [cW,Bool.false_eq_true,if_false,Option.map_eq_some_iff] at hc
  obtain ⟨op',ho,hE⟩:=hc
  rw [ho,NT hE]
theorem Kt {o:Oper} {x:Ar} (hc:cW P m o=some (.aT x)):cop P o=some (.aT x):=by
 cases m with
 |true=>simpa [cW] using hc
 |false=>
  simp only [cW,Bool.false_eq_true,if_false,Option.map_eq_some_iff] at hc
  obtain ⟨op',ho,hE⟩:=hc
  rw [ho,NU hE]
theorem Eo {o:Oper} {n:Bool} {x:Ar} (hc:cW P m o=some (.nq n x)):cop P o=some (.nq n x):=by
 cases m with
 |true=>simpa [cW] using hc
 |false=>
  simp only [cW,Bool.false_eq_true,if_false,Option.map_eq_some_iff] at hc
  obtain ⟨op',ho,hE⟩:=hc
  rw [ho,RL hE]
theorem Cg {o:Oper} {n:Bool} {x:Ar} {K:Env→AH→Prop} (h:SR L N F γ C e ah ts w) (hd:∀x,o.dst=some x→x<N) (hc:cW P m o=some (eA.er (.nq n x)))
 (hk:yK L o.dst n x e ah K):∃e' ax,K e' ax∧aR m P L N F γ C o ts ds w e' ax:=by
 obtain ⟨op,t,x0,lK,el,ho,hx,hu,hop⟩:=Jv (Eo hc)
 rw [ho]
 exact Uu (d:=o.dst) h hd hx hu hop hk
theorem BH {o:Oper} {k b:Nat} {x y:Ar} {K:Env→AH→Prop} (h:SR L N F γ C e ah ts w) (hd:∀x,o.dst=some x→x<N) (hc:cW P m o=some (eA.er (.jh k b x y)))
 (hk:lG L o.dst k b x y e ah K):∃e' ax,K e' ax∧aR m P L N F γ C o ts ds w e' ax:=by
 obtain ⟨x0,y0,t,u,el,s,ho,hx,hy,ht,hu,hz,rfl,rfl⟩:=yX (vV hc)
 rw [ho]
 exact NP (d:=o.dst) h hd hx hy ht hu hz hk
theorem Ep {o:Oper} {k:Nat} {x:Ar} (h:SR L N F γ C e ah ts w) (hd:∀x,o.dst=some x→x<N) (hc:cW P m o=some (eA.er (.th k x)))
 (hev:bg L ⟨o.dst, .th k x,none⟩ e ah=some (e',ax)):aR m P L N F γ C o ts ds w e' ax:=by
 obtain ⟨x0,ho,hx⟩:=NS (Kt hc)
 rw [ho]
 exact Rt (d:=o.dst) h hd hx hev
theorem BI {op:eA} {f:Ar} {zq:List Ar} (h:op.Gw= .call f zq):op= .call f zq:=by
 cases op with
 |gU hh x=>cases hh<;>cases h
 |ld x n=>cases h
 |_=>exact h
theorem XI {op:eA} {f:Ar} {zq:List Ar} (h:op.er= .call f zq):op= .call f zq:=by
 cases op with
 |oz x=>cases h
 |jh=>cases h
 |th=>cases h
 |_=>exact h
theorem Ch {o:Oper} {op:eA} (h:SR L N F γ C e ah ts w) (hd:∀x,o.dst=some x→x<N) (hc:cop P o=some op.er) (dy:op.k4=false)
 (hev:bg L ⟨o.dst,op,none⟩ e ah=some (e',ax)):aR true P L N F γ C o ts ds w e' ax:=by
 by_cases hx:∃x,op= .oz x
 · obtain ⟨x,rfl⟩:=hx
   obtain ⟨d,oo,ty,pos,af,g⟩:=o
   have hc:cop P ⟨d,oo,ty,pos,af,g⟩=some (.gU .sb x):=hc
   cases oo with
   |convert s t y=>
    simp only [cop] at hc
    split at hc
    case h_2=>cases hc
    rename_i hh x' k5 hx
    injection hc with hc
    injection hc with e1 e2
    subst e1;subst e2
    exact NB h hd hx k5 hev
   |makeFunc fn first cs=>
    cases fn with
    |func f=>simp only [cop] at hc;split at hc<;>simp at hc
    |_=>simp [cop] at hc
   |_=>
    exfalso
    simp only [cop] at hc
    first
     |cases hc;done
     |(simp at hc;done)
     |(repeat' (split at hc))<;>(first|(cases hc;done)|(simp at hc;done))
 · by_cases hy:∃k x,op= .th k x
   · obtain ⟨k,x,rfl⟩:=hy
     exact Ep (m:=true) h hd (by simpa [cW] using hc) hev
   have:op.er=op:=by
    cases op<;>first|rfl|exact absurd ⟨_,rfl⟩ hx|exact absurd ⟨_,_,rfl⟩ hy|cases dy|rfl
   rw [this] at hc
   exact GL h hd hc dy (.inl rfl) hev
theorem Er {o:Oper} {op:eA} (h:SR L N F γ C e ah ts w) (hd:∀x,o.dst=some x→x<N) (hc:cW P m o=some op.er) (dy:op.k4=false)
 (hev:bg L ⟨o.dst,op,none⟩ e ah=some (e',ax)):aR m P L N F γ C o ts ds w e' ax:=by
 cases m with
 |true=>exact Ch h hd (by simpa [cW] using hc) dy hev
 |false=>
  by_cases hx:∃x,op= .oz x
  · obtain ⟨x,rfl⟩:=hx
    simp only [cW,Bool.false_eq_true,if_false,Option.map_eq_some_iff] at hc
    obtain ⟨op',ho,hE⟩:=hc
    have hE:op'.Gw= .gU .sb x:=hE
    have:op'= .gU .sb x:=by
     cases op' with
     |gU hh y=>cases hh<;>first|exact hE|cases hE
     |ld y n=>cases hE
     |_=>exact hE
    subst this
    obtain ⟨v,w',γ',C',h1,h2,h3,h4,h5,h6⟩:=Ch (op:= .oz x) (ds:=ds) h hd ho rfl hev
    refine ⟨v,w',γ',C',h1,h2,h3,h4,h5,fun hq=> ?_⟩
    exfalso
    obtain ⟨d,oo,ty,pos,af,g⟩:=o
    cases oo with
    |convert s t y=>
     simp only [cop] at ho
     split at ho
     case h_2=>cases ho
     rename_i hh x' k5 hx
     injection ho with ho
     injection ho with e1 e2
     subst e1
     unfold B0 at k5
     split at k5
     · cases k5
     · cases k5
     · rename_i el hs ht
       simp [cS,ht] at hq
     · split at k5
       · split at k5<;>cases k5
       · cases k5
     · cases k5
    |makeFunc fn first cs=>
     cases fn with
     |func f=>simp only [cop] at ho;split at ho<;>simp at ho
     |_=>simp [cop] at ho
    |_=>
     simp only [cop] at ho
     first
      |cases ho;done
      |(simp at ho;done)
      |(repeat' (split at ho))<;>(first|(cases ho;done)|(simp at ho;done))
  · by_cases hy:∃k x,op= .th k x
    · obtain ⟨k,x,rfl⟩:=hy
      exact Ep h hd hc hev
    have:op.er=op:=by
     cases op<;>first|rfl|exact absurd ⟨_,rfl⟩ hx|exact absurd ⟨_,_,rfl⟩ hy|cases dy|rfl
    rw [this] at hc
    exact RJ h hd hc dy hev
theorem qQ (L:List Nat) (d:Option Nat) (op:eA) (g:Option (Nat×Bool)) (e:Env) (ah:AH):bg L ⟨d,op,g⟩ e ah=bg L ⟨d,op,none⟩ e ah:=by
 cases op<;>rfl
def gF (P:Program) (f:Nat):Bool:=match P.funcs[f]? with
 |some fn=>fn.body.isSome&&fn.name != "runtime.NumGoroutine"
 |none=>false
def dJ:Nat→List AV→Env
 |_,[]=>[]
 |i,a::r=>(i,a)::dJ (i+1) r
theorem c6:∀(l:List AV) (i t:Nat),get (dJ i l) t=if i≤t then (l[t - i]?).getD .un else .un:=by
 intro l
 induction l with
 |nil=>intro i t;simp [dJ,get]
 |cons a r ih=>
  intro i t
  simp only [dJ,get]
  by_cases h:i=t
  · subst h;simp
  · rw [if_neg h,ih]
    by_cases h1:i≤t
    · obtain ⟨q,hq⟩:∃q,t - i=q+1:=⟨t - i - 1,by omega⟩
      rw [if_pos h1,if_pos (by omega),hq,show t - (i+1)=q by omega];simp
    · rw [if_neg h1,if_neg (by omega)]
def az (P:Program) (f:Nat) (args:List AV) (ah:AH) (R:AV→AH→Prop):Prop:=
 gF P f=true∧∀(F:Nat→Prop) (γ:List Nat) (C:Nat→List Value) (w:World) (vs:Array Value),SR [] args.length F γ C (dJ 0 args) ah vs w→
  Calls P f vs w fun en w'=>∃r v ax γ' C',en= .returned v∧R r ax∧γ <+: γ'∧SR [] 1 F γ' C' [(0,r)] ax #[v] w'∧Ext F C w C' w'
theorem az.mono {f:Nat} {args:List AV} {ah:AH} {R R':AV→AH→Prop} (h:az P f args ah R) (hr:∀r ax,R r ax→R' r ax):az P f args ah R':=
 ⟨h.1,fun F γ C w vs hs=>(h.2 F γ C w vs hs).mono fun _ _ ⟨r,v,ax,γ',C',h1,h2,h3⟩=>⟨r,v,ax,γ',C',h1,hr _ _ h2,h3⟩⟩
def AV.fV:AV→AV
 | .sl (.fr (.cell _ _)) k xs=> .sl .n k xs
 |a=>a
def qR:Env→Env
 |[]=>[]
 |(i,a)::r=>(i,a.fV)::qR r
theorem uB (e:Env) (t:Nat):get (qR e) t=(get e t).fV:=by
 induction e with
 |nil=>rfl
 |cons p r ih=>
  obtain ⟨i,b⟩:=p
  simp only [qR,get]
  by_cases h:i=t<;>simp [h,ih]
theorem Wk.fV (a:AV):Wk a a.fV:=by
 cases a with
 |sl t k xs=>
  cases t with
  |fr m=>cases m<;>first|exact .n .. |exact .same _
  |_=>exact .same _
 |_=>exact .same _
theorem NV (a:AV):a.fV.bt=a.bt:=by
 cases a with
 |sl t k xs=>
  cases t with
  |fr m=>cases m<;>rfl
  |_=>rfl
 |_=>rfl
theorem Ku (a:AV) (v:Value):bz a.fV v=bz a v:=by
 cases a with
 |sl t k xs=>
  cases t with
  |fr m=>cases m<;>simp [AV.fV,bz]
  |_=>rfl
 |_=>rfl
theorem RM {a:AV} {l:Loc} {k:Nat} {xs:List AV} (h:a.fV= .sl (.fr l) k xs):a= .sl (.fr l) k xs∧∃t,l= .tmp t:=by
 cases a with
 |sl t k' xs'=>
  cases t with
  |fr m=>cases m with
   |tmp u=>simp only [AV.fV] at h;exact ⟨h,u,by injection h with h;injection h with h;exact h.symm⟩
   |cell s o=>simp [AV.fV] at h
  |_=>simp [AV.fV] at h
 |_=>simp [AV.fV] at h
theorem Es {f:Nat} {zq:List AV} {vs:Array Value} {R:AV→AH→Prop} {d:Option Nat} (h:SR L N F γ C e ah ts w) (hd:∀x,d=some x→x<N) (hac:az P f zq ah R)
 (hlen:vs.size=zq.length) (has:∀(i:Nat) (a:AV),zq[i]? =some a→VR C γ a (vs.getD i undef)∧TC w C a (vs.getD i undef)∧a.plain=true):
 Calls P f vs w fun en w'=>∃r v ax γ' C',en= .returned v∧R r ax∧γ <+: γ'∧SR L N F γ' C' (Am.ay L (qR e) d r.df) ax (Act.put ⟨ts,ds⟩ d v).tmps w'∧Ext F C w C' w':=by
 let F':Nat→Prop:=fun b=>F b∨∃t,blk γ e ah ts w (.tmp t) b
 have Kv:∀t,get (dJ 0 zq) t=(zq[t]?).getD .un:=fun t=>by rw [c6];simp
 have hnot:∀t,(get (dJ 0 zq) t).bt=false:=by
  intro t
  rw [Kv]
  cases ht:zq[t]? with
  |none=>rfl
  |some a=>exact fm (has t a ht).2.2
 have hsub:∀p b,blk γ (dJ 0 zq) ah vs w p b→blk γ e ah ts w p b∧∀t,p≠ .tmp t:=by
  intro p b hp
  cases p with
  |obj s=>exact ⟨hp,by simp⟩
  |cell s i=>exact ⟨hp,by simp⟩
  |tmp t=>simp only [blk] at hp;rw [fK _ (hnot t)] at hp;cases hp
 have hs:SR [] zq.length F' γ C (dJ 0 zq) ah vs w:=by
  refine ⟨h.mem,hlen,fun t=> ?_,fun p q b hp hq=>h.cX p q b (hsub p b hp).1 (hsub q b hq).1,fun p b hp=> ?_,⟨fun b hb=> ?_,fun e he=>by obtain ⟨h1,h2⟩:=h.je.Ea e he;exact ⟨.inl h1,h2⟩⟩,fun t l k xs ht=> ?_⟩
  · rw [Kv]
    cases ht:zq[t]? with
    |none=>exact ⟨.un ..,by cases vs.getD t undef<;>trivial⟩
    |some a=>exact ⟨(has t a ht).1,(has t a ht).2.1⟩
  · rintro (hF|⟨t,ht⟩)
    · exact h.nf p b (hsub p b hp).1 hF
    · exact (hsub p b hp).2 t (h.cX p (.tmp t) b (hsub p b hp).1 ht)
  · rcases hb with hF|⟨t,ht⟩
    · exact h.je.lt b hF
    · exact eM h ht
  · rw [Kv] at ht
    cases hq:zq[t]? with
    |none=>rw [hq] at ht;simp at ht
    |some a=>rw [hq] at ht;exact absurd ht (rT (has t a hq).2.2 l k xs)
 refine (hac.2 F' γ C w vs hs).mono ?_
 rintro en w' ⟨r,v,ax,γ',C',rfl,hR,hγ,jk,hx⟩
 refine ⟨r,v,ax,γ',C',rfl,hR,hγ, ?_,⟨hx.pre,fun b hb=>hx.keep b (.inl hb),hx.size,hx.out⟩⟩
 have hg:∀(s b:Nat),γ[s]? =some b→γ'[s]? =some b:=by
  intro s b hs
  obtain ⟨q,rfl⟩:=hγ
  rw [List.getElem?_append_left (List.getElem?_eq_some_iff.1 hs).1];exact hs
 have hown:∀t b,bz (get e t) (ts.getD t undef)=some b→F' b:=fun t b hb=> .inr ⟨t,hb⟩
 have hbk:∀p b,blk γ' (qR e) ax ts w' p b→(∃t,p= .tmp t∧blk γ e ah ts w (.tmp t) b)∨((∀t,p≠ .tmp t)∧blk γ' [(0,r)] ax #[v] w' p b):=by
  intro p b hp
  cases p with
  |obj s=>exact .inr ⟨by simp,hp⟩
  |cell s i=>exact .inr ⟨by simp,hp⟩
  |tmp t=>simp only [blk,uB,Ku] at hp;exact .inl ⟨t,rfl,hp⟩
 have h2:SR L N F γ' C' (qR e) ax ts w':=by
  refine ⟨jk.mem,h.sz,fun t=> ?_,fun p q b hp hq=> ?_,fun p b hp=> ?_,h.je.keep hx.size (fun b hb=>(hx.keep b (.inl hb)).1),fun t l k xs ht=> ?_⟩
  · rw [uB]
    refine ⟨(Wk.fV _).vr ((h.env t).1.mono hx.pre _ hg),(Wk.fV _).tc ((h.env t).2.mono fun b hb=> ?_)⟩
    exact hx.keep b (hown t b hb)
  · rcases hbk p b hp with ⟨t,rfl,h1⟩|⟨h1,h2⟩<;>rcases hbk q b hq with ⟨u,rfl,h3⟩|⟨h3,h4⟩
    · exact h.cX _ _ b h1 h3
    · exact absurd (hown t b h1) (jk.nf q b h4)
    · exact absurd (hown u b h3) (jk.nf p b h2)
    · exact jk.cX p q b h2 h4
  · rcases hbk p b hp with ⟨t,rfl,h1⟩|⟨h1,h2⟩
    · exact h.nf _ b h1
    · exact fun hF=>jk.nf p b h2 (.inl hF)
  · rw [uB] at ht
    obtain ⟨h1,u,rfl⟩:=RM ht
    have:=h.fr t _ k xs h1
    exact ⟨this.1,fun hu=>this.2 (by rw [uB,NV] at hu;exact hu)⟩
 have hr:=jk.env 0
 simp only [get,if_true] at hr
 have hv0:(#[v]:Array Value).getD 0 undef=v:=rfl
 rw [hv0] at hr
 by_cases ho:r.bt=true
 · cases r with
   |sl t k xs=>
    cases t with
    |own=>
     simp only [AV.df]
     refine h2.oB hd hr.1 hr.2 fun b hb=> ?_
     have hb0:blk γ' [(0, .sl .own k xs)] ax #[v] w' (.tmp 0) b:=hb
     refine ⟨fun hF=>jk.nf _ b hb0 (.inl hF),fun p hp=> ?_⟩
     rcases hbk p b hp with ⟨t,rfl,h1⟩|⟨h1,h3⟩
     · exact jk.nf _ b hb0 (hown t b h1)
     · exact h1 0 (jk.cX p (.tmp 0) b h3 hb0)
    |_=>cases ho
   |_=>cases ho
 · have ho':r.bt=false:=by simpa using ho
   exact h2.ay hd ((Wk.df r).vr hr.1) ((Wk.df r).tc hr.2) (Jn ho') (fun l k xs hl=>absurd hl (Gx r l k xs))
end
end Go.Am
end
section
namespace Go.Am
open Go
variable [Tabs]
def uC (P:Program) (L:List Nat) (o:aF) (e:Env) (ah:AH) (K:Env→AH→Prop):Prop:=
 match o.op with
 | .call f zq=>
   match ev e f with
   | .fn f caps=>bU caps=true∧az P f (zq.map (fun x=>(ev e x).sh)++caps.map AV.s1) ah fun r ax=>K (ay L (qR e) o.d r.df) ax
   |_=>False
 | .jh k b x y=>lG L o.d k b x y e ah K
 | .nq n x=>yK L o.d n x e ah K
 |_=>match bg L o e ah with
  |some (e',ax)=>K e' ax
  |none=>False
def lO (e:Env):Option Nat→Env
 |some d=>put e d (.aW [])
 |none=>e
def cY (P:Program) (L:List Nat):List aF→Env→AH→(Env→AH→Prop)→Prop
 |[],e,ah,K=>K e ah
 |o::r,e,ah,K=>match eR e o with
  |some true=>uC P L o e ah fun e ah=>cY P L r e ah K
  |some false=>cY P L r (lO e o.d) ah K
  |none=>False
def jf (N:Nat):List aF→Bool
 |[]=>true
 |o::r=>(match o.d with|some d=>decide (d<N)|none=>true)&&(match o.op with| .lit y _=>decide (y<N)|_=>true)&&jf N r
theorem Jw (N:Nat):∀zq:List aF,jf N (zq.map aF.er)=jf N zq:=by
 intro zq
 induction zq with
 |nil=>rfl
 |cons o r ih=>
  obtain ⟨d,op,g⟩:=o
  simp only [List.map_cons,jf,ih,aF.er]
  cases op<;>rfl
def NG:Exit→Prop
 | .goto _=>False
 |_=>True
def AW (P:Program) (L:List Nat) (N n0:Nat) (c:Code) (Q:Exit→Env→AH→Prop) (e:Env) (ah:AH):Prop:=
 ∀(F:Nat→Prop) (γ:List Nat) (C:Nat→List Value) (ts:Array Value) (w:World),SR L N F γ C e ah ts w→n0≤γ.length→
  c.wp P (fun x a' w'=>a'.defers=[]∧NG x∧∃e' ax γ' C',Q x e' ax∧γ.take n0 <+: γ'∧SR L N F γ' C' e' ax a'.tmps w'∧Ext F C w C' w') ⟨ts,[]⟩ w
section
variable {P:Program} {L:List Nat} {N n0:Nat} {F:Nat→Prop} {γ:List Nat} {C C':Nat→List Value} {e:Env} {ah:AH} {ts:Array Value} {w w':World}
variable {e':Env} {ax:AH}
theorem BJ {γ γ':List Nat} {n:Nat} (h:γ <+: γ'):γ.take n <+: γ':=(List.take_prefix n γ).trans h
theorem lP {γ γ' XJ:List Nat} {n:Nat} (h0:n≤γ.length) (h:γ.take n <+: γ') (h':γ'.take n <+: XJ):γ.take n <+: XJ:=by
 obtain ⟨r,rfl⟩:=h
 have:(γ.take n++r).take n=γ.take n:=by
  rw [List.take_append_of_le_length (by simp;omega),List.take_take,Nat.min_self]
 rwa [this] at h'
theorem Et {γ γ':List Nat} {n:Nat} (h0:n≤γ.length) (h:γ.take n <+: γ'):n≤γ'.length:=by
 have:=h.length_le;simp at this;omega
theorem AW.mono {c:Code} {Q Q':Exit→Env→AH→Prop} (h:AW P L N n0 c Q e ah) (hq:∀x e ah,Q x e ah→Q' x e ah):AW P L N n0 c Q' e ah:=
 fun F γ C ts w hs hn=>wp_mono (h F γ C ts w hs hn) fun _ _ _ ⟨hd,hg,e',ax,γ',C',h1,h2⟩=>⟨hd,hg,e',ax,γ',C',hq _ _ _ h1,h2⟩
theorem AW.skip {Q:Exit→Env→AH→Prop} (h:Q .normal e ah):AW P L N n0 .skip Q e ah:=
 fun F γ C ts w hs hn=>wp_skip ⟨rfl,trivial,e,ah,γ,C,h,List.take_prefix _ _,hs,Ext.refl ..⟩
theorem AW.label {Q:Exit→Env→AH→Prop} {l:Nat} (h:Q .normal e ah):AW P L N n0 (.label l) Q e ah:=
 fun F γ C ts w hs hn=>wp_label ⟨rfl,trivial,e,ah,γ,C,h,List.take_prefix _ _,hs,Ext.refl ..⟩
theorem AW.ret {Q:Exit→Env→AH→Prop} (h:Q .ret e ah):AW P L N n0 .ret Q e ah:=
 fun F γ C ts w hs hn=>wp_ret ⟨rfl,trivial,e,ah,γ,C,h,List.take_prefix _ _,hs,Ext.refl ..⟩
theorem AW.exit {Q:Exit→Env→AH→Prop} {i:Nat} (h:Q (.exit i) e ah):AW P L N n0 (.exit i) Q e ah:=
 fun F γ C ts w hs hn=>wp_exit ⟨rfl,trivial,e,ah,γ,C,h,List.take_prefix _ _,hs,Ext.refl ..⟩
theorem AW.seq {a b:Code} {Q:Exit→Env→AH→Prop} (h:AW P L N n0 a (fun x e ah=>match x with| .normal=>AW P L N n0 b Q e ah|x=>Q x e ah) e ah):AW P L N n0 (.seq a b) Q e ah:=by
 intro F γ C ts w hs hn
 refine wp_seq (wp_mono (h F γ C ts w hs hn) ?_)
 rintro x ⟨ts',ds'⟩ w' ⟨rfl,hg,e',ax,γ',C',h1,h2,h3,h4⟩
 cases x with
 |normal=>
  refine wp_mono (h1 F γ' C' ts' w' h3 (Et hn h2)) ?_
  rintro x ⟨NW,XK⟩ w2 ⟨rfl,hg,e2,oD,γ2,C2,g1,g2,g3,g4⟩
  exact ⟨rfl,hg,e2,oD,γ2,C2,g1,lP hn h2 g2,g3,h4.trans g4⟩
 |_=>exact ⟨rfl,hg,e',ax,γ',C',h1,h2,h3,h4⟩
theorem AW.cond {c:Operand} {c':Ar} {a b:Code} {t:Bool} {Q:Exit→Env→AH→Prop} (hc:aU c=some c') (ht:ev e c'= .bool t) (h:AW P L N n0 (if t then a else b) Q e ah):
 AW P L N n0 (.cond c a b) Q e ah:=by
 intro F γ C ts w hs hn
 have:=(bl (ds:=[]) hs hc).1
 rw [ht] at this
 exact wp_cond (t:=t) this.eS (h F γ C ts w hs hn)
theorem AW.blk {c:Code} {i:Nat} {Q:Exit→Env→AH→Prop} (h:AW P L N n0 c (fun x e ah=>match x with| .exit j=>if j=i then Q .normal e ah else Q (.exit j) e ah|x=>Q x e ah) e ah):
 AW P L N n0 (.block i c) Q e ah:=by
 intro F γ C ts w hs hn
 refine wp_block (wp_mono (h F γ C ts w hs hn) ?_)
 rintro x a w' ⟨hd,hg,e',ax,γ',C',h1,h2⟩
 cases x with
 |exit j=>
  simp only [Exit.inBlock] at h1 ⊢
  by_cases hj:j=i
  · rw [if_pos hj] at h1 ⊢;exact ⟨hd,trivial,e',ax,γ',C',h1,h2⟩
  · rw [if_neg hj] at h1 ⊢;exact ⟨hd,trivial,e',ax,γ',C',h1,h2⟩
 |_=>exact ⟨hd,hg,e',ax,γ',C',h1,h2⟩
theorem AW.loop {c:Code} {Q:Exit→Env→AH→Prop} (I:Nat→Env→AH→Prop) {k0:Nat}
 (round:∀k e ah,I k e ah→AW P L N n0 c (fun x e' ax=>match x with| .normal=>∃k',k'<k∧I k' e' ax|x=>Q x e' ax) e ah) (h0:I k0 e ah):AW P L N n0 (.loop c) Q e ah:=by
 intro F γ C ts w hs hn
 refine wp_loop_ghost (fun k a w'=>a.defers=[]∧∃e' ax γ' C',I k e' ax∧γ.take n0 <+: γ'∧SR L N F γ' C' e' ax a.tmps w'∧Ext F C w C' w') k0
  ⟨rfl,e,ah,γ,C,h0,List.take_prefix _ _,hs,Ext.refl ..⟩ ?_
 rintro k ⟨yY,ds1⟩ w1 ⟨rfl,e1,bB,γ1,C1,h1,h2,h3,h4⟩
 refine wp_mono (round k e1 bB h1 F γ1 C1 yY w1 h3 (Et hn h2)) ?_
 rintro x ⟨NW,XK⟩ w2 ⟨rfl,hg,e2,oD,γ2,C2,g1,g2,g3,g4⟩
 cases x with
 |normal=>obtain ⟨k',hk',hI⟩:=g1;exact ⟨k',hk',rfl,e2,oD,γ2,C2,hI,lP hn h2 g2,g3,h4.trans g4⟩
 |_=>exact ⟨rfl,hg,e2,oD,γ2,C2,g1,lP hn h2 g2,g3,h4.trans g4⟩
theorem AW.scope {c:Code} {Q:Exit→Env→AH→Prop} (h:AW P L N n0 c Q e ah):AW P L N n0 (.scope c) Q e ah:=
 fun F γ C ts w hs hn=>wp_scope_straight (wp_mono (h F γ C ts w hs hn) fun x _ _ h=>by cases x<;>first|exact h|exact h.2.1.elim)
theorem AW.weak {c:Code} {Q:Exit→Env→AH→Prop} {e1:Env} (hw:∀t,Wk (get e t) (get e1 t)) (h:AW P L N n0 c Q e1 ah):AW P L N n0 c Q e ah:=
 fun F γ C ts w hs hn=>h F γ C ts w (hs.wk hw) hn
theorem fL {ops:Array Oper} {o:Oper} {g:Option (Nat×Bool)} {d:Option Nat} {op:eA} {b:Bool} (h:SR L N F γ C e ah ts w) (hg:fh ops o.guard=some g) (hb:eR e ⟨d,op,g⟩=some b):
 Region.wanted o (yielded ops ts)=b:=by
 unfold Region.wanted
 cases ho:o.guard with
 |none=>
  rw [ho] at hg
  simp only [fh,Option.some.injEq] at hg
  subst hg
  simp only [eR,Option.some.injEq] at hb
  exact hb
 |some jw=>
  obtain ⟨j,want⟩:=jw
  rw [ho] at hg
  simp only [fh,Option.map_eq_some_iff] at hg
  obtain ⟨t,ht,rfl⟩:=hg
  simp only [eR] at hb
  split at hb
  · rename_i b' he
    have hv:=(h.env t).1
    rw [he] at hv
    have hv:=hv.eS
    have hy:yielded ops ts j=some b':=by
     unfold yielded
     rw [ht]
     simp only [Option.bind_some]
     have:ts[t]? =some (.bool b'):=by
      rw [Array.getD_eq_getD_getElem?] at hv
      cases hq:ts[t]? with
      |none=>rw [hq] at hv;simp [undef] at hv
      |some v=>rw [hq] at hv;simp at hv;rw [hv]
     rw [this]
    simp only [hy]
    simp only [Option.some.injEq] at hb
    rw [←hb]
    simp
  · rename_i he
    have hv:=(h.env t).1
    rw [he] at hv
    obtain ⟨vs,hv, -⟩:=hv.qD
    have hy:yielded ops ts j=none:=by
     unfold yielded
     rw [ht]
     simp only [Option.bind_some]
     rw [Array.getD_eq_getD_getElem?] at hv
     cases hq:ts[t]? with
     |none=>rfl
     |some v=>rw [hq] at hv;simp at hv;rw [hv]
    simp only [hy]
    simp only [Option.some.injEq] at hb
    exact hb
  · cases hb
  · cases hb
theorem BK (h:SR L N F γ C e ah ts w):∀(tys:List TypeId) (l:List Operand) (zq:List Ar),tj P tys l=some zq→zq.length=l.length∧
 ∀(i:Nat) (x:Operand) (a:Ar),l[i]? =some x→zq[i]? =some a→VR C γ (ev e a) (Act.eval ⟨ts,[]⟩ x)∧TC w C (ev e a) (Act.eval ⟨ts,[]⟩ x):=by
 intro tys l
 induction l generalizing tys with
 |nil=>intro zq hc;cases tys<;>(simp [tj] at hc;subst hc;simp)
 |cons x r ih=>
  intro zq hc
  cases tys with
  |nil=>simp [tj] at hc
  |cons t tys=>
   simp only [tj] at hc
   split at hc
   case h_2=>cases hc
   rename_i a zq' ha has
   simp only [Option.some.injEq] at hc
   subst hc
   obtain ⟨h1,h2⟩:=ih tys zq' has
   refine ⟨by simp [h1],fun j y b hy hb=> ?_⟩
   cases j with
   |zero=>simp at hy hb;subst hy;subst hb;exact eo h ha
   |succ j=>exact h2 j y b (by simpa using hy) (by simpa using hb)
theorem yZ {f:Nat} (hf:gF P f=true) {d:Option Nat} {x:Operand} {args:Array Operand} {tys:Array TypeId} {ty:TypeId} {pos:String} {af:Array Edge} {g:Option (Nat×Bool)} {caps:Array Value} {ρ:Operand→Value}
 (hx:ρ x= .func (.func f) #[] caps):
 (execOp ρ ⟨d, .call {callee:= .value x,args:=args,argTypes:=tys},ty,pos,af,g⟩).run P w= .ok (.enter f (args.map ρ++caps)) w:=by
 unfold gF at hf
 split at hf
 case h_2=>cases hf
 rename_i fn hfn
 simp only [Bool.and_eq_true,bne_iff_ne] at hf
 obtain ⟨h1,h2⟩:=hf
 have h3:fn.body.isNone=false:=by cases hb:fn.body<;>simp_all
 have h4:(fn.name== "runtime.NumGoroutine")=false:=by simpa using h2
 have h5:fn.body≠none:=by intro h0;rw [h0] at h1;cases h1
 simp [execOp,resolve,Deferred.ofValue,hx,invoke,callFunc,program,Sem.run,hfn,h2,h5]
theorem vW {o:Oper} {f:Ar} {qS:List Ar} (hop:cop P o=some (.call f qS)):
 ∃x args tys,o=⟨o.dst, .call {callee:= .value x,args:=args,argTypes:=tys},o.type,o.pos,o.after,o.guard⟩∧aU x=some f∧tj P tys.toList args.toList=some qS:=by
 obtain ⟨d,oo,ty,pos,af,gd⟩:=o
 cases oo with
 |call c=>
  obtain ⟨callee,args,tys⟩:=c
  simp only [cop] at hop
  split at hop
  · split at hop<;>simp at hop
  · split at hop
    · split at hop
      · simp at hop
      · cases hop
    · cases hop
  · split at hop
    · split at hop
      · simp at hop
      · cases hop
    · cases hop
  · split at hop
    · split at hop
      · split at hop<;>simp at hop
      · split at hop<;>simp at hop
      · cases hop
    · cases hop
  · rename_i x
    split at hop
    · rename_i f2 as2 h1 h2
      injection hop with hop
      injection hop with e1 e2
      subst e1;subst e2
      exact ⟨x,args,tys,rfl,h1,h2⟩
    · cases hop
  · cases hop
 |makeFunc fn first cs=>
  cases fn with
  |func f=>simp only [cop] at hop;split at hop<;>simp at hop
  |_=>simp [cop] at hop
 |_=>
  exfalso
  simp only [cop] at hop
  first
   |cases hop;done
   |(simp at hop;done)
   |(repeat' (split at hop))<;>(first|(cases hop;done)|(simp at hop;done))
theorem y9 (hs:SR L N F γ C e ah ts w) {qS:List Ar} {caps:List AV} {args:Array Operand} {vs:Array Value} (hfl:bU caps=true) (hcl:caps.length=vs.size)
 (k5:∀(i:Nat) (a:AV),caps[i]? =some a→VR C γ a (vs.getD i undef)) (c1:qS.length=args.toList.length)
 (c2:∀(i:Nat) (x:Operand) (a:Ar),args.toList[i]? =some x→qS[i]? =some a→VR C γ (ev e a) (Act.eval ⟨ts,[]⟩ x)∧TC w C (ev e a) (Act.eval ⟨ts,[]⟩ x)):
 ∀(i:Nat) (a:AV),(qS.map (fun x=>(ev e x).sh)++caps.map AV.s1)[i]? =some a→
  VR C γ a ((args.map (Act.eval ⟨ts,[]⟩)++vs).getD i undef)∧TC w C a ((args.map (Act.eval ⟨ts,[]⟩)++vs).getD i undef)∧a.plain=true:=by
 intro i a hi
 by_cases hlt:i<qS.length
 · rw [List.getElem?_append_left (by simpa using hlt),List.getElem?_map,List.getElem?_eq_getElem hlt] at hi
   obtain rfl:(ev e qS[i]).sh=a:=by simpa using hi
   have Ek:i<args.toList.length:=by omega
   have:=c2 i _ _ (List.getElem?_eq_getElem Ek) (List.getElem?_eq_getElem hlt)
   have hgd:(args.map (Act.eval ⟨ts,[]⟩)++vs).getD i undef=Act.eval ⟨ts,[]⟩ args.toList[i]:=by
    rw [Array.length_toList] at Ek
    simp [Array.getD_eq_getD_getElem?,Array.getElem?_append,Ek]
   rw [hgd]
   exact ⟨(Wk.sh _).vr this.1,(Wk.sh _).tc this.2,oC _⟩
 · rw [List.getElem?_append_right (by simpa using hlt),List.getElem?_map] at hi
   simp only [List.length_map] at hi
   cases AJ:caps[i - qS.length]? with
   |none=>rw [AJ] at hi;simp at hi
   |some b=>
    rw [AJ] at hi
    obtain rfl:b.s1=a:=by simpa using hi
    have hgd:(args.map (Act.eval ⟨ts,[]⟩)++vs).getD i undef=vs.getD (i - qS.length) undef:=by
     have c1':qS.length=args.size:=by simpa using c1
     simp only [Array.getD_eq_getD_getElem?]
     rw [Array.getElem?_append_right (by simp;omega)]
     simp [c1']
    rw [hgd]
    exact ⟨(Wk.iP (Wk.s1 _)).vr (k5 _ _ AJ),Nn b (gD hfl AJ) _,BC b⟩
theorem Eu {o:Oper} {a:eA} (h:Jl P o=some a):cop P o=some a∨a= .bad:=by
 unfold Jl at h
 cases hc:cop P o with
 |none=>rw [hc] at h;injection h with h;exact .inr h.symm
 |some b=>rw [hc] at h;exact .inl h
theorem RN {op:eA} (h:op.er= .bad):op= .bad:=by cases op<;>first|rfl|cases h
theorem xp {ops:Array Oper} {l:List Oper} {zq:List aF} (h:gZ P ops l=some zq):(l=[]∧zq=[])∨
 (∃o o2 r a zq',l=o::o2::r∧jR P o o2=some a∧gZ P ops r=some zq'∧zq=a::zq')∨
 (∃o o2 r ag zq',l=o::o2::r∧D8 P ops o o2=some ag∧gZ P ops r=some zq'∧zq=ag++zq')∨
 ∃o r op g zq',l=o::r∧(cop P o=some op∨op= .bad)∧fh ops o.guard=some g∧gZ P ops r=some zq'∧zq=⟨o.dst,op,g⟩::zq':=by
 cases l with
 |nil=>simp only [gZ,Option.some.injEq] at h;exact .inl ⟨rfl,h.symm⟩
 |cons o r=>
  cases r with
  |nil=>
   simp only [gZ] at h
   split at h
   case h_2=>cases h
   rename_i a g h1 h2
   injection h with h
   exact .inr (.inr (.inr ⟨o,[],a,g,[],rfl,Eu h1,h2,rfl,h.symm⟩))
  |cons o2 r=>
   rw [gZ] at h
   split at h
   · rename_i a ha
     simp only [Option.map_eq_some_iff] at h
     obtain ⟨zq',h1,rfl⟩:=h
     exact .inr (.inl ⟨o,o2,r,a,zq',rfl,ha,h1,rfl⟩)
   · split at h
     · rename_i ag hag
       simp only [Option.map_eq_some_iff] at h
       obtain ⟨zq',h1,rfl⟩:=h
       exact .inr (.inr (.inl ⟨o,o2,r,ag,zq',rfl,hag,h1,rfl⟩))
     · split at h
       case h_2=>cases h
       rename_i a g zq' h1 h2 h3
       injection h with h
       exact .inr (.inr (.inr ⟨o,o2::r,a,g,zq',rfl,Eu h1,h2,h3,h.symm⟩))
theorem Jx {a b:aF} {y:Nat} {bs:List UInt8} (h:a.er=b) (hb:b.op= .lit y bs):a=b:=by
 obtain ⟨d,op,g⟩:=a
 subst h
 cases op<;>first|rfl|(simp [aF.er,eA.er] at hb)
theorem za {o o2:Oper} {a:aF} (h:jR P o o2=some a):∃y bs,a.op= .lit y bs:=by
 unfold jR at h
 split at h
 case h_2=>cases h
 split at h
 case isFalse=>cases h
 split at h
 case h_2=>cases h
 split at h
 case h_2=>cases h
 split at h
 case isFalse=>cases h
 split at h
 case h_2=>cases h
 simp only [Option.map_eq_some_iff] at h
 obtain ⟨bs, -,rfl⟩:=h
 exact ⟨_,_,rfl⟩
theorem vX {ops:Array Oper} {o o2:Oper} {ag:List aF} (h:D8 P ops o o2=some ag):∃d y bs t w g,ag=[⟨some y, .mv (.c .un),some (t,w)⟩,⟨d, .lit y bs,some (t,w)⟩]∧t≠y∧
 jR P (bare o) (bare o2)=some ⟨d, .lit y bs,g⟩∧fh ops o.guard=some (some (t,w))∧fh ops o2.guard=some (some (t,w)):=by
 unfold D8 at h
 split at h
 case isFalse=>cases h
 rename_i hg
 split at h
 case h_2=>cases h
 rename_i x t w d y bs g h1 h2 h3
 split at h
 · cases h
 · rename_i hty
   injection h with h
   exact ⟨d,y,bs,t,w,g,h.symm,hty,h3,h2,by rw [←hg];exact h2⟩
theorem Uv {a b:aF} {x:Ar} (h:a.er=b) (hb:b.op= .mv x):a=b:=by
 obtain ⟨d,op,g⟩:=a
 subst h
 cases op<;>first|rfl|(simp [aF.er,eA.er] at hb)
theorem Ci {ops:Array Oper} {l:List Oper} {zq:List aF} (h:gZ P ops l=some (zq.map aF.er)):(l=[]∧zq=[])∨
 (∃o o2 r a zq',l=o::o2::r∧jR P o o2=some a∧gZ P ops r=some (zq'.map aF.er)∧zq=a::zq')∨
 (∃o o2 r ag zq',l=o::o2::r∧D8 P ops o o2=some ag∧gZ P ops r=some (zq'.map aF.er)∧zq=ag++zq')∨
 ∃o r op g zq',l=o::r∧(cop P o=some op.er∨op= .bad)∧fh ops o.guard=some g∧gZ P ops r=some (zq'.map aF.er)∧zq=⟨o.dst,op,g⟩::zq':=by
 rcases xp h with ⟨h1,h2⟩|⟨o,o2,r,a,zq',h1,h2,h3,h4⟩|⟨o,o2,r,ag,zq',h1,h2,h3,h4⟩|⟨o,r,op,g,zq',h1,h2,h3,h4,h5⟩
 · exact .inl ⟨h1,by simpa using h2⟩
 · cases zq with
   |nil=>simp at h4
   |cons x xs=>
    simp only [List.map_cons,List.cons.injEq] at h4
    obtain ⟨y,bs,hl⟩:=za h2
    have:=Jx h4.1 hl
    subst this
    exact .inr (.inl ⟨o,o2,r,x,xs,h1,h2,by rw [h3,h4.2],rfl⟩)
 · obtain ⟨d,y,bs,t,w,g,rfl, -⟩:=vX h2
   cases zq with
   |nil=>simp at h4
   |cons x xs=>
    cases xs with
    |nil=>simp at h4
    |cons x2 xs=>
     simp only [List.map_cons,List.cons_append,List.nil_append,List.cons.injEq] at h4
     have e1:=Uv h4.1 rfl
     have e2:=Jx h4.2.1 rfl
     subst e1;subst e2
     exact .inr (.inr (.inl ⟨o,o2,r,_,xs,h1,h2,by rw [h3,h4.2.2],rfl⟩))
 · cases zq with
   |nil=>simp at h5
   |cons x xs=>
    simp only [List.map_cons,List.cons.injEq] at h5
    obtain ⟨d,op',g'⟩:=x
    obtain ⟨h6,h7⟩:=h5
    simp only [aF.er] at h6
    injection h6 with e1 e2 e3
    subst e1;subst e2;subst e3
    exact .inr (.inr (.inr ⟨o,r,op',g',xs,h1,h2.imp id RN,h3,by rw [h4,h7],rfl⟩))
theorem Ev {ops:Array Oper} {o o2:Oper} {l:List Oper} {a:aF} {zq:List aF} {K:Env→AH→Prop} {Q:Exit→Act→World→Prop} (fe:jR P (bare o) (bare o2)=some a)
 (hw1:Region.wanted o (yielded ops ts)=true) (vT:∀y bs v,a.op= .lit y bs→Region.wanted o2 (yielded ops ((⟨ts,[]⟩:Act).put (some y) v).tmps)=true) (hd:jf N (a::zq)=true)
 (hs:SR L N F γ C e ah ts w) (hk:cY P L (a::zq) e ah K)
 (next:∀e1 bB C1 yY w1,cY P L zq e1 bB K→jf N zq=true→SR L N F γ C1 e1 bB yY w1→Ext F C w C1 w1→wpList P ops Q l ⟨yY,[]⟩ w1):wpList P ops Q (o::o2::l) ⟨ts,[]⟩ w:=by
 obtain ⟨d1,op1,ty1,pos1,af1,g1⟩:=o
 obtain ⟨d2,RI,lK,pos2,af2,g2⟩:=o2
 unfold jR bare at fe
 split at fe
 case h_2=>cases fe
 rename_i t n parts s d x y h1 h2 h3
 simp only at h1 h2 h3
 subst h1;subst h2;subst h3
 split at fe
 case isFalse=>cases fe
 rename_i hcs
 obtain ⟨rfl,rfl,rfl,RO,NX,hyd,hn,hn2⟩:=hcs
 split at fe
 case h_2=>cases fe
 rename_i el hel
 split at fe
 case h_2=>cases fe
 rename_i hu8
 split at fe
 case isFalse=>cases fe
 rename_i hsz
 split at fe
 case h_2=>cases fe
 rename_i qS XL
 simp only [Option.map_eq_some_iff] at fe
 obtain ⟨bs,GI,rfl⟩:=fe
 have vT:=fun v=>vT _ _ v rfl
 simp only [jf,Bool.and_eq_true] at hd
 obtain ⟨⟨hd1,Ew⟩,XM⟩:=hd
 have hy:x<N:=by simpa using Ew
 have gP:∀z,d2=some z→z<N:=by
  intro z hz
  rw [hz] at hd1
  simpa using hd1
 simp only [cY,eR,uC,bg] at hk
 have ht:P.underlying d=some (.slice el):=by
  unfold AB at hel
  split at hel
  · rename_i h;injection hel with hel;subst hel;exact h
  · cases hel
 obtain ⟨q1,q2⟩:=NM GI e
 obtain ⟨r,hrs,hrun,key⟩:=BG (ds:=[]) (d:=d2) hs gP ht hn (by rw [hsz.1];omega) hsz.2 XL (by rw [hsz.1];exact q2)
 obtain ⟨C',k1,k2⟩:=key (r.size,r.size+1) (.inr rfl)
 rw [q1,hsz.1] at k1
 have k3:=k1.xm (d:=x) (a:= .un) (v:= .slice (some ⟨w.heap.size,0,none⟩) n n) hy (.un ..) trivial rfl (by simp)
 unfold wpList
 rw [if_pos hw1]
 refine .inl ?_
 unfold Oper.wp
 have e1:(execOp (Act.eval ⟨ts,[]⟩) ⟨some x, .buildSlice d n parts,ty1,pos1,af1,g1⟩).run P w= .ok (.value (.slice (some ⟨w.heap.size,0,none⟩) n n)) (w.alloc (.cells r el)):=by
  simp [execOp,hrun]
 rw [e1]
 simp only [Oper.upon]
 unfold wpList
 rw [if_pos (vT _)]
 refine .inl ?_
 unfold Oper.wp
 have hlt:x<ts.size:=by rw [hs.sz];exact hy
 have e2:(execOp (Act.eval ((⟨ts,[]⟩:Act).put (some x) (.slice (some ⟨w.heap.size,0,none⟩) n n))) ⟨d2, .convert d d (.tmp x),lK,pos2,af2,g2⟩).run P (w.alloc (.cells r el))= .ok (.value (.slice (some ⟨w.heap.size,0,none⟩) n n)) (w.alloc (.cells r el (r.size,r.size+1))):=by
  have hev:Act.eval ((⟨ts,[]⟩:Act).put (some x) (.slice (some ⟨w.heap.size,0,none⟩) n n)) (.tmp x)= .slice (some ⟨w.heap.size,0,none⟩) n n:=by
   simp [Act.eval,Act.put,hlt]
  have:=Lib.run_convert_bytes_const (P:=P) w d el r n n ht hu8
  simp only [execOp,hev,Sem.run_bind,this,Result.andThen_ok,Sem.run_pure]
 rw [e2]
 simp only [Oper.upon]
 rw [←SR.yU ts [] hyd]
 have hput:(((⟨ts,[]⟩:Act).put d2 (.slice (some ⟨w.heap.size,0,none⟩) n n)).put (some x) (.slice (some ⟨w.heap.size,0,none⟩) n n))=
  ⟨(((⟨ts,[]⟩:Act).put d2 (.slice (some ⟨w.heap.size,0,none⟩) n n)).tmps).setIfInBounds x (.slice (some ⟨w.heap.size,0,none⟩) n n),[]⟩:=by
  cases d2<;>rfl
 rw [hput]
 exact next _ _ C' _ _ hk XM k3 k2
theorem RP {ops:Array Oper} {o o2:Oper} {l:List Oper} {a:aF} {zq:List aF} {K:Env→AH→Prop} {Q:Exit→Act→World→Prop} (fe:jR P o o2=some a) (hd:jf N (a::zq)=true)
 (hs:SR L N F γ C e ah ts w) (hk:cY P L (a::zq) e ah K)
 (next:∀e1 bB C1 yY w1,cY P L zq e1 bB K→jf N zq=true→SR L N F γ C1 e1 bB yY w1→Ext F C w C1 w1→wpList P ops Q l ⟨yY,[]⟩ w1):wpList P ops Q (o::o2::l) ⟨ts,[]⟩ w:=by
 have hg:o.guard=none∧o2.guard=none:=by
  unfold jR at fe
  split at fe
  case h_2=>cases fe
  split at fe
  case isFalse=>cases fe
  rename_i hcs
  exact ⟨by simpa using hcs.2.2.2.1,by simpa using hcs.2.2.2.2.1⟩
 have e1:bare o=o:=by obtain ⟨d,op,ty,pos,af,g⟩:=o;simp only at hg;simp [bare,hg.1]
 have e2:bare o2=o2:=by obtain ⟨d,op,ty,pos,af,g⟩:=o2;simp only at hg;simp [bare,hg.2]
 exact Ev (by rw [e1,e2];exact fe) (by simp [Region.wanted,hg.1]) (fun _ _ _ _=>by simp [Region.wanted,hg.2]) hd hs hk next
theorem NY {ops:Array Oper}:∀(n:Nat) (l:List Oper) (zq:List aF) (e:Env) (ah:AH) (K:Env→AH→Prop) (F:Nat→Prop) (γ:List Nat) (C:Nat→List Value) (ts:Array Value) (w:World)
 (Q:Exit→Act→World→Prop),l.length≤n→gZ P ops l=some (zq.map aF.er)→jf N zq=true→SR L N F γ C e ah ts w→cY P L zq e ah K→
 (∀e' ax γ' C' ts' w',K e' ax→γ <+: γ'→SR L N F γ' C' e' ax ts' w'→Ext F C w C' w'→Q .normal ⟨ts',[]⟩ w')→wpList P ops Q l ⟨ts,[]⟩ w:=by
 intro n
 induction n with
 |zero=>
  intro l zq e ah K F γ C ts w Q hn hc hd hs hk hq
  obtain rfl:l=[]:=List.eq_nil_of_length_eq_zero (by omega)
  simp only [gZ,Option.some.injEq] at hc
  obtain rfl:zq=[]:=by simpa using hc.symm
  exact wpList_nil (hq e ah γ C ts w hk (List.prefix_refl _) hs (Ext.refl ..))
 |succ n ih=>
  intro l zq e ah K F γ C ts w Q hn hc hd hs hk hq
  rcases Ci hc with ⟨rfl,rfl⟩|⟨o,o2,l,a,zq',rfl,fe,has,rfl⟩|⟨o,o2,l,ag,zq',rfl,fe,has,rfl⟩|⟨o,l,op,g,zq',rfl,hop,hg,has,rfl⟩
  · exact wpList_nil (hq e ah γ C ts w hk (List.prefix_refl _) hs (Ext.refl ..))
  · exact RP fe hd hs hk fun e1 bB C1 yY w1 vR hd1 hs1 hx1=>ih l zq' e1 bB K F γ C1 yY w1 Q (by simp at hn;omega) has hd1 hs1 vR
     fun e' ax γ' C' ts' w' g1 g2 g3 g4=>hq e' ax γ' C' ts' w' g1 g2 g3 (hx1.trans g4)
  · obtain ⟨d,y,bs,tg,want,g0,rfl,hty,hlo,RO,NX⟩:=vX fe
    have hd:jf N [⟨some y, .mv (.c .un),some (tg,want)⟩,⟨d, .lit y bs,some (tg,want)⟩]=true∧jf N zq'=true:=by
     simp only [List.cons_append,List.nil_append,jf,Bool.and_eq_true,Bool.and_true] at hd ⊢
     exact ⟨⟨hd.1,hd.2.1⟩,hd.2.2⟩
    have XN:y<N:=by
     have:=hd.1
     simp only [jf,Bool.and_eq_true] at this
     simpa using this.1.1
    have XO:∀v,SR L N F γ C (put e y .un) ah (ts.setIfInBounds y v) w:=fun v=>hs.xm XN (.un ..) trivial rfl (by simp)
    have hge:∀a,get (put e y a) tg=get e tg:=fun a=>by rw [dI,if_neg hty]
    have uw:∀a (d d2:Option Nat) (op RI:eA),eR (put e y a) ⟨d,op,some (tg,want)⟩=eR e ⟨d2,RI,some (tg,want)⟩:=fun a _ _ _ _=>by simp only [eR,hge]
    rw [List.cons_append,List.cons_append,List.nil_append] at hk
    simp only [cY] at hk
    split at hk
    · rename_i pQ
      have hw1:=fL hs RO pQ
      have e0:ay L e (some y) (cp L (.c .un) (ev e (.c .un)))=put e y .un:=by
       simp only [ev,cp,ay];split<;>rfl
      simp only [uC,bg] at hk
      rw [e0,uw .un d (some y) (.lit y bs) (.mv (.c .un)),pQ] at hk
      simp only at hk
      have hk3:cY P L (⟨d, .lit y bs,g0⟩::zq') (put e y .un) ah K:=by
       have h0:g0=none:=by
        unfold jR at hlo
        split at hlo
        case h_2=>cases hlo
        split at hlo
        case isFalse=>cases hlo
        split at hlo
        case h_2=>cases hlo
        split at hlo
        case h_2=>cases hlo
        split at hlo
        case isFalse=>cases hlo
        split at hlo
        case h_2=>cases hlo
        simp only [Option.map_eq_some_iff] at hlo
        obtain ⟨_, -,hlo⟩:=hlo
        injection hlo with _ _ h3
        exact h3.symm
       subst h0
       exact hk
      refine Ev hlo hw1 (fun y' bs' v h=> ?_) (by
       have h1:=hd.1
       simp only [jf,Bool.and_eq_true] at h1 ⊢
       exact ⟨h1.2.1,hd.2⟩) (hs.oA (.un _)) hk3 fun e1 bB C1 yY w1 vR hd1 hs1 hx1=>ih l zq' e1 bB K F γ C1 yY w1 Q (by simp at hn;omega) has hd1 hs1 vR
       fun e' ax γ' C' ts' w' g1 g2 g3 g4=>hq e' ax γ' C' ts' w' g1 g2 g3 (hx1.trans g4)
      injection h with h1 h2
      subst h1
      exact fL (XO v) NX (d:=d) (op:= .lit y bs) ((uw .un d (some y) (.lit y bs) (.mv (.c .un))).trans pQ)
    · rename_i pQ
      have hw1:=fL hs RO pQ
      rw [show lO e (some y)=put e y (.aW []) from rfl,uw (.aW []) d (some y) (.lit y bs) (.mv (.c .un)),pQ] at hk
      simp only at hk
      obtain ⟨hdo,hdy⟩:o.dst=some y∧o2.dst=d:=by
       unfold jR bare at hlo
       split at hlo
       case h_2=>cases hlo
       rename_i h1 h2 h3
       simp only at h3
       split at hlo
       case isFalse=>cases hlo
       split at hlo
       case h_2=>cases hlo
       split at hlo
       case h_2=>cases hlo
       split at hlo
       case isFalse=>cases hlo
       split at hlo
       case h_2=>cases hlo
       simp only [Option.map_eq_some_iff] at hlo
       obtain ⟨_, -,hlo⟩:=hlo
       injection hlo with q1 q2 _
       injection q2 with q2 _
       subst q2
       exact ⟨h3,q1⟩
      have hs1:SR L N F γ C (put e y (.aW [])) ah (ts.setIfInBounds y undef) w:=hs.xm XN (.aW _ [] #[] rfl (by simp)) (by simp [undef,TC]) rfl (by simp)
      unfold wpList
      rw [if_neg (by rw [hw1];simp)]
      unfold wpList
      have Uw:(⟨ts,[]⟩:Act).put o.dst undef=⟨ts.setIfInBounds y undef,[]⟩:=by rw [hdo];rfl
      rw [Uw]
      have vT:=fL hs1 NX (d:=d) (op:= .lit y bs) ((uw (.aW []) d (some y) (.lit y bs) (.mv (.c .un))).trans pQ)
      rw [if_neg (by show ¬(Region.wanted o2 (yielded ops (ts.setIfInBounds y undef))=true);rw [vT];simp)]
      have hput:(⟨ts.setIfInBounds y undef,[]⟩:Act).put o2.dst undef=⟨((⟨ts.setIfInBounds y undef,[]⟩:Act).put o2.dst undef).tmps,[]⟩:=by cases o2.dst<;>rfl
      rw [hput]
      refine ih l zq' _ ah K F γ C _ w Q (by simp at hn;omega) has hd.2 ?_ hk hq
      rw [hdy]
      cases RQ:d with
      |none=>exact hs1
      |some d'=>
       have hdN:d'<N:=by
        have:=hd.1
        simp only [jf,Bool.and_eq_true,RQ] at this
        simpa using this.2.1.1
       exact hs1.xm hdN (.aW _ [] #[] rfl (by simp)) (by simp [undef,TC]) rfl (by simp)
    · exact hk.elim
  have hn':l.length≤n:=by simp at hn;omega
  simp only [jf,Bool.and_eq_true] at hd
  have gP:∀x,o.dst=some x→x<N:=by
   intro x hx
   have:=hd.1.1
   rw [hx] at this
   simpa using this
  simp only [cY] at hk
  split at hk
  · rename_i pQ
    have hw:=fL hs hg pQ
    unfold wpList
    rw [if_pos hw]
    refine .inl ?_
    rcases hop with hop|rfl
    case inr=>exact hk.elim
    by_cases dy:op.k4=true
    · cases op with
      |call f qS=>
       simp only [uC] at hk
       split at hk
       case h_2=>exact hk.elim
       rename_i f' caps Ux
       obtain ⟨hfl,hk⟩:=hk
       obtain ⟨x,args,tys,ho,hx,hargs⟩:=vW hop
       have h1:=bl (ds:=[]) hs hx
       rw [Ux] at h1
       obtain ⟨vs,Uy,hcl,k5⟩:=h1.1.B3
       obtain ⟨c1,c2⟩:=BK hs _ _ _ hargs
       have zb:=Es (d:=o.dst) (ds:=[]) (vs:=args.map (Act.eval ⟨ts,[]⟩)++vs) hs gP hk (by simp [c1,hcl]) (y9 hs hfl hcl k5 c1 c2)
       have GM:(execOp (Act.eval ⟨ts,[]⟩) o).run P w= .ok (.enter f' (args.map (Act.eval ⟨ts,[]⟩)++vs)) w:=by
        rw [ho];exact yZ hk.1 Uy
       unfold Oper.wp
       rw [GM]
       simp only [Oper.upon]
       refine zb.mono ?_
       rintro en w1 ⟨r,v,bB,γ1,C1,rfl,hR,hγ,hs1,hx1⟩
       have hput:(⟨ts,[]⟩:Act).put o.dst v=⟨((⟨ts,[]⟩:Act).put o.dst v).tmps,[]⟩:=by cases o.dst<;>rfl
       show wpList P ops Q l ((⟨ts,[]⟩:Act).put o.dst v) w1
       rw [hput]
       exact ih l zq' _ bB K F γ1 C1 _ w1 Q hn' has hd.2 hs1 hR fun e' ax γ' C' ts' w' g1 g2 g3 g4=>hq e' ax γ' C' ts' w' g1 (hγ.trans g2) g3 (hx1.trans g4)
      |jh k b x y=>
       simp only [uC] at hk
       obtain ⟨e1,bB,hk',v,w1,γ1,C1,hr,hγ,hs1,hx1, -, -⟩:=BH (m:=true) (ds:=[]) hs gP (by simpa [cW] using hop) hk
       have next:wpList P ops Q l ((⟨ts,[]⟩:Act).put o.dst v) w1:=by
        have hput:(⟨ts,[]⟩:Act).put o.dst v=⟨((⟨ts,[]⟩:Act).put o.dst v).tmps,[]⟩:=by cases o.dst<;>rfl
        rw [hput]
        exact ih l zq' e1 bB K F γ1 C1 _ w1 Q hn' has hd.2 hs1 hk' fun e' ax γ' C' ts' w' g1 g2 g3 g4=>hq e' ax γ' C' ts' w' g1 (hγ.trans g2) g3 (hx1.trans g4)
       unfold Oper.wp
       rcases hr with hr|⟨hr,rfl⟩<;>rw [hr]<;>exact next
      |nq n x=>
       simp only [uC] at hk
       obtain ⟨e1,bB,hk',v,w1,γ1,C1,hr,hγ,hs1,hx1, -, -⟩:=Cg (m:=true) (ds:=[]) hs gP (by simpa [cW] using hop) hk
       have next:wpList P ops Q l ((⟨ts,[]⟩:Act).put o.dst v) w1:=by
        have hput:(⟨ts,[]⟩:Act).put o.dst v=⟨((⟨ts,[]⟩:Act).put o.dst v).tmps,[]⟩:=by cases o.dst<;>rfl
        rw [hput]
        exact ih l zq' e1 bB K F γ1 C1 _ w1 Q hn' has hd.2 hs1 hk' fun e' ax γ' C' ts' w' g1 g2 g3 g4=>hq e' ax γ' C' ts' w' g1 (hγ.trans g2) g3 (hx1.trans g4)
       unfold Oper.wp
       rcases hr with hr|⟨hr,rfl⟩<;>rw [hr]<;>exact next
      |_=>cases dy
    · have nh:op.k4=false:=by simpa using dy
      have hk':match bg L ⟨o.dst,op,g⟩ e ah with|some (e',ax)=>cY P L zq' e' ax K|none=>False:=by
       cases op<;>first|exact hk|cases nh
      rw [qQ] at hk'
      cases hev:bg L ⟨o.dst,op,none⟩ e ah with
      |none=>rw [hev] at hk';exact hk'.elim
      |some ea=>
       obtain ⟨e1,bB⟩:=ea
       rw [hev] at hk'
       obtain ⟨v,w1,γ1,C1,hr,hγ,hs1,hx1, -, -⟩:=Ch (ds:=[]) hs gP hop nh hev
       have next:wpList P ops Q l ((⟨ts,[]⟩:Act).put o.dst v) w1:=by
        have hput:(⟨ts,[]⟩:Act).put o.dst v=⟨((⟨ts,[]⟩:Act).put o.dst v).tmps,[]⟩:=by cases o.dst<;>rfl
        rw [hput]
        exact ih l zq' e1 bB K F γ1 C1 _ w1 Q hn' has hd.2 hs1 hk' fun e' ax γ' C' ts' w' g1 g2 g3 g4=>hq e' ax γ' C' ts' w' g1 (hγ.trans g2) g3 (hx1.trans g4)
       unfold Oper.wp
       rcases hr with hr|⟨hr,rfl⟩<;>rw [hr]<;>exact next
  · rename_i pQ
    have hw:=fL hs hg pQ
    unfold wpList
    rw [if_neg (by rw [hw];simp)]
    have hput:(⟨ts,[]⟩:Act).put o.dst undef=⟨((⟨ts,[]⟩:Act).put o.dst undef).tmps,[]⟩:=by cases o.dst<;>rfl
    rw [hput]
    refine ih l zq' _ ah K F γ C _ w Q hn' has hd.2 ?_ hk hq
    cases ho:o.dst with
    |none=>exact hs
    |some d=>exact hs.xm (gP d ho) (.aW _ [] #[] rfl (by simp)) (by simp [undef,TC]) rfl (by simp)
  · exact hk.elim
theorem RR {ops:Array Oper} (l:List Oper) (zq:List aF) (e:Env) (ah:AH) (K:Env→AH→Prop) (F:Nat→Prop) (γ:List Nat) (C:Nat→List Value) (ts:Array Value) (w:World)
 (Q:Exit→Act→World→Prop) (hc:gZ P ops l=some (zq.map aF.er)) (hd:jf N zq=true) (hs:SR L N F γ C e ah ts w) (hk:cY P L zq e ah K)
 (hq:∀e' ax γ' C' ts' w',K e' ax→γ <+: γ'→SR L N F γ' C' e' ax ts' w'→Ext F C w C' w'→Q .normal ⟨ts',[]⟩ w'):wpList P ops Q l ⟨ts,[]⟩ w:=
 NY l.length l zq e ah K F γ C ts w Q (Nat.le_refl _) hc hd hs hk hq
end
end Go.Am
end
section
namespace Go.Am
open Go
variable [Tabs]
section
variable {P:Program} {ops:Array Oper} {Q:Exit→Act→World→Prop} {md:Region.Mode} {S:World→Prop} {D:Nat→Bool}
def wpS (P:Program) (ops:Array Oper) (Q:Exit→Act→World→Prop) (S:World→Prop) (D:Nat→Bool):Nat→Array Bool→Act→World→Prop
 |0,listed,a,w=>Region.ready .any ops listed=[]∧Q .normal a w
 |n+1,listed,a,w=>(Region.ready .any ops listed=[]→Q .normal a w)∧
  ∀i∈Region.ready .any ops listed,wpOp P ops Q i (fun a' w'=>(D i=false→S w')∧wpS P ops Q S D n (listed.setIfInBounds i true) a' w') a w
theorem wpS.any:∀ {n:Nat} {listed:Array Bool} {a:Act} {w:World},wpS P ops Q S D n listed a w→wpAny P .any ops Q n listed a w
 |0,_,_,_,h=>h
 |_+1,_,_,_,h=>⟨h.1,fun i hi=>wpOp_mono (fun _ _ h'=>h'.2.any) (h.2 i hi)⟩
theorem wpS.mono {S':World→Prop} (hS:∀w,S' w→S w):∀ {n:Nat} {listed:Array Bool} {a:Act} {w:World},wpS P ops Q S' D n listed a w→wpS P ops Q S D n listed a w
 |0,_,_,_,h=>h
 |_+1,_,_,_,h=>⟨h.1,fun i hi=>wpOp_mono (fun _ _ h'=>⟨fun hd=>hS _ (h'.1 hd),h'.2.mono hS⟩) (h.2 i hi)⟩
theorem fB {listed:Array Bool} {i j:Nat} (h:(listed.setIfInBounds i true).getD j true=false):listed.getD j true=false:=by
 by_cases hij:i=j
 · subst hij
   by_cases hlt:i<listed.size
   · simp [hlt] at h
   · simp [Array.getElem?_eq_none (Nat.le_of_not_lt hlt)] at h
 · rwa [getD_set_ne true hij] at h
theorem xq:∀ {n:Nat} {listed:Array Bool} {a:Act} {w:World},(∀j,listed.getD j true=false→D j=true)→wpAny P .any ops Q n listed a w→wpS P ops Q S D n listed a w
 |0,_,_,_,_,h=>h
 |_+1,listed,_,_,hD,h=>⟨h.1,fun i hi=>wpOp_mono (fun _ _ h'=>⟨fun hd=>Bool.noConfusion ((hD i (mem_ready.1 hi).1).symm.trans hd),xq (fun j hj=>hD j (fB hj)) h'⟩) (h.2 i hi)⟩
theorem GN {i:Nat} {oi:Oper} {v:Value} (hi:ops[i]? =some oi) (hsel:∀(j:Nat) (o:Oper) cs b,ops[j]? =some o→o.op≠ .select cs b)
 (hQ:∀c a w,¬Q (.panic c) a w) (W:Nat→Prop):
 ∀(n:Nat) (listed:Array Bool) (a:Act) (w:World),
  (∀j oj,ops[j]? =some oj→j≠i→listed.getD j true=false→(∀e∈oj.after,Region.binds .any e=true→e.on≠i)→oi.apart ops oj=true)→
  (∀j,W j→listed.getD j true=false∧∃oj,ops[j]? =some oj∧∃e∈oj.after,Region.binds .any e=true∧(e.on=i∨W e.on))→(∀j,j<ops.size→D j=true→listed.getD j true=false→W j)→
  i∈Region.ready .any ops listed→YieldsIf P ops S oi v a→S w→
  wpS P ops Q S D n (listed.setIfInBounds i true) (a.put oi.dst v) w→wpS P ops Q S D (n+1) listed a w:=by
 intro n
 induction n with
 |zero=>
  intro listed a w _ _ _ hr hy hS H
  refine ⟨fun h=>(by rw [h] at hr;cases hr),fun j hj=> ?_⟩
  by_cases hji:j=i
  · subst hji;exact hy.wpOp hi hS ⟨fun _=>hS,H⟩
  · have:=ready_mono hj hji
    rw [H.1] at this
    cases this
 |succ n ih=>
  intro listed a w hfree qT XP hr hy hS H
  refine ⟨fun h=>(by rw [h] at hr;cases hr),fun j hj=> ?_⟩
  by_cases hji:j=i
  · subst hji;exact hy.wpOp hi hS ⟨fun _=>hS,H⟩
  · have h1:=H.2 j (ready_mono hj hji)
    obtain ⟨TN,oj,GP,hall⟩:=mem_ready.1 hj
    have hun:∀k,listed.getD k true=false→listed.getD k false=false:=fun k hk=>by
     rcases Nat.lt_or_ge k listed.size with h'|h'
     · simp [h'] at hk ⊢;exact hk
     · simp [Array.getElem?_eq_none h'] at hk
    have hnot:∀e∈oj.after,Region.binds .any e=true→listed.getD e.on true=false→False:=fun e he hb hu=>by
     have h1:=hall e he hb
     rw [hun _ hu] at h1
     cases h1
    have hni:∀e∈oj.after,Region.binds .any e=true→e.on≠i:=fun e he hb heq=>hnot e he hb (by rw [heq];exact (mem_ready.1 hr).1)
    have XQ:¬W j:=by
     intro hw
     obtain ⟨-,oj',Jy,e,he,hb,h0⟩:=qT j hw
     rw [GP] at Jy
     injection Jy with Jy
     subst Jy
     rcases h0 with h0|h0
     · exact hni e he hb h0
     · exact hnot e he hb (qT _ h0).1
    have Uz:D j=false:=by
     cases hd:D j with
     |false=>rfl
     |true=>exact absurd (XP j (Array.getElem?_eq_some_iff.1 GP).1 hd TN) XQ
    have h2:=wpOp_putIf GP (hfree j oj GP hji TN hni) (fun cs b=>hsel i oi cs b hi) (fun cs b=>hsel j oj cs b GP) (fun c a w hq=>(hQ c _ w hq).elim) hy h1
    refine wpOp_mono (fun a' w' h3=> ?_) h2
    have XR:=h3.2.1 Uz
    refine ⟨fun _=>XR,ih (listed.setIfInBounds j true) a' w' ?_ ?_ ?_ (ready_mono hr (Ne.symm hji)) h3.1 XR ?_⟩
    · exact fun k ok hk hki UA hno=>hfree k ok hk hki (fB UA) hno
    · intro k hk
      obtain ⟨h5,h6⟩:=qT k hk
      refine ⟨?_,h6⟩
      rw [getD_set_ne true (fun h7=>XQ (by rw [h7];exact hk))]
      exact h5
    · exact fun k hk hd UA=>XP k hk hd (fB UA)
    · rw [Array.setIfInBounds_comm _ _ hji]
      exact h3.2.2
end
section
variable {P:Program} {L:List Nat} {N n0:Nat} {F:Nat→Prop} {γ:List Nat} {C C':Nat→List Value} {e:Env} {ah:AH} {ts:Array Value} {w w':World} {m:Bool}
variable {e':Env} {ax:AH} {ops:Array Oper} {Q:Exit→Act→World→Prop}
theorem KA.trans {γ':List Nat} {w2:World} (hg:∀(s b:Nat),γ[s]? =some b→γ'[s]? =some b) (hC:∀b,C b <+: C' b) (h:KA m γ C w w') (h':KA m γ' C' w' w2):KA m γ C w w2:=
 ⟨fun b i hi=>(h'.1 b i (Nat.lt_of_lt_of_le hi (hC b).length_le)).trans (h.1 b i hi),fun hm s b hs=>(h'.2 hm s b (hg s b hs)).trans (h.2 hm s b hs)⟩
theorem NZ {γ γ':List Nat} (h:γ <+: γ') {s b:Nat} (hs:γ[s]? =some b):γ'[s]? =some b:=by
 obtain ⟨q,rfl⟩:=h
 rw [List.getElem?_append_left (List.getElem?_eq_some_iff.1 hs).1];exact hs
theorem KA.Cj {e ah ts e' ax ts'} {γ':List Nat} (h:SR L N F γ C e ah ts w) (h':SR L N F γ' C' e' ax ts' w') (hx:Ext F C w C' w')
 (ho:m=true→∀(s b:Nat),γ[s]? =some b→w'.heap[b]? =w.heap[b]?):KA m γ C w w':=by
 refine ⟨fun b i hi=> ?_,ho⟩
 rw [lB h hi,lB h' (Nat.lt_of_lt_of_le hi (hx.pre b).length_le),fk (hx.pre b) hi]
theorem vY (a:Act) (d:Option Nat) (v:Value) (h:a.defers=[]):a.put d v=⟨(a.put d v).tmps,[]⟩:=by
 obtain ⟨ts,ds⟩:=a
 simp only at h
 subst h
 cases d<;>rfl
theorem Ex {o:Oper} {i:Nat} {op:eA} {g:Option (Nat×Bool)} {zq:List aF} {K:Env→AH→Prop} {R:Act→World→Prop} (hi:ops[i]? =some o) (hop:cW P m o=some op.er) (hg:fh ops o.guard=some g)
 (gP:∀x,o.dst=some x→x<N) (hs:SR L N F γ C e ah ts w) (hk:cY P L (⟨o.dst,op,g⟩::zq) e ah K)
 (next:∀v e' ax γ' C' w',cY P L zq e' ax K→γ <+: γ'→SR L N F γ' C' e' ax ((⟨ts,[]⟩:Act).put o.dst v).tmps w'→Ext F C w C' w'→(BB P m o=true→KA m γ C w w')→R ((⟨ts,[]⟩:Act).put o.dst v) w'):
 wpOp P ops Q i R ⟨ts,[]⟩ w:=by
 unfold wpOp
 simp only [hi]
 simp only [cY] at hk
 split at hk
 · rename_i pQ
   rw [if_pos (fL hs hg pQ)]
   refine .inl ?_
   by_cases dy:op.k4=true
   · cases op with
     |call f qS=>
      have hop:cop P o=some (.call f qS):=by
       cases m with
       |true=>simpa [cW,eA.er] using hop
       |false=>
        simp only [cW,Bool.false_eq_true,if_false,Option.map_eq_some_iff] at hop
        obtain ⟨op',h1,h2⟩:=hop
        rw [h1,BI h2]
      simp only [uC] at hk
      split at hk
      case h_2=>exact hk.elim
      rename_i f' caps Ux
      obtain ⟨hfl,hk⟩:=hk
      obtain ⟨x,args,tys,ho,hx,hargs⟩:=vW hop
      have h1:=bl (ds:=[]) hs hx
      rw [Ux] at h1
      obtain ⟨vs,Uy,hcl,k5⟩:=h1.1.B3
      obtain ⟨c1,c2⟩:=BK hs _ _ _ hargs
      have zb:=Es (d:=o.dst) (ds:=[]) (vs:=args.map (Act.eval ⟨ts,[]⟩)++vs) hs gP hk (by simp [c1,hcl]) (y9 hs hfl hcl k5 c1 c2)
      have GM:(execOp (Act.eval ⟨ts,[]⟩) o).run P w= .ok (.enter f' (args.map (Act.eval ⟨ts,[]⟩)++vs)) w:=by
       rw [ho];exact yZ hk.1 Uy
      unfold Oper.wp
      rw [GM]
      simp only [Oper.upon]
      refine zb.mono ?_
      rintro en w1 ⟨r,v,bB,γ1,C1,rfl,hR,hγ,hs1,hx1⟩
      refine next v _ bB γ1 C1 w1 hR hγ hs1 hx1 fun hst=>KA.Cj hs hs1 hx1 fun hm=> ?_
      rw [ho] at hst
      simp [BB,cS,fj,um,hm] at hst
     |jh k b x y=>
      simp only [uC] at hk
      obtain ⟨e1,bB,hk',v,w1,γ1,C1,hr,hγ,hs1,hx1,hst, -⟩:=BH (ds:=[]) hs gP hop hk
      have nx:=next v e1 bB γ1 C1 w1 hk' hγ hs1 hx1 fun h=>KA.Cj hs hs1 hx1 fun hm=>by
       refine hst ?_
       obtain ⟨_,_,_,_,_,_,ho, -⟩:=yX (vV hop)
       rw [ho] at h
       simp [BB,cS,fj,hm] at h
      unfold Oper.wp
      rcases hr with hr|⟨hr,rfl⟩<;>rw [hr]<;>exact nx
     |nq n x=>
      simp only [uC] at hk
      obtain ⟨e1,bB,hk',v,w1,γ1,C1,hr,hγ,hs1,hx1,hst, -⟩:=Cg (ds:=[]) hs gP hop hk
      have nx:=next v e1 bB γ1 C1 w1 hk' hγ hs1 hx1 fun h=>KA.Cj hs hs1 hx1 fun hm=>by
       refine hst ?_
       obtain ⟨_,_,_,_,_,ho, -⟩:=Jv (Eo hop)
       rw [ho];rfl
      unfold Oper.wp
      rcases hr with hr|⟨hr,rfl⟩<;>rw [hr]<;>exact nx
     |_=>cases dy
   · have nh:op.k4=false:=by simpa using dy
     have hk':match bg L ⟨o.dst,op,g⟩ e ah with|some (e',ax)=>cY P L zq e' ax K|none=>False:=by
      cases op<;>first|exact hk|cases nh
     rw [qQ] at hk'
     cases hev:bg L ⟨o.dst,op,none⟩ e ah with
     |none=>rw [hev] at hk';exact hk'.elim
     |some ea=>
      obtain ⟨e1,bB⟩:=ea
      rw [hev] at hk'
      obtain ⟨v,w1,γ1,C1,hr,hγ,hs1,hx1,hst, -⟩:=Er (ds:=[]) hs gP hop nh hev
      have nx:=next v e1 bB γ1 C1 w1 hk' hγ hs1 hx1 fun h=>KA.Cj hs hs1 hx1 fun hm=>by
       refine hst ?_
       cases Ce:fj o.op with
       |false=>rfl
       |true=>
        exfalso
        cases ho:o.op with
        |call c=>
         rw [ho] at Ce
         obtain ⟨ce,_,_⟩:=c
         cases ce with
         |builtin b=>cases b<;>simp [fj] at Ce;simp [BB,cS,fj,ho,hm] at h
         |_=>simp [fj] at Ce
        |store a b c=>simp [BB,cS,fj,ho,hm] at h
        |_=>rw [ho] at Ce;simp [fj] at Ce
      unfold Oper.wp
      rcases hr with hr|⟨hr,rfl⟩<;>rw [hr]<;>exact nx
 · rename_i pQ
   have hw:=fL hs hg pQ
   rw [if_neg (by rw [hw];simp)]
   refine next undef _ ah γ C w hk (List.prefix_refl _) ?_ (Ext.refl ..) fun _=>KA.refl ..
   cases ho:o.dst with
   |none=>exact hs
   |some d=>exact hs.xm (gP d ho) (.aW _ [] #[] rfl (by simp)) (by simp [undef,TC]) rfl (by simp)
 · exact hk.elim
theorem Kw {o:Oper} {op:eA} {g:Option (Nat×Bool)} {zq:List aF} {K:Env→AH→Prop} (hq:cS P o.op=true) (hop:cW P m o=some op.er) (hg:fh ops o.guard=some g)
 (gP:∀x,o.dst=some x→x<N) (hs:SR L N F γ C e ah ts w) (hk:cY P L (⟨o.dst,op,g⟩::zq) e ah K):
 ∃v e' ax,YieldsIf P ops (KA m γ C w) o v ⟨ts,[]⟩∧cY P L zq e' ax K∧SR L N F γ C e' ax ((⟨ts,[]⟩:Act).put o.dst v).tmps w:=by
 simp only [cY] at hk
 split at hk
 · rename_i pQ
   have hw:=fL hs hg pQ
   by_cases XS:∃n x,op= .nq n x
   · obtain ⟨n,x,rfl⟩:=XS
     simp only [uC] at hk
     obtain ⟨e1,bB,hk',v,w1,γ1,C1,hr,hγ,hs1,hx1,hst,RS⟩:=Cg (ds:=[]) hs gP hop hk
     obtain ⟨rfl,rfl,rfl,hrun⟩:=RS hq
     exact ⟨v,e1,bB, .inl ⟨hw,hrun⟩,hk',hs1⟩
   have nh:op.k4=false:=by
    cases op with
    |call f qS=>
     exfalso
     have hop:cop P o=some (.call f qS):=by
      cases m with
      |true=>simpa [cW,eA.er] using hop
      |false=>
       simp only [cW,Bool.false_eq_true,if_false,Option.map_eq_some_iff] at hop
       obtain ⟨op',h1,h2⟩:=hop
       rw [h1,BI h2]
     obtain ⟨x,args,tys,ho, -, -⟩:=vW hop
     rw [ho] at hq
     simp [cS] at hq
    |jh k b x y=>
     exfalso
     obtain ⟨_,_,_,_,_,_,ho, -⟩:=yX (vV hop)
     rw [ho] at hq
     simp [cS] at hq
    |nq n x=>exact absurd ⟨_,_,rfl⟩ XS
    |_=>rfl
   have hk':match bg L ⟨o.dst,op,g⟩ e ah with|some (e',ax)=>cY P L zq e' ax K|none=>False:=by
    cases op<;>first|exact hk|cases nh
   rw [qQ] at hk'
   cases hev:bg L ⟨o.dst,op,none⟩ e ah with
   |none=>rw [hev] at hk';exact hk'.elim
   |some ea=>
    obtain ⟨e1,bB⟩:=ea
    rw [hev] at hk'
    obtain ⟨v,w1,γ1,C1,hr,hγ,hs1,hx1,hst,RS⟩:=Er (ds:=[]) hs gP hop nh hev
    obtain ⟨rfl,rfl,rfl,hrun⟩:=RS hq
    exact ⟨v,e1,bB, .inl ⟨hw,hrun⟩,hk',hs1⟩
 · rename_i pQ
   refine ⟨undef,_,ah, .inr ⟨fL hs hg pQ,rfl⟩,hk, ?_⟩
   cases ho:o.dst with
   |none=>exact hs
   |some d=>exact hs.xm (gP d ho) (.aW _ [] #[] rfl (by simp)) (by simp [undef,TC]) rfl (by simp)
 · exact hk.elim
theorem GQ:∀(l r:List (Bool×Nat)) (zq:List aF),dS P ops (l++r)=some zq→∃a1 a2,dS P ops l=some a1∧dS P ops r=some a2∧zq=a1++a2:=by
 intro l
 induction l with
 |nil=>intro r zq h;exact ⟨[],zq,rfl,h,rfl⟩
 |cons p l ih=>
  intro r zq h
  obtain ⟨m,i⟩:=p
  simp only [List.cons_append,dS] at h
  split at h
  case h_2=>cases h
  rename_i o ho
  split at h
  case h_2=>cases h
  rename_i a g zq' h1 h2 h3
  injection h with h
  obtain ⟨a1,a2,g1,g2,rfl⟩:=ih r zq' h3
  exact ⟨⟨o.dst,a,g⟩::a1,a2,by simp [dS,ho,h1,h2,g1],g2,by rw [←h];rfl⟩
theorem Ey (l r:List (Bool×Nat)) (zq:List aF) (h:dS P ops (l++r)=some (zq.map aF.er)):∃a1 a2,dS P ops l=some (a1.map aF.er)∧dS P ops r=some (a2.map aF.er)∧zq=a1++a2:=by
 obtain ⟨b1,b2,h1,h2,h3⟩:=GQ _ _ _ h
 obtain ⟨a1,a2,rfl,rfl,rfl⟩:=List.map_eq_append_iff.1 h3
 exact ⟨a1,a2,h1,h2,rfl⟩
theorem Kx:∀(l r:List aF) (e:Env) (ah:AH) (K:Env→AH→Prop),cY P L (l++r) e ah K=cY P L l e ah fun e ah=>cY P L r e ah K:=by
 intro l
 induction l with
 |nil=>intros;rfl
 |cons o l ih=>
  intro r e ah K
  simp only [List.cons_append,cY,ih]
theorem N0:∀(l r:List aF),jf N (l++r)=true→jf N l=true∧jf N r=true:=by
 intro l
 induction l with
 |nil=>intro r h;exact ⟨rfl,h⟩
 |cons o l ih=>
  intro r h
  simp only [List.cons_append,jf,Bool.and_eq_true] at h ⊢
  obtain ⟨h1,h2⟩:=ih r h.2
  exact ⟨⟨h.1,h1⟩,h2⟩
theorem Jz {o:Oper} {a:eA} {g:Option (Nat×Bool)} {zq:List aF} (h:jf N (⟨o.dst,a,g⟩::zq)=true):(∀x,o.dst=some x→x<N)∧jf N zq=true:=by
 simp only [jf,Bool.and_eq_true] at h
 refine ⟨fun x hx=> ?_,h.2⟩
 have:=h.1.1
 rw [hx] at this
 simpa using this
theorem xu {i:Nat} {r:List (Bool×Nat)} {zq:List aF} (h:dS P ops ((m,i)::r)=some zq):
 ∃o a g zq',ops[i]? =some o∧cW P m o=some a∧fh ops o.guard=some g∧dS P ops r=some zq'∧zq=⟨o.dst,a,g⟩::zq':=by
 simp only [dS] at h
 split at h
 case h_2=>cases h
 rename_i o ho
 split at h
 case h_2=>cases h
 rename_i a g zq' h1 h2 h3
 injection h with h
 exact ⟨o,a,g,zq',ho,h1,h2,h3,h.symm⟩
theorem uD {i:Nat} {r:List (Bool×Nat)} {zq:List aF} (h:dS P ops ((m,i)::r)=some (zq.map aF.er)):
 ∃o a g zq',ops[i]? =some o∧cW P m o=some (eA.er a)∧fh ops o.guard=some g∧dS P ops r=some (zq'.map aF.er)∧zq=⟨o.dst,a,g⟩::zq':=by
 obtain ⟨o,a,g,zq',h1,h2,h3,h4,h5⟩:=xu h
 cases zq with
 |nil=>simp at h5
 |cons x xs=>
  simp only [List.map_cons,List.cons.injEq] at h5
  obtain ⟨d,op',g'⟩:=x
  obtain ⟨h6,h7⟩:=h5
  simp only [aF.er] at h6
  injection h6 with e1 e2 e3
  subst e1;subst e2;subst e3
  exact ⟨o,op',g',xs,h1,h2,h3,by rw [h4,h7],rfl⟩
theorem Ky {D:Nat→Bool} (hsel:Region.noSelect ops=true) (hQ:∀c a w,¬Q (.panic c) a w):∀(l:List Nat) (zq:List aF) (e:Env) (ah:AH) (γ:List Nat) (C:Nat→List Value) (ts:Array Value) (w:World) (listed:Array Bool) (n:Nat)
 (K:Env→AH→Prop),dS P ops (l.map fun i=>(m,i))=some (zq.map aF.er)→jf N zq=true→SR L N F γ C e ah ts w→cY P L zq e ah K→qC P ops m D l listed=true→
 (∀e' ax γ' C' ts' w',K e' ax→γ <+: γ'→SR L N F γ' C' e' ax ts' w'→Ext F C w C' w'→wpS P ops Q (KA m γ' C' w') D n (l.foldl (fun a i=>a.setIfInBounds i true) listed) ⟨ts',[]⟩ w')→
 wpS P ops Q (KA m γ C w) D (l.length+n) listed ⟨ts,[]⟩ w:=by
 intro l
 induction l with
 |nil=>
  intro zq e ah γ C ts w listed n K hc hd hs hk hst cont
  simp only [List.map_nil,dS,Option.some.injEq] at hc
  obtain rfl:zq=[]:=by simpa using hc.symm
  have:=cont e ah γ C ts w hk (List.prefix_refl _) hs (Ext.refl ..)
  simpa using this
 |cons i l ih=>
  intro zq e ah γ C ts w listed n K hc hd hs hk hst cont
  obtain ⟨o,a,g,zq',ho,hop,hg,has,rfl⟩:=uD hc
  obtain ⟨gP,hd'⟩:=Jz hd
  simp only [qC,ho,Bool.and_eq_true,Bool.or_eq_true] at hst
  obtain ⟨hst,zd⟩:=hst
  have hlen:(i::l).length+n=(l.length+n)+1:=by simp;omega
  rw [hlen]
  rcases hst with ⟨⟨⟨⟨hq,hDi⟩,hr⟩,hfree⟩,qT⟩|⟨hok,hr⟩
  · obtain ⟨v,e1,bB,hy,vR,hs1⟩:=Kw hq hop hg gP hs hk
    refine GN ho (Region.noSelect_spec hsel) hQ (fun j=>j∈D9 ops i) _ listed _ w (Region.free_spec ho hfree) (fun j hj=> ?_) (fun j hj Uz hju=> ?_) (by simpa using hr) hy (KA.refl ..) ?_
    · simp only [B2,B1,Bool.and_eq_true,List.all_eq_true] at qT
      obtain ⟨h1,h2⟩:=qT.1 j hj
      refine ⟨by simpa using h1, ?_⟩
      split at h2
      · rename_i oj GP
        obtain ⟨x,hx,hb⟩:=Array.any_eq_true'.1 h2
        simp only [Bool.and_eq_true,Bool.or_eq_true,beq_iff_eq,List.contains_iff_mem] at hb
        exact ⟨oj,GP,x,hx,hb.1,hb.2⟩
      · cases h2
    · simp only [B2,B1,Bool.and_eq_true,List.all_eq_true,List.mem_range] at qT
      have:=qT.2 j hj
      simpa [Uz,hju] using this
    · rw [vY _ _ _ rfl]
      exact ih zq' e1 bB γ C _ w _ n K has hd' hs1 vR zd cont
  · have hr:Region.ready .any ops listed=[i]:=by simpa using hr
    refine ⟨fun h=>(by rw [hr] at h;cases h),fun j hj=> ?_⟩
    rw [hr] at hj
    obtain rfl:j=i:=by simpa using hj
    refine Ex ho hop hg gP hs hk fun v e1 bB γ1 C1 w1 vR hγ hs1 hx1 hka=>⟨fun _=>hka hok, ?_⟩
    rw [vY _ _ _ rfl]
    refine (ih zq' e1 bB γ1 C1 _ w1 _ n K has hd' hs1 vR zd fun e' ax γ' C' ts' w' g1 g2 g3 g4=> ?_).mono fun w2 h2=>(hka hok).trans (fun s b hs=>NZ hγ hs) hx1.pre h2
    exact cont e' ax γ' C' ts' w' g1 (hγ.trans g2) g3 (hx1.trans g4)
theorem AK:∀(l:List Nat) (listed:Array Bool) (j:Nat),(l.foldl (fun a i=>a.setIfInBounds i true) listed).getD j true=false→listed.getD j true=false∧j∉l:=by
 intro l
 induction l with
 |nil=>intro listed j h;exact ⟨h,by simp⟩
 |cons i l ih=>
  intro listed j h
  obtain ⟨h1,h2⟩:=ih _ j h
  refine ⟨fB h1, ?_⟩
  rw [List.mem_cons,not_or]
  refine ⟨fun hj=> ?_,h2⟩
  subst hj
  by_cases hlt:j<listed.size
  · simp [hlt] at h1
  · have:=fB h1
    simp [Array.getElem?_eq_none (Nat.le_of_not_lt hlt)] at this
theorem GR (hsel:Region.noSelect ops=true) (hQ:∀c a w,¬Q (.panic c) a w):∀(st:List (Bool×List Nat)) (zq:List aF) (e:Env) (ah:AH) (γ:List Nat) (C:Nat→List Value) (ts:Array Value) (w:World) (listed:Array Bool)
 (K:Env→AH→Prop),dS P ops (n6 st)=some (zq.map aF.er)→jf N zq=true→SR L N F γ C e ah ts w→cY P L zq e ah K→lA P ops st listed=true→
 (∀e' ax γ' C' ts' w',K e' ax→γ <+: γ'→SR L N F γ' C' e' ax ts' w'→Ext F C w C' w'→Q .normal ⟨ts',[]⟩ w')→
 wpAny P .any ops Q (n6 st).length listed ⟨ts,[]⟩ w:=by
 intro st
 induction st with
 |nil=>
  intro zq e ah γ C ts w listed K hc hd hs hk hst cont
  simp only [n6,dS,Option.some.injEq] at hc
  obtain rfl:zq=[]:=by simpa using hc.symm
  exact ⟨by simpa [lA] using hst,cont e ah γ C ts w hk (List.prefix_refl _) hs (Ext.refl ..)⟩
 |cons s st ih=>
  intro zq e ah γ C ts w listed K hc hd hs hk hst cont
  obtain ⟨m,l⟩:=s
  simp only [n6] at hc ⊢
  obtain ⟨a1,a2,hc1,hc2,rfl⟩:=Ey _ _ _ hc
  obtain ⟨hd1,Ew⟩:=N0 _ _ hd
  rw [Kx] at hk
  unfold lA at hst
  rw [Bool.and_eq_true] at hst
  obtain ⟨hst,zd⟩:=hst
  have key:∀(Q':Nat→Bool),qC P ops m Q' l listed=true→(∀j,Q' j= !l.contains j)→wpAny P .any ops Q (l.map (fun i=>(m,i))++n6 st).length listed ⟨ts,[]⟩ w:=by
   intro D XT hD
   rw [List.length_append,List.length_map]
   refine (Ky hsel hQ l a1 e ah γ C ts w listed _ _ hc1 hd1 hs hk XT fun e' ax γ' C' ts' w' g1 g2 g3 g4=> ?_).any
   refine xq (fun j hj=> ?_) (ih a2 e' ax γ' C' ts' w' _ K hc2 Ew g3 g1 zd fun e2 oD γ2 C2 NW w2 q1 q2 q3 q4=>cont e2 oD γ2 C2 NW w2 q1 (g2.trans q2) q3 (g4.trans q4))
   rw [hD]
   simpa using (AK l listed j hj).2
  split at hst
  · rename_i i
    simp only [Bool.and_eq_true,beq_iff_eq] at hst
    obtain ⟨rfl,hr⟩:=hst
    obtain ⟨o,a,g,zq',ho,hop,hg,has,rfl⟩:=uD hc1
    simp only [List.map_nil,dS,Option.some.injEq] at has
    obtain rfl:zq'=[]:=by simpa using has.symm
    obtain ⟨gP, -⟩:=Jz hd1
    refine ⟨fun h=>(by rw [hr] at h;cases h),fun j hj=> ?_⟩
    rw [hr] at hj
    obtain rfl:j=i:=by simpa using hj
    refine Ex ho hop hg gP hs hk fun v e1 bB γ1 C1 w1 vR hγ hs1 hx1 hka=> ?_
    rw [vY _ _ _ rfl]
    exact ih a2 e1 bB γ1 C1 _ w1 _ K hc2 Ew hs1 vR zd fun e2 oD γ2 C2 NW w2 q1 q2 q3 q4=>cont e2 oD γ2 C2 NW w2 q1 (hγ.trans q2) q3 (hx1.trans q4)
  · exact key _ hst fun _=>rfl
theorem Kz {st:List (Bool×List Nat)} (h:sched P ops=some st):lA P ops st (Array.replicate ops.size false)=true∧(n6 st).length=ops.size:=by
 have:uq P ops st=true:=by
  unfold sched at h
  split at h
  · rename_i s hs
    injection h with h;subst h
    exact (Option.filter_eq_some_iff.1 hs).2
  · exact (Option.filter_eq_some_iff.1 h).2
 simpa [uq] using this
theorem AW.drawn {id:Nat} {st:List (Bool×List Nat)} {zq:List aF} {Q:Exit→Env→AH→Prop} (hm:P.follows .mixedOrders=true) (hsel:Region.noSelect ops=true) (hst:sched P ops=some st) (hc:dS P ops (n6 st)=some (zq.map aF.er))
 (hd:jf N zq=true) (h:cY P L zq e ah fun e ah=>Q .normal (keep L e) ah):AW P L N n0 (.region id ops true) Q e ah:=by
 intro F γ C ts w hs hn
 obtain ⟨h1,h2⟩:=Kz hst
 refine wp_mono (Q:=fun x a' w'=>x= .normal∧a'.defers=[]∧NG x∧∃e' ax γ' C',Q x e' ax∧γ.take n0 <+: γ'∧SR L N F γ' C' e' ax a'.tmps w'∧Ext F C w C' w') ?_ (fun _ _ _ h=>h.2)
 refine wp_region_any hm ?_
 have hw0:∀b,b<w.heap.size→({w with drawn:=w.drawn+1}:World).heap[b]? =w.heap[b]? :=fun _ _=>rfl
 obtain ⟨hs1,hx1⟩:=hs.grow (w':= {w with drawn:=w.drawn+1}) (C':=C) hw0 (Nat.le_refl _) (fun _ _=>rfl) (fun b hb hne=>absurd (qN hs hb) hne)
 have xw:=fun q=>GR (Q:=fun x a' w'=>x= .normal∧a'.defers=[]∧NG x∧∃e' ax γ' C',Q x e' ax∧γ.take n0 <+: γ'∧SR L N F γ' C' e' ax a'.tmps w'∧Ext F C w C' w') hsel (fun c a w hq=>by cases hq.1) st zq e ah γ C ts _ _ _ hc hd hs1 h h1 q
 rw [h2] at xw
 refine xw fun e' ax γ' C' ts' w' q1 q2 q3 q4=> ?_
 exact ⟨rfl,rfl,trivial,keep L e',ax,γ',C',q1,BJ q2,q3.keep L,hx1.trans q4⟩
end
end Go.Am
end
section
namespace Go.Am
open Go
variable [Tabs]
def mK (N:Nat):au→Bool
 | .rg ops=>jf N ops
 | .seq a b| .cond _ a b=>mK N a&&mK N b
 | .blk _ c| .loop c=>mK N c
 |_=>true
def AX (P:Program) (L:List Nat) (N n0:Nat) (c:au) (Q:Exit→Env→AH→Prop) (e:Env) (ah:AH):Prop:=
 ∀c',bh P c'=some c→AW P L N n0 c' Q e ah
def gW (P:Program) (L:List Nat) (N n0:Nat):au→(Exit→Env→AH→Prop)→Env→AH→Prop
 | .skip,Q,e,ah=>Q .normal e ah
 | .ret,Q,e,ah=>Q .ret e ah
 | .exit i,Q,e,ah=>Q (.exit i) e ah
 | .rg ops,Q,e,ah=>cY P L ops e ah fun e ah=>Q .normal (keep L e) ah
 | .seq a b,Q,e,ah=>gW P L N n0 a (fun x e ah=>match x with| .normal=>gW P L N n0 b Q e ah|x=>Q x e ah) e ah
 | .cond c a b,Q,e,ah=>match ev e c with
   | .bool t=>if t then gW P L N n0 a Q e ah else gW P L N n0 b Q e ah
   |_=>False
 | .blk i c,Q,e,ah=>gW P L N n0 c (fun x e ah=>match x with| .exit j=>if j=i then Q .normal e ah else Q (.exit j) e ah|x=>Q x e ah) e ah
 | .loop c,Q,e,ah=>AX P L N n0 (.loop c) Q e ah
 | .sem c,Q,e,ah=>AX P L N n0 c Q e ah
section
variable {P:Program} {L:List Nat} {N n0:Nat} {e:Env} {ah:AH}
theorem AW.region {id:Nat} {ops:Array Oper} {zq:List aF} {Q:Exit→Env→AH→Prop} (hc:gZ P ops ops.toList=some (zq.map aF.er)) (hd:jf N zq=true)
 (h:cY P L zq e ah fun e ah=>Q .normal (keep L e) ah):AW P L N n0 (.region id ops false) Q e ah:=by
 intro F γ C ts w hs hn
 refine wp_region_list (RR ops.toList zq e ah _ F γ C ts w _ hc hd hs h ?_)
 intro e' ax γ' C' ts' w' hq hγ hs' hx
 exact ⟨rfl,trivial,keep L e',ax,γ',C',hq,BJ hγ,hs'.keep L,hx⟩
theorem lC:∀(c':Code) (c:au) (Q:Exit→Env→AH→Prop) (e:Env) (ah:AH),bh P c'=some (erase c)→mK N (erase c)=true→gW P L N n0 c Q e ah→AW P L N n0 c' Q e ah:=by
 intro c'
 induction c' with
 |skip=>
  intro c Q e ah hc ho h
  cases c with
  |sem c0=>exact h _ hc
  |skip=>exact AW.skip h
  |_=>simp [bh,erase] at hc
 |label l=>
  intro c Q e ah hc ho h
  cases c with
  |sem c0=>exact h _ hc
  |skip=>exact AW.label h
  |_=>simp [bh,erase] at hc
 |ret=>
  intro c Q e ah hc ho h
  cases c with
  |sem c0=>exact h _ hc
  |ret=>exact AW.ret h
  |_=>simp [bh,erase] at hc
 |exit i=>
  intro c Q e ah hc ho h
  cases c with
  |sem c0=>exact h _ hc
  |exit j=>simp [bh,erase] at hc;subst hc;exact AW.exit h
  |_=>simp [bh,erase] at hc
 |region id ops draw=>
  intro c Q e ah hc ho h
  cases c with
  |sem c0=>exact h _ hc
  |rg zq=>
   simp only [bh,erase] at hc
   cases draw with
   |true=>
    simp only [if_true] at hc
    split at hc
    case isFalse=>cases hc
    rename_i hmn
    simp only [Bool.and_eq_true] at hmn
    split at hc
    case h_2=>cases hc
    rename_i st hst
    simp only [Option.map_eq_some_iff] at hc
    obtain ⟨zq',has,he⟩:=hc
    injection he with he
    subst he
    exact AW.drawn hmn.1 hmn.2 hst has (by simpa only [erase,mK,Jw] using ho) h
   |false=>
    simp only [Bool.false_eq_true,if_false,Option.map_eq_some_iff] at hc
    obtain ⟨zq',has,he⟩:=hc
    injection he with he
    subst he
    exact AW.region has (by simpa only [erase,mK,Jw] using ho) h
  |_=>simp only [bh,erase] at hc;repeat' (split at hc)<;>simp at hc
 |seq a b ze zf=>
  intro c Q e ah hc ho h
  cases c with
  |sem c0=>exact h _ hc
  |seq x y=>
   simp only [bh,erase] at hc
   split at hc
   case h_2=>cases hc
   rename_i a' b' ha hb
   injection hc with hc
   injection hc with h1 h2
   subst h1;subst h2
   simp only [erase,mK,Bool.and_eq_true] at ho
   refine AW.seq ((ze x _ e ah ha ho.1 h).mono fun x e ah hx=> ?_)
   cases x with
   |normal=>exact zf y _ e ah hb ho.2 hx
   |_=>exact hx
  |_=>simp only [bh,erase] at hc;split at hc<;>simp at hc
 |cond c0 a b ze zf=>
  intro c Q e ah hc ho h
  cases c with
  |sem c0=>exact h _ hc
  |cond c2 x y=>
   simp only [bh,erase] at hc
   split at hc
   case h_2=>cases hc
   rename_i c1 a' b' h1 ha hb
   injection hc with hc
   injection hc with g0 g1 g2
   subst g0;subst g1;subst g2
   simp only [erase,mK,Bool.and_eq_true] at ho
   simp only [gW] at h
   split at h
   case h_2=>exact h.elim
   rename_i t ht
   refine AW.cond h1 ht ?_
   cases t with
   |true=>exact ze x Q e ah ha ho.1 h
   |false=>exact zf y Q e ah hb ho.2 h
  |_=>simp only [bh,erase] at hc;split at hc<;>simp at hc
 |block i c0 ih=>
  intro c Q e ah hc ho h
  cases c with
  |sem c0=>exact h _ hc
  |blk j x=>
   simp only [bh,erase,Option.map_eq_some_iff] at hc
   obtain ⟨a,ha,he⟩:=hc
   injection he with h1 h2
   subst h1;subst h2
   exact AW.blk (ih x _ e ah ha ho h)
  |_=>simp [bh,erase] at hc
 |loop c0 ih=>
  intro c Q e ah hc ho h
  cases c with
  |sem c0=>exact h _ hc
  |loop x=>exact h _ hc
  |_=>simp [bh,erase] at hc
 |rangeFunc=>intro c Q e ah hc;simp [bh] at hc
 |goto=>intro c Q e ah hc;simp [bh] at hc
 |scope c0 ih=>intro c Q e ah hc ho h;exact AW.scope (ih c Q e ah hc ho h)
 |refuse=>intro c Q e ah hc;simp [bh] at hc
theorem vZ {o:Oper} {x:Ar} (h:cop P o=some (.oz x)):False:=by
 obtain ⟨d,oo,ty,pos,af,gd⟩:=o
 cases oo with
 |makeFunc fn first cs=>
  cases fn with
  |func f=>simp only [cop] at h;split at h<;>simp at h
  |_=>simp [cop] at h
 |call c=>
  obtain ⟨callee,args,tys⟩:=c
  simp only [cop] at h
  (repeat' (split at h))<;>(first|(cases h;done)|(simp at h;done))
 |_=>
  simp only [cop] at h
  first
   |cases h;done
   |(simp at h;done)
   |(repeat' (split at h))<;>(first|(cases h;done)|(simp at h;done))
theorem tA {o:Oper} {k b:Nat} {x y:Ar} (h:cop P o=some (.jh k b x y)):False:=by
 obtain ⟨d,oo,ty,pos,af,gd⟩:=o
 cases oo with
 |makeFunc fn first cs=>
  cases fn with
  |func f=>simp only [cop] at h;split at h<;>simp at h
  |_=>simp [cop] at h
 |call c=>
  obtain ⟨callee,args,tys⟩:=c
  simp only [cop] at h
  (repeat' (split at h))<;>(first|(cases h;done)|(simp at h;done))
 |_=>
  simp only [cop] at h
  first
   |cases h;done
   |(simp at h;done)
   |(repeat' (split at h))<;>(first|(cases h;done)|(simp at h;done))
theorem v7 {o:Oper} {k:Nat} {x:Ar} (h:cop P o=some (.th k x)):False:=by
 obtain ⟨d,oo,ty,pos,af,gd⟩:=o
 cases oo with
 |makeFunc fn first cs=>
  cases fn with
  |func f=>simp only [cop] at h;split at h<;>simp at h
  |_=>simp [cop] at h
 |call c=>
  obtain ⟨callee,args,tys⟩:=c
  simp only [cop] at h
  (repeat' (split at h))<;>(first|(cases h;done)|(simp at h;done))
 |_=>
  simp only [cop] at h
  first
   |cases h;done
   |(simp at h;done)
   |(repeat' (split at h))<;>(first|(cases h;done)|(simp at h;done))
theorem RT {o:Oper} {op:eA} (h:cop P o=some op):op.er=op:=by
 cases op with
 |oz x=>exact (vZ h).elim
 |jh=>exact (tA h).elim
 |th=>exact (v7 h).elim
 |_=>rfl
theorem N1 {m:Bool} {o:Oper} {op:eA} (h:cW P m o=some op):op.er=op:=by
 cases op with
 |oz x=>
  exfalso
  cases m with
  |true=>exact vZ (by simpa [cW] using h)
  |false=>
   simp only [cW,Bool.false_eq_true,if_false,Option.map_eq_some_iff] at h
   obtain ⟨op',h1,h2⟩:=h
   cases op' with
   |gU hh y=>cases hh<;>cases h2
   |ld y n=>cases h2
   |oz y=>exact vZ h1
   |_=>cases h2
 |jh=>
  exfalso
  cases m with
  |true=>exact tA (by simpa [cW] using h)
  |false=>
   simp only [cW,Bool.false_eq_true,if_false,Option.map_eq_some_iff] at h
   obtain ⟨op',h1,h2⟩:=h
   cases op' with
   |gU hh y=>cases hh<;>cases h2
   |ld y n=>cases h2
   |jh=>exact tA h1
   |_=>cases h2
 |th=>
  exfalso
  cases m with
  |true=>exact v7 (by simpa [cW] using h)
  |false=>
   simp only [cW,Bool.false_eq_true,if_false,Option.map_eq_some_iff] at h
   obtain ⟨op',h1,h2⟩:=h
   cases op' with
   |gU hh y=>cases hh<;>cases h2
   |ld y n=>cases h2
   |th=>exact v7 h1
   |_=>cases h2
 |_=>rfl
theorem N2 {ops:Array Oper}:∀(n:Nat) (l:List Oper) (zq:List aF),l.length≤n→gZ P ops l=some zq→zq.map aF.er=zq:=by
 intro n
 induction n with
 |zero=>
  intro l zq hn h
  obtain rfl:l=[]:=List.eq_nil_of_length_eq_zero (by omega)
  simp only [gZ,Option.some.injEq] at h;subst h;rfl
 |succ n ih=>
  intro l zq hn h
  rcases xp h with ⟨rfl,rfl⟩|⟨o,o2,r,a,zq',rfl,h2,h3,rfl⟩|⟨o,o2,r,ag,zq',rfl,h2,h3,rfl⟩|⟨o,r,op,g,zq',rfl,h2,h3,h4,rfl⟩
  · rfl
  · obtain ⟨y,bs,hl⟩:=za h2
    obtain ⟨d,op,g⟩:=a
    simp only at hl;subst hl
    simp only [List.map_cons,ih r zq' (by simp at hn;omega) h3];rfl
  · obtain ⟨d,y,bs,t,w,g,rfl, -⟩:=vX h2
    simp only [List.cons_append,List.nil_append,List.map_cons,ih r zq' (by simp at hn;omega) h3];rfl
  · have he:op.er=op:=by
     rcases h2 with h2|rfl
     · exact RT h2
     · rfl
    simp only [List.map_cons,ih r zq' (by simp at hn;omega) h4,aF.er,he]
theorem KB {ops:Array Oper}:∀(l:List (Bool×Nat)) (zq:List aF),dS P ops l=some zq→zq.map aF.er=zq:=by
 intro l
 induction l with
 |nil=>intro zq h;simp only [dS,Option.some.injEq] at h;subst h;rfl
 |cons p r ih=>
  intro zq h
  obtain ⟨m,i⟩:=p
  obtain ⟨o,a,g,zq',h1,h2,h3,h4,rfl⟩:=xu h
  simp only [List.map_cons,ih zq' h4,aF.er,N1 h2]
theorem gG:∀(c':Code) (c:au),bh P c'=some c→erase c=c:=by
 intro c'
 induction c' with
 |skip=>intro c hc;simp [bh] at hc;subst hc;rfl
 |label l=>intro c hc;simp [bh] at hc;subst hc;rfl
 |ret=>intro c hc;simp [bh] at hc;subst hc;rfl
 |exit i=>intro c hc;simp [bh] at hc;subst hc;rfl
 |region id ops draw=>
  intro c hc
  simp only [bh] at hc
  cases draw with
  |true=>
   simp only [if_true] at hc
   split at hc
   · split at hc
     · simp only [Option.map_eq_some_iff] at hc;obtain ⟨zq,has,rfl⟩:=hc;simp only [erase,KB _ _ has]
     · cases hc
   · cases hc
  |false=>simp only [Bool.false_eq_true,if_false,Option.map_eq_some_iff] at hc;obtain ⟨zq,has,rfl⟩:=hc;simp only [erase,N2 _ _ _ (Nat.le_refl _) has]
 |seq a b ze zf=>
  intro c hc
  simp only [bh] at hc
  split at hc
  case h_2=>cases hc
  rename_i a' b' ha hb
  injection hc with hc
  subst hc
  simp only [erase,ze _ ha,zf _ hb]
 |cond c0 a b ze zf=>
  intro c hc
  simp only [bh] at hc
  split at hc
  case h_2=>cases hc
  rename_i c1 a' b' h1 ha hb
  injection hc with hc
  subst hc
  simp only [erase,ze _ ha,zf _ hb]
 |block i c0 ih=>intro c hc;simp only [bh,Option.map_eq_some_iff] at hc;obtain ⟨a,ha,rfl⟩:=hc;simp only [erase,ih _ ha]
 |loop c0 ih=>intro c hc;simp only [bh,Option.map_eq_some_iff] at hc;obtain ⟨a,ha,rfl⟩:=hc;rfl
 |rangeFunc=>intro c hc;simp [bh] at hc
 |goto=>intro c hc;simp [bh] at hc
 |scope c0 ih=>intro c hc;exact ih c hc
 |refuse=>intro c hc;simp [bh] at hc
inductive It where
 |ops (r:List aF)
 |keep
 |code (c:au)
 |blk (i:Nat)
def U (P:Program) (L:List Nat) (N n0:Nat):List It→(Exit→Env→AH→Prop)→Exit→Env→AH→Prop
 |[],Q,x,e,ah=>Q x e ah
 | .code c::t,Q, .normal,e,ah=>gW P L N n0 c (fun x e ah=>U P L N n0 t Q x e ah) e ah
 | .ops r::t,Q, .normal,e,ah=>cY P L r e ah fun e ah=>U P L N n0 t Q .normal e ah
 | .keep::t,Q, .normal,e,ah=>U P L N n0 t Q .normal (keep L e) ah
 | .blk i::t,Q, .exit j,e,ah=>if j=i then U P L N n0 t Q .normal e ah else U P L N n0 t Q (.exit j) e ah
 | .blk _::t,Q,x,e,ah=>U P L N n0 t Q x e ah
 | .code _::t,Q,x,e,ah=>U P L N n0 t Q x e ah
 | .ops _::t,Q,x,e,ah=>U P L N n0 t Q x e ah
 | .keep::t,Q,x,e,ah=>U P L N n0 t Q x e ah
def UK (P:Program) (L:List Nat) (N n0 f:Nat) (zq:List AV) (d:Option Nat) (r:List aF) (t:List It) (Q:Exit→Env→AH→Prop) (e:Env) (ah:AH):Prop:=
 az P f zq ah fun v ax=>U P L N n0 (.ops r::t) Q .normal (ay L (qR e) d v.df) ax
def UF (P:Program) (L:List Nat) (N n0:Nat) (zq:List Ar) (d:Option Nat) (r:List aF) (t:List It) (Q:Exit→Env→AH→Prop) (e:Env) (ah:AH):AV→Prop
 | .fn f caps=>if bU caps then UK P L N n0 f (zq.map (fun x=>(ev e x).sh)++caps.map AV.s1) d r t Q e ah else False
 |_=>False
def US (P:Program) (L:List Nat) (N n0:Nat) (r:List aF) (t:List It) (Q:Exit→Env→AH→Prop):Option (Env×AH)→Prop
 |some (e,ah)=>U P L N n0 (.ops r::t) Q .normal e ah
 |none=>False
def UG (P:Program) (L:List Nat) (N n0:Nat) (o:aF) (r:List aF) (t:List It) (Q:Exit→Env→AH→Prop) (e:Env) (ah:AH):Option Bool→Prop
 |some true=>match o.op with
  | .call f zq=>UF P L N n0 zq o.d r t Q e ah (ev e f)
  | .jh k b x y=>lG L o.d k b x y e ah fun e ah=>U P L N n0 (.ops r::t) Q .normal e ah
  | .nq n x=>yK L o.d n x e ah fun e ah=>U P L N n0 (.ops r::t) Q .normal e ah
  |_=>US P L N n0 r t Q (bg L o e ah)
 |some false=>U P L N n0 (.ops r::t) Q .normal (lO e o.d) ah
 |none=>False
def UC (P:Program) (L:List Nat) (N n0:Nat) (a b:au) (t:List It) (Q:Exit→Env→AH→Prop) (e:Env) (ah:AH):AV→Prop
 | .bool true=>U P L N n0 (.code a::t) Q .normal e ah
 | .bool false=>U P L N n0 (.code b::t) Q .normal e ah
 |_=>False
def UX (P:Program) (L:List Nat) (N n0:Nat) (c:au) (t:List It) (Q:Exit→Env→AH→Prop) (e:Env) (ah:AH):Prop:=
 AX P L N n0 c (fun x e ah=>U P L N n0 t Q x e ah) e ah
variable {t:List It} {Q:Exit→Env→AH→Prop} {x:Exit}
@[simp] theorem UB:U P L N n0 [] Q x e ah=Q x e ah:=rfl
@[simp] theorem RU:U P L N n0 (.code .skip::t) Q .normal e ah=U P L N n0 t Q .normal e ah:=rfl
@[simp] theorem UD:U P L N n0 (.code .ret::t) Q .normal e ah=U P L N n0 t Q .ret e ah:=rfl
@[simp] theorem RV {i:Nat}:U P L N n0 (.code (.exit i)::t) Q .normal e ah=U P L N n0 t Q (.exit i) e ah:=rfl
theorem N3 (b:au):(fun x e ah=>match x with| .normal=>gW P L N n0 b (fun x e ah=>U P L N n0 t Q x e ah) e ah|x=>U P L N n0 t Q x e ah)=fun x e ah=>U P L N n0 (.code b::t) Q x e ah:=by
 funext x e ah
 cases x<;>rfl
@[simp] theorem UE {a b:au}:U P L N n0 (.code (.seq a b)::t) Q .normal e ah=U P L N n0 (.code a:: .code b::t) Q .normal e ah:=by
  simp only [U,gW]
  exact congrArg (fun K=>gW P L N n0 a K e ah) (N3 b)
@[simp] theorem UH {i:Nat} {c:au}:U P L N n0 (.code (.blk i c)::t) Q .normal e ah=U P L N n0 (.code c:: .blk i::t) Q .normal e ah:=by
  have:(fun x e ah=>match x with| .exit j=>if j=i then U P L N n0 t Q .normal e ah else U P L N n0 t Q (.exit j) e ah|x=>U P L N n0 t Q x e ah)=fun x e ah=>U P L N n0 (.blk i::t) Q x e ah:=by
   funext x e ah
   cases x<;>rfl
  exact congrArg (fun K=>gW P L N n0 c K e ah) this
@[simp] theorem XU {ops:List aF}:U P L N n0 (.code (.rg ops)::t) Q .normal e ah=U P L N n0 (.ops ops:: .keep::t) Q .normal e ah:=rfl
@[simp] theorem RW {c:au}:U P L N n0 (.code (.loop c)::t) Q .normal e ah=UX P L N n0 (.loop c) t Q e ah:=rfl
@[simp] theorem UI {c:au}:U P L N n0 (.code (.sem c)::t) Q .normal e ah=UX P L N n0 c t Q e ah:=rfl
@[simp] theorem RX {c:Ar} {a b:au}:U P L N n0 (.code (.cond c a b)::t) Q .normal e ah=UC P L N n0 a b t Q e ah (ev e c):=by
  simp only [U,gW]
  cases ev e c with
  |bool t=>cases t<;>rfl
  |_=>rfl
@[simp] theorem RY:U P L N n0 (.keep::t) Q .normal e ah=U P L N n0 t Q .normal (keep L e) ah:=rfl
@[simp] theorem N4 {i:Nat}:U P L N n0 (.blk i::t) Q .normal e ah=U P L N n0 t Q .normal e ah:=rfl
@[simp] theorem N5 {i:Nat}:U P L N n0 (.blk i::t) Q .ret e ah=U P L N n0 t Q .ret e ah:=rfl
@[simp] theorem N6 {i j:Nat}:U P L N n0 (.blk i::t) Q (.exit j) e ah=if j=i then U P L N n0 t Q .normal e ah else U P L N n0 t Q (.exit j) e ah:=rfl
@[simp] theorem KC {c:au}:U P L N n0 (.code c::t) Q .ret e ah=U P L N n0 t Q .ret e ah:=by cases c<;>rfl
@[simp] theorem KD {c:au} {j:Nat}:U P L N n0 (.code c::t) Q (.exit j) e ah=U P L N n0 t Q (.exit j) e ah:=by cases c<;>rfl
@[simp] theorem GS:U P L N n0 (.ops []::t) Q .normal e ah=U P L N n0 t Q .normal e ah:=rfl
@[simp] theorem UJ {o:aF} {r:List aF}:U P L N n0 (.ops (o::r)::t) Q .normal e ah=UG P L N n0 o r t Q e ah (eR e o):=by
  simp only [U,cY]
  cases eR e o with
  |none=>rfl
  |some b=>
   cases b with
   |false=>rfl
   |true=>
    obtain ⟨d,op,g⟩:=o
    cases op with
    |call f zq=>
     simp only [uC,UG]
     cases ev e f with
     |fn f' caps=>
      simp only [UF,UK]
      by_cases hf:bU caps=true
      · simp only [hf,if_true,true_and];rfl
      · simp [hf]
     |_=>rfl
    |jh k b x y=>rfl
    |nq n x=>rfl
    |_=>
     simp only [uC,UG,US]
     cases bg L ⟨d,_,g⟩ e ah with
     |none=>rfl
     |some ea=>obtain ⟨e',ax⟩:=ea;rfl
@[simp] theorem N7 {r:List aF} {e':Env} {ax:AH}:US P L N n0 r t Q (some (e',ax))=U P L N n0 (.ops r::t) Q .normal e' ax:=rfl
@[simp] theorem KE {o:aF} {r:List aF}:UG P L N n0 o r t Q e ah (some false)=U P L N n0 (.ops r::t) Q .normal (lO e o.d) ah:=rfl
@[simp] theorem N8 {a b:au}:UC P L N n0 a b t Q e ah (.bool true)=U P L N n0 (.code a::t) Q .normal e ah:=rfl
@[simp] theorem KF {a b:au}:UC P L N n0 a b t Q e ah (.bool false)=U P L N n0 (.code b::t) Q .normal e ah:=rfl
@[simp] theorem UL {zq:List Ar} {d:Option Nat} {r:List aF} {f:Nat} {caps:List AV}:UF P L N n0 zq d r t Q e ah (.fn f caps)=
 if bU caps then UK P L N n0 f (zq.map (fun x=>(ev e x).sh)++caps.map AV.s1) d r t Q e ah else False:=rfl
theorem Xc {a b:au} {v:Bool} (h1:v=true→U P L N n0 (.code a::t) Q .normal e ah) (h2:v=false→U P L N n0 (.code b::t) Q .normal e ah):UC P L N n0 a b t Q e ah (.bool v):=by
 cases v
 · exact h2 rfl
 · exact h1 rfl
theorem aaC {f:Nat} {zq:List AV} {d:Option Nat} {r:List aF} {R:AV→AH→Prop} (h:az P f zq ah R) (hk:∀v ax,R v ax→U P L N n0 (.ops r::t) Q .normal (ay L (qR e) d v.df) ax):
 UK P L N n0 f zq d r t Q e ah:=h.mono hk
theorem XV {c:au} (I:Nat→Env→AH→Prop) {k0:Nat} (ho:mK N c=true)
 (round:∀k e ah,I k e ah→U P L N n0 [.code c] (fun x e' ax=>match x with| .normal=>∃k',k'<k∧I k' e' ax|x=>U P L N n0 t Q x e' ax) .normal e ah) (h0:I k0 e ah):
 UX P L N n0 (.loop c) t Q e ah:=by
 intro c'
 induction c' with
 |loop c0 _=>
  intro bL
  simp only [bh,Option.map_eq_some_iff] at bL
  obtain ⟨a,ha,he⟩:=bL
  injection he with he
  subst he
  exact AW.loop I (fun k e ah hI=>lC c0 a _ e ah (by rw [gG c0 a ha];exact ha) (by rw [gG c0 a ha];exact ho) (round k e ah hI)) h0
 |scope c0 ih=>exact fun bL=>AW.scope (ih bL)
 |region id ops draw=>intro bL;simp only [bh] at bL;repeat' (split at bL)<;>simp at bL
 |block i c0=>intro bL;simp only [bh,Option.map_eq_some_iff] at bL;obtain ⟨a, -,h⟩:=bL;cases h
 |seq a b=>intro bL;simp only [bh] at bL;split at bL<;>simp at bL
 |cond a b c=>intro bL;simp only [bh] at bL;split at bL<;>simp at bL
 |_=>intro bL;simp [bh] at bL
end
end Go.Am
end
section
namespace Go.Am
open Go
variable [Tabs]
def AV.dm:AV→Bool
 | .aW _=>true
 |_=>false
def eT (P:Program) (e:Env) (ah:AH):List ResultVar→Option (List AV)
 |[]=>some []
 | .tmp t::r=>if (get e t).dm then none else match eT P e ah r with
   |some vs=>some (get e t::vs)
   |none=>none
 | .cell a ty::r=>if tok P ty then
  match get e a with
  | .ptr s o=>match ah[s]? with
    |some cs=>match ji (tn P ty) s o cs,eT P e ah r with
     |some v,some vs=>some (v.sh::vs)
     |_,_=>none
    |none=>none
  |_=>none
   else none
def fin:List AV→AV
 |[a]=>a.df
 |l=> .aW (l.map AV.sh)
inductive Cl (n:Nat):AV→Prop
 |ptr (s o):s<n→Cl n (.ptr s o)
 |fn (f cs):(∀a∈cs,Cl n a)→Cl n (.fn f cs)
 |agg (cs):(∀a∈cs,Cl n a)→Cl n (.agg cs)
 |aW (cs):(∀a∈cs,Cl n a)→Cl n (.aW cs)
 |v (x):Cl n (.v x)
 |int (k i):Cl n (.int k i)
 |bool (b):Cl n (.bool b)
 |str (l):Cl n (.str l)
 |sl (t k xs):Cl n (.sl t k xs)
 |ep (e o):Cl n (.ep e o)
 |b6 (s k o m):s<n→Cl n (.b6 s k o m)
 |nc (s k):Cl n (.bM s k 0 0)
 |bM (s k m c):s<n→Cl n (.bM s k m c)
 |cH:Cl n .cH
 |un:Cl n .un
@[simp] theorem RZ {n s k o m:Nat}:Cl n (.b6 s k o m)↔s<n:=⟨fun h=>by cases h;assumption, .b6 _ _ _ _⟩
@[simp] theorem aal {n:Nat}:Cl n .cH:= .cH
@[simp] theorem R0 {n s o:Nat}:Cl n (.ptr s o)↔s<n:=⟨fun h=>by cases h;assumption, .ptr _ _⟩
@[simp] theorem UM {n f:Nat} {cs:List AV}:Cl n (.fn f cs)↔∀a∈cs,Cl n a:=⟨fun h=>by cases h;assumption, .fn _ _⟩
@[simp] theorem R1 {n:Nat} {cs:List AV}:Cl n (.agg cs)↔∀a∈cs,Cl n a:=⟨fun h=>by cases h;assumption, .agg _⟩
@[simp] theorem R2 {n:Nat} {cs:List AV}:Cl n (.aW cs)↔∀a∈cs,Cl n a:=⟨fun h=>by cases h;assumption, .aW _⟩
@[simp] theorem aa0 {n:Nat} {x:Value}:Cl n (.v x):= .v _
@[simp] theorem aam {n:Nat} {k:IntKind} {i:Int}:Cl n (.int k i):= .int ..
@[simp] theorem XW {n:Nat} {b:Bool}:Cl n (.bool b):= .bool _
@[simp] theorem aan {n:Nat} {l:List UInt8}:Cl n (.str l):= .str _
@[simp] theorem aaD {n:Nat} {t:Tg} {k:Nat} {xs:List AV}:Cl n (.sl t k xs):= .sl ..
@[simp] theorem aaE {n:Nat} {e:AV} {o:Nat}:Cl n (.ep e o):= .ep ..
@[simp] theorem aa1 {n:Nat}:Cl n .un:= .un
def jL (n:Nat) (ah:AH):Prop:=∀(s:Nat) (cs:List AV),ah[s]? =some cs→∀a∈cs,Cl n a
def GU (P:Program) (n:Nat) (rs:List ResultVar) (R:AV→AH→Prop) (x:Exit) (e:Env) (ah:AH):Prop:=
 (x= .normal∨x= .ret)∧match eT P e ah rs with
  |some vs=>Cl n (fin vs)∧jL n (ah.take n)∧n≤ah.length∧R (fin vs) (ah.take n)
  |none=>False
section
variable {P:Program} {L:List Nat} {N n0:Nat} {F:Nat→Prop} {γ:List Nat} {C C':Nat→List Value} {e:Env} {ah:AH} {ts:Array Value} {w w':World}
theorem VR.take {a:AV} {v:Value} {n:Nat} (h:VR C γ a v):Cl n a→VR C (γ.take n) a v:=by
 induction h with
 |v _ _ hs=>intro _;exact .v _ _ hs
 |un=>intro _;exact .un ..
 |int=>intro _;exact .int ..
 |bool=>intro _;exact .bool ..
 |str=>intro _;exact .str ..
 |ptr _ s o b hb=>intro hn;exact .ptr _ _ _ _ (by rw [List.getElem?_take_of_lt (R0.1 hn)];exact hb)
 |b6 _ s k o n b c hb hn'=>intro hn;exact .b6 _ _ _ _ _ _ _ (by rw [List.getElem?_take_of_lt (RZ.1 hn)];exact hb) hn'
 |nc=>intro _;exact .nc ..
 |bM _ s k n b c hb hn'=>
  intro hn
  cases hn with
  |nc=>exact .nc ..
  |bM _ _ _ _ hs=>exact .bM _ _ _ _ _ _ (by rw [List.getElem?_take_of_lt hs];exact hb) hn'
 |cH=>intro _;exact .cH ..
 |n7=>intro _;exact .n7 ..
 |sl _ _ _ _ b o n c hn' hc hk hl ho hx=>intro _;exact .sl _ _ _ _ _ _ _ _ hn' hc hk hl ho hx
 |ep _ _ _ b p hl hx=>intro _;exact .ep _ _ _ _ _ hl hx
 |agg _ cs vs hl hx ih=>intro hn;exact .agg _ _ _ hl fun i a hi=>ih i a hi (R1.1 hn a (List.mem_of_getElem? hi))
 |aW _ cs vs hl hx ih=>intro hn;exact .aW _ _ _ hl fun i a hi=>ih i a hi (R2.1 hn a (List.mem_of_getElem? hi))
 |fn _ f cs vs hl hx ih=>intro hn;exact .fn _ _ _ _ hl fun i a hi=>ih i a hi (UM.1 hn a (List.mem_of_getElem? hi))
theorem VR.cl {a:AV} {v:Value} (h:VR C γ a v):Cl γ.length a:=by
 have mem:∀ {cs:List AV} {a:AV},a∈cs→∃i:Nat,cs[i]? =some a:=fun ha=>by
  obtain ⟨i,hi,rfl⟩:=List.getElem_of_mem ha;exact ⟨i,List.getElem?_eq_getElem hi⟩
 induction h with
 |ptr _ s o b hb=>exact .ptr _ _ (List.getElem?_eq_some_iff.1 hb).1
 |agg _ cs vs hl hx ih=>exact .agg _ fun a ha=>by obtain ⟨i,hi⟩:=mem ha;exact ih i a hi
 |aW _ cs vs hl hx ih=>exact .aW _ fun a ha=>by obtain ⟨i,hi⟩:=mem ha;exact ih i a hi
 |fn _ f cs vs hl hx ih=>exact .fn _ _ fun a ha=>by obtain ⟨i,hi⟩:=mem ha;exact ih i a hi
 |b6 _ s k o n b c hb _=>exact .b6 _ _ _ _ (List.getElem?_eq_some_iff.1 hb).1
 |nc=>exact .nc ..
 |bM _ s k n b c hb _=>exact .bM _ _ _ _ (List.getElem?_eq_some_iff.1 hb).1
 |cH=>exact .cH
 |v=>exact .v _
 |un=>exact .un
 |int=>exact .int ..
 |bool=>exact .bool _
 |str=>exact .str _
 |n7=>exact .sl ..
 |sl=>exact .sl ..
 |ep=>exact .ep ..
theorem GV (h:SR L N F γ C e ah ts w) {a s o:Nat} {ty:TypeId} (ht:tok P ty=true) (hp:get e a= .ptr s o) {cs:List AV} (hs:ah[s]? =some cs) {v:AV} (hl:ji (tn P ty) s o cs=some v):
 ∃u ad,ts.getD a undef= .pointer (some ad)∧(loadVar ty ad).run P w= .ok u w∧VR C γ v.sh u∧TC w C v.sh u:=by
 have hv:=(h.env a).1
 rw [hp] at hv
 obtain ⟨b,hb,hv⟩:=hv.fX
 obtain ⟨vs,tv,hh,hsz,hcell⟩:=h.mem.obj s b cs hs hb
 have qH:=cD hh
 cases hn:tn P ty with
 |some n=>
  simp only [hn,ji] at hl
  split at hl
  case isFalse=>cases hl
  rename_i hq
  obtain ⟨hq,hfl⟩:=hq
  injection hl with hl
  subst hl
  obtain ⟨r,hr,hrs,hrc⟩:=(run_load (w:=w) ht (b:=b) (o:=o)).1 n hn (fun j hj=>by
   rw [qH];exact ⟨_,Array.getElem?_eq_getElem (by omega)⟩)
  obtain rfl:r=vs.extract o (o+n):=by
   apply Array.ext_getElem?
   intro j
   by_cases hj:j<n
   · rw [hrc j hj,qH,Array.getElem?_extract,if_pos (by omega)]
   · rw [Array.getElem?_eq_none (by omega),Array.getElem?_eq_none (by simp;omega)]
  refine ⟨_,_,hv,hr, ?_, ?_⟩
  · exact (Wk.sh _).vr ((Wk.kZ _ Wk.bn _).vr (yR hsz (fun i a hi=>(hcell i a hi).1) hq))
  · exact (Wk.sh _).tc ((Wk.kZ _ Wk.bn _).tc (qG hsz (fun i a hi hin=>uu (hcell _ a hi).2 (gD hfl (i:=i) (by rw [List.getElem?_take_of_lt hin,List.getElem?_drop];exact hi))) hq))
 |none=>
  simp only [hn,ji] at hl
  have qI:∀c,cs[o]? =some c→w.cell? ⟨b,o,none⟩=some (vs.getD o undef):=by
   intro c gE
   have hlt:o<vs.size:=Nat.lt_of_lt_of_le (List.getElem?_eq_some_iff.1 gE).1 hsz
   rw [qH];simp [Array.getD_eq_getD_getElem?,Array.getElem?_eq_getElem hlt]
  split at hl
  · rename_i k xs gE
    injection hl with hl
    subst hl
    have hr:=(run_load (w:=w) ht (b:=b) (o:=o)).2 _ hn (qI _ gE)
    exact ⟨_,_,hv,hr,(hcell o _ gE).1.gV _,by simp only [AV.sh,AV.bn,Tg.sh];cases (vs.getD o undef)<;>trivial⟩
  · rename_i c hno gE
    split at hl
    case isFalse=>cases hl
    rename_i hfl
    injection hl with hl
    subst hl
    have hr:=(run_load (w:=w) ht (b:=b) (o:=o)).2 _ hn (qI _ gE)
    refine ⟨_,_,hv,hr, ?_, ?_⟩
    · exact (Wk.sh _).vr ((Wk.iP (Wk.bn c)).vr (hcell o _ gE).1)
    · exact (Wk.sh _).tc (yC (uu (hcell o _ gE).2 hfl))
  · cases hl
theorem R3 (h:SR L N F γ C e ah ts w):∀(rs:List ResultVar) (vs:List AV),eT P e ah rs=some vs→
 ∃us:List Value,(rs.mapM fun| .tmp t=>pure (ts.getD t undef)| .cell a t=>do loadVar t (←asAddr (ts.getD a undef)):Sem (List Value)).run P w= .ok us w∧us.length=vs.length∧
  (∀(i:Nat) (a:AV),vs[i]? =some a→VR C γ a (us.getD i undef)∧TC w C a (us.getD i undef))∧
  (∀(i:Nat) (a:AV) (b:Nat),vs[i]? =some a→bz a (us.getD i undef)=some b→∃t,blk γ e ah ts w (.tmp t) b)∧∀(i:Nat) (a:AV),vs[i]? =some a→a.dm=false:=by
 intro rs
 induction rs with
 |nil=>intro vs hr;simp [eT] at hr;subst hr;exact ⟨[],rfl,rfl,by simp,by simp,by simp⟩
 |cons r rs ih=>
  intro vs hr
  cases r with
  |tmp t=>
   simp only [eT] at hr
   split at hr
   case isTrue=>cases hr
   rename_i hnt
   split at hr
   case h_2=>cases hr
   rename_i vs' hvs
   injection hr with hr
   subst hr
   obtain ⟨us,h1,h2,h3,h4,h5⟩:=ih vs' hvs
   refine ⟨ts.getD t undef::us, ?_,by simp [h2],fun i a hi=> ?_,fun i a b hi hb=> ?_,fun i a hi=>by
    cases i with
    |zero=>simp at hi;subst hi;simpa using hnt
    |succ i=>exact h5 i a (by simpa using hi)⟩
   · simp only [List.mapM_cons,Sem.run_bind,Sem.run_pure,Result.andThen_ok,h1]
   · cases i with
     |zero=>simp at hi;subst hi;exact h.env t
     |succ i=>exact h3 i a (by simpa using hi)
   · cases i with
     |zero=>simp at hi;subst hi;exact ⟨t,hb⟩
     |succ i=>exact h4 i a b (by simpa using hi) hb
  |cell a ty=>
   simp only [eT] at hr
   split at hr
   case isFalse=>cases hr
   rename_i ht
   split at hr
   case h_2=>cases hr
   rename_i s o hp
   split at hr
   case h_2=>cases hr
   rename_i cs hs
   split at hr
   case h_2=>cases hr
   rename_i v vs' hv hvs
   injection hr with hr
   subst hr
   obtain ⟨us,h1,h2,h3,h4,h5⟩:=ih vs' hvs
   obtain ⟨u,ad,g1,g2,g3,g4⟩:=GV (P:=P) h ht hp hs hv
   have hnt:v.sh.dm=false:=by
    unfold ji at hv
    split at hv
    · split at hv<;>simp at hv;subst hv;rfl
    · split at hv
      · injection hv with hv;subst hv;rfl
      · split at hv<;>simp at hv
        rename_i c _ _ hf
        subst hv
        cases c<;>first|rfl|cases hf
      · cases hv
   refine ⟨u::us, ?_,by simp [h2],fun i a hi=> ?_,fun i a b hi hb=> ?_,fun i a hi=>by
    cases i with
    |zero=>simp at hi;subst hi;exact hnt
    |succ i=>exact h5 i a (by simpa using hi)⟩
   · have hA:(asAddr (ts.getD a undef)).run P w= .ok ad w:=by rw [g1];rfl
     simp only [List.mapM_cons,Sem.run_bind,hA,Sem.run_pure,Result.andThen_ok,g2,h1]
   · cases i with
     |zero=>simp at hi;subst hi;exact ⟨g3,g4⟩
     |succ i=>exact h3 i a (by simpa using hi)
   · cases i with
     |zero=>simp at hi;subst hi;rw [fK _ (fm (oC v))] at hb;cases hb
     |succ i=>exact h4 i a b (by simpa using hi) hb
def TO (P:Program) (n0:Nat) (rs:List ResultVar) (R:AV→AH→Prop) (x:Exit) (e:Env) (ah:AH):Prop:=
 (∃m,n0≤m∧GU P m rs R x e ah)∨((x= .normal∨x= .ret)∧match eT P e ah rs with
  |some vs=>R (fin vs) ah
  |none=>False)
theorem az.JA {f:Nat} {fn:Func} {c:Code} {ac:au} {args:List AV} {R:AV→AH→Prop} (L:List Nat) (hf:P.funcs[f]? =some fn) (hname:fn.name≠ "runtime.NumGoroutine") (hb:fn.body=some c)
 (hc:bh P c=some ac) (ho:mK fn.ntmps ac=true) (hN:args.length≤fn.ntmps)
 (h:jL ah.length ah→(∀a∈args,∀s o,a= .ptr s o→s<ah.length)→AX P L fn.ntmps ah.length ac (TO P ah.length fn.results.toList R) (dJ 0 args) ah):az P f args ah R:=by
 refine ⟨by simp [gF,hf,hb,hname],fun F γ C w vs hs=> ?_⟩
 have hlen:=hs.mem.len
 have hcl:jL ah.length ah:=by
  intro s cs Ez
  have hlt:s<γ.length:=by rw [hlen];exact (List.getElem?_eq_some_iff.1 Ez).1
  obtain ⟨us,ty, -,hsz,hcell⟩:=hs.mem.obj s _ cs Ez (List.getElem?_eq_getElem hlt)
  intro a ha
  obtain ⟨i,hi,rfl⟩:=List.getElem_of_mem ha
  rw [←hlen]
  exact (hcell i _ (List.getElem?_eq_getElem hi)).1.cl
 have hargs:∀a∈args,∀s o,a= .ptr s o→s<ah.length:=by
  intro a ha s o he
  obtain ⟨i,hi,rfl⟩:=List.getElem_of_mem ha
  have:=(hs.env i).1
  rw [c6] at this
  simp only [Nat.zero_le,if_true,Nat.sub_zero,List.getElem?_eq_getElem hi,Option.getD_some,he] at this
  obtain ⟨b,hb, -⟩:=this.fX
  rw [←hlen];exact (List.getElem?_eq_some_iff.1 hb).1
 have hU:=h hcl hargs
 have hW:AW P L fn.ntmps ah.length c (TO P ah.length fn.results.toList R) (dJ 0 args) ah:=hU c hc
 have hvs:vs.size=args.length:=hs.sz
 have hs2:SR L fn.ntmps F γ C (dJ 0 args) ah (vs++Array.replicate (fn.ntmps - vs.size) undef) w:=by
  have hg:∀t,t<vs.size→(vs++Array.replicate (fn.ntmps - vs.size) undef).getD t undef=vs.getD t undef:=by
   intro t ht;simp [Array.getD_eq_getD_getElem?,Array.getElem?_append,ht]
  have hx:∀t,¬t<vs.size→get (dJ 0 args) t= .un:=by
   intro t ht;rw [c6];simp only [Nat.zero_le,if_true,Nat.sub_zero];rw [List.getElem?_eq_none (by omega)];rfl
  have hbk:∀p b,blk γ (dJ 0 args) ah (vs++Array.replicate (fn.ntmps - vs.size) undef) w p b→blk γ (dJ 0 args) ah vs w p b:=by
   intro p b hp
   cases p with
   |obj s=>exact hp
   |cell s i=>exact hp
   |tmp t=>
    by_cases ht:t<vs.size
    · simp only [blk,hg t ht] at hp ⊢;exact hp
    · simp only [blk,hx t ht,bz] at hp;cases hp
  refine ⟨hs.mem,by simp;omega,fun t=> ?_,fun p q b hp hq=>hs.cX p q b (hbk p b hp) (hbk q b hq),fun p b hp=>hs.nf p b (hbk p b hp),hs.je,fun t l k xs htl=> ?_⟩
  · by_cases ht:t<vs.size
    · rw [hg t ht];exact hs.env t
    · rw [hx t ht];exact ⟨.un ..,by generalize (vs++Array.replicate (fn.ntmps - vs.size) undef).getD t undef=v;cases v<;>trivial⟩
  · by_cases ht:t<vs.size
    · have:=hs.fr t l k xs htl
      cases l with
      |tmp u=>have:=this.1;simp at this
      |cell s o=>intro cs a b h1 h2 h3 h4;rw [hg t ht];exact this cs a b h1 h2 h3 h4
    · rw [hx t ht] at htl;cases htl
 refine calls_of_wp hf hb (wp_mono (hW F γ C _ w hs2 (by omega)) ?_)
 rintro x ⟨ts',ds'⟩ w' ⟨rfl, -,e',ax,γ',C',UN,hγ,hs',XX⟩
 have hx:x= .normal∨x= .ret:=by
  rcases UN with ⟨m, -,h, -⟩|⟨h, -⟩<;>exact h
 obtain ⟨qU,GA⟩:∃qU,eT P e' ax fn.results.toList=some qU:=by
  rcases UN with ⟨m, -, -,h⟩|⟨-,h⟩
  · split at h
    · rename_i vs hv;exact ⟨vs,hv⟩
    · exact h.elim
  · split at h
    · rename_i vs hv;exact ⟨vs,hv⟩
    · exact h.elim
 obtain ⟨us,u1,u2,u3,u4,u5⟩:=R3 (P:=P) hs' _ _ GA
 have hres:(results fn ts').run P w'= .ok (if us.length=1 then us.getD 0 undef else .tuple us.toArray) w':=by
  unfold results
  rw [Array.mapM_eq_mapM_toList,map_eq_pure_bind]
  simp only [Sem.run_bind,Sem.run_pure]
  refine (congrArg (fun r=>Result.andThen (Result.andThen r fun (a:List Value) w'=> .ok a.toArray w') fun (a:Array Value) w'=> .ok (if h:a.size=1 then a[0] else Value.tuple a) w') u1).trans ?_
  simp only [Result.andThen_ok]
  by_cases h1:us.length=1
  · rw [if_pos h1]
    have:us.toArray.size=1:=by simpa using h1
    rw [dif_pos this]
    simp [List.getD_eq_getElem?_getD,h1]
  · rw [if_neg h1]
    have:¬us.toArray.size=1:=by simpa using h1
    rw [dif_neg this]
 generalize hv:(if us.length=1 then us.getD 0 undef else .tuple us.toArray)=v at hres
 have xw:VR C' γ' (fin qU) v∧TC w' C' (fin qU) v∧(∀b,bz (fin qU) v=some b→∃t,blk γ' e' ax ts' w' (.tmp t) b)∧∀l k xs,fin qU≠ .sl (.fr l) k xs:=by
  by_cases h1:us.length=1
  · rw [if_pos h1] at hv
    obtain ⟨a,rfl⟩:∃a,qU=[a]:=by
     cases qU with
     |nil=>rw [h1] at u2;simp at u2
     |cons a r=>cases r with
      |nil=>exact ⟨a,rfl⟩
      |cons b r=>rw [h1] at u2;simp at u2
    have h3:=u3 0 a rfl
    rw [hv] at h3
    refine ⟨(Wk.df a).vr h3.1,(Wk.df a).tc h3.2,fun b hb=>u4 0 a b rfl ?_,fun l k xs=>Gx a l k xs⟩
    rw [hv];exact (Wk.df a).own hb
  · rw [if_neg h1] at hv
    have hf:fin qU= .aW (qU.map AV.sh):=by
     cases qU with
     |nil=>rfl
     |cons a r=>cases r with
      |nil=>exact absurd (by simpa using u2) h1
      |cons b r=>rfl
    rw [hf]
    subst hv
    refine ⟨.aW _ _ _ (by simp [u2]) fun i a hi=> ?_,fun i a hi=> ?_,fun b hb=>by simp [bz] at hb,by simp⟩
    · rw [List.getElem?_map] at hi
      cases hq:qU[i]? with
      |none=>rw [hq] at hi;simp at hi
      |some y=>
       rw [hq] at hi
       obtain rfl:y.sh=a:=by simpa using hi
       have:=(Wk.sh y).vr (u3 i y hq).1
       rwa [←fo]
    · rw [List.getElem?_map] at hi
      cases hq:qU[i]? with
      |none=>rw [hq] at hi;simp at hi
      |some y=>
       rw [hq] at hi
       obtain rfl:y.sh=a:=by simpa using hi
       have h3:=(Wk.sh y).tc (u3 i y hq).2
       have h4:=(Wk.sh y).vr (u3 i y hq).1
       rw [←fo]
       show B6 y.sh (us.getD i undef)
       have h5:y.sh.dm=false:=by have:=u5 i y hq;cases y<;>first|rfl|cases this
       generalize us.getD i undef=u at h3 h4
       generalize hz:y.sh=z at h3 h4 h5
       cases z with
       |agg cs=>obtain ⟨vs,rfl, -⟩:=h4.ke;exact h3
       |aW cs=>cases h5
       |sl t k xs=>cases t<;>cases u<;>first|trivial|exact h3|(exfalso;cases y<;>simp [AV.sh,AV.bn] at hz;done)|skip
       |_=>cases u<;>trivial
 obtain ⟨m,hm,hrc,XY,aa2,hRR⟩:∃m,ah.length≤m∧Cl m (fin qU)∧jL m (ax.take m)∧m≤ax.length∧R (fin qU) (ax.take m):=by
  rcases UN with ⟨m,hm, -,h⟩|⟨-,h⟩
  · rw [GA] at h
    exact ⟨m,hm,h⟩
  · rw [GA] at h
    have hl:ax.take ax.length=ax:=List.take_length
    refine ⟨ax.length, ?_, ?_, ?_,Nat.le_refl _,by rw [hl];exact h⟩
    · rw [←hs'.mem.len]
      have:=hγ.length_le
      rw [←hlen,List.take_length] at this
      omega
    · rw [←hs'.mem.len];exact xw.1.cl
    · rw [hl]
      intro s cs Ez
      have hlt:s<γ'.length:=by rw [hs'.mem.len];exact (List.getElem?_eq_some_iff.1 Ez).1
      obtain ⟨us',ty', -,aa3,yE⟩:=hs'.mem.obj s _ cs Ez (List.getElem?_eq_getElem hlt)
      intro a ha
      obtain ⟨i,hi,rfl⟩:=List.getElem_of_mem ha
      rw [←hs'.mem.len]
      exact (yE i _ (List.getElem?_eq_getElem hi)).1.cl
 have hm0:ah.length≤m:=hm
 have hlen':=hs'.mem.len
 have hpre:γ <+: γ'.take m:=by
  rw [←hlen,List.take_length] at hγ
  obtain ⟨q,rfl⟩:=hγ
  rw [List.take_append]
  rw [List.take_of_length_le (l:=γ) (i:=m) (by omega)]
  exact List.prefix_append _ _
 have hbp:bodyPost P fn (fun en w'=>∃r v ax γ' C',en= .returned v∧R r ax∧γ <+: γ'∧SR [] 1 F γ' C' [(0,r)] ax #[v] w'∧Ext F C w C' w') x ⟨ts',[]⟩ w':=by
  have key:∃v',(results fn ts').run P w'= .ok v' w'∧∃r v ax γ' C',Ending.returned v'= .returned v∧R r ax∧γ <+: γ'∧SR [] 1 F γ' C' [(0,r)] ax #[v] w'∧Ext F C w C' w':=by
   refine ⟨v,hres,fin qU,v,ax.take m,γ'.take m,C',rfl,hRR,hpre, ?_,XX⟩
   have hgt:∀(s b:Nat),(γ'.take m)[s]? =some b→γ'[s]? =some b∧s<m:=by
    intro s b hsb
    by_cases xL:s<m
    · rw [List.getElem?_take_of_lt xL] at hsb;exact ⟨hsb,xL⟩
    · rw [List.getElem?_eq_none (by simp;omega)] at hsb;cases hsb
   have xM:∀(s:Nat) (cs:List AV),(ax.take m)[s]? =some cs→ax[s]? =some cs:=by
    intro s cs hsb
    by_cases xL:s<m
    · rwa [List.getElem?_take_of_lt xL] at hsb
    · rw [List.getElem?_eq_none (by simp;omega)] at hsb;cases hsb
   have hbk:∀p b,blk (γ'.take m) [(0,fin qU)] (ax.take m) #[v] w' p b→(∃t,p= .tmp 0∧blk γ' e' ax ts' w' (.tmp t) b)∨((∀t,p≠ .tmp t)∧blk γ' e' ax ts' w' p b):=by
    intro p b hp
    cases p with
    |obj s=>exact .inr ⟨by simp,(hgt s b hp).1⟩
    |cell s i=>
     obtain ⟨cs,a,b0,g1,g2,g3,g4⟩:=hp
     exact .inr ⟨by simp,cs,a,b0,xM s cs g1,g2,(hgt s b0 g3).1,g4⟩
    |tmp t=>
     simp only [blk,get] at hp
     by_cases ht:0=t
     · subst ht
       simp only [if_true] at hp
       obtain ⟨t,ht⟩:=xw.2.2.1 b hp
       exact .inl ⟨t,rfl,ht⟩
     · rw [if_neg ht] at hp;simp [bz] at hp
   refine ⟨⟨by simp [hlen'],fun s b cs g1 g2=> ?_,hs'.mem.qF,fun s b cs g1 g0 hsb=>hs'.mem.qc s b cs (xM s cs g1) g0 (hgt s b hsb).1,fun s b cs us ty fr g1 hsb hh=>hs'.mem.yO s b cs us ty fr (xM s cs g1) (hgt s b hsb).1 hh⟩,rfl,fun t=> ?_,fun p q b hp hq=> ?_,fun p b hp=> ?_,hs'.je,fun t l k xs htl=> ?_⟩
   · obtain ⟨vs,ty,q1,q2,q3⟩:=hs'.mem.obj s b cs (xM s cs g1) (hgt s b g2).1
     exact ⟨vs,ty,q1,q2,fun i a hi=>⟨(q3 i a hi).1.take (XY s cs g1 a (List.mem_of_getElem? hi)),(q3 i a hi).2⟩⟩
   · by_cases ht:0=t
     · subst ht
       simp only [get,if_true]
       exact ⟨xw.1.take hrc,xw.2.1⟩
     · simp only [get,if_neg ht]
       exact ⟨.un ..,by generalize (#[v]:Array Value).getD t undef=u;cases u<;>trivial⟩
   · rcases hbk p b hp with ⟨t,rfl,h1⟩|⟨h1,h2⟩<;>rcases hbk q b hq with ⟨u,rfl,h3⟩|⟨h3,h4⟩
     · rfl
     · exact absurd (hs'.cX _ _ b h1 h4) (fun e=>h3 t e.symm)
     · exact absurd (hs'.cX _ _ b h2 h3) (h1 u)
     · exact hs'.cX p q b h2 h4
   · rcases hbk p b hp with ⟨t,rfl,h1⟩|⟨h1,h2⟩
     · exact hs'.nf _ b h1
     · exact hs'.nf p b h2
   · by_cases ht:0=t
     · subst ht
       simp only [get,if_true] at htl
       exact absurd htl (xw.2.2.2 l k xs)
     · simp only [get,if_neg ht] at htl;cases htl
  rcases hx with rfl|rfl
  · exact ⟨rfl,key⟩
  · exact ⟨rfl,key⟩
 exact hbp
theorem AX.up {c:au} {Q Q':Exit→Env→AH→Prop} {e:Env} {ah:AH} {n0:Nat} (h:AX P L N n0 c Q e ah) (hq:∀x e ah,Q x e ah→Q' x e ah):AX P L N n0 c Q' e ah:=fun c' bL=>(h c' bL).mono hq
theorem az.enter {f:Nat} {fn:Func} {c:Code} {ac:au} {args:List AV} {R:AV→AH→Prop} (L:List Nat) (m:Nat) (hf:P.funcs[f]? =some fn) (hname:fn.name≠ "runtime.NumGoroutine") (hb:fn.body=some c)
 (hc:bh P c=some ac) (ho:mK fn.ntmps ac=true) (hN:args.length≤fn.ntmps) (hm:ah.length≤m)
 (h:jL ah.length ah→(∀a∈args,∀s o,a= .ptr s o→s<ah.length)→U P L fn.ntmps ah.length [.code ac] (GU P m fn.results.toList R) .normal (dJ 0 args) ah):az P f args ah R:=
 az.JA L hf hname hb hc ho hN fun h1 h2=>AX.up (fun c' bL=>lC c' ac _ _ _ (by rw [gG c ac hc];exact bL) (by rw [gG c ac hc];exact ho) (h h1 h2)) fun x e H hR=> .inl ⟨m,hm,hR⟩
end
end Go.Am
end
section
namespace Go.Am
open Go
variable [Tabs]
def bw (P:Program) (f N:Nat) (rs:List ResultVar) (ac:au):Prop:=
 ∃fn c,P.funcs[f]? =some fn∧fn.name≠ "runtime.NumGoroutine" ∧fn.body=some c∧bh P c=some ac∧fn.ntmps=N∧fn.results.toList=rs
theorem az.go {P:Program} {f N:Nat} {rs:List ResultVar} {ac:au} (hF:bw P f N rs ac) {args:List AV} {ah:AH} {R:AV→AH→Prop} (L:List Nat) (m:Nat)
 (ho:mK N ac=true) (hN:args.length≤N) (hm:ah.length≤m)
 (h:jL ah.length ah→(∀a∈args,∀s o,a= .ptr s o→s<ah.length)→U P L N ah.length [.code ac] (GU P m rs R) .normal (dJ 0 args) ah):az P f args ah R:=by
 obtain ⟨fn,c,h1,h2,h3,h4,rfl,rfl⟩:=hF
 exact az.enter L m h1 h2 h3 h4 ho hN hm h
section
variable {P:Program} {L:List Nat} {N n0:Nat} {e:Env} {ah:AH} {t:List It} {Q:Exit→Env→AH→Prop} {r:List aF} {d:Option Nat} {g:Option (Nat×Bool)}
def UO (want:Bool):AV→Option Bool
 | .bool b=>some (b==want)
 | .aW []=>some false
 |_=>none
theorem R4 {op:eA}:eR e ⟨d,op,none⟩=some true:=rfl
theorem R5 {op:eA} {x:Nat} {want:Bool}:eR e ⟨d,op,some (x,want)⟩=UO want (get e x):=by
 simp only [eR]
 cases get e x with
 |aW cs=>cases cs<;>rfl
 |_=>rfl
theorem R6 {want:Bool}:UO want (.aW [])=some false:=rfl
theorem KG {b want:Bool}:UO want (.bool b)=some (b==want):=rfl
theorem XZ {x:Ar}:UG P L N n0 ⟨d, .mv x,g⟩ r t Q e ah (some true)=U P L N n0 (It.ops r::t) Q Exit.normal (ay L e d (cp L x (ev e x))) ah:=rfl
def gQ (P:Program) (L:List Nat) (N n0:Nat) (e:Env) (ah:AH) (d:Option Nat) (r:List aF) (t:List It) (Q:Exit→Env→AH→Prop) (x:Ar):AV→Prop
 | .sl .own k xs=>match x with
   | .t y=>U P L N n0 (.ops r::t) Q .normal (ay L (put e y (.sl .n k xs)) d (.sl .own k xs)) ah
   | .c a=>U P L N n0 (.ops r::t) Q .normal (ay L e d (cp L (.c a) (.sl .own k xs))) ah
 |a=>U P L N n0 (.ops r::t) Q .normal (ay L e d (cp L x a)) ah
theorem UP {x:Ar}:UG P L N n0 ⟨d, .aT x,g⟩ r t Q e ah (some true)=gQ P L N n0 e ah d r t Q x (ev e x):=by
 simp only [UG,bg]
 cases h:ev e x with
 |sl tg k xs=>cases tg<;>cases x<;>rfl
 |_=>rfl
def GW (L:List Nat) (e:Env) (ah:AH) (d:Option Nat) (a b:Ar):AV→Option (Env×AH)
 | .bool t=>some (ay L e d (if t then (ev e a).sh else (ev e b).sh),ah)
 |_=>none
theorem R7 {c a b:Ar}:UG P L N n0 ⟨d, .pick c a b,g⟩ r t Q e ah (some true)=US P L N n0 r t Q (GW L e ah d a b (ev e c)):=by
 simp only [UG,bg];cases ev e c<;>rfl
theorem N9 {cs:List AV}:UG P L N n0 ⟨d, .alloc cs,g⟩ r t Q e ah (some true)=U P L N n0 (.ops r::t) Q .normal (ay L e d (.ptr ah.length 0)) (ah++[cs]):=rfl
theorem UQ {x:Ar}:UG P L N n0 ⟨d, .box x,g⟩ r t Q e ah (some true)=US P L N n0 r t Q (if bK (ev e x).cells then some (ay L e d (.ptr ah.length 0),ah++[(ev e x).cells.map AV.bn]) else none):=rfl
theorem Oa {z:List AV} {ps:List (Nat×Nat×Ar)}:UG P L N n0 ⟨d, .build z ps,g⟩ r t Q e ah (some true)=US P L N n0 r t Q ((fill e z ps).map fun cs=>(ay L e d (.agg cs),ah)):=rfl
theorem UR {k:Nat} {ps:List Ar}:UG P L N n0 ⟨d, .j9 k ps,g⟩ r t Q e ah (some true)=US P L N n0 r t Q (if ps.all (fun p=>(ev e p).cells.length=k&&bK (ev e p).cells&&eE (ev e p).cells) then some (ay L e d (.sl .ex k (ps.map fun p=>(ev e p).s0)),ah) else none):=rfl
theorem aaF {y:Nat} {bs:List UInt8}:UG P L N n0 ⟨d, .lit y bs,g⟩ r t Q e ah (some true)=U P L N n0 (It.ops r::t) Q Exit.normal (put (ay L e d (.sl .ex 1 (bs.map b8))) y .un) ah:=rfl
def Ob (L:List Nat) (e:Env) (ah:AH) (d:Option Nat):AV→Option (Env×AH)
 | .ptr s p=>some (ay L e d (.ptr s p),ah)
 | .ep a p=>some (ay L e d (.ep a p),ah)
 |_=>none
theorem UT {x:Ar}:UG P L N n0 ⟨d, .Ra x,g⟩ r t Q e ah (some true)=US P L N n0 r t Q (Ob L e ah d (ev e x)):=by
 simp only [UG,bg];cases ev e x<;>rfl
def Oc (L:List Nat) (e:Env) (ah:AH) (d:Option Nat) (q:Nat):AV→Option (Env×AH)
 | .ptr s p=>some (ay L e d (.ptr s (p+q)),ah)
 | .ep a p=>some (ay L e d (.ep a (p+q)),ah)
 |_=>none
theorem UU {x:Ar} {q:Nat}:UG P L N n0 ⟨d, .gY x q,g⟩ r t Q e ah (some true)=US P L N n0 r t Q (Oc L e ah d q (ev e x)):=by
 simp only [UG,bg];cases ev e x<;>rfl
theorem aao {x:Ar} {q:Nat} {n:Option Nat}:UG P L N n0 ⟨d, .By x q n,g⟩ r t Q e ah (some true)=US P L N n0 r t Q (bg L ⟨d, .By x q n,none⟩ e ah):=by simp only [UG,qQ L d _ g]
def R8 (L:List Nat) (d:Option Nat) (n:Option Nat) (s p:Nat) (e:Env) (ah:AH):Option (List AV)→Option (Env×AH)
 |some cs=>(ji n s p cs).map fun a=>(ay L e d a,ah)
 |none=>none
def KH (L:List Nat) (d:Option Nat) (e:Env) (ah:AH):Option AV→Option (Env×AH)
 |some c=>if c.flat then some (ay L e d c.s1,ah) else none
 |none=>none
def Ck (L:List Nat) (d:Option Nat) (n:Option Nat) (e:Env) (ah:AH):AV→Option (Env×AH)
 | .ptr s p=>R8 L d n s p e ah (ah[s]?)
 | .ep a p=>match n with
   |some n=>if p+n≤a.cells.length∧bU ((a.cells.drop p).take n) then some (ay L e d (.agg (((a.cells.drop p).take n).map AV.s1)),ah) else none
   |none=>KH L d e ah (a.cells[p]?)
 |_=>none
theorem X0 {x:Ar} {n:Option Nat}:UG P L N n0 ⟨d, .ld x n,g⟩ r t Q e ah (some true)=US P L N n0 r t Q (Ck L d n e ah (ev e x)):=by
 simp only [UG,bg]
 cases ev e x with
 |ptr s p=>simp only [Ck,R8];cases ah[s]? <;>rfl
 |ep a p=>cases n with
  |some n=>rfl
  |none=>simp only [Ck,KH];cases a.cells[p]? <;>rfl
 |_=>rfl
def mL (s o:Nat):Option AV→Option AV
 |some (.sl .own k xs)=>some (.sl (.fr (.cell s o)) k xs)
 |some a=>if a.flat then some a.bn else none
 |none=>none
theorem zg {s o:Nat} {cs:List AV}:ji none s o cs=mL s o (cs[o]?):=by
 simp only [ji,mL]
 cases cs[o]? with
 |none=>rfl
 |some a=>cases a with
  |sl t k xs=>cases t<;>rfl
  |_=>rfl
theorem zh {n s o:Nat} {cs:List AV}:ji (some n) s o cs=if o+n≤cs.length∧bU ((cs.drop o).take n) then some (.agg (((cs.drop o).take n).map AV.bn)) else none:=rfl
theorem aaG {x:Ar} {n:Option Nat}:UG P L N n0 ⟨d, .xH x n,g⟩ r t Q e ah (some true)=US P L N n0 r t Q (bg L ⟨d, .xH x n,none⟩ e ah):=by simp only [UG,qQ L d _ g]
theorem aa4 {a x:Ar} {n:Nat}:UG P L N n0 ⟨d, .st a x n,g⟩ r t Q e ah (some true)=US P L N n0 r t Q (bg L ⟨none, .st a x n,none⟩ e ah):=by simp only [UG,bg]
theorem UW {op:BinOp} {x y:Ar}:UG P L N n0 ⟨d, .bin op x y,g⟩ r t Q e ah (some true)=US P L N n0 r t Q ((aS op (ev e x) (ev e y)).map fun a=>(ay L e d a,ah)):=rfl
theorem X1 {neq:Bool} {x y:Ar}:UG P L N n0 ⟨d, .bq neq x y,g⟩ r t Q e ah (some true)=US P L N n0 r t Q ((Gs (ev e x) (ev e y)).map fun b=>(ay L e d (.bool (if neq then !b else b)),ah)):=rfl
theorem X2 {neq:Bool} {x y:Ar}:UG P L N n0 ⟨d, .pq neq x y,g⟩ r t Q e ah (some true)=US P L N n0 r t Q ((Gt (ev e x) (ev e y)).map fun b=>(ay L e d (.bool (if neq then !b else b)),ah)):=rfl
def TP (L:List Nat) (e:Env) (ah:AH) (d:Option Nat) (ks:List Pk) (neq:Bool):AV→AV→Option (Env×AH)
 | .agg zq, .agg bs=>(bO ks zq bs).map fun b=>(ay L e d (.bool (if neq then !b else b)),ah)
 |_,_=>none
theorem UY {ks:List Pk} {neq:Bool} {x y:Ar}:UG P L N n0 ⟨d, .seq ks neq x y,g⟩ r t Q e ah (some true)=US P L N n0 r t Q (TP L e ah d ks neq (ev e x) (ev e y)):=by
 simp only [UG,bg];cases ev e x<;>cases ev e y<;>rfl
theorem X3 {op:UnOp} {x:Ar}:UG P L N n0 ⟨d, .un op x,g⟩ r t Q e ah (some true)=US P L N n0 r t Q ((Gv op (ev e x)).map fun a=>(ay L e d a,ah)):=rfl
def JB (L:List Nat) (e:Env) (ah:AH) (d:Option Nat) (p n:Nat) (cs:List AV):Option (Env×AH):=
 if p+n≤cs.length then (bytesOf ((cs.drop p).take n)).map fun l=>(ay L e d (.str l),ah) else none
def Od (L:List Nat) (e:Env) (ah:AH) (d:Option Nat) (p n:Nat):Option (List AV)→Option (Env×AH)
 |some cs=>JB L e ah d p n cs
 |none=>none
def zi (L:List Nat) (e:Env) (ah:AH) (d:Option Nat) (h:Cv):AV→Option (Env×AH)
 | .b6 s k p n=>match h with
   | .bs=>if k=1 then Od L e ah d p n (ah[s]?) else none
   |h=>(dP h (.b6 s k p n)).map fun a=>(ay L e d a,ah)
 |a=>(dP h a).map fun a=>(ay L e d a,ah)
theorem UZ {h:Cv} {x:Ar}:UG P L N n0 ⟨d, .gU h x,g⟩ r t Q e ah (some true)=US P L N n0 r t Q (zi L e ah d h (ev e x)):=by
 simp only [UG,bg]
 congr 1
 cases ev e x with
 |b6 s k p n=>
  cases h with
  |bs=>
   simp only [zi]
   split
   · cases ah[s]? <;>rfl
   · rfl
  |_=>rfl
 |_=>cases h<;>rfl
theorem R9 {x:Ar}:UG P L N n0 ⟨d, .yJ x,g⟩ r t Q e ah (some true)=US P L N n0 r t Q ((dP .bs (ev e x)).map fun a=>(ay L e d a,ah)):=rfl
def Oe (L:List Nat) (e:Env) (ah:AH) (d:Option Nat):AV→Option (Env×AH)
 | .str l=>some (ay L e d (.b6 ah.length 1 0 l.length),ah++[l.map b8])
 |_=>none
theorem Sa {x:Ar}:UG P L N n0 ⟨d, .oz x,g⟩ r t Q e ah (some true)=US P L N n0 r t Q (Oe L e ah d (ev e x)):=by
 simp only [UG,bg];cases ev e x<;>rfl
theorem X4 {neq:Bool} {x y:Ar}:UG P L N n0 ⟨d, .iq neq x y,g⟩ r t Q e ah (some true)=US P L N n0 r t Q ((Gu (ev e x) (ev e y)).map fun b=>(ay L e d (.bool (if neq then !b else b)),ah)):=rfl
theorem X5 {mx:Bool} {x y:Ar}:UG P L N n0 ⟨d, .mm mx x y,g⟩ r t Q e ah (some true)=US P L N n0 r t Q ((D7 mx (ev e x) (ev e y)).map fun a=>(ay L e d a,ah)):=rfl
theorem U0 {f:Nat} {cs:List Ar}:UG P L N n0 ⟨d, .Rb f cs,g⟩ r t Q e ah (some true)=U P L N n0 (It.ops r::t) Q Exit.normal (ay L e d (.fn f (cs.map (ev e)))) ah:=rfl
def qd:AV→Option Nat
 | .int _ i=>if 0≤i then some i.toNat else none
 |_=>none
theorem aaH {dflt:Nat}:jK e dflt none=some dflt:=rfl
theorem Og {dflt:Nat} {x:Ar}:jK e dflt (some x)=qd (ev e x):=by
 simp only [jK];cases ev e x<;>rfl
def JC (L:List Nat) (e:Env) (ah:AH) (d:Option Nat) (l:List UInt8):Option Nat→Option Nat→Option (Env×AH)
 |some i,some j=>if i≤j∧j≤l.length then some (ay L e d (.str ((l.take j).drop i)),ah) else none
 |_,_=>none
def JD (L:List Nat) (e:Env) (ah:AH) (d:Option Nat) (lo hi:Option Ar):AV→Option (Env×AH)
 | .str l=>JC L e ah d l (jK e 0 lo) (jK e l.length hi)
 |_=>none
theorem U1 {x:Ar} {lo hi:Option Ar}:UG P L N n0 ⟨d, .AD x lo hi,g⟩ r t Q e ah (some true)=US P L N n0 r t Q (JD L e ah d lo hi (ev e x)):=by
 simp only [UG,bg]
 cases ev e x with
 |str l=>simp only [JD,JC];cases jK e 0 lo<;>cases jK e l.length hi<;>rfl
 |_=>rfl
def JE (L:List Nat) (e:Env) (ah:AH) (d:Option Nat) (k k':Nat) (xs:List AV):Option Nat→Option Nat→Option (Env×AH)
 |some i,some j=>if k'=k∧i≤j∧j≤xs.length then some (ay L e d (.sl .n k ((xs.take j).drop i)),ah) else none
 |_,_=>none
def JF (L:List Nat) (e:Env) (ah:AH) (d:Option Nat) (k:Nat) (lo hi:Option Ar):AV→Option (Env×AH)
 | .sl _ k' xs=>JE L e ah d k k' xs (jK e 0 lo) (jK e xs.length hi)
 |_=>none
theorem U2 {k:Nat} {x:Ar} {lo hi:Option Ar}:UG P L N n0 ⟨d, .slc k x lo hi none,g⟩ r t Q e ah (some true)=US P L N n0 r t Q (JF L e ah d k lo hi (ev e x)):=by
 simp only [UG,bg]
 cases ev e x with
 |sl t k' xs=>simp only [JF,JE];cases jK e 0 lo<;>cases jK e xs.length hi<;>rfl
 |_=>rfl
def Cm (L:List Nat) (e:Env) (ah:AH) (d:Option Nat) (k k':Nat) (xs:List AV):Option Nat→Option Nat→Option Nat→Option (Env×AH)
 |some i,some j,some m=>if k'=k∧i≤j∧j=m∧m≤xs.length then some (ay L e d (.sl .ex k ((xs.take j).drop i)),ah) else none
 |_,_,_=>none
def Cn (L:List Nat) (e:Env) (ah:AH) (d:Option Nat) (k:Nat) (lo:Option Ar) (hi m:Ar):AV→Option (Env×AH)
 | .sl _ k' xs=>Cm L e ah d k k' xs (jK e 0 lo) (jK e xs.length (some hi)) (jK e 0 (some m))
 |_=>none
theorem Sb {k:Nat} {x:Ar} {lo:Option Ar} {hi m:Ar}:UG P L N n0 ⟨d, .slc k x lo (some hi) (some m),g⟩ r t Q e ah (some true)=US P L N n0 r t Q (Cn L e ah d k lo hi m (ev e x)):=by
 simp only [UG,bg]
 cases ev e x with
 |sl t k' xs=>
  simp only [Cn,Cm]
  cases jK e 0 lo with
  |none=>rfl
  |some i=>
   cases jK e xs.length (some hi) with
   |none=>rfl
   |some j=>
    simp only [Option.isNone_some,Bool.false_eq_true,if_false]
    cases jK e 0 (some m)<;>rfl
 |_=>rfl
def JG (L:List Nat) (e:Env) (ah:AH) (d:Option Nat) (k k':Nat):Option AV→Option (Env×AH)
 |some a=>if k'=k then some (ay L e d (.ep a 0),ah) else none
 |none=>none
def uE (L:List Nat) (e:Env) (ah:AH) (d:Option Nat) (k:Nat):AV→AV→Option (Env×AH)
 | .sl _ k' xs, .int _ i=>if 0≤i then JG L e ah d k k' (xs[i.toNat]?) else none
 | .b6 s k' p n, .int _ i=>if 0≤i∧i<n∧k'=k then some (ay L e d (.ptr s (p+i.toNat*k)),ah) else none
 | .bM s k' n _, .int _ i=>if 0≤i∧i<n∧k'=k then some (ay L e d (.ptr s (i.toNat*k)),ah) else none
 |_,_=>none
def EA (L:List Nat) (e:Env) (ah:AH) (d:Option Nat) (k m:Nat):AV→AV→Option (Env×AH)
 | .ptr s p, .int _ i=>if 0≤i∧i<m then some (ay L e d (.ptr s (p+i.toNat*k)),ah) else none
 | .ep a p, .int _ i=>if 0≤i∧i<m then some (ay L e d (.ep a (p+i.toNat*k)),ah) else none
 |_,_=>none
theorem U3 {k m:Nat} {x i:Ar}:UG P L N n0 ⟨d, .Nf k m x i,g⟩ r t Q e ah (some true)=US P L N n0 r t Q (EA L e ah d k m (ev e x) (ev e i)):=by
 simp only [UG,bg]
 cases ev e x with
 |ptr s p=>cases ev e i<;>rfl
 |ep a p=>cases ev e i<;>rfl
 |_=>cases ev e i<;>rfl
def JH (L:List Nat) (e:Env) (ah:AH) (d:Option Nat) (u k:Nat) (xs:List AV):AV→Option (Env×AH)
 | .sl .own k2 zs=>if k2=k then some (ay L (put e u (.sl .n k2 zs)) d (.sl .own k xs),ah) else none
 |_=>none
def EB (L:List Nat) (e:Env) (ah:AH) (d:Option Nat) (k:Nat):AV→Option (Env×AH)
 | .sl .ex k' []=>if k'=k then some (ay L e d (.bM 0 k 0 0),ah) else none
 | .bM s k' n c=>some (ay L e d (.bM s k' n c),ah)
 | .sl (.fr (.tmp u)) k' xs=>JH L e ah d u k' xs (get e u)
 |_=>none
theorem U4 {k:Nat} {x:Ar}:UG P L N n0 ⟨d, .th k x,g⟩ r t Q e ah (some true)=US P L N n0 r t Q (EB L e ah d k (ev e x)):=by
 simp only [UG,bg]
 cases ev e x with
 |sl t k' xs=>cases t<;>cases xs<;>rfl
 |_=>rfl
theorem U5 {k:Nat} {x i:Ar}:UG P L N n0 ⟨d, .lF k x i,g⟩ r t Q e ah (some true)=US P L N n0 r t Q (uE L e ah d k (ev e x) (ev e i)):=by
 simp only [UG,bg]
 cases ev e x with
 |sl t k' xs=>cases ev e i with
  |int ki n=>simp only [uE,JG];cases xs[n.toNat]? <;>rfl
  |_=>rfl
 |b6 s k' p n=>cases ev e i<;>rfl
 |bM s k' n c=>cases ev e i<;>rfl
 |_=>cases ev e i<;>rfl
def Oh (L:List Nat) (e:Env) (ah:AH) (d:Option Nat):Option UInt8→Option (Env×AH)
 |some c=>some (ay L e d (b8 c),ah)
 |none=>none
def EC (L:List Nat) (e:Env) (ah:AH) (d:Option Nat):AV→AV→Option (Env×AH)
 | .str l, .int _ i=>if 0≤i then Oh L e ah d (l[i.toNat]?) else none
 |_,_=>none
theorem U6 {x i:Ar}:UG P L N n0 ⟨d, .ixs x i,g⟩ r t Q e ah (some true)=US P L N n0 r t Q (EC L e ah d (ev e x) (ev e i)):=by
 simp only [UG,bg]
 cases ev e x with
 |str l=>cases ev e i with
  |int ki n=>simp only [EC,Oh];cases l[n.toNat]? <;>rfl
  |_=>rfl
 |_=>cases ev e i<;>rfl
theorem aap {l:List UInt8} {i j:Nat}:JC L e ah d l (some i) (some j)=if i≤j∧j≤l.length then some (ay L e d (.str ((l.take j).drop i)),ah) else none:=rfl
theorem aaq {k k' i j:Nat} {xs:List AV}:JE L e ah d k k' xs (some i) (some j)=if k'=k∧i≤j∧j≤xs.length then some (ay L e d (.sl .n k ((xs.take j).drop i)),ah) else none:=rfl
theorem X6 {k k' i j m:Nat} {xs:List AV}:Cm L e ah d k k' xs (some i) (some j) (some m)=if k'=k∧i≤j∧j=m∧m≤xs.length then some (ay L e d (.sl .ex k ((xs.take j).drop i)),ah) else none:=rfl
theorem aar {k k':Nat} {a:AV}:JG L e ah d k k' (some a)=if k'=k then some (ay L e d (.ep a 0),ah) else none:=rfl
theorem aas {c:UInt8}:Oh L e ah d (some c)=some (ay L e d (b8 c),ah):=rfl
theorem U7 {n:Option Nat} {s p:Nat} {cs:List AV}:R8 L d n s p e ah (some cs)=(ji n s p cs).map fun a=>(ay L e d a,ah):=rfl
theorem U8 {c:AV}:KH L d e ah (some c)=if c.flat then some (ay L e d c.s1,ah) else none:=rfl
theorem aat {α:Type} {c:Prop} [Decidable c] {x:Option α} (h:c):(if c then x else none)=x:=by rw [if_pos h]
theorem X7 {α:Type} {c:Prop} [Decidable c] {x:Option α} (h:¬c):(if c then none else x)=x:=by rw [if_neg h]
theorem aaI {x:Ar} {i:Nat}:UG P L N n0 ⟨d, .ext x i,g⟩ r t Q e ah (some true)=US P L N n0 r t Q (bg L ⟨d, .ext x i,none⟩ e ah):=by simp only [UG,qQ L d _ g]
theorem aaJ {x:Ar}:UG P L N n0 ⟨d, .len x,g⟩ r t Q e ah (some true)=US P L N n0 r t Q (bg L ⟨d, .len x,none⟩ e ah):=by simp only [UG,qQ L d _ g]
theorem aau {x:Ar}:UG P L N n0 ⟨d, .lens x,g⟩ r t Q e ah (some true)=US P L N n0 r t Q (bg L ⟨d, .lens x,none⟩ e ah):=by simp only [UG,qQ L d _ g]
def Oi (L:List Nat) (e:Env) (ah:AH) (d:Option Nat) (k b:Nat) (x:Ar):AV→Option (Env×AH)
 | .sl _ k' ys=>if k'=k then sM L e ah d k b x ys else none
 |_=>none
theorem U9 {k b:Nat} {x y:Ar}:UG P L N n0 ⟨d, .app k b x y,g⟩ r t Q e ah (some true)=US P L N n0 r t Q (Oi L e ah d k b x (ev e y)):=by
 simp only [UG,bg];cases ev e y<;>rfl
def Oj (L:List Nat) (e:Env) (ah:AH) (d:Option Nat) (b:Nat) (x:Ar):AV→Option (Env×AH)
 | .str l=>sM L e ah d 1 b x (l.map b8)
 |_=>none
theorem Sc {b:Nat} {x y:Ar}:UG P L N n0 ⟨d, .apps b x y,g⟩ r t Q e ah (some true)=US P L N n0 r t Q (Oj L e ah d b x (ev e y)):=by
 simp only [UG,bg];cases ev e y<;>rfl
theorem Sd {f:Ar} {zq:List Ar}:UG P L N n0 ⟨d, .call f zq,g⟩ r t Q e ah (some true)=UF P L N n0 zq d r t Q e ah (ev e f):=rfl
theorem X8 {o:aF} {b:Bool}:UG P L N n0 o r t Q e ah (some b)=if b then (UG P L N n0 o r t Q e ah (some true)) else U P L N n0 (.ops r::t) Q .normal (lO e o.d) ah:=by
 cases b<;>rfl
theorem Xd {o:aF} {b:Bool} (h1:b=true→UG P L N n0 o r t Q e ah (some true)) (h2:b=false→U P L N n0 (.ops r::t) Q .normal (lO e o.d) ah):UG P L N n0 o r t Q e ah (some b):=by
 cases b
 · exact h2 rfl
 · exact h1 rfl
end
end Go.Am
namespace Go.Am
open Go
variable [Tabs]
theorem jL.set {n:Nat} {ah:AH} (h:jL n ah) {s:Nat} {cs:List AV} (hc:∀a∈cs,Cl n a):jL n (ah.set s cs):=by
 intro t ds ht a ha
 rw [List.getElem?_set] at ht
 split at ht
 · split at ht
   · injection ht with ht;subst ht;exact hc a ha
   · cases ht
 · exact h t ds ht a ha
theorem GU.old {P:Program} {n:Nat} {rs:List ResultVar} {R:AV→AH→Prop} {x:Exit} {e:Env} {ah:AH} {vs:List AV} (hx:x= .normal∨x= .ret) (hr:eT P e ah rs=some vs)
 (hc:Cl n (fin vs)) (hh:jL n ah) (hn:ah.length=n) (h:R (fin vs) ah):GU P n rs R x e ah:=by
 refine ⟨hx, ?_⟩
 rw [hr]
 have:ah.take n=ah:=List.take_of_length_le (by omega)
 simp only [this]
 exact ⟨hc,hh,by omega,h⟩
theorem w64 {n:Int} (h1: -9223372036854775808≤n) (h2:n≤9223372036854775807):IntKind.wrap .i64 n=n:=by
 simp only [IntKind.wrap,IntKind.bits,IntKind.signed,Bool.true_and,decide_eq_true_eq,Int.reducePow,Nat.reduceSub,ge_iff_le]
 split<;>omega
theorem w8 {n:Int} (h1:0≤n) (h2:n≤255):IntKind.wrap .u8 n=n:=by
 simp only [IntKind.wrap,IntKind.bits,IntKind.signed,Bool.false_and,if_false,Bool.false_eq_true]
 omega
theorem TQ {j:Nat}:((j:Int)+1).toNat=j+1:=by omega
theorem aaK {P:Program} {L:List Nat} {N n0:Nat} {t:List It} {Q:Exit→Env→AH→Prop} {r:List aF} {c:Prop} [Decidable c] {x:Option (Env×AH)} (h:c):
 US P L N n0 r t Q (if c then x else none)=US P L N n0 r t Q x:=by rw [if_pos h]
theorem map_if {α β:Type} {f:α→β} {c:Prop} [Decidable c] {x:Option α} (h:c):Option.map f (if c then x else none)=Option.map f x:=by rw [if_pos h]
theorem ED {L:List Nat} {d:Option Nat} {k b:Nat} {x y:Ar} {e:Env} {ah:AH} {K K':Env→AH→Prop} (h:lG L d k b x y e ah K) (hk:∀e ah,K e ah→K' e ah):lG L d k b x y e ah K':=by
 unfold lG at h ⊢
 split at h
 · obtain ⟨h1,h2,h3,h4,h5,h6⟩:=h
   refine ⟨h1,h2,h3,h4,h5, ?_⟩
   rcases h6 with ⟨g1,g2,g3⟩|⟨cs,g1,g2,g3,g4,g5,g6,g7⟩
   · exact .inl ⟨g1,g2,fun c hc=>hk _ _ (g3 c hc)⟩
   · exact .inr ⟨cs,g1,g2,g3,g4,g5,fun h=>hk _ _ (g6 h),fun h c hc=>hk _ _ (g7 h c hc)⟩
 · exact h
theorem KI {L:List Nat} {d:Option Nat} {n:Bool} {x:Ar} {e:Env} {ah:AH} {K K':Env→AH→Prop} (h:yK L d n x e ah K) (hk:∀e ah,K e ah→K' e ah):yK L d n x e ah K':=by
 unfold yK at h ⊢
 split at h
 · exact ⟨fun h0 b=>hk _ _ (h.1 h0 b),fun h0=>hk _ _ (h.2 h0)⟩
 · exact h
theorem GX {P:Program} {L:List Nat}:∀(l:List aF) {K K':Env→AH→Prop} {e:Env} {ah:AH},cY P L l e ah K→(∀e ah,K e ah→K' e ah)→cY P L l e ah K':=by
 intro l
 induction l with
 |nil=>intro K K' e ah h hk;exact hk _ _ h
 |cons o r ih=>
  intro K K' e ah h hk
  simp only [cY] at h ⊢
  split at h
  · rename_i hg
    obtain ⟨d,op,g⟩:=o
    cases op with
    |call f zq=>
     simp only [uC] at h ⊢
     split at h
     · exact ⟨h.1,h.2.mono fun v ax h=>ih h hk⟩
     · exact h
    |jh k b x y=>
     have h':lG L d k b x y e ah (fun e ah=>cY P L r e ah K):=h
     exact ED h' fun e ah h=>ih h hk
    |nq n x=>
     have h':yK L d n x e ah (fun e ah=>cY P L r e ah K):=h
     exact KI h' fun e ah h=>ih h hk
    |_=>
     simp only [uC] at h ⊢
     split at h
     · exact ih h hk
     · exact h
  · exact ih h hk
  · exact h
theorem EE {P:Program} {L:List Nat} {N n0:Nat}:∀(c:au) {Q Q':Exit→Env→AH→Prop} {e:Env} {ah:AH},gW P L N n0 c Q e ah→(∀x e ah,Q x e ah→Q' x e ah)→gW P L N n0 c Q' e ah:=by
 intro c
 induction c with
 |skip=>intro Q Q' e ah h hq;exact hq _ _ _ h
 |ret=>intro Q Q' e ah h hq;exact hq _ _ _ h
 |exit i=>intro Q Q' e ah h hq;exact hq _ _ _ h
 |rg ops=>intro Q Q' e ah h hq;exact GX ops h fun e ah h=>hq _ _ _ h
 |seq a b ze zf=>
  intro Q Q' e ah h hq
  refine ze h fun x e ah h=> ?_
  cases x with
  |normal=>exact zf h hq
  |_=>exact hq _ _ _ h
 |cond c a b ze zf=>
  intro Q Q' e ah h hq
  simp only [gW] at h ⊢
  split at h
  · split at h
    · rename_i h1;rw [if_pos h1];exact ze h hq
    · rename_i h1;rw [if_neg h1];exact zf h hq
  · exact h.elim
 |blk i c ih=>
  intro Q Q' e ah h hq
  refine ih h fun x e ah h=> ?_
  cases x with
  |exit j=>
   simp only at h ⊢
   split at h
   · rename_i h1;rw [if_pos h1];exact hq _ _ _ h
   · rename_i h1;rw [if_neg h1];exact hq _ _ _ h
  |_=>exact hq _ _ _ h
 |loop c ih=>
  intro Q Q' e ah h hq
  exact fun c' bL=>(h c' bL).mono hq
 |sem c ih=>
  intro Q Q' e ah h hq
  exact fun c' bL=>(h c' bL).mono hq
theorem Se {P:Program} {L:List Nat} {N n0:Nat} {c:au} {Q Q':Exit→Env→AH→Prop} {e:Env} {ah:AH} (h:U P L N n0 [.code c] Q .normal e ah) (hq:∀x e ah,Q x e ah→Q' x e ah):U P L N n0 [.code c] Q' .normal e ah:=
 EE c h hq
theorem Ok {e e2:Env} (h:∀p∈e2,p.2= .un∨Am.get e p.1=p.2∨∃t k xs,Am.get e p.1= .sl t k xs∧p.2= .sl .n k xs):∀t,Wk (Am.get e t) (Am.get e2 t):=by
 intro t
 have key:∀e2:Env,Am.get e2 t= .un∨∃p∈e2,p.1=t∧Am.get e2 t=p.2:=by
  intro e2
  induction e2 with
  |nil=>exact .inl rfl
  |cons p r ih=>
   obtain ⟨i,a⟩:=p
   simp only [Am.get]
   split
   · rename_i h;exact .inr ⟨(i,a),by simp,h,rfl⟩
   · rcases ih with h|⟨p,hp,h1,h2⟩
     · exact .inl h
     · exact .inr ⟨p,List.mem_cons_of_mem _ hp,h1,h2⟩
 rcases key e2 with h0|⟨p,hp,rfl,h2⟩
 · rw [h0];exact .un _
 · rw [h2]
   rcases h p hp with h3|h3|⟨tg,k,xs,h3,h4⟩
   · rw [h3];exact .un _
   · rw [h3];exact .same _
   · rw [h3,h4];exact .n ..
def v8 (e e2:Env):Prop:=∀p∈e2,p.2= .un∨Am.get e p.1=p.2∨∃t k xs,Am.get e p.1= .sl t k xs∧p.2= .sl .n k xs
theorem KJ {P:Program} {L:List Nat} {N n0:Nat} {e:Env} {ah:AH} {t:List It} {Q:Exit→Env→AH→Prop} {c:au} (J:Nat→Env→AH→Prop) (k0:Nat) (e0:Env) (ho:mK N c=true)
 (hw:∀p∈e0,p.2= .un∨Am.get e p.1=p.2∨∃t k xs,Am.get e p.1= .sl t k xs∧p.2= .sl .n k xs) (h0:J k0 e0 ah)
 (round:∀k e ah,J k e ah→U P L N n0 [.code c] (fun x e' ax=>match x with
  | .normal=>∃k' e2,k'<k∧(∀p∈e2,p.2= .un∨Am.get e' p.1=p.2∨∃t k xs,Am.get e' p.1= .sl t k xs∧p.2= .sl .n k xs)∧J k' e2 ax
  |x=>U P L N n0 t Q x e' ax) .normal e ah):
 UX P L N n0 (.loop c) t Q e ah:=by
 intro c'
 induction c' with
 |loop c0 _=>
  intro bL
  simp only [bh,Option.map_eq_some_iff] at bL
  obtain ⟨a,ha,he⟩:=bL
  injection he with he
  subst he
  refine AW.loop (fun k e ah=>∃e1,(∀t,Wk (Am.get e t) (Am.get e1 t))∧J k e1 ah) (k0:=k0) ?_ ⟨e0,Ok hw,h0⟩
  rintro k e ah ⟨e1,hw1,hJ⟩
  refine AW.weak hw1 (lC c0 a _ e1 ah (by rw [gG c0 a ha];exact ha) (by rw [gG c0 a ha];exact ho) ?_)
  have:=round k e1 ah hJ
  refine Se this fun x e' ax h=> ?_
  cases x with
  |normal=>obtain ⟨k',e2,h1,h2,h3⟩:=h;exact ⟨k',h1,e2,Ok h2,h3⟩
  |_=>exact h
 |scope c0 ih=>exact fun bL=>AW.scope (ih bL)
 |region id ops draw=>intro bL;simp only [bh] at bL;repeat' (split at bL)<;>simp at bL
 |block i c0=>intro bL;simp only [bh,Option.map_eq_some_iff] at bL;obtain ⟨a, -,h⟩:=bL;cases h
 |seq a b=>intro bL;simp only [bh] at bL;split at bL<;>simp at bL
 |cond a b c=>intro bL;simp only [bh] at bL;split at bL<;>simp at bL
 |_=>intro bL;simp [bh] at bL
theorem Xe {P:Program} {L:List Nat} {N n0:Nat} {e:Env} {ah:AH} {t:List It} {Q:Exit→Env→AH→Prop} {c:au} (J:Nat→Env→AH→Prop) (k0:Nat) (e0:Env) (ho:mK N c=true)
 (hw:v8 e e0) (h0:J k0 e0 ah)
 (round:∀(K:Exit→Env→AH→Prop) k e ah,J k e ah→(∀k' e' e2 ax,k'<k→v8 e' e2→J k' e2 ax→K .normal e' ax)→(∀e' ax,U P L N n0 t Q .ret e' ax→K .ret e' ax)→
  (∀i e' ax,U P L N n0 t Q (.exit i) e' ax→K (.exit i) e' ax)→U P L N n0 [.code c] K .normal e ah):UX P L N n0 (.loop c) t Q e ah:=
 KJ J k0 e0 ho hw h0 fun k e ah hJ=>round _ k e ah hJ (fun k' e' e2 ax h1 h2 h3=>⟨k',e2,h1,h2,h3⟩) (fun _ _ h=>h) (fun _ _ _ h=>h)
theorem v8.nil {e:Env}:v8 e []:=by intro p hp;cases hp
theorem v8.same {e r:Env} {i:Nat} {a:AV} (h:Am.get e i=a) (hr:v8 e r):v8 e ((i,a)::r):=by
 intro p hp
 rcases List.mem_cons.1 hp with rfl|hp
 · exact .inr (.inl h)
 · exact hr p hp
theorem v8.un {e r:Env} {i:Nat} (hr:v8 e r):v8 e ((i, .un)::r):=by
 intro p hp
 rcases List.mem_cons.1 hp with rfl|hp
 · exact .inl rfl
 · exact hr p hp
theorem v8.sl {e r:Env} {i k:Nat} {tg:Tg} {xs:List AV} (h:Am.get e i= .sl tg k xs) (hr:v8 e r):v8 e ((i, .sl .n k xs)::r):=by
 intro p hp
 rcases List.mem_cons.1 hp with rfl|hp
 · exact .inr (.inr ⟨_,_,_,h,rfl⟩)
 · exact hr p hp
theorem az.weak {P:Program} {f:Nat} {args args':List AV} {ah:AH} {R:AV→AH→Prop} (hl:args'.length=args.length) (hw:∀(i:Nat) (a a':AV),args[i]? =some a→args'[i]? =some a'→Wk a a') (h:az P f args' ah R):
 az P f args ah R:=by
 refine ⟨h.1,fun F γ C w vs hs=>h.2 F γ C w vs ?_⟩
 rw [hl]
 refine hs.wk fun t=> ?_
 rw [c6,c6]
 simp only [Nat.zero_le,if_true,Nat.sub_zero]
 cases h1:args[t]? with
 |none=>
  have:args'[t]? =none:=by
   rw [List.getElem?_eq_none_iff] at h1 ⊢
   omega
  rw [this];exact .same _
 |some a=>
  have hlt:t<args'.length:=by rw [hl];exact (List.getElem?_eq_some_iff.1 h1).1
  rw [List.getElem?_eq_getElem hlt]
  exact hw t a _ h1 (List.getElem?_eq_getElem hlt)
theorem EG:∀l:List UInt8,bytesOf (l.map b8)=some l:=by
 intro l
 induction l with
 |nil=>rfl
 |cons c r ih=>
  simp only [List.map_cons,b8,bytesOf]
  rw [ih]
  simp
theorem KK {ah:AH} {i:Nat} {x:List AV} (h:ah[i]? =some x):ah.set i x=ah:=by
 have hlt:=(List.getElem?_eq_some_iff.1 h).1
 apply List.ext_getElem?
 intro j
 rw [List.getElem?_set]
 split
 · rename_i hj;subst hj;simp only [h,ite_eq_left_iff];try exact fun h0=>absurd hlt h0
 · rfl
theorem GU.new {P:Program} {n:Nat} {rs:List ResultVar} {R:AV→AH→Prop} {x:Exit} {e:Env} {ah ax:AH} {vs:List AV} (hx:x= .normal∨x= .ret) (hr:eT P e ah rs=some vs) (ht:ah.take n=ax)
 (hc:Cl n (fin vs)) (hh:jL n ax) (hn:n≤ah.length) (h:R (fin vs) ax):GU P n rs R x e ah:=by
 refine ⟨hx, ?_⟩
 rw [hr]
 simp only [ht]
 exact ⟨hc,hh,hn,h⟩
theorem we {P:Program} {e:Env} {ah:AH}:eT P e ah []=some []:=rfl
theorem rV {P:Program} {e:Env} {ah:AH} {t:Nat} {rs:List ResultVar} {a:AV} {vs:List AV} (h:Am.get e t=a) (ht:a.dm=false) (hr:eT P e ah rs=some vs):eT P e ah (.tmp t::rs)=some (a::vs):=by
 subst h
 simp only [eT,ht,hr,Bool.false_eq_true,if_false]
theorem zj {P:Program} {e:Env} {ah:AH} {a:Nat} {ty:TypeId} {n:Option Nat} {rs:List ResultVar} {s o:Nat} {cs vs:List AV} {v:AV} (ht:tok P ty=true) (hn:tn P ty=n) (h:Am.get e a= .ptr s o) (hs:ah[s]? =some cs)
 (hl:ji n s o cs=some v) (hr:eT P e ah rs=some vs):eT P e ah (.cell a ty::rs)=some (v.sh::vs):=by
 subst hn
 simp only [eT,ht,if_true,h,hs,hl,hr]
theorem az.wkR {P:Program} {f:Nat} {args:List AV} {ah:AH} {R R':AV→AH→Prop} (h:az P f args ah R) (hr:∀r ax,R r ax→∃r',Wk r r'∧R' r' ax):az P f args ah R':=by
 refine ⟨h.1,fun F γ C w vs hs=>(h.2 F γ C w vs hs).mono ?_⟩
 rintro en w' ⟨r,v,ax,γ',C',rfl,h1,h2,h3,h4⟩
 obtain ⟨r',g1,g2⟩:=hr r ax h1
 refine ⟨r',v,ax,γ',C',rfl,g2,h2,h3.wk fun t=> ?_,h4⟩
 simp only [Am.get]
 split
 · exact g1
 · exact .same _
theorem Cl.up {n:Nat} {a:AV} (h:Cl n a) {m:Nat} (hm:n≤m):Cl m a:=by
 induction h with
 |ptr s o hs=>exact .ptr _ _ (by omega)
 |fn f cs _ ih=>exact .fn _ _ fun a ha=>ih a ha
 |agg cs _ ih=>exact .agg _ fun a ha=>ih a ha
 |aW cs _ ih=>exact .aW _ fun a ha=>ih a ha
 |v=>exact .v _
 |int=>exact .int ..
 |bool=>exact .bool _
 |str=>exact .str _
 |sl=>exact .sl ..
 |ep=>exact .ep ..
 |b6 s k o n hs=>exact .b6 _ _ _ _ (by omega)
 |nc=>exact .nc ..
 |bM s k o n hs=>exact .bM _ _ _ _ (by omega)
 |cH=>exact .cH
 |un=>exact .un
theorem jL.up {n m:Nat} {ah:AH} (h:jL n ah) (hm:n≤m):jL m ah:=fun s cs hs a ha=>(h s cs hs a ha).up hm
theorem jL.app {n:Nat} {ah oD:AH} (h:jL n ah) (h2:jL n oD):jL n (ah++oD):=by
 intro s cs hs a ha
 rw [List.getElem?_append] at hs
 split at hs
 · exact h s cs hs a ha
 · exact h2 _ cs hs a ha
theorem jL.one {n:Nat} {cs:List AV} (h:∀a∈cs,Cl n a):jL n [cs]:=by
 intro s ds hs a ha
 rcases s with _|s
 · simp at hs;subst hs;exact h a ha
 · simp at hs
end Go.Am
end
section
namespace Go.Am
open Go
variable [Tabs]
def W1 (a a':AV):Prop:=a'=a∨∃t k xs,a= .sl t k xs∧a'= .sl .n k xs
def gH:List AV→List AV→Prop
 |[],[]=>True
 |a::r,a'::r'=>W1 a a'∧gH r r'
 |_,_=>False
theorem gH.len:∀ {cs cs':List AV},gH cs cs'→cs'.length=cs.length:=by
 intro cs
 induction cs with
 |nil=>intro cs' h;cases cs' with|nil=>rfl|cons=>exact h.elim
 |cons a r ih=>intro cs' h;cases cs' with|nil=>exact h.elim|cons a' r'=>simp [ih h.2]
theorem gH.get:∀ {cs cs':List AV},gH cs cs'→∀(i:Nat) (a a':AV),cs[i]? =some a→cs'[i]? =some a'→W1 a a':=by
 intro cs
 induction cs with
 |nil=>intro cs' _ i a a' h;simp at h
 |cons a r ih=>
  intro cs' h i b b' h1 h2
  cases cs' with
  |nil=>exact h.elim
  |cons a' r'=>
   rcases i with _|i
   · simp at h1 h2;subst h1;subst h2;exact h.1
   · exact ih h.2 i b b' (by simpa using h1) (by simpa using h2)
def W2 (a a':AV):Prop:=W1 a a'∨∃ds ds',a= .agg ds∧a'= .agg ds'∧gH ds ds'
def k6:List AV→List AV→Prop
 |[],[]=>True
 |a::r,a'::r'=>W2 a a'∧k6 r r'
 |_,_=>False
theorem k6.len:∀ {cs cs':List AV},k6 cs cs'→cs'.length=cs.length:=by
 intro cs
 induction cs with
 |nil=>intro cs' h;cases cs' with|nil=>rfl|cons=>exact h.elim
 |cons a r ih=>intro cs' h;cases cs' with|nil=>exact h.elim|cons a' r'=>simp [ih h.2]
theorem k6.get:∀ {cs cs':List AV},k6 cs cs'→∀(i:Nat) (a a':AV),cs[i]? =some a→cs'[i]? =some a'→W2 a a':=by
 intro cs
 induction cs with
 |nil=>intro cs' _ i a a' h;simp at h
 |cons a r ih=>
  intro cs' h i b b' h1 h2
  cases cs' with
  |nil=>exact h.elim
  |cons a' r'=>
   rcases i with _|i
   · simp at h1 h2;subst h1;subst h2;exact h.1
   · exact ih h.2 i b b' (by simpa using h1) (by simpa using h2)
theorem W2.wk {a a':AV} (h:W2 a a'):Wk a a':=by
 rcases h with (rfl|⟨t,k,xs,rfl,rfl⟩)|⟨ds,ds',rfl,rfl,h⟩
 · exact .same _
 · exact .n ..
 · exact .agg _ _ h.len h.get
theorem W2.tcy {a a':AV} {v:Value} (h:W2 a a') (ht:B6 a v):B6 a' v:=by
 rcases h with (rfl|⟨t,k,xs,rfl,rfl⟩)|⟨ds,ds',rfl,rfl,h⟩
 · exact ht
 · exact Nj ..
 · cases v with
   |agg vs=>
    intro i a' hi
    have hlt:i<ds.length:=by rw [←h.len];exact (List.getElem?_eq_some_iff.1 hi).1
    rcases h.get i _ _ (List.getElem?_eq_getElem hlt) hi with e|⟨t,k,xs,e1,rfl⟩
    · rw [e];exact ht i _ (List.getElem?_eq_getElem hlt)
    · exact B7 ..
   |_=>trivial
inductive Wx:AV→AV→Prop
 |wk (a a'):Wk a a'→(∀l k xs,a'≠ .sl (.fr l) k xs)→Wx a a'
 |own (k xs):Wx (.sl .ex k xs) (.sl .own k xs)
 |JI (cs cs'):k6 cs cs'→Wx (.aW cs) (.aW cs')
def qV (cs cs':List AV):Prop:=cs'.length=cs.length∧∀(i:Nat) (a a':AV),cs[i]? =some a→cs'[i]? =some a'→Wx a a'
def eU (ah ax:AH):Prop:=ax.length=ah.length∧∀(s:Nat) (cs':List AV),ax[s]? =some cs'→∃cs,ah[s]? =some cs∧(cs'=cs∨qV cs cs')
def WS (e:Env) (ah:AH) (e1:Env) (bB:AH):Prop:=(∀t,Wx (get e t) (get e1 t))∧eU ah bB
theorem Wx.vr {C:Nat→List Value} {γ:List Nat} {a a':AV} {v:Value} (hw:Wx a a') (h:VR C γ a v):VR C γ a' v:=by
 cases hw with
 |wk _ _ hk=>exact hk.vr h
 |own=>exact h.gV _
 |JI cs cs' hc=>
  obtain ⟨vs,rfl,hs,hv⟩:=h.qD
  refine .aW _ _ _ (by rw [hc.len];exact hs) fun i a' hi=> ?_
  have hlt:i<cs.length:=by rw [←hc.len];exact (List.getElem?_eq_some_iff.1 hi).1
  exact (hc.get i _ _ (List.getElem?_eq_getElem hlt) hi).wk.vr (hv i _ (List.getElem?_eq_getElem hlt))
theorem Wx.tc {w:World} {C:Nat→List Value} {γ:List Nat} {a a':AV} {v:Value} (hw:Wx a a') (hv:VR C γ a v) (h:TC w C a v):TC w C a' v:=by
 cases hw with
 |wk _ _ hk=>exact hk.tc h
 |own k xs=>
  obtain ⟨ad,c,rfl, -⟩:=hv.dK
  exact .inl h
 |JI cs cs' hc=>
  obtain ⟨vs,rfl, -, -⟩:=hv.qD
  intro i a' hi
  have hlt:i<cs.length:=by rw [←hc.len];exact (List.getElem?_eq_some_iff.1 hi).1
  exact (hc.get i _ _ (List.getElem?_eq_getElem hlt) hi).tcy (h i _ (List.getElem?_eq_getElem hlt))
theorem Wx.bz {w:World} {C:Nat→List Value} {γ:List Nat} {a a':AV} {v:Value} {b:Nat} (hw:Wx a a') (hv:VR C γ a v) (ht:TC w C a v) (h:bz a' v=some b):Am.bz a v=some b:=by
 cases hw with
 |wk _ _ hk=>exact hk.own h
 |own k xs=>
  obtain ⟨ad,c,rfl, -⟩:=hv.dK
  have hc:c=xs.length:=ht
  subst hc
  cases ad<;>simp [Am.bz] at h
 |JI=>simp [Am.bz] at h
theorem SR.wx {L N F γ C e ah ts w} (h:SR L N F γ C e ah ts w) {e':Env} {ax:AH} (hw:WS e ah e' ax):SR L N F γ C e' ax ts w:=by
 obtain ⟨he,hl,hh⟩:=hw
 have hb:∀p b,blk γ e' ax ts w p b→blk γ e ah ts w p b:=by
  intro p b hp
  cases p with
  |obj s=>exact hp
  |tmp t=>exact (he t).bz (h.env t).1 (h.env t).2 hp
  |cell s i=>
   obtain ⟨cs',a',b0,h1,h2,h3,h4⟩:=hp
   obtain ⟨cs,g1,g2⟩:=hh s cs' h1
   rcases g2 with rfl|⟨g2,g3⟩
   · exact ⟨_,a',b0,g1,h2,h3,h4⟩
   · have hlt:i<cs.length:=by rw [←g2];exact (List.getElem?_eq_some_iff.1 h2).1
     have h0:cs[i]? =some cs[i]:=List.getElem?_eq_getElem hlt
     refine ⟨cs,cs[i],b0,g1,h0,h3, ?_⟩
     obtain ⟨vs,ty,q1,q2,q3⟩:=h.mem.obj s b0 cs g1 h3
     have hc:(w.cell? ⟨b0,i,none⟩).getD undef=vs.getD i undef:=by
      rw [cD q1];simp [Array.getD_eq_getD_getElem?]
     rw [hc] at h4 ⊢
     exact (g3 i _ _ h0 h2).bz (q3 i _ h0).1 (q3 i _ h0).2 h4
 refine ⟨⟨by rw [h.mem.len,hl],fun s b cs' h1 h2=> ?_,h.mem.qF,fun s b cs' h1 hne h2=> ?_,fun s b cs' us ty fr h1 h2 h3=> ?_⟩,h.sz,fun t=>⟨(he t).vr (h.env t).1,(he t).tc (h.env t).1 (h.env t).2⟩,fun p q b hp hq=>h.cX p q b (hb p b hp) (hb q b hq),
  fun p b hp=>h.nf p b (hb p b hp),h.je,fun t l k xs ht=> ?_⟩
 · obtain ⟨cs,g1,g2⟩:=hh s cs' h1
   obtain ⟨vs,ty,q1,q2,q3⟩:=h.mem.obj s b cs g1 h2
   rcases g2 with rfl|⟨g2,g3⟩
   · exact ⟨vs,ty,q1,q2,q3⟩
   · refine ⟨vs,ty,q1,by omega,fun i a' hi=> ?_⟩
     have hlt:i<cs.length:=by rw [←g2];exact (List.getElem?_eq_some_iff.1 hi).1
     have h0:cs[i]? =some cs[i]:=List.getElem?_eq_getElem hlt
     exact ⟨(g3 i _ _ h0 hi).vr (q3 i _ h0).1,(g3 i _ _ h0 hi).tc (q3 i _ h0).1 (q3 i _ h0).2⟩
 · obtain ⟨cs,g1,g2⟩:=hh s cs' h1
   refine h.mem.qc s b cs g1 ?_ h2
   rintro rfl
   rcases g2 with rfl|⟨g2, -⟩
   · exact hne rfl
   · exact hne (List.eq_nil_of_length_eq_zero g2)
 · obtain ⟨cs,g1,g2⟩:=hh s cs' h1
   have hl':cs'.length=cs.length:=by
    rcases g2 with rfl|⟨g2, -⟩
    · rfl
    · exact g2
   rw [hl']
   exact h.mem.yO s b cs us ty fr g1 h2 h3
 · exfalso
   have:=he t
   rw [ht] at this
   generalize get e t=a at this
   cases this with
   |wk _ _ _ hn=>exact hn l k xs rfl
theorem eU.refl (ah:AH):eU ah ah:=⟨rfl,fun s cs h=>⟨cs,h, .inl rfl⟩⟩
theorem eU.set {ah:AH} {q:Nat} {cs cs':List AV} (hq:ah[q]? =some cs) (hc:qV cs cs'):eU ah (ah.set q cs'):=by
 refine ⟨by simp,fun s ds hs=> ?_⟩
 rw [List.getElem?_set] at hs
 split at hs
 · rename_i h;subst h
   split at hs
   · injection hs with hs;subst hs;exact ⟨cs,hq, .inr hc⟩
   · cases hs
 · exact ⟨ds,hs, .inl rfl⟩
theorem Wx.un (a:AV):Wx a .un:= .wk _ _ (.un _) (by simp)
theorem Wx.n {t:Tg} {k:Nat} {xs:List AV}:Wx (.sl t k xs) (.sl .n k xs):= .wk _ _ (.n ..) (by simp)
theorem Wx.same {a:AV} (h:∀l k xs,a≠ .sl (.fr l) k xs):Wx a a:= .wk _ _ (.same _) h
theorem Wx.int {k:IntKind} {i:Int}:Wx (.int k i) (.int k i):= .same (by simp)
theorem Wx.b8 {c:UInt8}:Wx (b8 c) (b8 c):= .same (by simp [Am.b8])
theorem Wx.bool {b:Bool}:Wx (.bool b) (.bool b):= .same (by simp)
theorem Wx.str {l:List UInt8}:Wx (.str l) (.str l):= .same (by simp)
theorem Wx.ptr {s o:Nat}:Wx (.ptr s o) (.ptr s o):= .same (by simp)
theorem Wx.v {x:Value}:Wx (.v x) (.v x):= .same (by simp)
theorem Wx.fn {f:Nat} {cs:List AV}:Wx (.fn f cs) (.fn f cs):= .same (by simp)
theorem Wx.ep {a:AV} {o:Nat}:Wx (.ep a o) (.ep a o):= .same (by simp)
theorem Wx.ex {k:Nat} {xs:List AV}:Wx (.sl .ex k xs) (.sl .ex k xs):= .same (by simp)
theorem Wx.nn {k:Nat} {xs:List AV}:Wx (.sl .n k xs) (.sl .n k xs):= .same (by simp)
theorem Wx.oo {k:Nat} {xs:List AV}:Wx (.sl .own k xs) (.sl .own k xs):= .same (by simp)
theorem Wx.agg {cs cs':List AV} (h:gH cs cs'):Wx (.agg cs) (.agg cs'):= .wk _ _ (.agg _ _ h.len h.get) (by simp)
theorem Wx.aW {cs cs':List AV} (h:gH cs cs'):Wx (.aW cs) (.aW cs'):= .wk _ _ (.aW _ _ h.len h.get) (by simp)
theorem Wx.X9 {cs cs':List AV} (h:k6 cs cs'):Wx (.aW cs) (.aW cs'):= .JI _ _ h
theorem k6.nil:k6 [] []:=trivial
theorem k6.same {a:AV} {r r':List AV} (h:k6 r r'):k6 (a::r) (a::r'):=⟨.inl (.inl rfl),h⟩
theorem k6.n {t:Tg} {k:Nat} {xs:List AV} {r r':List AV} (h:k6 r r'):k6 (.sl t k xs::r) (.sl .n k xs::r'):=⟨.inl (.inr ⟨_,_,_,rfl,rfl⟩),h⟩
theorem k6.agg {ds ds':List AV} {r r':List AV} (hd:gH ds ds') (h:k6 r r'):k6 (.agg ds::r) (.agg ds'::r'):=⟨.inr ⟨_,_,rfl,rfl,hd⟩,h⟩
theorem gH.nil:gH [] []:=trivial
theorem gH.same {a:AV} {r r':List AV} (h:gH r r'):gH (a::r) (a::r'):=⟨.inl rfl,h⟩
theorem gH.n {t:Tg} {k:Nat} {xs:List AV} {r r':List AV} (h:gH r r'):gH (.sl t k xs::r) (.sl .n k xs::r'):=⟨.inr ⟨_,_,_,rfl,rfl⟩,h⟩
theorem qV.nil:qV [] []:=⟨rfl,fun i a a' h=>by simp at h⟩
theorem qV.cons {a a':AV} {r r':List AV} (h:Wx a a') (hr:qV r r'):qV (a::r) (a'::r'):=by
 refine ⟨by simp [hr.1],fun i b b' h1 h2=> ?_⟩
 rcases i with _|i
 · simp at h1 h2;subst h1;subst h2;exact h
 · exact hr.2 i b b' (by simpa using h1) (by simpa using h2)
def WE (e e1:Env):Prop:=∀p∈e1,Wx (Am.get e p.1) p.2
theorem WE.nil {e:Env}:WE e []:=by intro p hp;cases hp
theorem WE.cons {e r:Env} {i:Nat} {a:AV} (h:Wx (Am.get e i) a) (hr:WE e r):WE e ((i,a)::r):=by
 intro p hp
 rcases List.mem_cons.1 hp with rfl|hp
 · exact h
 · exact hr p hp
theorem WE.all {e e1:Env} (h:WE e e1):∀t,Wx (Am.get e t) (Am.get e1 t):=by
 intro t
 have key:∀e1:Env,Am.get e1 t= .un∨∃p∈e1,p.1=t∧Am.get e1 t=p.2:=by
  intro e1
  induction e1 with
  |nil=>exact .inl rfl
  |cons p r ih=>
   obtain ⟨i,a⟩:=p
   simp only [Am.get]
   split
   · rename_i h;exact .inr ⟨(i,a),by simp,h,rfl⟩
   · rcases ih with h|⟨p,hp,h1,h2⟩
     · exact .inl h
     · exact .inr ⟨p,List.mem_cons_of_mem _ hp,h1,h2⟩
 rcases key e1 with h0|⟨p,hp,rfl,h2⟩
 · rw [h0];exact Wx.un _
 · rw [h2];exact h p hp
section
variable {P:Program} {L:List Nat} {N n0:Nat} {e:Env} {ah:AH} {t:List It} {Q K:Exit→Env→AH→Prop} {r:List aF} {d:Option Nat}
theorem AW.Co {c:Code} {e1:Env} {bB:AH} (hw:WS e ah e1 bB) (h:AW P L N n0 c Q e1 bB):AW P L N n0 c Q e ah:=
 fun F γ C ts w hs hn=>h F γ C ts w (hs.wx hw) hn
theorem AW.closed {c:Code} (h:AW P L N n0 c (fun x e ah=>Q x e ah∨∃e1 bB,WS e ah e1 bB∧Q x e1 bB) e ah):AW P L N n0 c Q e ah:=by
 intro F γ C ts w hs hn
 refine wp_mono (h F γ C ts w hs hn) ?_
 rintro x a w' ⟨hd,hg,e',ax,γ',C',h1,h2,h3,h4⟩
 rcases h1 with h1|⟨e1,bB,hw,h1⟩
 · exact ⟨hd,hg,e',ax,γ',C',h1,h2,h3,h4⟩
 · exact ⟨hd,hg,e1,bB,γ',C',h1,h2,h3.wx hw,h4⟩
theorem AX.weak {c:au} {e1:Env} {bB:AH} (he:WE e e1) (hh:eU ah bB) (h:AX P L N n0 c Q e1 bB):AX P L N n0 c Q e ah:=
 fun c' bL=>AW.Co ⟨he.all,hh⟩ (h c' bL)
theorem AX.mono {c:au} {Q':Exit→Env→AH→Prop} (h:AX P L N n0 c Q e ah) (hq:∀x e ah,Q x e ah→Q' x e ah):AX P L N n0 c Q' e ah:=
 fun c' bL=>(h c' bL).mono hq
theorem AX.go {m c:au} (hm:erase m=c) (ho:mK N c=true)
 (h:∀K':Exit→Env→AH→Prop,(∀x e ah e1 bB,WE e e1→eU ah bB→K x e1 bB→K' x e ah)→U P L N n0 [.code m] K' .normal e ah):AX P L N n0 c K e ah:=by
 subst hm
 intro c' bL
 refine AW.closed (lC c' m _ e ah bL ho (h _ ?_))
 intro x e ah e1 bB h1 h2 h3
 exact .inr ⟨e1,bB,⟨h1.all,h2⟩,h3⟩
theorem Va {c:au} (h:AX P L N n0 c (fun x e ah=>U P L N n0 t Q x e ah) e ah):UX P L N n0 c t Q e ah:=h
inductive St (ρ τ σ:Type) where
 |ret (r:ρ)
 |dU (t:τ)
 |cu (s:σ)
def iter {ρ τ σ:Type} (body:σ→Option (St ρ τ σ)):Nat→σ→Option (ρ⊕τ)
 |0,_=>none
 |n+1,s=>match body s with
  |none=>none
  |some (.ret r)=>some (.inl r)
  |some (.dU t)=>some (.inr t)
  |some (.cu s')=>iter body n s'
theorem AX.iter {ρ τ σ:Type} {body:σ→Option (St ρ τ σ)} {m c:au} (hm:erase m=c) (ho:mK N c=true) (J:σ→Env→AH→Prop) {F:Nat} {s0:σ} {o:ρ⊕τ} (hit:Am.iter body F s0=some o) (h0:J s0 e ah)
 (round:∀(K':Exit→Env→AH→Prop) s st e ah,J s e ah→body s=some st→
  (∀s',st= .cu s'→∀e' ax e1 bB,WE e' e1→eU ax bB→J s' e1 bB→K' .normal e' ax)→
  (∀t,st= .dU t→o= .inr t)→(∀r,st= .ret r→o= .inl r)→
  (∀x e' ax e1 bB,x≠ .normal→WE e' e1→eU ax bB→K x e1 bB→K' x e' ax)→U P L N n0 [.code m] K' .normal e ah):AX P L N n0 (.loop c) K e ah:=by
 subst hm
 intro c'
 induction c' with
 |loop c0 _=>
  intro bL
  simp only [bh,Option.map_eq_some_iff] at bL
  obtain ⟨a,ha,he⟩:=bL
  injection he with he
  subst he
  refine AW.loop (fun k e ah=>∃s e1 bB,WS e ah e1 bB∧J s e1 bB∧Am.iter body k s=some o∨(J s e ah∧Am.iter body k s=some o)) (k0:=F) ?_ ⟨s0,e,ah, .inr ⟨h0,hit⟩⟩
  have main:∀k s e ah,J s e ah→Am.iter body k s=some o→AW P L N n0 c0 (fun x e' ax=>match x with
   | .normal=>∃k',k'<k∧∃s e1 bB,WS e' ax e1 bB∧J s e1 bB∧Am.iter body k' s=some o∨(J s e' ax∧Am.iter body k' s=some o)|x=>K x e' ax) e ah:=by
   intro k s e ah hJ hk
   cases k with
   |zero=>simp [Am.iter] at hk
   |succ k=>
    cases hb:body s with
    |none=>simp [Am.iter,hb] at hk
    |some st=>
     simp only [Am.iter,hb] at hk
     refine AW.closed (lC c0 m _ e ah ha ho (round _ s st e ah hJ hb ?_ ?_ ?_ ?_))
     · rintro s' rfl e' ax e1 bB g1 g2 g3
       exact .inl ⟨k,Nat.lt_succ_self k,s',e1,bB, .inl ⟨⟨g1.all,g2⟩,g3,hk⟩⟩
     · rintro t rfl;simp only [Option.some.injEq] at hk;exact hk.symm
     · rintro r rfl;simp only [Option.some.injEq] at hk;exact hk.symm
     · intro x e' ax e1 bB hx g1 g2 g3
       cases x with
       |normal=>exact absurd rfl hx
       |_=>exact .inr ⟨e1,bB,⟨g1.all,g2⟩,g3⟩
  rintro k e ah ⟨s,e1,bB,⟨hw,hJ,hk⟩|⟨hJ,hk⟩⟩
  · exact AW.Co hw (main k s e1 bB hJ hk)
  · exact main k s e ah hJ hk
 |scope c0 ih=>exact fun bL=>AW.scope (ih bL)
 |region id ops draw=>intro bL;simp only [bh] at bL;repeat' (split at bL)<;>simp at bL
 |block i c0=>intro bL;simp only [bh,Option.map_eq_some_iff] at bL;obtain ⟨a, -,h⟩:=bL;cases h
 |seq a b=>intro bL;simp only [bh] at bL;split at bL<;>simp at bL
 |cond a b c=>intro bL;simp only [bh] at bL;split at bL<;>simp at bL
 |_=>intro bL;simp [bh] at bL
theorem az.wkx {f:Nat} {args:List AV} {ah:AH} {R R':AV→AH→Prop} (h:az P f args ah R) (hr:∀r ax,R r ax→∃r' zk,Wx r r'∧eU ax zk∧R' r' zk):az P f args ah R':=by
 refine ⟨h.1,fun F γ C w vs hs=>(h.2 F γ C w vs hs).mono ?_⟩
 rintro en w' ⟨r,v,ax,γ',C',rfl,h1,h2,h3,h4⟩
 obtain ⟨r',zk,g1,g2,g3⟩:=hr r ax h1
 refine ⟨r',v,zk,γ',C',rfl,g3,h2,h3.wx ⟨fun t=> ?_,g2⟩,h4⟩
 simp only [Am.get]
 split
 · exact g1
 · exact Wx.un _
def WL:List AV→List AV→Prop
 |[],[]=>True
 |a::r,a'::r'=>Wx a a'∧WL r r'
 |_,_=>False
theorem WL.nil:WL [] []:=trivial
theorem WL.cons {a a':AV} {r r':List AV} (h:Wx a a') (hr:WL r r'):WL (a::r) (a'::r'):=⟨h,hr⟩
theorem WL.len:∀ {zq zq':List AV},WL zq zq'→zq'.length=zq.length:=by
 intro zq
 induction zq with
 |nil=>intro zq' h;cases zq' with|nil=>rfl|cons=>exact h.elim
 |cons a r ih=>intro zq' h;cases zq' with|nil=>exact h.elim|cons a' r'=>simp [ih h.2]
theorem WL.get:∀ {zq zq':List AV},WL zq zq'→∀(i:Nat) (a a':AV),zq[i]? =some a→zq'[i]? =some a'→Wx a a':=by
 intro zq
 induction zq with
 |nil=>intro zq' _ i a a' h;simp at h
 |cons a r ih=>
  intro zq' h i b b' h1 h2
  cases zq' with
  |nil=>exact h.elim
  |cons a' r'=>
   rcases i with _|i
   · simp at h1 h2;subst h1;subst h2;exact h.1
   · exact ih h.2 i b b' (by simpa using h1) (by simpa using h2)
theorem az.Co {f:Nat} {args args':List AV} {ah bB:AH} {R:AV→AH→Prop} (hw:WL args args') (hh:eU ah bB) (h:az P f args' bB R):az P f args ah R:=by
 refine ⟨h.1,fun F γ C w vs hs=>h.2 F γ C w vs ?_⟩
 rw [hw.len]
 refine hs.wx ⟨fun t=> ?_,hh⟩
 rw [c6,c6]
 simp only [Nat.zero_le,if_true,Nat.sub_zero]
 cases h1:args[t]? with
 |none=>
  have:args'[t]? =none:=by
   rw [List.getElem?_eq_none_iff] at h1 ⊢
   rw [hw.len];exact h1
  rw [this];exact Wx.un _
 |some a=>
  have hlt:t<args'.length:=by rw [hw.len];exact (List.getElem?_eq_some_iff.1 h1).1
  rw [List.getElem?_eq_getElem hlt]
  exact hw.get t a _ h1 (List.getElem?_eq_getElem hlt)
theorem TR {f:Nat} {zq zq':List AV} {bB:AH} {R:AV→AH→Prop} (h:az P f zq' bB R) (hw:WL zq zq') (hh:eU ah bB) (hk:∀v ax,R v ax→U P L N n0 (.ops r::t) Q .normal (ay L (qR e) d v.df) ax):
 UK P L N n0 f zq d r t Q e ah:=(h.Co hw hh).mono hk
def qW (P:Program) (ah:AH) (rs:List ResultVar) (R:AV→AH→Prop) (e':Env) (H:AH):Prop:=
 ∃vs r' ax,eT P e' H rs=some vs∧Wx (fin vs) r'∧R r' ax∧
  ((Cl ah.length (fin vs)∧jL ah.length (H.take ah.length)∧ah.length≤H.length∧eU (H.take ah.length) ax)∨eU H ax)
theorem az.Vb {f:Nat} {rs:List ResultVar} {ac m:au} (hF:bw P f N rs ac) (hm:erase m=ac) {args:List AV} {R:AV→AH→Prop} (L:List Nat)
 (ho:mK N ac=true) (hN:args.length≤N)
 (h:jL ah.length ah→∀K:Exit→Env→AH→Prop,(∀x e' H,x= .normal∨x= .ret→qW P ah rs R e' H→K x e' H)→
  AX P L N ah.length ac K (dJ 0 args) ah):az P f args ah R:=by
 refine az.wkx (R:=fun r ax=>∃r' zk,Wx r r'∧eU ax zk∧R r' zk) ?_ (fun r ax h=>h)
 obtain ⟨fn,c,h1,h2,h3,h4,rfl,rfl⟩:=hF
 refine az.JA L h1 h2 h3 h4 ho hN ?_
 intro hcl hargs
 refine h hcl _ ?_
 rintro x e' H hx ⟨vs,r',ax,g1,g2,g3,⟨g4,g5,g6,g7⟩|g4⟩
 · refine .inl ⟨ah.length,Nat.le_refl _,hx, ?_⟩
   rw [g1]
   exact ⟨g4,g5,g6,r',ax,g2,g7,g3⟩
 · refine .inr ⟨hx, ?_⟩
   rw [g1]
   exact ⟨r',ax,g2,g4,g3⟩
end
end Go.Am
end
section
namespace Go.Am
open Go
variable [Tabs]
def idx {α:Type} (l:List α) (i:Int):Option α:=if 0≤i then l[i.toNat]? else none
def sub {α:Type} (l:List α) (i j:Int):Option (List α):=if 0≤i∧i≤j∧j≤l.length then some ((l.take j.toNat).drop i.toNat) else none
def cF {α:Type} (b:Nat) (xs ys:List α):Option (List α):=if (xs.length+ys.length)*b≤140737488355328∧xs.length+ys.length≤4611686018427387904 then some (xs++ys) else none
def cat (l m:List UInt8):Option (List UInt8):=if l.length+m.length≤9223372036854775807 then some (l++m) else none
def ml {α:Type} (f:α→AV) (xs:List α):List AV:=xs.map f
def dv (k:IntKind) (i j:Int):Option Int:=if j=0 then none else some (k.wrap (i.tdiv j))
def rm (k:IntKind) (i j:Int):Option Int:=if j=0 then none else some (i.tmod j)
def shl (k:IntKind) (i j:Int):Int:=k.wrap (i*2 ^ (min j.toNat k.bits))
def shr (k:IntKind) (i j:Int):Int:=i.fdiv (2 ^ (min j.toNat k.bits))
def Ol (k:IntKind) (i j:Int):Int:=k.wrap (BitVec.ofInt k.bits i &&& BitVec.ofInt k.bits j).toNat
def Vc (k:IntKind) (i j:Int):Int:=k.wrap (BitVec.ofInt k.bits i ||| BitVec.ofInt k.bits j).toNat
def Om (k:IntKind) (i j:Int):Int:=k.wrap (BitVec.ofInt k.bits i ^^^ BitVec.ofInt k.bits j).toNat
def xx (k:IntKind) (i:Int):AV:= .int k i
theorem aj {α β:Type} {o:Option α} {f:α→Option β} {r:β} (h:o.bind f=some r):∃x,o=some x∧f x=some r:=Option.bind_eq_some_iff.1 h
theorem ifb {β:Type} {B:Bool} {x y:Option β} {r:β} (h:(if B=true then x else y)=some r):(B=true∧x=some r)∨(B=false∧y=some r):=by
 cases B
 · exact .inr ⟨rfl,h⟩
 · exact .inl ⟨rfl,h⟩
theorem GY {β:Type} {p:Prop} [Decidable p] {x:Option β} {r:β} (h:(if p then x else none)=some r):p∧x=some r:=by
 split at h
 · exact ⟨by assumption,h⟩
 · cases h
theorem JJ {α:Type} (f:α→AV) (l:List α) (i:Int):idx (ml f l) i=(idx l i).map f:=by
 unfold idx ml;split<;>simp
theorem Cp {α:Type} (f:α→AV) (l:List α) (i j:Int):sub (ml f l) i j=(sub l i j).map (ml f):=by
 unfold sub ml;simp only [List.length_map];split<;>simp [List.map_take,List.map_drop,ml]
theorem rW {α:Type} (f:α→AV) (l:List α):(ml f l).length=l.length:=by simp [ml]
theorem fR {α:Type} {f:α→AV} {b:Nat} {xs ys zs:List α} (h:cF b xs ys=some zs):cF b (ml f xs) (ml f ys)=some (ml f zs):=by
 unfold cF at h ⊢
 simp only [rW]
 obtain ⟨hc,h⟩:=GY h
 rw [if_pos hc]
 injection h with h
 subst h
 simp [ml]
theorem xy (l:List UInt8):bytesOf (ml b8 l)=some l:=EG l
section
variable {P:Program} {L:List Nat} {N n0:Nat} {e:Env} {ah:AH} {t:List It} {Q:Exit→Env→AH→Prop} {r:List aF} {d:Option Nat} {g:Option (Nat×Bool)}
theorem Vd {y:Nat} {bs:List UInt8}:UG P L N n0 ⟨d, .lit y bs,g⟩ r t Q e ah (some true)=U P L N n0 (It.ops r::t) Q Exit.normal (put (ay L e d (.sl .ex 1 (ml b8 bs))) y .un) ah:=rfl
theorem JK {l:List UInt8} {k:IntKind} {i:Int}:EC L e ah d (.str l) (.int k i)=(idx l i).map fun c=>(ay L e d (b8 c),ah):=by
 simp only [EC,idx]
 split
 · cases l[i.toNat]? <;>rfl
 · rfl
theorem JL {tg:Tg} {k:Nat} {xs:List AV} {ki:IntKind} {i:Int}:uE L e ah d k (.sl tg k xs) (.int ki i)=(idx xs i).map fun a=>(ay L e d (.ep a 0),ah):=by
 simp only [uE,idx]
 split
 · cases xs[i.toNat]? <;>simp [JG]
 · rfl
def bI (e:Env) (dflt:Int):Option Ar→AV
 |none=> .int .i64 dflt
 |some x=>ev e x
def JM (L:List Nat) (e:Env) (ah:AH) (d:Option Nat) (l:List UInt8):AV→AV→Option (Env×AH)
 | .int _ i, .int _ j=>(sub l i j).map fun m=>(ay L e d (.str m),ah)
 |_,_=>none
theorem Cq {n:Nat} {x:Option Ar}:jK e n x=qd (bI e n x):=by
 cases x with
 |none=>simp [jK,bI,qd]
 |some x=>simp only [Og,bI]
theorem zm {x:Option Ar}:jK e 0 x=qd (bI e 0 x):=Cq (n:=0)
theorem Xf {k:IntKind} {i:Int}:qd (.int k i)=if 0≤i then some i.toNat else none:=rfl
theorem zn {α:Type} (l:List α) (i j:Int):sub l i j=if 0≤i then if 0≤j then if i.toNat≤j.toNat∧j.toNat≤l.length then some ((l.take j.toNat).drop i.toNat) else none else none else none:=by
 unfold sub
 by_cases h1:0≤i
 · by_cases h2:0≤j
   · simp only [if_pos h1,if_pos h2]
     have:(0≤i∧i≤j∧j≤(l.length:Int))↔(i.toNat≤j.toNat∧j.toNat≤l.length):=by omega
     simp only [this]
   · rw [if_neg (by omega)];simp [h2]
 · rw [if_neg (by omega)];simp [h1]
theorem Sf {l:List UInt8} {lo hi:Option Ar}:JD L e ah d lo hi (.str l)=JM L e ah d l (bI e 0 lo) (bI e l.length hi):=by
 simp only [JD,zm,Cq]
 generalize bI e 0 lo=a
 generalize bI e l.length hi=b
 cases a with
 |int k i=>
  cases b with
  |int k' j=>
   simp only [qd,JM,zn]
   by_cases h1:0≤i<;>by_cases h2:0≤j<;>simp only [h1,h2,if_true,if_false,JC,Option.map_none]
   split<;>rfl
  |_=>simp only [qd,JM];split<;>rfl
 |_=>cases b<;>rfl
def JN (L:List Nat) (e:Env) (ah:AH) (d:Option Nat) (k:Nat) (xs:List AV):AV→AV→Option (Env×AH)
 | .int _ i, .int _ j=>(sub xs i j).map fun ys=>(ay L e d (.sl .n k ys),ah)
 |_,_=>none
theorem Sg {tg:Tg} {k:Nat} {xs:List AV} {lo hi:Option Ar}:JF L e ah d k lo hi (.sl tg k xs)=JN L e ah d k xs (bI e 0 lo) (bI e xs.length hi):=by
 simp only [JF,zm,Cq]
 generalize bI e 0 lo=a
 generalize bI e xs.length hi=b
 cases a with
 |int k i=>
  cases b with
  |int k' j=>
   simp only [qd,JN,zn]
   by_cases h1:0≤i<;>by_cases h2:0≤j<;>simp only [h1,h2,if_true,if_false,JE,Option.map_none,true_and]
   split<;>rfl
  |_=>simp only [qd,JN];split<;>rfl
 |_=>cases b<;>rfl
def xA {α:Type} (l:List α) (i j m:Int):Option (List α):=if j=m then sub l i j else none
theorem EH {α:Type} (f:α→AV) (l:List α) (i j m:Int):xA (ml f l) i j m=(xA l i j m).map (ml f):=by
 unfold xA;split
 · exact Cp ..
 · rfl
def zo (L:List Nat) (e:Env) (ah:AH) (d:Option Nat) (k:Nat) (xs:List AV):AV→AV→AV→Option (Env×AH)
 | .int _ i, .int _ j, .int _ m=>(xA xs i j m).map fun ys=>(ay L e d (.sl .ex k ys),ah)
 |_,_,_=>none
theorem On {tg:Tg} {k:Nat} {xs:List AV} {lo:Option Ar} {hi m:Ar}:Cn L e ah d k lo hi m (.sl tg k xs)=zo L e ah d k xs (bI e 0 lo) (ev e hi) (ev e m):=by
 simp only [Cn,zm,Og]
 generalize bI e 0 lo=a
 generalize ev e hi=b
 generalize ev e m=c
 cases a with
 |int k i=>
  cases b with
  |int k' j=>
   cases c with
   |int k'' l=>
    simp only [qd,zo,xA,zn]
    by_cases h1:0≤i<;>by_cases h2:0≤j<;>by_cases h3:0≤l<;>by_cases h4:j=l<;>simp only [h1,h2,h3,h4,if_true,if_false,Cm,Option.map_none,true_and]
    all_goals first
     |rfl
     |(exfalso;omega)
     |(subst h4;split<;>rename_i q<;>split<;>rename_i q2<;>first|rfl|(exfalso;omega))
     |(split<;>first|rfl|(exfalso;omega))
   |_=>simp only [qd,zo];repeat' split
       all_goals first|rfl|skip
  |_=>simp only [qd,zo];repeat' split
      all_goals first|rfl|skip
 |_=>cases b<;>cases c<;>rfl
theorem Sh {tg:Tg} {k b:Nat} {x:Ar} {ys:List AV}:Oi L e ah d k b x (.sl tg k ys)=sM L e ah d k b x ys:=by simp [Oi]
theorem Oo {b:Nat} {x:Ar} {l:List UInt8}:Oj L e ah d b x (.str l)=sM L e ah d 1 b x (ml b8 l):=rfl
def oa (L:List Nat) (e:Env) (ah:AH) (d:Option Nat) (k:Nat) (x:Ar) (xs zs:List AV):Tg→Option (Env×AH)
 | .ex=>some (ay L e d (.sl .own k zs),ah)
 | .own=>match x with
   | .t x=>some (ay L (put e x (.sl .n k xs)) d (.sl .own k zs),ah)
   |_=>none
 | .fr (.tmp t)=>match get e t with
   | .sl .own k' us=>if k'=k then some (ay L (put e t (.sl .n k' us)) d (.sl .own k zs),ah) else none
   |_=>none
 | .fr (.cell s q)=>match ah[s]? with
   |some cs=>match cs[q]? with
    |some (.sl .own k' us)=>if k'=k then (over cs q [.sl .n k' us]).map fun cs=>(ay L e d (.sl .own k zs),ah.set s cs) else none
    |_=>none
   |none=>none
 | .n=>none
def zp (L:List Nat) (e:Env) (ah:AH) (d:Option Nat) (k:Nat) (x:Ar) (xs:List AV) (tg:Tg):Option (List AV)→Option (Env×AH)
 |some zs=>oa L e ah d k x xs zs tg
 |none=>none
theorem Oq {L:List Nat} {e:Env} {ah:AH} {d:Option Nat} {k:Nat} {x:Ar} {xs zs:List AV} {tg:Tg}:zp L e ah d k x xs tg (some zs)=oa L e ah d k x xs zs tg:=rfl
def Cr (L:List Nat) (e:Env) (ah:AH) (d:Option Nat) (k b:Nat) (x:Ar) (ys:List AV):AV→Option (Env×AH)
 | .sl tg k' xs=>if k'=k then zp L e ah d k x xs tg (cF b xs ys) else none
 |_=>none
theorem Si {k b:Nat} {x:Ar} {ys:List AV}:sM L e ah d k b x ys=Cr L e ah d k b x ys (ev e x):=by
 simp only [sM]
 cases ev e x with
 |sl tg k' xs=>
  simp only [Cr,cF]
  by_cases h1:k'=k
  · subst h1
    simp only [true_and,if_true]
    by_cases h2:(xs.length+ys.length)*b≤140737488355328∧xs.length+ys.length≤4611686018427387904
    · simp only [if_pos h2,zp]
      cases tg with
      |fr l=>cases l with
       |tmp u=>
        simp only [oa]
        cases get e u with
        |sl Sj k2 zs=>cases Sj<;>rfl
        |_=>rfl
       |cell s q=>
        simp only [oa]
        cases ah[s]? with
        |none=>rfl
        |some cs=>
         simp only []
         cases cs[q]? with
         |none=>rfl
         |some a=>cases a with
          |sl Sj k2 zs=>cases Sj<;>rfl
          |_=>rfl
      |own=>cases x<;>rfl
      |_=>rfl
    · simp only [if_neg h2,zp]
  · simp [h1]
 |_=>rfl
end
theorem Ot {k:IntKind} {i j:Int}:aS .add (.int k i) (.int k j)=some (.int k (k.wrap (i+j))):=by simp [aS,bW]
theorem Ou {k:IntKind} {i j:Int}:aS .sub (.int k i) (.int k j)=some (.int k (k.wrap (i - j))):=by simp [aS,bW]
theorem Ve {k:IntKind} {i j:Int}:aS .mul (.int k i) (.int k j)=some (.int k (k.wrap (i*j))):=by simp [aS,bW]
theorem Vf {k:IntKind} {i j:Int}:aS .quo (.int k i) (.int k j)=(dv k i j).map (.int k):=by simp [aS,bW,dv];split<;>rfl
theorem Ov {k:IntKind} {i j:Int}:aS .rem (.int k i) (.int k j)=(rm k i j).map (.int k):=by simp [aS,bW,rm];split<;>rfl
theorem Ox {k:IntKind} {i j:Int}:aS .and (.int k i) (.int k j)=some (.int k (Ol k i j)):=by simp [aS,bW,Ol]
theorem TS {k:IntKind} {i j:Int}:aS .or (.int k i) (.int k j)=some (.int k (Vc k i j)):=by simp [aS,bW,Vc]
theorem Oy {k:IntKind} {i j:Int}:aS .xor (.int k i) (.int k j)=some (.int k (Om k i j)):=by simp [aS,bW,Om]
theorem aaL {k k':IntKind} {i j:Int}:aS .shl (.int k i) (.int k' j)=if j<0 then none else some (.int k (shl k i j)):=by simp [aS,shl]
theorem aaM {k k':IntKind} {i j:Int}:aS .shr (.int k i) (.int k' j)=if j<0 then none else some (.int k (shr k i j)):=by simp [aS,shr]
theorem Oz {k:IntKind} {i j:Int}:aS .eql (.int k i) (.int k j)=some (.bool (decide (i=j))):=by simp [aS,bW]
theorem OA {k:IntKind} {i j:Int}:aS .neq (.int k i) (.int k j)=some (.bool (!decide (i=j))):=by simp [aS,bW]
theorem OB {k:IntKind} {i j:Int}:aS .lss (.int k i) (.int k j)=some (.bool (decide (i<j))):=by simp [aS,bW]
theorem OC {k:IntKind} {i j:Int}:aS .leq (.int k i) (.int k j)=some (.bool (decide (i≤j))):=by simp [aS,bW]
theorem OD {k:IntKind} {i j:Int}:aS .gtr (.int k i) (.int k j)=some (.bool (decide (j<i))):=by simp [aS,bW]
theorem OE {k:IntKind} {i j:Int}:aS .geq (.int k i) (.int k j)=some (.bool (decide (j≤i))):=by simp [aS,bW]
theorem Sk {k k':IntKind} {i:Int}:aS .shr (.int k i) (.int k' 1)=some (.int k (shr k i 1)):=by simp [aS,shr]
theorem Sl {k k':IntKind} {i:Int}:aS .shl (.int k i) (.int k' 1)=some (.int k (shl k i 1)):=by simp [aS,shl]
theorem Sm {k k':IntKind} {i:Int}:aS .shr (.int k i) (.int k' 2)=some (.int k (shr k i 2)):=by simp [aS,shr]
theorem Sn {k k':IntKind} {i:Int}:aS .shl (.int k i) (.int k' 2)=some (.int k (shl k i 2)):=by simp [aS,shl]
theorem So {k k':IntKind} {i:Int}:aS .shr (.int k i) (.int k' 3)=some (.int k (shr k i 3)):=by simp [aS,shr]
theorem Sp {k k':IntKind} {i:Int}:aS .shl (.int k i) (.int k' 3)=some (.int k (shl k i 3)):=by simp [aS,shl]
theorem Sq {k k':IntKind} {i:Int}:aS .shr (.int k i) (.int k' 4)=some (.int k (shr k i 4)):=by simp [aS,shr]
theorem Sr {k k':IntKind} {i:Int}:aS .shl (.int k i) (.int k' 4)=some (.int k (shl k i 4)):=by simp [aS,shl]
theorem Ss {k k':IntKind} {i:Int}:aS .shr (.int k i) (.int k' 5)=some (.int k (shr k i 5)):=by simp [aS,shr]
theorem Su {k k':IntKind} {i:Int}:aS .shl (.int k i) (.int k' 5)=some (.int k (shl k i 5)):=by simp [aS,shl]
theorem Sv {k k':IntKind} {i:Int}:aS .shr (.int k i) (.int k' 6)=some (.int k (shr k i 6)):=by simp [aS,shr]
theorem Sw {k k':IntKind} {i:Int}:aS .shl (.int k i) (.int k' 6)=some (.int k (shl k i 6)):=by simp [aS,shl]
theorem Sx {k k':IntKind} {i:Int}:aS .shr (.int k i) (.int k' 7)=some (.int k (shr k i 7)):=by simp [aS,shr]
theorem Sy {k k':IntKind} {i:Int}:aS .shl (.int k i) (.int k' 7)=some (.int k (shl k i 7)):=by simp [aS,shl]
theorem Sz {k k':IntKind} {i:Int}:aS .shr (.int k i) (.int k' 8)=some (.int k (shr k i 8)):=by simp [aS,shr]
theorem SA {k k':IntKind} {i:Int}:aS .shl (.int k i) (.int k' 8)=some (.int k (shl k i 8)):=by simp [aS,shl]
theorem OF {k k':IntKind} {i:Int}:aS .shr (.int k i) (.int k' 16)=some (.int k (shr k i 16)):=by simp [aS,shr]
theorem OG {k k':IntKind} {i:Int}:aS .shl (.int k i) (.int k' 16)=some (.int k (shl k i 16)):=by simp [aS,shl]
theorem OH {k k':IntKind} {i:Int}:aS .shr (.int k i) (.int k' 24)=some (.int k (shr k i 24)):=by simp [aS,shr]
theorem OI {k k':IntKind} {i:Int}:aS .shl (.int k i) (.int k' 24)=some (.int k (shl k i 24)):=by simp [aS,shl]
theorem Vg {l m:List UInt8}:aS .add (.str l) (.str m)=(cat l m).map .str:=by simp only [aS,cat];split<;>rfl
theorem Vh {l m:List UInt8}:aS .eql (.str l) (.str m)=some (.bool (decide (l=m))):=rfl
theorem Vi {l m:List UInt8}:aS .neq (.str l) (.str m)=some (.bool (!decide (l=m))):=rfl
theorem OJ (n:Int):IntKind.wrap .u8 n=((UInt8.ofInt n).toNat:Int):=by
 have:(UInt8.ofInt n).toNat=(n % 256).toNat:=by
  rw [UInt8.ofInt]
  simp
  omega
 rw [this]
 simp only [IntKind.wrap,IntKind.bits,IntKind.signed,Bool.false_and,if_false,Bool.false_eq_true]
 omega
theorem SB (a b:UInt8):IntKind.wrap .u8 ((a.toNat:Int)+b.toNat)=((a+b).toNat:Int):=by
 have h1:=a.toNat_lt
 have h2:=b.toNat_lt
 simp only [IntKind.wrap,IntKind.bits,IntKind.signed,Bool.false_and,if_false,Bool.false_eq_true,UInt8.toNat_add]
 omega
theorem SC (a b:UInt8):IntKind.wrap .u8 ((a.toNat:Int) - b.toNat)=((a - b).toNat:Int):=by
 have h1:=a.toNat_lt
 have h2:=b.toNat_lt
 simp only [IntKind.wrap,IntKind.bits,IntKind.signed,Bool.false_and,if_false,Bool.false_eq_true,UInt8.toNat_sub]
 omega
theorem Cs (a:UInt8):IntKind.wrap .u8 (a.toNat:Int)=(a.toNat:Int):=by
 have h1:=a.toNat_lt
 simp only [IntKind.wrap,IntKind.bits,IntKind.signed,Bool.false_and,if_false,Bool.false_eq_true]
 omega
theorem ofInt8 (a:UInt8):BitVec.ofInt 8 (a.toNat:Int)=a.toBitVec:=by
 apply BitVec.eq_of_toNat_eq;simp
theorem Vj {a b:UInt8}:aS .add (b8 a) (b8 b)=some (b8 (a+b)):=by simp only [b8];rw [Ot,SB]
theorem Vk {a b:UInt8}:aS .sub (b8 a) (b8 b)=some (b8 (a - b)):=by simp only [b8];rw [Ou,SC]
theorem Vl {a b:UInt8}:aS .and (b8 a) (b8 b)=some (b8 (a &&& b)):=by
 simp only [b8];rw [Ox,Ol]
 have:((BitVec.ofInt IntKind.u8.bits (a.toNat:Int) &&& BitVec.ofInt IntKind.u8.bits (b.toNat:Int)).toNat:Int)=((a &&& b).toNat:Int):=by
  simp only [IntKind.bits,ofInt8];rfl
 rw [this,Cs]
theorem Ya {a b:UInt8}:aS .or (b8 a) (b8 b)=some (b8 (a ||| b)):=by
 simp only [b8];rw [TS,Vc]
 have:((BitVec.ofInt IntKind.u8.bits (a.toNat:Int) ||| BitVec.ofInt IntKind.u8.bits (b.toNat:Int)).toNat:Int)=((a ||| b).toNat:Int):=by
  simp only [IntKind.bits,ofInt8];rfl
 rw [this,Cs]
theorem Vm {a b:UInt8}:aS .xor (b8 a) (b8 b)=some (b8 (a ^^^ b)):=by
 simp only [b8];rw [Oy,Om]
 have:((BitVec.ofInt IntKind.u8.bits (a.toNat:Int) ^^^ BitVec.ofInt IntKind.u8.bits (b.toNat:Int)).toNat:Int)=((a ^^^ b).toNat:Int):=by
  simp only [IntKind.bits,ofInt8];rfl
 rw [this,Cs]
theorem Vn {a b:UInt8}:aS .rem (b8 a) (b8 b)=if b=0 then none else some (b8 (a % b)):=by
 simp only [b8];rw [Ov,rm]
 by_cases h:b=0
 · subst h;simp
 · have h2:¬(b.toNat:Int)=0:=by
    intro h0;apply h;apply UInt8.toNat_inj.1;simp;omega
   rw [if_neg h,if_neg h2]
   simp only [Option.map_some,UInt8.toNat_mod]
   rw [Int.tmod_eq_emod_of_nonneg (by omega)]
   simp
theorem Vo {a b:UInt8}:aS .eql (b8 a) (b8 b)=some (.bool (decide (a=b))):=by
 simp only [b8];rw [Oz];simp [←UInt8.toNat_inj,Int.ofNat_inj]
theorem Vp {a b:UInt8}:aS .neq (b8 a) (b8 b)=some (.bool (!decide (a=b))):=by
 simp only [b8];rw [OA];simp [←UInt8.toNat_inj,Int.ofNat_inj]
theorem Vq {a b:UInt8}:aS .lss (b8 a) (b8 b)=some (.bool (decide (a<b))):=by
 simp only [b8];rw [OB];simp [UInt8.lt_iff_toNat_lt]
theorem Vr {a b:UInt8}:aS .leq (b8 a) (b8 b)=some (.bool (decide (a≤b))):=by
 simp only [b8];rw [OC];simp [UInt8.le_iff_toNat_le]
theorem Vs {a b:UInt8}:aS .gtr (b8 a) (b8 b)=some (.bool (decide (b<a))):=by
 simp only [b8];rw [OD];simp [UInt8.lt_iff_toNat_lt]
theorem Vt {a b:UInt8}:aS .geq (b8 a) (b8 b)=some (.bool (decide (b≤a))):=by
 simp only [b8];rw [OE];simp [UInt8.le_iff_toNat_le]
theorem Yb {k:IntKind} {c:UInt8}:dP (.int k) (b8 c)=some (.int k (k.wrap c.toNat)):=rfl
theorem Yc {k:IntKind} {i:Int}:dP (.int .u8) (.int k i)=some (b8 (UInt8.ofInt i)):=by simp only [dP,b8,OJ]
theorem Yd {c:UInt8}:dP (.int .u8) (b8 c)=some (b8 c):=by simp only [dP,b8,Cs]
theorem Ye {k':IntKind} {i:Int}:dP (.int .i8) (.int k' i)=some (.int .i8 (IntKind.wrap .i8 i)):=rfl
theorem Vu {k':IntKind} {i:Int}:dP (.int .i16) (.int k' i)=some (.int .i16 (IntKind.wrap .i16 i)):=rfl
theorem Vv {k':IntKind} {i:Int}:dP (.int .i32) (.int k' i)=some (.int .i32 (IntKind.wrap .i32 i)):=rfl
theorem Vw {k':IntKind} {i:Int}:dP (.int .i64) (.int k' i)=some (.int .i64 (IntKind.wrap .i64 i)):=rfl
theorem Vx {k':IntKind} {i:Int}:dP (.int .u16) (.int k' i)=some (.int .u16 (IntKind.wrap .u16 i)):=rfl
theorem Vy {k':IntKind} {i:Int}:dP (.int .u32) (.int k' i)=some (.int .u32 (IntKind.wrap .u32 i)):=rfl
theorem Vz {k':IntKind} {i:Int}:dP (.int .u64) (.int k' i)=some (.int .u64 (IntKind.wrap .u64 i)):=rfl
theorem Yf {l:List UInt8}:dP .same (.str l)=some (.str l):=rfl
theorem Yg {l:List UInt8}:dP .sb (.str l)=some (.sl .own 1 (ml b8 l)):=rfl
theorem Yh {tg:Tg} {xs:List AV}:dP .bs (.sl tg 1 xs)=(bytesOf xs).map .str:=rfl
theorem VA {k:IntKind} {i:Int}:Gv .neg (.int k i)=some (.int k (k.wrap (0 - i))):=rfl
theorem VB {b:Bool}:Gv .not (.bool b)=some (.bool !b):=rfl
def Yi (k:IntKind) (i:Int):Int:=k.wrap (BitVec.ofInt k.bits (if k.signed then -1 else k.max) ^^^ BitVec.ofInt k.bits i).toNat
theorem VC {k:IntKind} {i:Int}:Gv .xor (.int k i)=some (.int k (Yi k i)):=rfl
theorem Ct:bytesOf []=some []:=rfl
theorem G0 {c:UInt8} {r:List AV}:bytesOf (b8 c::r)=(bytesOf r).map (c:: ·):=by
 simp [b8,bytesOf]
theorem Q_i {ks:List Pk} {k:IntKind} {i j:Int} {zq bs:List AV}:bO (.i::ks) (.int k i::zq) (.int k j::bs)=(bO ks zq bs).map (decide (i=j)&& ·):=by simp [bO]
theorem Q_s {ks:List Pk} {l m:List UInt8} {zq bs:List AV}:bO (.s::ks) (.str l::zq) (.str m::bs)=(bO ks zq bs).map (decide (l=m)&& ·):=rfl
theorem Q_b {ks:List Pk} {x y:Bool} {zq bs:List AV}:bO (.b::ks) (.bool x::zq) (.bool y::bs)=(bO ks zq bs).map ((x==y)&& ·):=rfl
theorem Q_n:bO [] [] []=some true:=rfl
theorem Yj {x y:Bool}:Gs (.bool x) (.bool y)=some (x==y):=rfl
theorem Yk {s o:Nat}:Gt (.ptr s o) (.v (.pointer none))=some false:=rfl
theorem Yl {s o:Nat}:Gt (.v (.pointer none)) (.ptr s o)=some false:=rfl
theorem Ym:Gt (.v (.pointer none)) (.v (.pointer none))=some true:=rfl
section
variable {P:Program} {L:List Nat} {N n0:Nat} {e:Env} {ah:AH} {t:List It} {Q:Exit→Env→AH→Prop} {r:List aF} {d:Option Nat}
theorem Cu {c:UInt8}:(b8 c).bn=b8 c:=rfl
theorem TT {c:UInt8}:(b8 c).sh=b8 c:=rfl
theorem aa5 {c:UInt8}:(b8 c).s1=b8 c:=rfl
theorem aa6 {c:UInt8}:(b8 c).s0=b8 c:=rfl
theorem TU {c:UInt8}:(b8 c).df=b8 c:=rfl
theorem aaN {c:UInt8}:(b8 c).fV=b8 c:=rfl
theorem aaO {c:UInt8}:(b8 c).mJ=b8 c:=rfl
theorem aav {c:UInt8} {l:Loc}:(b8 c).cV l=b8 c:=rfl
theorem aaP {c:UInt8}:(b8 c).bt=false:=rfl
theorem JO {c:UInt8}:(b8 c).flat=true:=rfl
theorem aaQ {c:UInt8}:(b8 c).fW=true:=rfl
theorem aa7 {c:UInt8}:(b8 c).np=true:=rfl
theorem Yn {c:UInt8}:(b8 c).cells=[b8 c]:=rfl
theorem aaR {c:UInt8}:(b8 c).dm=false:=rfl
theorem aa8 {c:UInt8} {x:Ar}:cp L x (b8 c)=b8 c:=rfl
theorem aaS {c:UInt8} {x:Ar}:gQ P L N n0 e ah d r t Q x (b8 c)=U P L N n0 (.ops r::t) Q .normal (ay L e d (b8 c)) ah:=rfl
theorem JP {n:Nat} {c:UInt8}:Cl n (b8 c):= .int ..
theorem VD {l:List UInt8} {c:UInt8}:EC L e ah d (.str l) (b8 c)=(idx l c.toNat).map fun c=>(ay L e d (b8 c),ah):=JK
theorem VE {tg:Tg} {k:Nat} {xs:List AV} {c:UInt8}:uE L e ah d k (.sl tg k xs) (b8 c)=(idx xs c.toNat).map fun a=>(ay L e d (.ep a 0),ah):=JL
theorem aaT {s o:Nat} {c:UInt8}:mL s o (some (b8 c))=some (b8 c):=rfl
theorem VF {c:UInt8}:KH L d e ah (some (b8 c))=some (ay L e d (b8 c),ah):=rfl
end
theorem h_eq {H:AH} {q:Nat} {c:List AV} (h:q<H.length):(H.set q c)[q]? =some c:=List.getElem?_set_self h
theorem TV {H:AH} {s q:Nat} {c:List AV} (h:s≠q):(H.set s c)[q]? =H[q]? :=List.getElem?_set_ne h
theorem OK {H T:AH} {q:Nat} (h:q<H.length):(H++T)[q]? =H[q]? :=List.getElem?_append_left h
theorem VG {H:AH} {c:List AV}:(H++[c])[H.length]? =some c:=by simp
theorem JQ {H:AH} {q:Nat} {c:List AV} (h:q=H.length):(H++[c])[q]? =some c:=by subst h;simp
theorem ff {H:AH} {q:Nat} {c:List AV} (h:H[q]? =some c):q<H.length:=(List.getElem?_eq_some_iff.1 h).1
theorem sO {H:AH} {q:Nat} {c:List AV}:(H.set q c).length=H.length:=List.length_set
theorem sP {H:AH} {c:List AV}:(H++[c]).length=H.length+1:=by simp
structure Fr (ah:AH) (n0:Nat) (S:List Nat) (H:AH):Prop where
 le:n0≤H.length
 eq:∀j,j<n0→j∉S→H[j]? =ah[j]?
theorem Fr.refl (ah:AH) (S:List Nat):Fr ah ah.length S ah:=⟨Nat.le_refl _,fun _ _ _=>rfl⟩
theorem Fr.set {ah H:AH} {n0 s:Nat} {S:List Nat} {c:List AV} (h:Fr ah n0 S H) (hs:s∈S∨n0≤s):Fr ah n0 S (H.set s c):=by
 refine ⟨by simpa using h.le,fun j hj zq=> ?_⟩
 rw [List.getElem?_set_ne,h.eq j hj zq]
 rintro rfl
 rcases hs with hs|hs
 · exact zq hs
 · omega
theorem Fr.app {ah H T:AH} {n0:Nat} {S:List Nat} (h:Fr ah n0 S H):Fr ah n0 S (H++T):=by
 have:=h.le
 exact ⟨by simp;omega,fun j hj zq=>by rw [List.getElem?_append_left (by omega),h.eq j hj zq]⟩
theorem Fr.TW {ah H:AH} (h:Fr ah ah.length [] H):H.take ah.length=ah:=by
 apply List.ext_getElem?
 intro j
 by_cases hj:j<ah.length
 · rw [List.getElem?_take_of_lt hj,h.eq j hj (by simp)]
 · rw [List.getElem?_eq_none (by simp;omega),List.getElem?_eq_none (by omega)]
theorem Fr.TX {ah H:AH} {s:Nat} {c:List AV} (h:Fr ah ah.length [s] H) (hs:H[s]? =some c) (hl:s<ah.length):H.take ah.length=ah.set s c:=by
 apply List.ext_getElem?
 intro j
 by_cases hj:j<ah.length
 · rw [List.getElem?_take_of_lt hj]
   by_cases he:j=s
   · subst he;rw [hs,List.getElem?_set_self hl]
   · rw [List.getElem?_set_ne (Ne.symm he),h.eq j hj (by simpa using he)]
 · rw [List.getElem?_eq_none (by simp;omega),List.getElem?_eq_none (by simp;omega)]
theorem Fr.TY {ah H:AH} {s s2:Nat} {c c2:List AV} (h:Fr ah ah.length [s,s2] H) (hs:H[s]? =some c) (hs2:H[s2]? =some c2) (hl:s<ah.length) (vU:s2<ah.length) (hne:s≠s2):H.take ah.length=(ah.set s c).set s2 c2:=by
 apply List.ext_getElem?
 intro j
 by_cases hj:j<ah.length
 · rw [List.getElem?_take_of_lt hj]
   by_cases he:j=s2
   · subst he;rw [hs2,List.getElem?_set_self (by simpa using vU)]
   · rw [List.getElem?_set_ne (Ne.symm he)]
     by_cases VH:j=s
     · subst VH;rw [hs,List.getElem?_set_self hl]
     · rw [List.getElem?_set_ne (Ne.symm VH),h.eq j hj (by simp;exact ⟨VH,he⟩)]
 · rw [List.getElem?_eq_none (by simp;omega),List.getElem?_eq_none (by simp;omega)]
end Go.Am
end
section
namespace Go.Am
open Go
variable [Tabs]
def cJ:Bool→AV
 |true=> .cH
 |false=> .v .nilIface
def JR (L:List Nat) (e:Env) (ah:AH) (d:Option Nat):AV→Option (Env×AH)
 | .sl _ _ xs=>some (ay L e d (.int .i64 xs.length),ah)
 | .b6 _ _ _ n=>some (ay L e d (.int .i64 n),ah)
 | .bM _ _ n _=>some (ay L e d (.int .i64 n),ah)
 |_=>none
def OL (L:List Nat) (e:Env) (ah:AH) (d:Option Nat):AV→Option (Env×AH)
 | .str l=>some (ay L e d (.int .i64 l.length),ah)
 |_=>none
def OM (L:List Nat) (e:Env) (ah:AH) (d:Option Nat):Option AV→Option (Env×AH)
 |some a=>some (ay L e d a.sh,ah)
 |none=>none
def ON (L:List Nat) (e:Env) (ah:AH) (d:Option Nat) (i:Nat):AV→Option (Env×AH)
 | .aW cs=>OM L e ah d (cs[i]?)
 |_=>none
def G1 (L:List Nat) (e:Env) (ah:AH) (d:Option Nat):Option AV→Option (Env×AH)
 |some a=>some (ay L e d a.bn,ah)
 |none=>none
def Cw (L:List Nat) (e:Env) (ah:AH) (d:Option Nat) (q:Nat):Option Nat→AV→Option (Env×AH)
 |some n, .agg cs=>if q+n≤cs.length then some (ay L e d (.agg (((cs.drop q).take n).map AV.bn)),ah) else none
 |none, .agg cs=>G1 L e ah d (cs[q]?)
 |_,_=>none
def OO (L:List Nat) (e:Env) (ah:AH) (d:Option Nat) (n:Option Nat):AV→Option (Env×AH)
 | .ep a p=>Ck L d n e ah (.ep a p)
 |_=>none
theorem OP {z:Value}:AV.bn (.v z)=(.v z:AV):=rfl
theorem G2 {k:IntKind} {i:Int}:AV.bn (.int k i)=(.int k i:AV):=rfl
theorem EI {b:Bool}:AV.bn (.bool b)=(.bool b:AV):=rfl
theorem G3 {l:List UInt8}:AV.bn (.str l)=(.str l:AV):=rfl
theorem G4 {s o:Nat}:AV.bn (.ptr s o)=(.ptr s o:AV):=rfl
theorem KL {a:AV} {o:Nat}:AV.bn (.ep a o)=(.ep a o:AV):=rfl
theorem KM {f:Nat} {cs:List AV}:AV.bn (.fn f cs)=(.fn f cs:AV):=rfl
theorem KN:AV.bn (.un)=(.un:AV):=rfl
theorem KO {c:UInt8}:AV.bn (b8 c)=(b8 c:AV):=rfl
theorem KP {k:Nat} {xs:List AV}:AV.bn (.sl .n k xs)=(.sl .n k xs:AV):=rfl
theorem G5 {k:Nat} {xs:List AV}:AV.bn (.sl .ex k xs)=(.sl .ex k xs:AV):=rfl
theorem EJ {k:Nat} {xs:List AV}:AV.bn (.sl .own k xs)=(.sl .n k xs:AV):=rfl
theorem G6 {l:Loc} {k:Nat} {xs:List AV}:AV.bn (.sl (.fr l) k xs)=(.sl .n k xs:AV):=rfl
theorem G7 {cs:List AV}:AV.bn (.agg cs)=(.agg cs:AV):=rfl
theorem G8 {cs:List AV}:AV.bn (.aW cs)=(.aW cs:AV):=rfl
theorem G9 {q0 k0 o0 m0:Nat}:AV.bn (.b6 q0 k0 o0 m0)=(.b6 q0 k0 o0 m0:AV):=rfl
theorem He {q0 k0 m0 c0:Nat}:AV.bn (.bM q0 k0 m0 c0)=(.bM q0 k0 m0 c0:AV):=rfl
theorem Hf:AV.bn (.cH)=(.cH:AV):=rfl
theorem KQ {eb:Bool}:AV.bn (cJ eb)=(cJ eb:AV):=by cases eb<;>rfl
theorem SD {z:Value}:AV.sh (.v z)=(.v z:AV):=rfl
theorem KR {k:IntKind} {i:Int}:AV.sh (.int k i)=(.int k i:AV):=rfl
theorem Hg {b:Bool}:AV.sh (.bool b)=(.bool b:AV):=rfl
theorem KS {l:List UInt8}:AV.sh (.str l)=(.str l:AV):=rfl
theorem KT {s o:Nat}:AV.sh (.ptr s o)=(.ptr s o:AV):=rfl
theorem OQ {a:AV} {o:Nat}:AV.sh (.ep a o)=(.ep a o:AV):=rfl
theorem OR {f:Nat} {cs:List AV}:AV.sh (.fn f cs)=(.fn f cs:AV):=rfl
theorem OS:AV.sh (.un)=(.un:AV):=rfl
theorem OT {c:UInt8}:AV.sh (b8 c)=(b8 c:AV):=rfl
theorem OU {k:Nat} {xs:List AV}:AV.sh (.sl .n k xs)=(.sl .n k xs:AV):=rfl
theorem KU {k:Nat} {xs:List AV}:AV.sh (.sl .ex k xs)=(.sl .ex k xs:AV):=rfl
theorem Hh {k:Nat} {xs:List AV}:AV.sh (.sl .own k xs)=(.sl .n k xs:AV):=rfl
theorem KV {l:Loc} {k:Nat} {xs:List AV}:AV.sh (.sl (.fr l) k xs)=(.sl .n k xs:AV):=rfl
theorem KW {cs:List AV}:AV.sh (.agg cs)=(.agg (cs.map AV.bn):AV):=rfl
theorem KX {cs:List AV}:AV.sh (.aW cs)=(.aW (cs.map AV.bn):AV):=rfl
theorem KY {q0 k0 o0 m0:Nat}:AV.sh (.b6 q0 k0 o0 m0)=(.b6 q0 k0 o0 m0:AV):=rfl
theorem KZ {q0 k0 m0 c0:Nat}:AV.sh (.bM q0 k0 m0 c0)=(.bM q0 k0 m0 c0:AV):=rfl
theorem K1:AV.sh (.cH)=(.cH:AV):=rfl
theorem OV {eb:Bool}:AV.sh (cJ eb)=(cJ eb:AV):=by cases eb<;>rfl
theorem SE {z:Value}:AV.s1 (.v z)=(.v z:AV):=rfl
theorem K2 {k:IntKind} {i:Int}:AV.s1 (.int k i)=(.int k i:AV):=rfl
theorem Hi {b:Bool}:AV.s1 (.bool b)=(.bool b:AV):=rfl
theorem K3 {l:List UInt8}:AV.s1 (.str l)=(.str l:AV):=rfl
theorem K4 {s o:Nat}:AV.s1 (.ptr s o)=(.ptr s o:AV):=rfl
theorem OW {a:AV} {o:Nat}:AV.s1 (.ep a o)=(.ep a o:AV):=rfl
theorem OX {f:Nat} {cs:List AV}:AV.s1 (.fn f cs)=(.fn f cs:AV):=rfl
theorem OY:AV.s1 (.un)=(.un:AV):=rfl
theorem OZ {c:UInt8}:AV.s1 (b8 c)=(b8 c:AV):=rfl
theorem O0 {k:Nat} {xs:List AV}:AV.s1 (.sl .n k xs)=(.sl .n k xs:AV):=rfl
theorem K5 {k:Nat} {xs:List AV}:AV.s1 (.sl .ex k xs)=(.sl .n k xs:AV):=rfl
theorem Hj {k:Nat} {xs:List AV}:AV.s1 (.sl .own k xs)=(.sl .n k xs:AV):=rfl
theorem K6 {l:Loc} {k:Nat} {xs:List AV}:AV.s1 (.sl (.fr l) k xs)=(.sl .n k xs:AV):=rfl
theorem K7 {cs:List AV}:AV.s1 (.agg cs)=(.agg cs:AV):=rfl
theorem K8 {cs:List AV}:AV.s1 (.aW cs)=(.aW cs:AV):=rfl
theorem K9 {q0 k0 o0 m0:Nat}:AV.s1 (.b6 q0 k0 o0 m0)=(.b6 q0 k0 o0 m0:AV):=rfl
theorem La {q0 k0 m0 c0:Nat}:AV.s1 (.bM q0 k0 m0 c0)=(.bM q0 k0 m0 c0:AV):=rfl
theorem Lb:AV.s1 (.cH)=(.cH:AV):=rfl
theorem O1 {eb:Bool}:AV.s1 (cJ eb)=(cJ eb:AV):=by cases eb<;>rfl
theorem SF {z:Value}:AV.s0 (.v z)=(.v z:AV):=rfl
theorem Lc {k:IntKind} {i:Int}:AV.s0 (.int k i)=(.int k i:AV):=rfl
theorem Hl {b:Bool}:AV.s0 (.bool b)=(.bool b:AV):=rfl
theorem Ld {l:List UInt8}:AV.s0 (.str l)=(.str l:AV):=rfl
theorem Le {s o:Nat}:AV.s0 (.ptr s o)=(.ptr s o:AV):=rfl
theorem O2 {a:AV} {o:Nat}:AV.s0 (.ep a o)=(.ep a o:AV):=rfl
theorem O3 {f:Nat} {cs:List AV}:AV.s0 (.fn f cs)=(.fn f cs:AV):=rfl
theorem O4:AV.s0 (.un)=(.un:AV):=rfl
theorem O5 {c:UInt8}:AV.s0 (b8 c)=(b8 c:AV):=rfl
theorem O6 {k:Nat} {xs:List AV}:AV.s0 (.sl .n k xs)=(.sl .n k xs:AV):=rfl
theorem Lf {k:Nat} {xs:List AV}:AV.s0 (.sl .ex k xs)=(.sl .n k xs:AV):=rfl
theorem Ho {k:Nat} {xs:List AV}:AV.s0 (.sl .own k xs)=(.sl .n k xs:AV):=rfl
theorem Lg {l:Loc} {k:Nat} {xs:List AV}:AV.s0 (.sl (.fr l) k xs)=(.sl .n k xs:AV):=rfl
theorem Lh {cs:List AV}:AV.s0 (.agg cs)=(.agg (cs.map AV.s1):AV):=rfl
theorem Li {cs:List AV}:AV.s0 (.aW cs)=(.aW cs:AV):=rfl
theorem Lj {q0 k0 o0 m0:Nat}:AV.s0 (.b6 q0 k0 o0 m0)=(.b6 q0 k0 o0 m0:AV):=rfl
theorem Ll {q0 k0 m0 c0:Nat}:AV.s0 (.bM q0 k0 m0 c0)=(.bM q0 k0 m0 c0:AV):=rfl
theorem Lm:AV.s0 (.cH)=(.cH:AV):=rfl
theorem O7 {eb:Bool}:AV.s0 (cJ eb)=(cJ eb:AV):=by cases eb<;>rfl
theorem SG {z:Value}:AV.df (.v z)=(.v z:AV):=rfl
theorem Ln {k:IntKind} {i:Int}:AV.df (.int k i)=(.int k i:AV):=rfl
theorem Hp {b:Bool}:AV.df (.bool b)=(.bool b:AV):=rfl
theorem Lo {l:List UInt8}:AV.df (.str l)=(.str l:AV):=rfl
theorem Lp {s o:Nat}:AV.df (.ptr s o)=(.ptr s o:AV):=rfl
theorem O8 {a:AV} {o:Nat}:AV.df (.ep a o)=(.ep a o:AV):=rfl
theorem O9 {f:Nat} {cs:List AV}:AV.df (.fn f cs)=(.fn f cs:AV):=rfl
theorem Pa:AV.df (.un)=(.un:AV):=rfl
theorem Pb {c:UInt8}:AV.df (b8 c)=(b8 c:AV):=rfl
theorem Pc {k:Nat} {xs:List AV}:AV.df (.sl .n k xs)=(.sl .n k xs:AV):=rfl
theorem Lq {k:Nat} {xs:List AV}:AV.df (.sl .ex k xs)=(.sl .ex k xs:AV):=rfl
theorem Hq {k:Nat} {xs:List AV}:AV.df (.sl .own k xs)=(.sl .own k xs:AV):=rfl
theorem Lr {l:Loc} {k:Nat} {xs:List AV}:AV.df (.sl (.fr l) k xs)=(.sl .n k xs:AV):=rfl
theorem Ls {cs:List AV}:AV.df (.agg cs)=(.agg cs:AV):=rfl
theorem Lt {cs:List AV}:AV.df (.aW cs)=(.aW cs:AV):=rfl
theorem Lu {q0 k0 o0 m0:Nat}:AV.df (.b6 q0 k0 o0 m0)=(.b6 q0 k0 o0 m0:AV):=rfl
theorem Lv {q0 k0 m0 c0:Nat}:AV.df (.bM q0 k0 m0 c0)=(.bM q0 k0 m0 c0:AV):=rfl
theorem Lw:AV.df (.cH)=(.cH:AV):=rfl
theorem Pd {eb:Bool}:AV.df (cJ eb)=(cJ eb:AV):=by cases eb<;>rfl
theorem Hr {z:Value}:AV.bt (.v z)=false:=rfl
theorem Cy {k:IntKind} {i:Int}:AV.bt (.int k i)=false:=rfl
theorem AL {b:Bool}:AV.bt (.bool b)=false:=rfl
theorem Cz {l:List UInt8}:AV.bt (.str l)=false:=rfl
theorem CA {s o:Nat}:AV.bt (.ptr s o)=false:=rfl
theorem EL {a:AV} {o:Nat}:AV.bt (.ep a o)=false:=rfl
theorem EM {f:Nat} {cs:List AV}:AV.bt (.fn f cs)=false:=rfl
theorem EN:AV.bt (.un)=false:=rfl
theorem EO {c:UInt8}:AV.bt (b8 c)=false:=rfl
theorem EP {k:Nat} {xs:List AV}:AV.bt (.sl .n k xs)=false:=rfl
theorem CB {k:Nat} {xs:List AV}:AV.bt (.sl .ex k xs)=false:=rfl
theorem AM {k:Nat} {xs:List AV}:AV.bt (.sl .own k xs)=true:=rfl
theorem CC {l:Loc} {k:Nat} {xs:List AV}:AV.bt (.sl (.fr l) k xs)=false:=rfl
theorem CD {cs:List AV}:AV.bt (.agg cs)=false:=rfl
theorem CE {cs:List AV}:AV.bt (.aW cs)=false:=rfl
theorem CF {q0 k0 o0 m0:Nat}:AV.bt (.b6 q0 k0 o0 m0)=false:=rfl
theorem CG {q0 k0 m0 c0:Nat}:AV.bt (.bM q0 k0 m0 c0)=false:=rfl
theorem CH:AV.bt (.cH)=false:=rfl
theorem ER {eb:Bool}:AV.bt (cJ eb)=false:=by cases eb<;>rfl
theorem Pe {z:Value}:AV.mJ (.v z)=(.v z:AV):=rfl
theorem Hs {k:IntKind} {i:Int}:AV.mJ (.int k i)=(.int k i:AV):=rfl
theorem ES {b:Bool}:AV.mJ (.bool b)=(.bool b:AV):=rfl
theorem Ht {l:List UInt8}:AV.mJ (.str l)=(.str l:AV):=rfl
theorem Hu {s o:Nat}:AV.mJ (.ptr s o)=(.ptr s o:AV):=rfl
theorem Lx {a:AV} {o:Nat}:AV.mJ (.ep a o)=(.ep a o:AV):=rfl
theorem Ly {f:Nat} {cs:List AV}:AV.mJ (.fn f cs)=(.fn f cs:AV):=rfl
theorem Lz:AV.mJ (.un)=(.un:AV):=rfl
theorem LA {c:UInt8}:AV.mJ (b8 c)=(b8 c:AV):=rfl
theorem LB {k:Nat} {xs:List AV}:AV.mJ (.sl .n k xs)=(.sl .n k xs:AV):=rfl
theorem Hv {k:Nat} {xs:List AV}:AV.mJ (.sl .ex k xs)=(.sl .ex k xs:AV):=rfl
theorem ET {k:Nat} {xs:List AV}:AV.mJ (.sl .own k xs)=(.sl .n k xs:AV):=rfl
theorem Hw {l:Loc} {k:Nat} {xs:List AV}:AV.mJ (.sl (.fr l) k xs)=(.sl (.fr l) k xs:AV):=rfl
theorem Hx {cs:List AV}:AV.mJ (.agg cs)=(.agg cs:AV):=rfl
theorem Hy {cs:List AV}:AV.mJ (.aW cs)=(.aW cs:AV):=rfl
theorem Hz {q0 k0 o0 m0:Nat}:AV.mJ (.b6 q0 k0 o0 m0)=(.b6 q0 k0 o0 m0:AV):=rfl
theorem HA {q0 k0 m0 c0:Nat}:AV.mJ (.bM q0 k0 m0 c0)=(.bM q0 k0 m0 c0:AV):=rfl
theorem HB:AV.mJ (.cH)=(.cH:AV):=rfl
theorem LC {eb:Bool}:AV.mJ (cJ eb)=(cJ eb:AV):=by cases eb<;>rfl
theorem LD {z:Value} {l0:Loc}:AV.cV l0 (.v z)=(.v z:AV):=rfl
theorem EU {k:IntKind} {i:Int} {l0:Loc}:AV.cV l0 (.int k i)=(.int k i:AV):=rfl
theorem CI {b:Bool} {l0:Loc}:AV.cV l0 (.bool b)=(.bool b:AV):=rfl
theorem EV {l:List UInt8} {l0:Loc}:AV.cV l0 (.str l)=(.str l:AV):=rfl
theorem EW {s o:Nat} {l0:Loc}:AV.cV l0 (.ptr s o)=(.ptr s o:AV):=rfl
theorem HC {a:AV} {o:Nat} {l0:Loc}:AV.cV l0 (.ep a o)=(.ep a o:AV):=rfl
theorem HD {f:Nat} {cs:List AV} {l0:Loc}:AV.cV l0 (.fn f cs)=(.fn f cs:AV):=rfl
theorem HF {l0:Loc}:AV.cV l0 (.un)=(.un:AV):=rfl
theorem HG {c:UInt8} {l0:Loc}:AV.cV l0 (b8 c)=(b8 c:AV):=rfl
theorem HH {k:Nat} {xs:List AV} {l0:Loc}:AV.cV l0 (.sl .n k xs)=(.sl .n k xs:AV):=rfl
theorem EX {k:Nat} {xs:List AV} {l0:Loc}:AV.cV l0 (.sl .ex k xs)=(.sl .ex k xs:AV):=rfl
theorem CJ {k:Nat} {xs:List AV} {l0:Loc}:AV.cV l0 (.sl .own k xs)=(.sl .own k xs:AV):=rfl
theorem EY {l:Loc} {k:Nat} {xs:List AV} {l0:Loc}:AV.cV l0 (.sl (.fr l) k xs)=if l=l0 then .sl .n k xs else .sl (.fr l) k xs:=rfl
theorem EZ {cs:List AV} {l0:Loc}:AV.cV l0 (.agg cs)=(.agg cs:AV):=rfl
theorem E0 {cs:List AV} {l0:Loc}:AV.cV l0 (.aW cs)=(.aW cs:AV):=rfl
theorem E1 {q0 k0 o0 m0:Nat} {l0:Loc}:AV.cV l0 (.b6 q0 k0 o0 m0)=(.b6 q0 k0 o0 m0:AV):=rfl
theorem E2 {q0 k0 m0 c0:Nat} {l0:Loc}:AV.cV l0 (.bM q0 k0 m0 c0)=(.bM q0 k0 m0 c0:AV):=rfl
theorem E3 {l0:Loc}:AV.cV l0 (.cH)=(.cH:AV):=rfl
theorem HI {eb:Bool} {l0:Loc}:AV.cV l0 (cJ eb)=(cJ eb:AV):=by cases eb<;>rfl
theorem Pf {z:Value}:AV.fV (.v z)=(.v z:AV):=rfl
theorem HJ {k:IntKind} {i:Int}:AV.fV (.int k i)=(.int k i:AV):=rfl
theorem E4 {b:Bool}:AV.fV (.bool b)=(.bool b:AV):=rfl
theorem HK {l:List UInt8}:AV.fV (.str l)=(.str l:AV):=rfl
theorem HL {s o:Nat}:AV.fV (.ptr s o)=(.ptr s o:AV):=rfl
theorem LF {a:AV} {o:Nat}:AV.fV (.ep a o)=(.ep a o:AV):=rfl
theorem LG {f:Nat} {cs:List AV}:AV.fV (.fn f cs)=(.fn f cs:AV):=rfl
theorem LH:AV.fV (.un)=(.un:AV):=rfl
theorem LI {c:UInt8}:AV.fV (b8 c)=(b8 c:AV):=rfl
theorem LJ {k:Nat} {xs:List AV}:AV.fV (.sl .n k xs)=(.sl .n k xs:AV):=rfl
theorem HM {k:Nat} {xs:List AV}:AV.fV (.sl .ex k xs)=(.sl .ex k xs:AV):=rfl
theorem E5 {k:Nat} {xs:List AV}:AV.fV (.sl .own k xs)=(.sl .own k xs:AV):=rfl
theorem HN {cs:List AV}:AV.fV (.agg cs)=(.agg cs:AV):=rfl
theorem HO {cs:List AV}:AV.fV (.aW cs)=(.aW cs:AV):=rfl
theorem HP {q0 k0 o0 m0:Nat}:AV.fV (.b6 q0 k0 o0 m0)=(.b6 q0 k0 o0 m0:AV):=rfl
theorem HQ {q0 k0 m0 c0:Nat}:AV.fV (.bM q0 k0 m0 c0)=(.bM q0 k0 m0 c0:AV):=rfl
theorem HR:AV.fV (.cH)=(.cH:AV):=rfl
theorem LK {eb:Bool}:AV.fV (cJ eb)=(cJ eb:AV):=by cases eb<;>rfl
theorem Pg {a b k:Nat} {xs:List AV}:AV.fV (.sl (.fr (.cell a b)) k xs)= .sl .n k xs:=rfl
theorem Ph {a k:Nat} {xs:List AV}:AV.fV (.sl (.fr (.tmp a)) k xs)= .sl (.fr (.tmp a)) k xs:=rfl
theorem HS {z:Value}:AV.cells (.v z)=[.v z]:=rfl
theorem CK {k:IntKind} {i:Int}:AV.cells (.int k i)=[.int k i]:=rfl
theorem AN {b:Bool}:AV.cells (.bool b)=[.bool b]:=rfl
theorem CL {l:List UInt8}:AV.cells (.str l)=[.str l]:=rfl
theorem CM {s o:Nat}:AV.cells (.ptr s o)=[.ptr s o]:=rfl
theorem E6 {a:AV} {o:Nat}:AV.cells (.ep a o)=[.ep a o]:=rfl
theorem E7 {f:Nat} {cs:List AV}:AV.cells (.fn f cs)=[.fn f cs]:=rfl
theorem E8:AV.cells (.un)=[.un]:=rfl
theorem E9 {c:UInt8}:AV.cells (b8 c)=[b8 c]:=rfl
theorem Fa {k:Nat} {xs:List AV}:AV.cells (.sl .n k xs)=[.sl .n k xs]:=rfl
theorem CN {k:Nat} {xs:List AV}:AV.cells (.sl .ex k xs)=[.sl .ex k xs]:=rfl
theorem AO {k:Nat} {xs:List AV}:AV.cells (.sl .own k xs)=[.sl .own k xs]:=rfl
theorem CO {l:Loc} {k:Nat} {xs:List AV}:AV.cells (.sl (.fr l) k xs)=[.sl (.fr l) k xs]:=rfl
theorem CP {cs:List AV}:AV.cells (.agg cs)=cs:=rfl
theorem CQ {cs:List AV}:AV.cells (.aW cs)=[.aW cs]:=rfl
theorem CS {q0 k0 o0 m0:Nat}:AV.cells (.b6 q0 k0 o0 m0)=[.b6 q0 k0 o0 m0]:=rfl
theorem CT {q0 k0 m0 c0:Nat}:AV.cells (.bM q0 k0 m0 c0)=[.bM q0 k0 m0 c0]:=rfl
theorem CU:AV.cells (.cH)=[.cH]:=rfl
theorem Fb {eb:Bool}:AV.cells (cJ eb)=[cJ eb]:=by cases eb<;>rfl
theorem Pj {z:Value}:AV.fW (.v z)=true:=rfl
theorem HT {k:IntKind} {i:Int}:AV.fW (.int k i)=true:=rfl
theorem Fc {b:Bool}:AV.fW (.bool b)=true:=rfl
theorem HU {l:List UInt8}:AV.fW (.str l)=true:=rfl
theorem HV {s o:Nat}:AV.fW (.ptr s o)=true:=rfl
theorem LL {a:AV} {o:Nat}:AV.fW (.ep a o)=true:=rfl
theorem LM {f:Nat} {cs:List AV}:AV.fW (.fn f cs)=true:=rfl
theorem LN:AV.fW (.un)=false:=rfl
theorem LO {c:UInt8}:AV.fW (b8 c)=true:=rfl
theorem LP {k:Nat} {xs:List AV}:AV.fW (.sl .n k xs)=true:=rfl
theorem HW {k:Nat} {xs:List AV}:AV.fW (.sl .ex k xs)=true:=rfl
theorem Fe {k:Nat} {xs:List AV}:AV.fW (.sl .own k xs)=true:=rfl
theorem HX {l:Loc} {k:Nat} {xs:List AV}:AV.fW (.sl (.fr l) k xs)=true:=rfl
theorem HY {cs:List AV}:AV.fW (.agg cs)=false:=rfl
theorem HZ {cs:List AV}:AV.fW (.aW cs)=false:=rfl
theorem H6 {q0 k0 o0 m0:Nat}:AV.fW (.b6 q0 k0 o0 m0)=true:=rfl
theorem H7 {q0 k0 m0 c0:Nat}:AV.fW (.bM q0 k0 m0 c0)=true:=rfl
theorem H8:AV.fW (.cH)=true:=rfl
theorem LQ {eb:Bool}:AV.fW (cJ eb)=true:=by cases eb<;>rfl
theorem LR {z:Value}:AV.flat (.v z)=true:=rfl
theorem Ff {k:IntKind} {i:Int}:AV.flat (.int k i)=true:=rfl
theorem CV {b:Bool}:AV.flat (.bool b)=true:=rfl
theorem Fg {l:List UInt8}:AV.flat (.str l)=true:=rfl
theorem Fh {s o:Nat}:AV.flat (.ptr s o)=true:=rfl
theorem H9 {a:AV} {o:Nat}:AV.flat (.ep a o)=true:=rfl
theorem Ia {f:Nat} {cs:List AV}:AV.flat (.fn f cs)=true:=rfl
theorem Ib:AV.flat (.un)=true:=rfl
theorem Ic {c:UInt8}:AV.flat (b8 c)=true:=rfl
theorem Ie {k:Nat} {xs:List AV}:AV.flat (.sl .n k xs)=true:=rfl
theorem Fi {k:Nat} {xs:List AV}:AV.flat (.sl .ex k xs)=true:=rfl
theorem CW {k:Nat} {xs:List AV}:AV.flat (.sl .own k xs)=true:=rfl
theorem Fj {l:Loc} {k:Nat} {xs:List AV}:AV.flat (.sl (.fr l) k xs)=true:=rfl
theorem Fk {cs:List AV}:AV.flat (.agg cs)=false:=rfl
theorem Fl {cs:List AV}:AV.flat (.aW cs)=false:=rfl
theorem Fm {q0 k0 o0 m0:Nat}:AV.flat (.b6 q0 k0 o0 m0)=true:=rfl
theorem Fo {q0 k0 m0 c0:Nat}:AV.flat (.bM q0 k0 m0 c0)=true:=rfl
theorem Fp:AV.flat (.cH)=true:=rfl
theorem Ig {eb:Bool}:AV.flat (cJ eb)=true:=by cases eb<;>rfl
theorem SH {z:Value}:AV.np (.v z)=true:=rfl
theorem LS {k:IntKind} {i:Int}:AV.np (.int k i)=true:=rfl
theorem Ih {b:Bool}:AV.np (.bool b)=true:=rfl
theorem LU {l:List UInt8}:AV.np (.str l)=true:=rfl
theorem LV {s o:Nat}:AV.np (.ptr s o)=false:=rfl
theorem Pm {a:AV} {o:Nat}:AV.np (.ep a o)=true:=rfl
theorem Pn {f:Nat} {cs:List AV}:AV.np (.fn f cs)=cs.isEmpty:=rfl
theorem Po:AV.np (.un)=true:=rfl
theorem Pp {c:UInt8}:AV.np (b8 c)=true:=rfl
theorem Pq {k:Nat} {xs:List AV}:AV.np (.sl .n k xs)=true:=rfl
theorem LW {k:Nat} {xs:List AV}:AV.np (.sl .ex k xs)=true:=rfl
theorem Ii {k:Nat} {xs:List AV}:AV.np (.sl .own k xs)=true:=rfl
theorem LX {l:Loc} {k:Nat} {xs:List AV}:AV.np (.sl (.fr l) k xs)=true:=rfl
theorem LY {cs:List AV}:AV.np (.agg cs)=false:=rfl
theorem LZ {cs:List AV}:AV.np (.aW cs)=false:=rfl
theorem L0 {q0 k0 o0 m0:Nat}:AV.np (.b6 q0 k0 o0 m0)=false:=rfl
theorem L1 {q0 k0 m0 c0:Nat}:AV.np (.bM q0 k0 m0 c0)=false:=rfl
theorem L2:AV.np (.cH)=true:=rfl
theorem Pr {eb:Bool}:AV.np (cJ eb)=true:=by cases eb<;>rfl
theorem Ij {z:Value}:AV.dm (.v z)=false:=rfl
theorem CX {k:IntKind} {i:Int}:AV.dm (.int k i)=false:=rfl
theorem AP {b:Bool}:AV.dm (.bool b)=false:=rfl
theorem CY {l:List UInt8}:AV.dm (.str l)=false:=rfl
theorem CZ {s o:Nat}:AV.dm (.ptr s o)=false:=rfl
theorem Fq {a:AV} {o:Nat}:AV.dm (.ep a o)=false:=rfl
theorem Fs {f:Nat} {cs:List AV}:AV.dm (.fn f cs)=false:=rfl
theorem Ft:AV.dm (.un)=false:=rfl
theorem Fu {c:UInt8}:AV.dm (b8 c)=false:=rfl
theorem Fv {k:Nat} {xs:List AV}:AV.dm (.sl .n k xs)=false:=rfl
theorem C3 {k:Nat} {xs:List AV}:AV.dm (.sl .ex k xs)=false:=rfl
theorem AQ {k:Nat} {xs:List AV}:AV.dm (.sl .own k xs)=false:=rfl
theorem C4 {l:Loc} {k:Nat} {xs:List AV}:AV.dm (.sl (.fr l) k xs)=false:=rfl
theorem C5 {cs:List AV}:AV.dm (.agg cs)=false:=rfl
theorem C6 {cs:List AV}:AV.dm (.aW cs)=true:=rfl
theorem C7 {q0 k0 o0 m0:Nat}:AV.dm (.b6 q0 k0 o0 m0)=false:=rfl
theorem C8 {q0 k0 m0 c0:Nat}:AV.dm (.bM q0 k0 m0 c0)=false:=rfl
theorem C9:AV.dm (.cH)=false:=rfl
theorem Fw {eb:Bool}:AV.dm (cJ eb)=false:=by cases eb<;>rfl
theorem SI {L:List Nat} {x:Ar} {z:Value}:cp L x (.v z)= .v z:=rfl
theorem L3 {L:List Nat} {x:Ar} {k:IntKind} {i:Int}:cp L x (.int k i)= .int k i:=rfl
theorem Ik {L:List Nat} {x:Ar} {b:Bool}:cp L x (.bool b)= .bool b:=rfl
theorem L4 {L:List Nat} {x:Ar} {l:List UInt8}:cp L x (.str l)= .str l:=rfl
theorem L5 {L:List Nat} {x:Ar} {s o:Nat}:cp L x (.ptr s o)= .ptr s o:=rfl
theorem Pt {L:List Nat} {x:Ar} {a:AV} {o:Nat}:cp L x (.ep a o)= .ep a o:=rfl
theorem Pu {L:List Nat} {x:Ar} {f:Nat} {cs:List AV}:cp L x (.fn f cs)= .fn f cs:=rfl
theorem Pv {L:List Nat} {x:Ar}:cp L x (.un)= .un:=rfl
theorem Pw {L:List Nat} {x:Ar} {c:UInt8}:cp L x (b8 c)=b8 c:=rfl
theorem Px {L:List Nat} {x:Ar} {k:Nat} {xs:List AV}:cp L x (.sl .n k xs)= .sl .n k xs:=rfl
theorem L6 {L:List Nat} {x:Ar} {k:Nat} {xs:List AV}:cp L x (.sl .ex k xs)= .sl .ex k xs:=rfl
theorem L7 {L:List Nat} {x:Ar} {l:Loc} {k:Nat} {xs:List AV}:cp L x (.sl (.fr l) k xs)= .sl (.fr l) k xs:=rfl
theorem L8 {L:List Nat} {x:Ar} {cs:List AV}:cp L x (.agg cs)= .agg (cs.map AV.bn):=rfl
theorem L9 {L:List Nat} {x:Ar} {cs:List AV}:cp L x (.aW cs)= .aW (cs.map AV.bn):=rfl
theorem Ma {L:List Nat} {x:Ar} {q0 k0 o0 m0:Nat}:cp L x (.b6 q0 k0 o0 m0)= .b6 q0 k0 o0 m0:=rfl
theorem Mb {L:List Nat} {x:Ar} {q0 k0 m0 c0:Nat}:cp L x (.bM q0 k0 m0 c0)= .bM q0 k0 m0 c0:=rfl
theorem Mc {L:List Nat} {x:Ar}:cp L x (.cH)= .cH:=rfl
theorem Py {L:List Nat} {x:Ar} {eb:Bool}:cp L x (cJ eb)=cJ eb:=by cases eb<;>rfl
theorem Pz {L:List Nat} {u k:Nat} {xs:List AV}:cp L (.t u) (.sl .own k xs)=if L.contains u then .sl (.fr (.tmp u)) k xs else .sl .n k xs:=rfl
theorem PA {L:List Nat} {a:AV} {k:Nat} {xs:List AV}:cp L (.c a) (.sl .own k xs)= .sl .n k xs:=rfl
theorem PB {P:Program} {L:List Nat} {N n0:Nat} {e:Env} {ah:AH} {t:List It} {Q:Exit→Env→AH→Prop} {r:List aF} {d:Option Nat} {x:Ar} {z:Value}:gQ P L N n0 e ah d r t Q x (.v z)=U P L N n0 (.ops r::t) Q .normal (ay L e d (cp L x (.v z))) ah:=rfl
theorem Il {P:Program} {L:List Nat} {N n0:Nat} {e:Env} {ah:AH} {t:List It} {Q:Exit→Env→AH→Prop} {r:List aF} {d:Option Nat} {x:Ar} {k:IntKind} {i:Int}:gQ P L N n0 e ah d r t Q x (.int k i)=U P L N n0 (.ops r::t) Q .normal (ay L e d (cp L x (.int k i))) ah:=rfl
theorem Fx {P:Program} {L:List Nat} {N n0:Nat} {e:Env} {ah:AH} {t:List It} {Q:Exit→Env→AH→Prop} {r:List aF} {d:Option Nat} {x:Ar} {b:Bool}:gQ P L N n0 e ah d r t Q x (.bool b)=U P L N n0 (.ops r::t) Q .normal (ay L e d (cp L x (.bool b))) ah:=rfl
theorem Im {P:Program} {L:List Nat} {N n0:Nat} {e:Env} {ah:AH} {t:List It} {Q:Exit→Env→AH→Prop} {r:List aF} {d:Option Nat} {x:Ar} {l:List UInt8}:gQ P L N n0 e ah d r t Q x (.str l)=U P L N n0 (.ops r::t) Q .normal (ay L e d (cp L x (.str l))) ah:=rfl
theorem Io {P:Program} {L:List Nat} {N n0:Nat} {e:Env} {ah:AH} {t:List It} {Q:Exit→Env→AH→Prop} {r:List aF} {d:Option Nat} {x:Ar} {s o:Nat}:gQ P L N n0 e ah d r t Q x (.ptr s o)=U P L N n0 (.ops r::t) Q .normal (ay L e d (cp L x (.ptr s o))) ah:=rfl
theorem Md {P:Program} {L:List Nat} {N n0:Nat} {e:Env} {ah:AH} {t:List It} {Q:Exit→Env→AH→Prop} {r:List aF} {d:Option Nat} {x:Ar} {a:AV} {o:Nat}:gQ P L N n0 e ah d r t Q x (.ep a o)=U P L N n0 (.ops r::t) Q .normal (ay L e d (cp L x (.ep a o))) ah:=rfl
theorem Me {P:Program} {L:List Nat} {N n0:Nat} {e:Env} {ah:AH} {t:List It} {Q:Exit→Env→AH→Prop} {r:List aF} {d:Option Nat} {x:Ar} {f:Nat} {cs:List AV}:gQ P L N n0 e ah d r t Q x (.fn f cs)=U P L N n0 (.ops r::t) Q .normal (ay L e d (cp L x (.fn f cs))) ah:=rfl
theorem Mf {P:Program} {L:List Nat} {N n0:Nat} {e:Env} {ah:AH} {t:List It} {Q:Exit→Env→AH→Prop} {r:List aF} {d:Option Nat} {x:Ar}:gQ P L N n0 e ah d r t Q x (.un)=U P L N n0 (.ops r::t) Q .normal (ay L e d (cp L x (.un))) ah:=rfl
theorem Mg {P:Program} {L:List Nat} {N n0:Nat} {e:Env} {ah:AH} {t:List It} {Q:Exit→Env→AH→Prop} {r:List aF} {d:Option Nat} {x:Ar} {c:UInt8}:gQ P L N n0 e ah d r t Q x (b8 c)=U P L N n0 (.ops r::t) Q .normal (ay L e d (cp L x (b8 c))) ah:=rfl
theorem Mh {P:Program} {L:List Nat} {N n0:Nat} {e:Env} {ah:AH} {t:List It} {Q:Exit→Env→AH→Prop} {r:List aF} {d:Option Nat} {x:Ar} {k:Nat} {xs:List AV}:gQ P L N n0 e ah d r t Q x (.sl .n k xs)=U P L N n0 (.ops r::t) Q .normal (ay L e d (cp L x (.sl .n k xs))) ah:=rfl
theorem Ip {P:Program} {L:List Nat} {N n0:Nat} {e:Env} {ah:AH} {t:List It} {Q:Exit→Env→AH→Prop} {r:List aF} {d:Option Nat} {x:Ar} {k:Nat} {xs:List AV}:gQ P L N n0 e ah d r t Q x (.sl .ex k xs)=U P L N n0 (.ops r::t) Q .normal (ay L e d (cp L x (.sl .ex k xs))) ah:=rfl
theorem Iq {P:Program} {L:List Nat} {N n0:Nat} {e:Env} {ah:AH} {t:List It} {Q:Exit→Env→AH→Prop} {r:List aF} {d:Option Nat} {x:Ar} {l:Loc} {k:Nat} {xs:List AV}:gQ P L N n0 e ah d r t Q x (.sl (.fr l) k xs)=U P L N n0 (.ops r::t) Q .normal (ay L e d (cp L x (.sl (.fr l) k xs))) ah:=rfl
theorem Ir {P:Program} {L:List Nat} {N n0:Nat} {e:Env} {ah:AH} {t:List It} {Q:Exit→Env→AH→Prop} {r:List aF} {d:Option Nat} {x:Ar} {cs:List AV}:gQ P L N n0 e ah d r t Q x (.agg cs)=U P L N n0 (.ops r::t) Q .normal (ay L e d (cp L x (.agg cs))) ah:=rfl
theorem Is {P:Program} {L:List Nat} {N n0:Nat} {e:Env} {ah:AH} {t:List It} {Q:Exit→Env→AH→Prop} {r:List aF} {d:Option Nat} {x:Ar} {cs:List AV}:gQ P L N n0 e ah d r t Q x (.aW cs)=U P L N n0 (.ops r::t) Q .normal (ay L e d (cp L x (.aW cs))) ah:=rfl
theorem Iu {P:Program} {L:List Nat} {N n0:Nat} {e:Env} {ah:AH} {t:List It} {Q:Exit→Env→AH→Prop} {r:List aF} {d:Option Nat} {x:Ar} {q0 k0 o0 m0:Nat}:gQ P L N n0 e ah d r t Q x (.b6 q0 k0 o0 m0)=U P L N n0 (.ops r::t) Q .normal (ay L e d (cp L x (.b6 q0 k0 o0 m0))) ah:=rfl
theorem Iv {P:Program} {L:List Nat} {N n0:Nat} {e:Env} {ah:AH} {t:List It} {Q:Exit→Env→AH→Prop} {r:List aF} {d:Option Nat} {x:Ar} {q0 k0 m0 c0:Nat}:gQ P L N n0 e ah d r t Q x (.bM q0 k0 m0 c0)=U P L N n0 (.ops r::t) Q .normal (ay L e d (cp L x (.bM q0 k0 m0 c0))) ah:=rfl
theorem Iw {P:Program} {L:List Nat} {N n0:Nat} {e:Env} {ah:AH} {t:List It} {Q:Exit→Env→AH→Prop} {r:List aF} {d:Option Nat} {x:Ar}:gQ P L N n0 e ah d r t Q x (.cH)=U P L N n0 (.ops r::t) Q .normal (ay L e d (cp L x (.cH))) ah:=rfl
theorem Mi {P:Program} {L:List Nat} {N n0:Nat} {e:Env} {ah:AH} {t:List It} {Q:Exit→Env→AH→Prop} {r:List aF} {d:Option Nat} {x:Ar} {eb:Bool}:gQ P L N n0 e ah d r t Q x (cJ eb)=U P L N n0 (.ops r::t) Q .normal (ay L e d (cp L x (cJ eb))) ah:=by cases eb<;>rfl
theorem Mj {P:Program} {L:List Nat} {N n0:Nat} {e:Env} {ah:AH} {t:List It} {Q:Exit→Env→AH→Prop} {r:List aF} {d:Option Nat} {y k:Nat} {xs:List AV}:gQ P L N n0 e ah d r t Q (.t y) (.sl .own k xs)=U P L N n0 (.ops r::t) Q .normal (ay L (put e y (.sl .n k xs)) d (.sl .own k xs)) ah:=rfl
theorem Mk {P:Program} {L:List Nat} {N n0:Nat} {e:Env} {ah:AH} {t:List It} {Q:Exit→Env→AH→Prop} {r:List aF} {d:Option Nat} {a:AV} {k:Nat} {xs:List AV}:gQ P L N n0 e ah d r t Q (.c a) (.sl .own k xs)=U P L N n0 (.ops r::t) Q .normal (ay L e d (cp L (.c a) (.sl .own k xs))) ah:=rfl
theorem Ml {L:List Nat} {e:Env} {ah:AH} {d:Option Nat} {a b:Ar}:GW L e ah d a b (.bool true)=some (ay L e d (ev e a).sh,ah):=rfl
theorem Mm {L:List Nat} {e:Env} {ah:AH} {d:Option Nat} {a b:Ar}:GW L e ah d a b (.bool false)=some (ay L e d (ev e b).sh,ah):=rfl
theorem Ix {L:List Nat} {e:Env} {ah:AH} {d:Option Nat} {s o:Nat}:Ob L e ah d (.ptr s o)=some (ay L e d (.ptr s o),ah):=rfl
theorem Mn {L:List Nat} {e:Env} {ah:AH} {d:Option Nat} {a:AV} {o:Nat}:Ob L e ah d (.ep a o)=some (ay L e d (.ep a o),ah):=rfl
theorem Iy {L:List Nat} {e:Env} {ah:AH} {d:Option Nat} {q s o:Nat}:Oc L e ah d q (.ptr s o)=some (ay L e d (.ptr s (o+q)),ah):=rfl
theorem Mo {L:List Nat} {e:Env} {ah:AH} {d:Option Nat} {q o:Nat} {a:AV}:Oc L e ah d q (.ep a o)=some (ay L e d (.ep a (o+q)),ah):=rfl
theorem Mp {L:List Nat} {e:Env} {ah:AH} {d:Option Nat} {n:Option Nat} {s o:Nat}:Ck L d n e ah (.ptr s o)=R8 L d n s o e ah (ah[s]?):=rfl
theorem PD {L:List Nat} {e:Env} {ah:AH} {d:Option Nat} {o:Nat} {a:AV}:Ck L d none e ah (.ep a o)=KH L d e ah (a.cells[o]?):=rfl
theorem PF {L:List Nat} {e:Env} {ah:AH} {d:Option Nat} {n o:Nat} {a:AV}:Ck L d (some n) e ah (.ep a o)=if o+n≤a.cells.length∧bU ((a.cells.drop o).take n) then some (ay L e d (.agg (((a.cells.drop o).take n).map AV.s1)),ah) else none:=rfl
theorem PG {s1 o1:Nat} {z:Value}:mL s1 o1 (some (.v z))=some (AV.bn (.v z)):=rfl
theorem Iz {s1 o1:Nat} {k:IntKind} {i:Int}:mL s1 o1 (some (.int k i))=some (AV.bn (.int k i)):=rfl
theorem Fy {s1 o1:Nat} {b:Bool}:mL s1 o1 (some (.bool b))=some (AV.bn (.bool b)):=rfl
theorem IA {s1 o1:Nat} {l:List UInt8}:mL s1 o1 (some (.str l))=some (AV.bn (.str l)):=rfl
theorem IB {s1 o1:Nat} {s o:Nat}:mL s1 o1 (some (.ptr s o))=some (AV.bn (.ptr s o)):=rfl
theorem Mq {s1 o1:Nat} {a:AV} {o:Nat}:mL s1 o1 (some (.ep a o))=some (AV.bn (.ep a o)):=rfl
theorem Mr {s1 o1:Nat} {f:Nat} {cs:List AV}:mL s1 o1 (some (.fn f cs))=some (AV.bn (.fn f cs)):=rfl
theorem Ms {s1 o1:Nat}:mL s1 o1 (some (.un))=some (AV.bn (.un)):=rfl
theorem Mt {s1 o1:Nat} {c:UInt8}:mL s1 o1 (some (b8 c))=some (AV.bn (b8 c)):=rfl
theorem Mu {s1 o1:Nat} {k:Nat} {xs:List AV}:mL s1 o1 (some (.sl .n k xs))=some (AV.bn (.sl .n k xs)):=rfl
theorem IC {s1 o1:Nat} {k:Nat} {xs:List AV}:mL s1 o1 (some (.sl .ex k xs))=some (AV.bn (.sl .ex k xs)):=rfl
theorem ID {s o k:Nat} {xs:List AV}:mL s o (some (.sl .own k xs))=some (.sl (.fr (.cell s o)) k xs):=rfl
theorem IE {s1 o1:Nat} {l:Loc} {k:Nat} {xs:List AV}:mL s1 o1 (some (.sl (.fr l) k xs))=some (AV.bn (.sl (.fr l) k xs)):=rfl
theorem IF {s1 o1:Nat} {q0 k0 o0 m0:Nat}:mL s1 o1 (some (.b6 q0 k0 o0 m0))=some (AV.bn (.b6 q0 k0 o0 m0)):=rfl
theorem IG {s1 o1:Nat} {q0 k0 m0 c0:Nat}:mL s1 o1 (some (.bM q0 k0 m0 c0))=some (AV.bn (.bM q0 k0 m0 c0)):=rfl
theorem II {s1 o1:Nat}:mL s1 o1 (some (.cH))=some (AV.bn (.cH)):=rfl
theorem Mv {s1 o1:Nat} {eb:Bool}:mL s1 o1 (some (cJ eb))=some (AV.bn (cJ eb)):=by cases eb<;>rfl
theorem SJ {L:List Nat} {e:Env} {ah:AH} {d:Option Nat} {ks:List Pk} {neq:Bool} {zq bs:List AV}:TP L e ah d ks neq (.agg zq) (.agg bs)=(bO ks zq bs).map fun b=>(ay L e d (.bool (if neq then !b else b)),ah):=rfl
theorem SK {L:List Nat} {e:Env} {ah:AH} {d:Option Nat} {l:List UInt8} {k k2:IntKind} {i j:Int}:JM L e ah d l (.int k i) (.int k2 j)=(sub l i j).map fun m=>(ay L e d (.str m),ah):=rfl
theorem SL {L:List Nat} {e:Env} {ah:AH} {d:Option Nat} {q:Nat} {xs:List AV} {k k2:IntKind} {i j:Int}:JN L e ah d q xs (.int k i) (.int k2 j)=(sub xs i j).map fun ys=>(ay L e d (.sl .n q ys),ah):=rfl
theorem PI {L:List Nat} {e:Env} {ah:AH} {d:Option Nat} {q:Nat} {xs:List AV} {k k2 k3:IntKind} {i j m:Int}:zo L e ah d q xs (.int k i) (.int k2 j) (.int k3 m)=(xA xs i j m).map fun ys=>(ay L e d (.sl .ex q ys),ah):=rfl
theorem PJ {L:List Nat} {e:Env} {ah:AH} {d:Option Nat} {k b:Nat} {x:Ar} {ys xs:List AV} {tg:Tg}:Cr L e ah d k b x ys (.sl tg k xs)=zp L e ah d k x xs tg (cF b xs ys):=by simp [Cr]
theorem PK {L:List Nat} {e:Env} {ah:AH} {d:Option Nat} {k:Nat} {x:Ar} {xs zs:List AV}:oa L e ah d k x xs zs .ex=some (ay L e d (.sl .own k zs),ah):=rfl
theorem Mw {L:List Nat} {e:Env} {ah:AH} {d:Option Nat} {k y:Nat} {xs zs:List AV}:oa L e ah d k (.t y) xs zs .own=some (ay L (put e y (.sl .n k xs)) d (.sl .own k zs),ah):=rfl
def VI (L:List Nat) (e:Env) (ah:AH) (d:Option Nat) (k u:Nat) (zs:List AV):AV→Option (Env×AH)
 | .sl .own k' us=>if k'=k then some (ay L (put e u (.sl .n k' us)) d (.sl .own k zs),ah) else none
 |_=>none
def SM (L:List Nat) (e:Env) (ah:AH) (d:Option Nat) (k s q:Nat) (zs cs:List AV):Option AV→Option (Env×AH)
 |some (.sl .own k' us)=>if k'=k then (over cs q [.sl .n k' us]).map fun cs=>(ay L e d (.sl .own k zs),ah.set s cs) else none
 |_=>none
def VJ (L:List Nat) (e:Env) (ah:AH) (d:Option Nat) (k s q:Nat) (zs:List AV):Option (List AV)→Option (Env×AH)
 |some cs=>SM L e ah d k s q zs cs (cs[q]?)
 |none=>none
theorem SN {L:List Nat} {e:Env} {ah:AH} {d:Option Nat} {k u:Nat} {x:Ar} {xs zs:List AV}:oa L e ah d k x xs zs (.fr (.tmp u))=VI L e ah d k u zs (Am.get e u):=by simp only [oa];cases Am.get e u with|sl tg k2 us=>cases tg<;>rfl|_=>rfl
theorem SO {L:List Nat} {e:Env} {ah:AH} {d:Option Nat} {k s q:Nat} {x:Ar} {xs zs:List AV}:oa L e ah d k x xs zs (.fr (.cell s q))=VJ L e ah d k s q zs (ah[s]?):=by simp only [oa];cases ah[s]? with|none=>rfl|some cs=>simp only [VJ];cases cs[q]? with|none=>rfl|some a=>cases a with|sl tg k2 us=>cases tg<;>rfl|_=>rfl
theorem VK {L:List Nat} {e:Env} {ah:AH} {d:Option Nat} {k u:Nat} {zs us:List AV}:VI L e ah d k u zs (.sl .own k us)=some (ay L (put e u (.sl .n k us)) d (.sl .own k zs),ah):=by simp [VI]
theorem VL {L:List Nat} {e:Env} {ah:AH} {d:Option Nat} {k s q:Nat} {zs cs:List AV}:VJ L e ah d k s q zs (some cs)=SM L e ah d k s q zs cs (cs[q]?):=rfl
theorem VM {L:List Nat} {e:Env} {ah:AH} {d:Option Nat} {k s q:Nat} {zs cs us:List AV}:SM L e ah d k s q zs cs (some (.sl .own k us))=(over cs q [.sl .n k us]).map fun cs=>(ay L e d (.sl .own k zs),ah.set s cs):=by simp [SM]
theorem VN:bU []=true:=rfl
theorem VO {a:AV} {r:List AV}:bU (a::r)=(a.flat&&bU r):=rfl
theorem VP:bK []=true:=rfl
theorem Yo {a:AV} {r:List AV}:bK (a::r)=(a.fW&&bK r):=rfl
theorem VQ:eE []=true:=rfl
theorem Yp {a:AV} {r:List AV}:eE (a::r)=(a.np&&eE r):=rfl
theorem Yq {t:Nat}:Am.get [] t= .un:=rfl
theorem Yr {i t:Nat} {a:AV} {r:Env}:Am.get ((i,a)::r) t=if i=t then a else Am.get r t:=rfl
theorem Ys {d:Nat} {a:AV}:put [] d a=[(d,a)]:=rfl
theorem Yt {i d:Nat} {a b:AV} {r:Env}:put ((i,b)::r) d a=if i=d then (d,a)::r else if d<i then (d,a)::(i,b)::r else (i,b)::put r d a:=rfl
theorem Yu {L:List Nat}:keep L []=[]:=rfl
theorem Yv {L:List Nat} {i:Nat} {a:AV} {r:Env}:keep L ((i,a)::r)=if L.contains i then (i,a)::keep L r else keep L r:=rfl
theorem Yw {l:Loc}:iO l []=[]:=rfl
theorem Yx {l:Loc} {i:Nat} {a:AV} {r:Env}:iO l ((i,a)::r)=(i,a.cV l)::iO l r:=rfl
theorem Yy:qR []=[]:=rfl
theorem Yz {i:Nat} {a:AV} {r:Env}:qR ((i,a)::r)=(i,a.fV)::qR r:=rfl
theorem YA {e:Env}:lO e none=e:=rfl
theorem YB {e:Env} {d:Nat}:lO e (some d)=put e d (.aW []):=rfl
theorem YC {L:List Nat} {e:Env} {a:AV}:ay L e none a=e:=rfl
theorem YD {L:List Nat} {e:Env} {d:Nat} {a:AV}:ay L e (some d) a=if L.contains d then (if a.bt then put (iO (.tmp d) e) d a else put e d a.df) else put e d a:=rfl
theorem YE {i:Nat}:dJ i []=[]:=rfl
theorem YF {i:Nat} {a:AV} {r:List AV}:dJ i (a::r)=(i,a)::dJ (i+1) r:=rfl
theorem YG {k:IntKind} {i:Int}:xx k i= .int k i:=rfl
theorem YH {a b:Nat}:(Loc.tmp a=Loc.tmp b)=(a=b):=by simp
theorem YI {a b c d:Nat}:(Loc.cell a b=Loc.cell c d)=(a=c∧b=d):=by simp
theorem VS {a c d:Nat}:(Loc.tmp a=Loc.cell c d)=False:=by simp
theorem VT {a c d:Nat}:(Loc.cell c d=Loc.tmp a)=False:=by simp
def pR (e:Env) (ah:AH) (s p n:Nat) (x:Ar) (cs:List AV):AV→Option (Env×AH)
 | .sl .own k xs=>match x with
   | .t y=>if n=1 then (over cs p [.sl .own k xs]).map fun cs=>(iO (.cell s p) (put e y (.sl .n k xs)),ah.set s cs) else none
   | .c a=>if (AV.sl .own k xs).cells.length=n∧bK (AV.sl .own k xs).cells then (over cs p ((AV.sl .own k xs).cells.map AV.bn)).map fun cs=>(e,ah.set s cs) else none
 |w=>if w.cells.length=n∧bK w.cells then (over cs p (w.cells.map AV.bn)).map fun cs=>(e,ah.set s cs) else none
def SP (e:Env) (ah:AH) (s p n:Nat) (x:Ar):Option (List AV)→Option (Env×AH)
 |some cs=>pR e ah s p n x cs (ev e x)
 |none=>none
def VU (e:Env) (ah:AH) (n:Nat) (x:Ar):AV→Option (Env×AH)
 | .ptr s p=>SP e ah s p n x (ah[s]?)
 |_=>none
theorem TZ {P:Program} {L:List Nat} {N n0:Nat} {e:Env} {ah:AH} {t:List It} {Q:Exit→Env→AH→Prop} {r:List aF} {d:Option Nat} {a x:Ar} {n:Nat} {g:Option (Nat×Bool)}:UG P L N n0 ⟨d, .st a x n,g⟩ r t Q e ah (some true)=US P L N n0 r t Q (VU e ah n x (ev e a)):=by
 simp only [UG,bg]
 congr 1
 cases ev e a with
 |ptr s p=>
  simp only [VU]
  cases ah[s]? with
  |none=>rfl
  |some cs=>
   simp only [SP]
   cases ev e x with
   |sl tg k xs=>cases tg<;>cases x<;>rfl
   |_=>rfl
 |_=>rfl
theorem VV {e:Env} {ah:AH} {s p n:Nat} {x:Ar}:VU e ah n x (.ptr s p)=SP e ah s p n x (ah[s]?):=rfl
theorem VW {e:Env} {ah:AH} {s p n:Nat} {x:Ar} {cs:List AV}:SP e ah s p n x (some cs)=pR e ah s p n x cs (ev e x):=rfl
theorem Mx {e:Env} {ah:AH} {s p n y k:Nat} {cs xs:List AV}:pR e ah s p n (.t y) cs (.sl .own k xs)=if n=1 then (over cs p [.sl .own k xs]).map fun cs=>(iO (.cell s p) (put e y (.sl .n k xs)),ah.set s cs) else none:=rfl
theorem PL {e:Env} {ah:AH} {s p n:Nat} {x:Ar} {cs:List AV} {z:Value}:pR e ah s p n x cs (.v z)=if (AV.cells (.v z)).length=n∧bK (AV.cells (.v z)) then (over cs p ((AV.cells (.v z)).map AV.bn)).map fun cs=>(e,ah.set s cs) else none:=rfl
theorem IJ {e:Env} {ah:AH} {s p n:Nat} {x:Ar} {cs:List AV} {k:IntKind} {i:Int}:pR e ah s p n x cs (.int k i)=if (AV.cells (.int k i)).length=n∧bK (AV.cells (.int k i)) then (over cs p ((AV.cells (.int k i)).map AV.bn)).map fun cs=>(e,ah.set s cs) else none:=rfl
theorem Fz {e:Env} {ah:AH} {s p n:Nat} {x:Ar} {cs:List AV} {b:Bool}:pR e ah s p n x cs (.bool b)=if (AV.cells (.bool b)).length=n∧bK (AV.cells (.bool b)) then (over cs p ((AV.cells (.bool b)).map AV.bn)).map fun cs=>(e,ah.set s cs) else none:=rfl
theorem IK {e:Env} {ah:AH} {s p n:Nat} {x:Ar} {cs:List AV} {l:List UInt8}:pR e ah s p n x cs (.str l)=if (AV.cells (.str l)).length=n∧bK (AV.cells (.str l)) then (over cs p ((AV.cells (.str l)).map AV.bn)).map fun cs=>(e,ah.set s cs) else none:=rfl
theorem IL {e:Env} {ah:AH} {s p n:Nat} {x:Ar} {cs:List AV} {s0 o:Nat}:pR e ah s p n x cs (.ptr s0 o)=if (AV.cells (.ptr s0 o)).length=n∧bK (AV.cells (.ptr s0 o)) then (over cs p ((AV.cells (.ptr s0 o)).map AV.bn)).map fun cs=>(e,ah.set s cs) else none:=rfl
theorem My {e:Env} {ah:AH} {s p n:Nat} {x:Ar} {cs:List AV} {a:AV} {o:Nat}:pR e ah s p n x cs (.ep a o)=if (AV.cells (.ep a o)).length=n∧bK (AV.cells (.ep a o)) then (over cs p ((AV.cells (.ep a o)).map AV.bn)).map fun cs=>(e,ah.set s cs) else none:=rfl
theorem Mz {e:Env} {ah:AH} {s p n:Nat} {x:Ar} {cs:List AV} {f:Nat} {ds:List AV}:pR e ah s p n x cs (.fn f ds)=if (AV.cells (.fn f ds)).length=n∧bK (AV.cells (.fn f ds)) then (over cs p ((AV.cells (.fn f ds)).map AV.bn)).map fun cs=>(e,ah.set s cs) else none:=rfl
theorem MA {e:Env} {ah:AH} {s p n:Nat} {x:Ar} {cs:List AV} {c:UInt8}:pR e ah s p n x cs (b8 c)=if (AV.cells (b8 c)).length=n∧bK (AV.cells (b8 c)) then (over cs p ((AV.cells (b8 c)).map AV.bn)).map fun cs=>(e,ah.set s cs) else none:=rfl
theorem MB {e:Env} {ah:AH} {s p n:Nat} {x:Ar} {cs:List AV} {k:Nat} {xs:List AV}:pR e ah s p n x cs (.sl .n k xs)=if (AV.cells (.sl .n k xs)).length=n∧bK (AV.cells (.sl .n k xs)) then (over cs p ((AV.cells (.sl .n k xs)).map AV.bn)).map fun cs=>(e,ah.set s cs) else none:=rfl
theorem IM {e:Env} {ah:AH} {s p n:Nat} {x:Ar} {cs:List AV} {k:Nat} {xs:List AV}:pR e ah s p n x cs (.sl .ex k xs)=if (AV.cells (.sl .ex k xs)).length=n∧bK (AV.cells (.sl .ex k xs)) then (over cs p ((AV.cells (.sl .ex k xs)).map AV.bn)).map fun cs=>(e,ah.set s cs) else none:=rfl
theorem IN {e:Env} {ah:AH} {s p n:Nat} {x:Ar} {cs:List AV} {l:Loc} {k:Nat} {xs:List AV}:pR e ah s p n x cs (.sl (.fr l) k xs)=if (AV.cells (.sl (.fr l) k xs)).length=n∧bK (AV.cells (.sl (.fr l) k xs)) then (over cs p ((AV.cells (.sl (.fr l) k xs)).map AV.bn)).map fun cs=>(e,ah.set s cs) else none:=rfl
theorem IP {e:Env} {ah:AH} {s p n:Nat} {x:Ar} {cs:List AV} {ds:List AV}:pR e ah s p n x cs (.agg ds)=if (AV.cells (.agg ds)).length=n∧bK (AV.cells (.agg ds)) then (over cs p ((AV.cells (.agg ds)).map AV.bn)).map fun cs=>(e,ah.set s cs) else none:=rfl
theorem IQ {e:Env} {ah:AH} {s p n:Nat} {x:Ar} {cs:List AV} {q0 k0 o0 m0:Nat}:pR e ah s p n x cs (.b6 q0 k0 o0 m0)=if (AV.cells (.b6 q0 k0 o0 m0)).length=n∧bK (AV.cells (.b6 q0 k0 o0 m0)) then (over cs p ((AV.cells (.b6 q0 k0 o0 m0)).map AV.bn)).map fun cs=>(e,ah.set s cs) else none:=rfl
theorem IT {e:Env} {ah:AH} {s p n:Nat} {x:Ar} {cs:List AV} {q0 k0 m0 c0:Nat}:pR e ah s p n x cs (.bM q0 k0 m0 c0)=if (AV.cells (.bM q0 k0 m0 c0)).length=n∧bK (AV.cells (.bM q0 k0 m0 c0)) then (over cs p ((AV.cells (.bM q0 k0 m0 c0)).map AV.bn)).map fun cs=>(e,ah.set s cs) else none:=rfl
theorem IU {e:Env} {ah:AH} {s p n:Nat} {x:Ar} {cs:List AV}:pR e ah s p n x cs (.cH)=if (AV.cells (.cH)).length=n∧bK (AV.cells (.cH)) then (over cs p ((AV.cells (.cH)).map AV.bn)).map fun cs=>(e,ah.set s cs) else none:=rfl
theorem MC {e:Env} {ah:AH} {s p n:Nat} {x:Ar} {cs:List AV} {eb:Bool}:pR e ah s p n x cs (cJ eb)=if (AV.cells (cJ eb)).length=n∧bK (AV.cells (cJ eb)) then (over cs p ((AV.cells (cJ eb)).map AV.bn)).map fun cs=>(e,ah.set s cs) else none:=by cases eb<;>rfl
theorem SQ {c0:AV} {cs ws:List AV} {o:Nat}:over (c0::cs) o ws=if o+ws.length≤(c0::cs).length then some ((c0::cs).take o++ws++(c0::cs).drop (o+ws.length)) else none:=rfl
theorem YJ {e:Env} {cs:List AV}:fill e cs []=some cs:=rfl
def PM (e:Env) (r:List (Nat×Nat×Ar)):Option (List AV)→Option (List AV)
 |some cs=>fill e cs r
 |none=>none
theorem YK {e:Env} {cs:List AV} {o n:Nat} {x:Ar} {r:List (Nat×Nat×Ar)}:fill e cs ((o,n,x)::r)=if (ev e x).cells.length=n∧bK (ev e x).cells then PM e r (over cs o ((ev e x).cells.map AV.bn)) else none:=by
 simp only [fill]
 split
 · cases over cs o ((ev e x).cells.map AV.bn)<;>rfl
 · rfl
theorem YL {e:Env} {cs:List AV} {r:List (Nat×Nat×Ar)}:PM e r (some cs)=fill e cs r:=rfl
theorem PN {P:Program} {L:List Nat} {N n0:Nat} {e:Env} {ah:AH} {t:List It} {Q:Exit→Env→AH→Prop} {r:List aF} {d:Option Nat} {x:Ar} {g:Option (Nat×Bool)}:UG P L N n0 ⟨d, .len x,g⟩ r t Q e ah (some true)=US P L N n0 r t Q (JR L e ah d (ev e x)):=by simp only [UG,bg];cases ev e x<;>rfl
theorem SS {L:List Nat} {e:Env} {ah:AH} {d:Option Nat} {tg:Tg} {k:Nat} {xs:List AV}:JR L e ah d (.sl tg k xs)=some (ay L e d (.int .i64 xs.length),ah):=rfl
theorem JS {P:Program} {L:List Nat} {N n0:Nat} {e:Env} {ah:AH} {t:List It} {Q:Exit→Env→AH→Prop} {r:List aF} {d:Option Nat} {x:Ar} {g:Option (Nat×Bool)}:UG P L N n0 ⟨d, .lens x,g⟩ r t Q e ah (some true)=US P L N n0 r t Q (OL L e ah d (ev e x)):=by simp only [UG,bg];cases ev e x<;>rfl
theorem PO {L:List Nat} {e:Env} {ah:AH} {d:Option Nat} {l:List UInt8}:OL L e ah d (.str l)=some (ay L e d (.int .i64 l.length),ah):=rfl
theorem PR {P:Program} {L:List Nat} {N n0:Nat} {e:Env} {ah:AH} {t:List It} {Q:Exit→Env→AH→Prop} {r:List aF} {d:Option Nat} {x:Ar} {i:Nat} {g:Option (Nat×Bool)}:UG P L N n0 ⟨d, .ext x i,g⟩ r t Q e ah (some true)=US P L N n0 r t Q (ON L e ah d i (ev e x)):=by simp only [UG,bg];cases ev e x with|aW cs=>simp only [ON];cases cs[i]? <;>rfl|_=>rfl
theorem SU {L:List Nat} {e:Env} {ah:AH} {d:Option Nat} {i:Nat} {cs:List AV}:ON L e ah d i (.aW cs)=OM L e ah d (cs[i]?):=rfl
theorem SV {L:List Nat} {e:Env} {ah:AH} {d:Option Nat} {a:AV}:OM L e ah d (some a)=some (ay L e d a.sh,ah):=rfl
theorem JT {P:Program} {L:List Nat} {N n0:Nat} {e:Env} {ah:AH} {t:List It} {Q:Exit→Env→AH→Prop} {r:List aF} {d:Option Nat} {x:Ar} {q:Nat} {n:Option Nat} {g:Option (Nat×Bool)}:UG P L N n0 ⟨d, .By x q n,g⟩ r t Q e ah (some true)=US P L N n0 r t Q (Cw L e ah d q n (ev e x)):=by
 simp only [UG,bg]
 cases ev e x with
 |agg cs=>
  cases n with
  |some n=>rfl
  |none=>simp only [Cw];cases cs[q]? <;>rfl
 |_=>cases n<;>rfl
theorem VX {L:List Nat} {e:Env} {ah:AH} {d:Option Nat} {q:Nat} {cs:List AV}:Cw L e ah d q none (.agg cs)=G1 L e ah d (cs[q]?):=rfl
theorem VY {L:List Nat} {e:Env} {ah:AH} {d:Option Nat} {a:AV}:G1 L e ah d (some a)=some (ay L e d a.bn,ah):=rfl
theorem VZ {L:List Nat} {e:Env} {ah:AH} {d:Option Nat} {q n:Nat} {cs:List AV}:Cw L e ah d q (some n) (.agg cs)=if q+n≤cs.length then some (ay L e d (.agg (((cs.drop q).take n).map AV.bn)),ah) else none:=rfl
theorem PS {P:Program} {L:List Nat} {N n0:Nat} {e:Env} {ah:AH} {t:List It} {Q:Exit→Env→AH→Prop} {r:List aF} {d:Option Nat} {x:Ar} {n:Option Nat} {g:Option (Nat×Bool)}:UG P L N n0 ⟨d, .xH x n,g⟩ r t Q e ah (some true)=US P L N n0 r t Q (OO L e ah d n (ev e x)):=by
 simp only [UG,bg]
 cases ev e x with
 |ep a p=>
  cases n with
  |some n=>rfl
  |none=>simp only [OO,Ck,KH];cases a.cells[p]? <;>rfl
 |_=>cases n<;>rfl
theorem V0 {L:List Nat} {e:Env} {ah:AH} {d:Option Nat} {n:Option Nat} {a:AV} {p:Nat}:OO L e ah d n (.ep a p)=Ck L d n e ah (.ep a p):=rfl
def WA0:=And.intro @OP<|And.intro @G2<|And.intro @EI<|And.intro @G3<|And.intro @G4<|And.intro @KL<|And.intro @KM<|And.intro @KN<|And.intro @KO<|And.intro @KP<|And.intro @G5<|And.intro @EJ<|And.intro @G6<|And.intro @G7<|And.intro @G8<|And.intro @G9<|And.intro @He<|And.intro @Hf<|And.intro @KQ<|And.intro @SD<|And.intro @KR<|And.intro @Hg<|And.intro @KS<|And.intro @KT<|And.intro @OQ<|And.intro @OR<|And.intro @OS<|And.intro @OT<|And.intro @OU<|And.intro @KU<|And.intro @Hh<|And.intro @KV<|And.intro @KW<|And.intro @KX<|And.intro @KY<|And.intro @KZ<|And.intro @K1<|And.intro @OV<|And.intro @SE<|And.intro @K2<|And.intro @Hi<|And.intro @K3<|And.intro @K4<|And.intro @OW<|And.intro @OX<|And.intro @OY<|And.intro @OZ<|And.intro @O0<|And.intro @K5<|And.intro @Hj<|And.intro @K6<|And.intro @K7<|And.intro @K8<|And.intro @K9<|And.intro @La<|And.intro @Lb<|And.intro @O1<|And.intro @SF<|And.intro @Lc<|@Hl
def WA1:=And.intro @Ld<|And.intro @Le<|And.intro @O2<|And.intro @O3<|And.intro @O4<|And.intro @O5<|And.intro @O6<|And.intro @Lf<|And.intro @Ho<|And.intro @Lg<|And.intro @Lh<|And.intro @Li<|And.intro @Lj<|And.intro @Ll<|And.intro @Lm<|And.intro @O7<|And.intro @SG<|And.intro @Ln<|And.intro @Hp<|And.intro @Lo<|And.intro @Lp<|And.intro @O8<|And.intro @O9<|And.intro @Pa<|And.intro @Pb<|And.intro @Pc<|And.intro @Lq<|And.intro @Hq<|And.intro @Lr<|And.intro @Ls<|And.intro @Lt<|And.intro @Lu<|And.intro @Lv<|And.intro @Lw<|And.intro @Pd<|And.intro @Hr<|And.intro @Cy<|And.intro @AL<|And.intro @Cz<|And.intro @CA<|And.intro @EL<|And.intro @EM<|And.intro @EN<|And.intro @EO<|And.intro @EP<|And.intro @CB<|And.intro @AM<|And.intro @CC<|And.intro @CD<|And.intro @CE<|And.intro @CF<|And.intro @CG<|And.intro @CH<|And.intro @ER<|And.intro @Pe<|And.intro @Hs<|And.intro @ES<|And.intro @Ht<|And.intro @Hu<|@Lx
def WA2:=And.intro @Ly<|And.intro @Lz<|And.intro @LA<|And.intro @LB<|And.intro @Hv<|And.intro @ET<|And.intro @Hw<|And.intro @Hx<|And.intro @Hy<|And.intro @Hz<|And.intro @HA<|And.intro @HB<|And.intro @LC<|And.intro @LD<|And.intro @EU<|And.intro @CI<|And.intro @EV<|And.intro @EW<|And.intro @HC<|And.intro @HD<|And.intro @HF<|And.intro @HG<|And.intro @HH<|And.intro @EX<|And.intro @CJ<|And.intro @EY<|And.intro @EZ<|And.intro @E0<|And.intro @E1<|And.intro @E2<|And.intro @E3<|And.intro @HI<|And.intro @Pf<|And.intro @HJ<|And.intro @E4<|And.intro @HK<|And.intro @HL<|And.intro @LF<|And.intro @LG<|And.intro @LH<|And.intro @LI<|And.intro @LJ<|And.intro @HM<|And.intro @E5<|And.intro @HN<|And.intro @HO<|And.intro @HP<|And.intro @HQ<|And.intro @HR<|And.intro @LK<|And.intro @Pg<|And.intro @Ph<|And.intro @HS<|And.intro @CK<|And.intro @AN<|And.intro @CL<|And.intro @CM<|And.intro @E6<|And.intro @E7<|@E8
def WA3:=And.intro @E9<|And.intro @Fa<|And.intro @CN<|And.intro @AO<|And.intro @CO<|And.intro @CP<|And.intro @CQ<|And.intro @CS<|And.intro @CT<|And.intro @CU<|And.intro @Fb<|And.intro @Pj<|And.intro @HT<|And.intro @Fc<|And.intro @HU<|And.intro @HV<|And.intro @LL<|And.intro @LM<|And.intro @LN<|And.intro @LO<|And.intro @LP<|And.intro @HW<|And.intro @Fe<|And.intro @HX<|And.intro @HY<|And.intro @HZ<|And.intro @H6<|And.intro @H7<|And.intro @H8<|And.intro @LQ<|And.intro @LR<|And.intro @Ff<|And.intro @CV<|And.intro @Fg<|And.intro @Fh<|And.intro @H9<|And.intro @Ia<|And.intro @Ib<|And.intro @Ic<|And.intro @Ie<|And.intro @Fi<|And.intro @CW<|And.intro @Fj<|And.intro @Fk<|And.intro @Fl<|And.intro @Fm<|And.intro @Fo<|And.intro @Fp<|And.intro @Ig<|And.intro @SH<|And.intro @LS<|And.intro @Ih<|And.intro @LU<|And.intro @LV<|And.intro @Pm<|And.intro @Pn<|And.intro @Po<|And.intro @Pp<|And.intro @Pq<|@LW
def WA4:=And.intro @Ii<|And.intro @LX<|And.intro @LY<|And.intro @LZ<|And.intro @L0<|And.intro @L1<|And.intro @L2<|And.intro @Pr<|And.intro @Ij<|And.intro @CX<|And.intro @AP<|And.intro @CY<|And.intro @CZ<|And.intro @Fq<|And.intro @Fs<|And.intro @Ft<|And.intro @Fu<|And.intro @Fv<|And.intro @C3<|And.intro @AQ<|And.intro @C4<|And.intro @C5<|And.intro @C6<|And.intro @C7<|And.intro @C8<|And.intro @C9<|And.intro @Fw<|And.intro @SI<|And.intro @L3<|And.intro @Ik<|And.intro @L4<|And.intro @L5<|And.intro @Pt<|And.intro @Pu<|And.intro @Pv<|And.intro @Pw<|And.intro @Px<|And.intro @L6<|And.intro @L7<|And.intro @L8<|And.intro @L9<|And.intro @Ma<|And.intro @Mb<|And.intro @Mc<|And.intro @Py<|And.intro @Pz<|And.intro @PA<|And.intro @PB<|And.intro @Il<|And.intro @Fx<|And.intro @Im<|And.intro @Io<|And.intro @Md<|And.intro @Me<|And.intro @Mf<|And.intro @Mg<|And.intro @Mh<|And.intro @Ip<|And.intro @Iq<|@Ir
def WA5:=And.intro @Is<|And.intro @Iu<|And.intro @Iv<|And.intro @Iw<|And.intro @Mi<|And.intro @Mj<|And.intro @Mk<|And.intro @Ml<|And.intro @Mm<|And.intro @Ix<|And.intro @Mn<|And.intro @Iy<|And.intro @Mo<|And.intro @Mp<|And.intro @PD<|And.intro @PF<|And.intro @PG<|And.intro @Iz<|And.intro @Fy<|And.intro @IA<|And.intro @IB<|And.intro @Mq<|And.intro @Mr<|And.intro @Ms<|And.intro @Mt<|And.intro @Mu<|And.intro @IC<|And.intro @ID<|And.intro @IE<|And.intro @IF<|And.intro @IG<|And.intro @II<|And.intro @Mv<|And.intro @SJ<|And.intro @SK<|And.intro @SL<|And.intro @PI<|And.intro @PJ<|And.intro @PK<|And.intro @Mw<|And.intro @SN<|And.intro @SO<|And.intro @VK<|And.intro @VL<|And.intro @VM<|And.intro @VN<|And.intro @VO<|And.intro @VP<|And.intro @Yo<|And.intro @VQ<|And.intro @Yp<|And.intro @Yq<|And.intro @Yr<|And.intro @Ys<|And.intro @Yt<|And.intro @Yu<|And.intro @Yv<|And.intro @Yw<|And.intro @Yx<|@Yy
def WA6:=And.intro @Yz<|And.intro @YA<|And.intro @YB<|And.intro @YC<|And.intro @YD<|And.intro @YE<|And.intro @YF<|And.intro @YG<|And.intro @YH<|And.intro @YI<|And.intro @VS<|And.intro @VT<|And.intro @TZ<|And.intro @VV<|And.intro @VW<|And.intro @Mx<|And.intro @PL<|And.intro @IJ<|And.intro @Fz<|And.intro @IK<|And.intro @IL<|And.intro @My<|And.intro @Mz<|And.intro @MA<|And.intro @MB<|And.intro @IM<|And.intro @IN<|And.intro @IP<|And.intro @IQ<|And.intro @IT<|And.intro @IU<|And.intro @MC<|And.intro @SQ<|And.intro @YJ<|And.intro @YK<|And.intro @YL<|And.intro @PN<|And.intro @SS<|And.intro @JS<|And.intro @PO<|And.intro @PR<|And.intro @SU<|And.intro @SV<|And.intro @JT<|And.intro @VX<|And.intro @VY<|And.intro @VZ<|And.intro @PS<|@V0
end Go.Am
end
section
namespace Go.Am
open Go
variable [Tabs]
def so (n:Nat) (i:Int):Option Nat:=if 0≤i∧i<n then some i.toNat else none
def FA {α:Type} (xs:List α) (j:Nat) (c:α):Option (List α):=if j<xs.length then some (xs.set j c) else none
section
variable {P:Program} {L:List Nat} {e:Env} {ah:AH} {d:Option Nat}
theorem SW {xs:List UInt8} {j:Nat} {c:UInt8}:over (ml b8 xs) j [b8 c]=(FA xs j c).map (ml b8):=by
 unfold over FA ml
 simp only [List.length_map,List.length_cons,List.length_nil]
 by_cases h:j<xs.length
 · rw [if_pos (by omega),if_pos h]
   simp only [Option.map_some,Option.some.injEq,List.map_set]
   rw [List.set_eq_take_append_cons_drop,if_pos (by simpa using h)]
   simp
 · rw [if_neg (by omega),if_neg h];rfl
theorem V1 {xs:List UInt8} {j:Nat}:(ml b8 xs)[j]? =(xs[j]?).map b8:=by simp [ml]
theorem YM {s n:Nat} {ki:IntKind} {i:Int}:uE L e ah d 1 (.b6 s 1 0 n) (.int ki i)=(so n i).map fun j=>(ay L e d (.ptr s j),ah):=by
 simp only [uE,so,and_true]
 split<;>simp
theorem V3 {s k o n:Nat}:JR L e ah d (.b6 s k o n)=some (ay L e d (.int .i64 n),ah):=rfl
theorem PT {h:Cv} {l:List UInt8}:zi L e ah d h (.str l)=(dP h (.str l)).map fun a=>(ay L e d a,ah):=rfl
theorem PU {h:Cv} {k:IntKind} {i:Int}:zi L e ah d h (.int k i)=(dP h (.int k i)).map fun a=>(ay L e d a,ah):=rfl
theorem SX {h:Cv} {c:UInt8}:zi L e ah d h (b8 c)=(dP h (b8 c)).map fun a=>(ay L e d a,ah):=rfl
theorem SY {h:Cv} {t:Tg} {k:Nat} {xs:List AV}:zi L e ah d h (.sl t k xs)=(dP h (.sl t k xs)).map fun a=>(ay L e d a,ah):=rfl
theorem PV {s n:Nat}:zi L e ah d .bs (.b6 s 1 0 n)=Od L e ah d 0 n (ah[s]?):=rfl
theorem M_s {p n:Nat} {cs:List AV}:Od L e ah d p n (some cs)=JB L e ah d p n cs:=rfl
theorem M_t {n:Nat} {xs:List UInt8}:JB L e ah d 0 n (ml b8 xs)=(sub xs 0 (n:Int)).map fun l=>(ay L e d (.str l),ah):=by
 unfold JB sub
 have hb:bytesOf (((ml b8 xs).drop 0).take n)=some (xs.take n):=by
  have:((ml b8 xs).drop 0).take n=(ml b8 (xs.take n)):=by simp [ml,List.map_take]
  rw [this];exact xy _
 rw [hb]
 by_cases h:n≤xs.length
 · rw [if_pos (by simp [ml];exact h),if_pos (by omega)];simp
 · rw [if_neg (by simp [ml];omega),if_neg (by omega)];rfl
theorem M_o {l:List UInt8}:Oe L e ah d (.str l)=some (ay L e d (.b6 ah.length 1 0 l.length),ah++[ml b8 l]):=rfl
theorem V4:Gu .cH (.v .nilIface)=some false:=rfl
theorem V5:Gu (.v .nilIface) (.v .nilIface)=some true:=rfl
theorem V6 {b:Bool}:Gu (cJ b) (.v .nilIface)=some (!b):=by cases b<;>rfl
theorem V7 {k:IntKind} {i j:Int}:D7 true (.int k i) (.int k j)=some (.int k (max i j)):=by simp [D7]
theorem V8 {k:IntKind} {i j:Int}:D7 false (.int k i) (.int k j)=some (.int k (min i j)):=by simp [D7]
end
def WM:=And.intro @SW<|And.intro @V1<|And.intro @YM<|And.intro @V3<|And.intro @PT<|And.intro @PU<|And.intro @SX<|And.intro @SY<|And.intro @PV<|And.intro @M_s<|And.intro @M_t<|And.intro @M_o<|And.intro @V4<|And.intro @V5<|And.intro @V6<|And.intro @Bool.not_not<|And.intro @V7<|And.intro @V8<|And.intro @R9<|And.intro @Sa<|And.intro @X4 @X5
theorem Wx.b6 {s k o n:Nat}:Wx (.b6 s k o n) (.b6 s k o n):= .same (by simp)
theorem Wx.cH:Wx .cH .cH:= .same (by simp)
theorem Wx.epE {a b:AV} {o:Nat} (h:a=b):Wx (.ep a o) (.ep b o):=by subst h;exact Wx.ep
theorem Wx.err {b:Bool}:Wx (cJ b) (cJ b):= .same (by cases b<;>simp [cJ])
end Go.Am
end
section
namespace Go.Am
open Go
variable [Tabs]
section
variable {P:Program} {L:List Nat} {N n0:Nat} {F:Nat→Prop} {γ:List Nat} {C:Nat→List Value} {e e':Env} {ah:AH} {ts:Array Value} {w:World} {Q K:Exit→Env→AH→Prop}
theorem SR.freeze (h:SR L N F γ C e ah ts w) {s:Nat} {cs ds:List AV} (hs:ah[s]? =some cs) (hne:cs≠[]) (hnp:eE cs=true) (hw:gH cs ds)
 (he:∀t,get e' t=get e t∨∃o,get e t= .ptr s o∧get e' t= .ep (.agg ds) o):∃C',SR L N F γ C' e' (ah.set s []) ts w∧Ext F C w C' w:=by
 have hlt:s<γ.length:=by rw [h.mem.len];exact (List.getElem?_eq_some_iff.1 hs).1
 obtain ⟨b,hb⟩:∃b,γ[s]? =some b:=⟨_,List.getElem?_eq_getElem hlt⟩
 obtain ⟨vs,ty,hh,hsz,hcell⟩:=h.mem.obj s b cs hs hb
 have Ee:=h.mem.qc s b cs hs hne hb
 have uy:blk γ e ah ts w (.obj s) b:=hb
 refine ⟨fun x=>if x=b then vs.toList else C x, ?_⟩
 generalize tq:(fun x=>if x=b then vs.toList else C x)=C'
 have c0:C' b=vs.toList:=by rw [←tq];simp
 have c1:∀x,x≠b→C' x=C x:=fun x hx=>by rw [←tq];simp [hx]
 have hpre:∀x,C x <+: C' x:=by
  intro x
  by_cases hx:x=b
  · subst hx;rw [Ee];exact List.nil_prefix
  · rw [c1 x hx];exact List.prefix_refl _
 have iU:∀(s':Nat),s'≠s→(ah.set s [])[s']? =ah[s']? :=fun s' hn=>List.getElem?_set_ne (Ne.symm hn)
 have fY:(ah.set s [])[s]? =some []:=List.getElem?_set_self (by rw [←h.mem.len];exact hlt)
 have tr:∀(s':Nat),γ[s']? =some b→s'=s:=fun s' hs'=>by
  have:=h.cX (.obj s') (.obj s) b hs' hb;injection this
 have hbk:∀p x,blk γ e' (ah.set s []) ts w p x→blk γ e ah ts w p x:=by
  intro p x hp
  cases p with
  |obj s'=>exact hp
  |cell s' i=>
   obtain ⟨ds,a,b0,h1,h2,h3,h4⟩:=hp
   by_cases hn:s'=s
   · subst hn;rw [fY] at h1;injection h1 with h1;subst h1;simp at h2
   · rw [iU s' hn] at h1;exact ⟨ds,a,b0,h1,h2,h3,h4⟩
  |tmp t=>
   simp only [blk] at hp ⊢
   rcases he t with h1|⟨o,h1,h2⟩
   · rwa [h1] at hp
   · rw [h2] at hp;simp [bz] at hp
 have lJ:∀(a:AV) (v:Value),TC w C a v→(∀x,bz a v=some x→x≠b)→TC w C' a v:=fun a v ht hn=>ht.mono fun x hx=>⟨rfl,c1 x (hn x hx)⟩
 refine ⟨⟨⟨by simp [h.mem.len],fun s' x ds h1 h2=> ?_,fun x hx=> ?_,fun s' x ds h1 h0 h2=> ?_,fun s' x ds us ty' fr h1 h2 h3=> ?_⟩,h.sz,fun t=> ?_,fun p q x hp hq=>h.cX p q x (hbk p x hp) (hbk q x hq),fun p x hp=>h.nf p x (hbk p x hp),h.je,fun t l k xs ht=> ?_⟩,
  ⟨hpre,fun x hx=>⟨rfl,c1 x (fun e=>h.nf _ _ uy (e▸hx))⟩,Nat.le_refl _,rfl,rfl,rfl⟩⟩
 · by_cases hn:s'=s
   · subst hn
     rw [fY] at h1;injection h1 with h1;subst h1
     rw [hb] at h2;injection h2 with h2;subst h2
     exact ⟨vs,ty,hh,by simp,by simp⟩
   · rw [iU s' hn] at h1
     obtain ⟨us,ty',g1,g2,g3⟩:=h.mem.obj s' x ds h1 h2
     refine ⟨us,ty',g1,g2,fun i a hi=>⟨(g3 i a hi).1.mono hpre _ (fun _ _ h=>h),lJ _ _ (g3 i a hi).2 fun y hy e=> ?_⟩⟩
     subst e
     obtain ⟨v,hv, -, -⟩:=cellAt h.mem h1 hi h2
     have GG:v=us.getD i undef:=by
      have hlt:i<us.size:=Nat.lt_of_lt_of_le (List.getElem?_eq_some_iff.1 hi).1 g2
      rw [cD g1,Array.getElem?_eq_getElem hlt] at hv
      simp [Array.getD_eq_getD_getElem?,Array.getElem?_eq_getElem hlt,Option.some.inj hv]
     have:blk γ e ah ts w (.cell s' i) y:=⟨ds,a,x,h1,hi,h2,by rw [hv,GG];exact hy⟩
     have:=h.cX _ _ _ this uy
     cases this
 · by_cases PW:x=b
   · subst PW;exact ⟨vs,ty.1,ty.2,hh,by rw [c0];exact List.prefix_refl _⟩
   · rw [c1 x PW] at hx ⊢;exact h.mem.qF x hx
 · have hn:s'≠s:=by
    rintro rfl
    rw [fY] at h1;injection h1 with h1;exact h0 h1.symm
   rw [iU s' hn] at h1
   rw [c1 x (fun e=>hn (tr s' (e▸h2)))]
   exact h.mem.qc s' x ds h1 h0 h2
 · by_cases hn:s'=s
   · subst hn
     rw [fY] at h1;injection h1 with h1;subst h1
     intro i hi;simp at hi
   · rw [iU s' hn] at h1
     exact h.mem.yO s' x ds us ty' fr h1 h2 h3
 · rcases he t with h1|⟨o,h1,h2⟩
   · rw [h1]
     refine ⟨(h.env t).1.mono hpre _ (fun _ _ h=>h),lJ _ _ (h.env t).2 fun y hy e=> ?_⟩
     subst e
     have:=h.cX (.tmp t) (.obj s) y hy uy
     cases this
   · have hv:=(h.env t).1
     rw [h1] at hv
     obtain ⟨b',hb',hv⟩:=hv.fX
     rw [hb] at hb';injection hb' with hb';subst hb'
     rw [h2,hv]
     refine ⟨?_,by trivial⟩
     have hep:=VR.ep (C:=C') γ (.agg ds) o b 0 (by rw [c0];simpa [AV.cells,hw.len] using hsz) (fun j a hj=>by
      have hj2:ds[j]? =some a:=hj
      have hjl:j<cs.length:=by rw [←hw.len];exact (List.getElem?_eq_some_iff.1 hj2).1
      have hj':cs[j]? =some cs[j]:=List.getElem?_eq_getElem hjl
      have:=(Wk.iP (hw.get j _ _ hj' hj2)).vr (((hcell j _ hj').1.np (pP hnp hj')).mono hpre [] (fun _ _ h=>h))
      rw [c0,Nat.zero_add]
      have e1:vs.toList.getD j undef=vs.getD j undef:=by simp [List.getD_eq_getElem?_getD,Array.getD_eq_getD_getElem?]
      rw [e1];exact this)
     rwa [Nat.zero_add] at hep
 · rcases he t with h1|⟨o,h1,h2⟩
   · have hf:=h.fr t l k xs (by rw [←h1];exact ht)
     cases l with
     |tmp u=>
      refine ⟨hf.1,fun hu=>hf.2 ?_⟩
      rcases he u with g1|⟨o,g1,g2⟩
      · rwa [g1] at hu
      · rw [g2] at hu;cases hu
     |cell s' o=>
      intro ds a x g1 g2 g3 g4
      by_cases hn:s'=s
      · subst hn;rw [fY] at g1;injection g1 with g1;subst g1;simp at g2
      · rw [iU s' hn] at g1;exact hf ds a x g1 g2 g3 g4
   · rw [h2] at ht;cases ht
theorem AW.freeze {c:Code} {s:Nat} {cs ds:List AV} (hs:ah[s]? =some cs) (hne:cs≠[]) (hnp:eE cs=true) (hw:gH cs ds)
 (he:∀t,get e' t=get e t∨∃o,get e t= .ptr s o∧get e' t= .ep (.agg ds) o) (h:AW P L N n0 c Q e' (ah.set s [])):AW P L N n0 c Q e ah:=by
 intro F γ C ts w jk hn
 obtain ⟨C',h1,h2⟩:=jk.freeze hs hne hnp hw he
 refine wp_mono (h F γ C' ts w h1 hn) ?_
 rintro x a w' ⟨q1,q2,e2,oD,γ2,C2,q3,q4,q5,q6⟩
 exact ⟨q1,q2,e2,oD,γ2,C2,q3,q4,q5,h2.trans q6⟩
inductive FZ (s:Nat) (cs:List AV):Env→Env→Prop
 |nil:FZ s cs [] []
 |same (i:Nat) (a:AV) (r r':Env):FZ s cs r r'→FZ s cs ((i,a)::r) ((i,a)::r')
 |ep (i o:Nat) (r r':Env):FZ s cs r r'→FZ s cs ((i, .ptr s o)::r) ((i, .ep (.agg cs) o)::r')
theorem FZ.get {s:Nat} {cs:List AV} {e e':Env} (h:FZ s cs e e') (t:Nat):Am.get e' t=Am.get e t∨∃o,Am.get e t= .ptr s o∧Am.get e' t= .ep (.agg cs) o:=by
 induction h with
 |nil=>exact .inl rfl
 |same i a r r' _ ih=>
  simp only [Am.get]
  by_cases hi:i=t
  · simp [hi]
  · simpa [hi] using ih
 |ep i o r r' _ ih=>
  simp only [Am.get]
  by_cases hi:i=t
  · exact .inr ⟨o,by simp [hi],by simp [hi]⟩
  · simpa [hi] using ih
theorem AX.freeze {c:au} {s:Nat} {cs ds:List AV} (hs:ah[s]? =some cs) (hw:gH cs ds) (hne:cs≠[]) (hnp:eE cs=true) (he:FZ s ds e e') (h:AX P L N n0 c K e' (ah.set s [])):AX P L N n0 c K e ah:=
 fun c' bL=>AW.freeze hs hne hnp hw he.get (h c' bL)
end
end Go.Am
end
