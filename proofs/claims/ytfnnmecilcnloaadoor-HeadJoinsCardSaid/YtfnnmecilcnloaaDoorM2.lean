import Derived.Test.YtfnnmecilcnloaaDoorM1
import Derived.Scope
import Derived.Lib.SlBytesConst
import Derived.OrdersHeld
set_option linter.unusedSimpArgs false
set_option linter.unusedVariables false
set_option linter.unusedSectionVars false
set_option linter.defProp false
section
namespace Go.Am
open Go
variable [Tabs]
section
variable {P:Program} {L:List Nat} {N:Nat} {F:Nat→Prop} {γ:List Nat} {C C':Nat→List Value} {e:Env} {ah:AH} {ts:Array Value} {ds:List Deferred} {w w':World} {m:Bool}
variable {e':Env} {aq:AH}
def cX.ic:cX→Bool
 | .call _ _=>true
 | .fy _ _ _ _=>true
 | .nq _ _=>true
 |_=>false
theorem zU {o:Oper} {op:cX} (h:SR L N F γ C e ah ts w) (hd:∀x,o.dst=some x→x<N) (hc:cop P o=some op) (cD:op.ic=false)
 (hm:m=true∨((∀x n,op≠ .ld x n)∧∀x,op≠ .eZ .bs x))
 (hev:aN L ⟨o.dst,op,none⟩ e ah=some (e',aq)):aG m P L N F γ C o ts ds w e' aq:=by
 obtain ⟨d,o,ty,pos,af,g⟩:=o
 simp only at hd hev
 cases o with
 |move x=>
  simp only [cop,Option.map_eq_some_iff] at hc
  obtain ⟨a,ha,rfl⟩:=hc
  simp only [aN,Option.some.injEq,Prod.mk.injEq] at hev
  obtain ⟨rfl,rfl⟩:=hev
  exact L9 h hd ha
 |assign x=>
  simp only [cop,Option.map_eq_some_iff] at hc
  obtain ⟨a,ha,rfl⟩:=hc
  exact Jv h hd ha hev
 |pick c a b=>
  simp only [cop] at hc
  split at hc
  · rename_i c' a' b' h1 h2 h3
    injection hc with hc;subst hc
    exact FO h hd h1 h2 h3 hev
  · cases hc
 |alloc t=>
  simp only [cop,Option.map_eq_some_iff] at hc
  obtain ⟨a,ha,rfl⟩:=hc
  exact CZ h hd ha hev
 |box t x=>
  simp only [cop,Option.map_eq_some_iff] at hc
  obtain ⟨a,ha,rfl⟩:=hc
  exact JP h hd ha hev
 |build t parts=>
  simp only [cop] at hc
  split at hc
  case h_3=>cases hc
  case h_2=>
   rename_i mm el hu
   split at hc
   case h_2=>cases hc
   rename_i z ps hz hp
   split at hc
   case isFalse=>cases hc
   rename_i hall
   split at hc
   · rename_i ia
     simp only [Option.map_eq_some_iff] at hc
     obtain ⟨z',RR,rfl⟩:=hc
     refine rI h hd hu hz hp hall ?_
     rw [←hev]
     simp only [aN]
     rw [xA e ps z ia,RR]
     rfl
   · injection hc with hc;subst hc
     exact rI h hd hu hz hp hall hev
  rename_i fs hu
  split at hc
  case h_2=>cases hc
  rename_i z ps hz hp
  split at hc
  case isFalse=>cases hc
  rename_i hall
  injection hc with hc;subst hc
  exact C9 h hd hu hz hp hall hev
 |buildSlice t n parts=>
  simp only [cop] at hc
  split at hc
  case h_2=>cases hc
  rename_i el hel
  split at hc
  case isFalse=>cases hc
  rename_i hh
  obtain ⟨h1,h2,h3⟩:=hh
  simp only [Option.map_eq_some_iff] at hc
  obtain ⟨zq,ha,rfl⟩:=hc
  refine JW h hd ?_ h1 h2 h3 ha hev
  unfold s7 at hel
  split at hel
  · rename_i e hu;injection hel with hel;subst hel;exact hu
  · cases hel
 |load t x=>
  simp only [cop] at hc
  split at hc
  case isFalse=>cases hc
  rename_i ht
  simp only [Option.map_eq_some_iff] at hc
  obtain ⟨a,ha,rfl⟩:=hc
  obtain rfl:m=true:=hm.resolve_right (fun h=>h.1 _ _ rfl)
  exact Mb h hd ha ht hev
 |store t a x=>
  simp only [cop] at hc
  split at hc
  case h_2=>cases hc
  rename_i a' x' ha hx
  split at hc
  case isFalse=>cases hc
  rename_i ht
  simp only [Bool.and_eq_true,Option.isNone_iff_eq_none] at ht
  obtain ⟨ht,rfl⟩:=ht
  injection hc with hc;subst hc
  exact Mk h ha hx ht hev
 |nilCheck x=>
  simp only [cop,Option.map_eq_some_iff] at hc
  obtain ⟨a,ha,rfl⟩:=hc
  exact Jw h hd ha hev
 |fieldAddr t x f=>
  simp only [cop] at hc
  split at hc
  case h_2=>cases hc
  rename_i x' fd hx hf
  split at hc
  case isTrue=>cases hc
  rename_i hs
  injection hc with hc;subst hc
  exact Jx h hd hx hf hs hev
 |field t x f=>
  simp only [cop] at hc
  split at hc
  case h_2=>cases hc
  rename_i x' fd hx hf
  split at hc
  case isFalse=>cases hc
  rename_i hs
  injection hc with hc;subst hc
  exact FQ h hd hx hf hs hev
 |binOp JY t x y iG=>
  simp only [cop] at hc
  split at hc
  case h_3=>cases hc
  case h_2=>
   rename_i x' hx hy
   split at hc
   · rename_i ms hu
     injection hc with hc;subst hc;exact F6 h hd hx hu rfl hev
   · rename_i ms hu
     injection hc with hc;subst hc;exact F6 h hd hx hu rfl hev
   · injection hc with hc;subst hc;cases cD
   · injection hc with hc;subst hc;cases cD
   · cases hc
  rename_i x' y' hx hy
  split at hc
  · rename_i fs hu
    split at hc
    case h_2=>cases hc
    rename_i ks hk
    split at hc
    · injection hc with hc;subst hc;exact B8 h hd hx hy hu hk rfl hev
    · injection hc with hc;subst hc;exact B8 h hd hx hy hu hk rfl hev
    · cases hc
  · injection hc with hc;subst hc;exact B7 h hd hx hy hev
  · injection hc with hc;subst hc;exact B7 h hd hx hy hev
  · rename_i hu
    split at hc
    · injection hc with hc;subst hc;exact FR h hd hx hy hu rfl hev
    · injection hc with hc;subst hc;exact FR h hd hx hy hu rfl hev
    · cases hc
  · rename_i u hu
    split at hc
    · injection hc with hc;subst hc;exact FT h hd hx hy hu rfl hev
    · injection hc with hc;subst hc;exact FT h hd hx hy hu rfl hev
    · cases hc
  · cases hc
 |unOp JY t x=>
  simp only [cop,Option.map_eq_some_iff] at hc
  obtain ⟨a,ha,rfl⟩:=hc
  exact Mc h hd ha hev
 |convert s t x=>
  simp only [cop] at hc
  split at hc
  case h_2=>cases hc
  rename_i hh x' ie hx
  injection hc with hc;subst hc
  exact JQ h hd hx ie (hm.imp id fun q=>by rintro rfl;exact q.2 _ rfl) hev
 |makeFunc fn first cs=>
  cases fn with
  |func f=>
   simp only [cop] at hc
   split at hc
   case isFalse=>cases hc
   rename_i hf
   simp only [Option.map_eq_some_iff] at hc
   obtain ⟨a,ha,rfl⟩:=hc
   exact JD h hd hf ha hev
  |_=>simp [cop] at hc
 |slice t x lo hi mx=>
  simp only [cop] at hc
  split at hc
  case h_2=>cases hc
  rename_i x' lo' hi' Me hx hlo hhi CY
  split at hc
  · rename_i hu
    split at hc
    · injection hc with hc;subst hc
      have:mx=none:=by
       cases mx with
       |none=>rfl
       |some y=>simp only [iD] at CY;cases hy:aI y<;>rw [hy] at CY<;>simp at CY
      subst this
      exact JL h hd hx hlo hhi hu hev
    · cases hc
  · rename_i el hu
    split at hc
    case isFalse=>cases hc
    rename_i ht
    injection hc with hc;subst hc
    exact JM h hd hx hlo hhi CY hu ht hev
  · cases hc
 |indexAddr t x i=>
  simp only [cop] at hc
  split at hc
  case h_3=>cases hc
  case h_2=>
   rename_i x' i' hel hx hi
   split at hc
   case h_2=>cases hc
   rename_i mm el hu
   split at hc
   case isFalse=>cases hc
   rename_i ht
   injection hc with hc;subst hc
   exact JI h hd hx hi hu ht hev
  rename_i el x' i' hel hx hi
  split at hc
  case isFalse=>cases hc
  rename_i ht
  injection hc with hc;subst hc
  unfold s7 at hel
  split at hel
  · rename_i e hu;injection hel with hel;subst hel;exact JH h hd hx hi hu ht hev
  · cases hel
 |index t x i=>
  simp only [cop] at hc
  split at hc
  case h_2=>cases hc
  rename_i x' i' hu hx hi
  injection hc with hc;subst hc
  exact JG h hd hx hi hu hev
 |extract x i=>
  simp only [cop,Option.map_eq_some_iff] at hc
  obtain ⟨a,ha,rfl⟩:=hc
  exact JE h hd ha hev
 |call c=>
  obtain ⟨callee,args,argTypes⟩:=c
  simp only [cop] at hc
  split at hc
  · rename_i x t h1 h2
    have e1:args= #[x]:=by rw [←Array.toArray_toList (xs:=args),h1]
    have e2:argTypes= #[t]:=by rw [←Array.toArray_toList (xs:=argTypes),h2]
    subst e1;subst e2
    split at hc
    · rename_i x' hu hx;injection hc with hc;subst hc;exact FU h hd hx hu hev
    · rename_i s x' hu hx;injection hc with hc;subst hc;exact JF h hd hx hu hev
    · cases hc
  · rename_i x y t u h1 h2
    have e1:args= #[x,y]:=by rw [←Array.toArray_toList (xs:=args),h1]
    have e2:argTypes= #[t,u]:=by rw [←Array.toArray_toList (xs:=argTypes),h2]
    subst e1;subst e2
    split at hc
    case h_2=>cases hc
    rename_i x' y' _ _ hx hy
    split at hc
    case isFalse=>cases hc
    rename_i htu
    injection hc with hc;subst hc
    obtain ⟨rfl, -⟩:=htu
    exact F7 (mx:=true) h hd hx hy hev
  · rename_i x y t u h1 h2
    have e1:args= #[x,y]:=by rw [←Array.toArray_toList (xs:=args),h1]
    have e2:argTypes= #[t,u]:=by rw [←Array.toArray_toList (xs:=argTypes),h2]
    subst e1;subst e2
    split at hc
    case h_2=>cases hc
    rename_i x' y' _ _ hx hy
    split at hc
    case isFalse=>cases hc
    rename_i htu
    injection hc with hc;subst hc
    obtain ⟨rfl, -⟩:=htu
    exact F7 (mx:=false) h hd hx hy hev
  · rename_i x y t u h1 h2
    have e1:args= #[x,y]:=by rw [←Array.toArray_toList (xs:=args),h1]
    have e2:argTypes= #[t,u]:=by rw [←Array.toArray_toList (xs:=argTypes),h2]
    subst e1;subst e2
    split at hc
    case h_2=>cases hc
    rename_i el x' hel hx
    have ht:P.underlying t=some (.slice el):=by
     unfold s7 at hel
     split at hel
     · rename_i e hu;injection hel with hel;subst hel;exact hu
     · cases hel
    split at hc
    · rename_i s y' hu hy
      split at hc
      case isFalse=>cases hc
      rename_i hz
      injection hc with hc;subst hc
      exact JU h hd hx hy ht hu hz hev
    · rename_i y' hu hy
      split at hc
      case isFalse=>cases hc
      rename_i hz
      injection hc with hc;subst hc
      exact Gb h hd hx hy ht hu hz.2 hz.1 hev
    · cases hc
  · split at hc
    · injection hc with hc;subst hc;cases cD
    · cases hc
  · cases hc
 |_=>simp [cop] at hc
theorem JZ {o:Oper} {op:cX} (h:SR L N F γ C e ah ts w) (hd:∀x,o.dst=some x→x<N) (hc:bZ P m o=some op) (cD:op.ic=false)
 (hev:aN L ⟨o.dst,op,none⟩ e ah=some (e',aq)):aG m P L N F γ C o ts ds w e' aq:=by
 cases m with
 |true=>exact zU h hd (by simpa [bZ] using hc) cD (.inl rfl) hev
 |false=>
  simp only [bZ,Bool.false_eq_true,if_false,Option.map_eq_some_iff] at hc
  obtain ⟨op',ho,rfl⟩:=hc
  by_cases rH:∃x,op'= .eZ .bs x
  · obtain ⟨x,rfl⟩:=rH
    obtain ⟨d,oo,ty,pos,af,g⟩:=o
    cases oo with
    |convert s t y=>
     simp only [cop] at ho
     split at ho
     case h_2=>cases ho
     rename_i hh x' ie hx
     injection ho with ho
     injection ho with e1 e2
     subst e1;subst e2
     exact F4 h hd hx ie hev
    |makeFunc fn first cs=>
     cases fn with
     |func f=>simp only [cop] at ho;split at ho<;>simp at ho
     |_=>simp [cop] at ho
    |_=>
     exfalso
     simp only [cop] at ho
     first
      |cases ho;done
      |(simp at ho;done)
      |(repeat' (split at ho))<;>(first|(cases ho;done)|(simp at ho;done))
  by_cases hl:∃x n,op'= .ld x n
  · obtain ⟨x,n,rfl⟩:=hl
    obtain ⟨d,oo,ty,pos,af,g⟩:=o
    cases oo with
    |load t y=>
     simp only [cop] at ho
     split at ho
     case isFalse=>cases ho
     rename_i ht
     simp only [Option.map_eq_some_iff] at ho
     obtain ⟨a,ha,he⟩:=ho
     injection he with e1 e2
     subst e1;subst e2
     exact B6 h hd ha ht hev
    |makeFunc fn first cs=>
     cases fn with
     |func f=>simp only [cop] at ho;split at ho<;>simp at ho
     |_=>simp [cop] at ho
    |_=>
     exfalso
     simp only [cop] at ho
     first
      |cases ho;done
      |(simp at ho;done)
      |(repeat' (split at ho))<;>(first|(cases ho;done)|(simp at ho;done))
  · have:op'.zH=op':=by
     cases op' with
     |ld x n=>exact absurd ⟨_,_,rfl⟩ hl
     |eZ hh x=>cases hh<;>first|rfl|exact absurd ⟨_,rfl⟩ rH
     |_=>rfl
    rw [this] at cD hev
    exact zU h hd ho cD (.inr ⟨fun x n he=>hl ⟨x,n,he⟩,fun x he=>rH ⟨x,he⟩⟩) hev
theorem Gl {o:Oper} {x':Ar} (hc:cop P o=some (.bg x')):∃x,o=⟨o.dst, .assign x,o.type,o.pos,o.after,o.guard⟩∧bG P o.type x=some x':=by
 obtain ⟨d,oo,ty,pos,af,g⟩:=o
 cases oo with
 |assign y=>
  simp only [cop,Option.map_eq_some_iff] at hc
  obtain ⟨a,ha,he⟩:=hc
  injection he with he
  subst he
  exact ⟨y,rfl,ha⟩
 |makeFunc fn first cs=>
  cases fn with
  |func f=>simp only [cop] at hc;split at hc<;>simp at hc
  |_=>simp [cop] at hc
 |_=>
  exfalso
  simp only [cop] at hc
  first
   |cases hc;done
   |(simp at hc;done)
   |(repeat' (split at hc))<;>(first|(cases hc;done)|(simp at hc;done))
theorem rJ {o:Oper} {k b:Nat} {x' y':Ar} (hop:cop P o=some (.app k b x' y')):
 ∃x y t u el s,o=⟨o.dst, .call {callee:= .builtin .append,args:= #[x,y],argTypes:= #[t,u]},o.type,o.pos,o.after,o.guard⟩∧bG P t x=some x'∧bG P u y=some y'∧
  P.underlying t=some (.slice el)∧P.underlying u=some (.slice s)∧(zeroOf P el).map List.length=some (bC P el)∧k=bC P el∧b=uH P el:=by
 obtain ⟨d,oo,ty,pos,af,g⟩:=o
 cases oo with
 |call c=>
  obtain ⟨callee,args,argTypes⟩:=c
  simp only [cop] at hop
  split at hop
  · split at hop<;>simp at hop
  · split at hop
    · split at hop<;>simp at hop
    · cases hop
  · split at hop
    · split at hop<;>simp at hop
    · cases hop
  · rename_i x y t u h1 h2
    have e1:args= #[x,y]:=by rw [←Array.toArray_toList (xs:=args),h1]
    have e2:argTypes= #[t,u]:=by rw [←Array.toArray_toList (xs:=argTypes),h2]
    subst e1;subst e2
    split at hop
    case h_2=>cases hop
    rename_i el x2 hel hx
    have ht:P.underlying t=some (.slice el):=by
     unfold s7 at hel
     split at hel
     · rename_i e hu;injection hel with hel;subst hel;exact hu
     · cases hel
    split at hop
    · rename_i s y2 hu hy
      split at hop
      case isFalse=>cases hop
      rename_i hz
      injection hop with hop
      injection hop with q1 q2 q3 q4
      subst q1;subst q2;subst q3;subst q4
      exact ⟨x,y,t,u,el,s,rfl,hx,hy,ht,hu,hz,rfl,rfl⟩
    · split at hop<;>simp at hop
    · cases hop
  · split at hop<;>simp at hop
  · cases hop
 |makeFunc fn first cs=>
  cases fn with
  |func f=>simp only [cop] at hop;split at hop<;>simp at hop
  |_=>simp [cop] at hop
 |_=>
  exfalso
  simp only [cop] at hop
  first
   |cases hop;done
   |(simp at hop;done)
   |(repeat' (split at hop))<;>(first|(cases hop;done)|(simp at hop;done))
theorem Cd {o:Oper} {neq:Bool} {x':Ar} (hop:cop P o=some (.nq neq x')):
 ∃op t x iG el,o=⟨o.dst, .binOp op t x (.const (.slice none 0 0)) iG,o.type,o.pos,o.after,o.guard⟩∧aI x=some x'∧P.underlying t=some (.slice el)∧op=if neq then .neq else .eql:=by
 obtain ⟨d,oo,ty,pos,af,g⟩:=o
 cases oo with
 |binOp op t x y iG=>
  simp only [cop] at hop
  split at hop
  case h_3=>cases hop
  case h_2=>
   rename_i x2 hx hy
   split at hop
   · cases hop
   · cases hop
   · rename_i el hu
     injection hop with hop;injection hop with h1 h2;subst h1;subst h2
     exact ⟨_,t,x,iG,el,rfl,hx,hu,rfl⟩
   · rename_i el hu
     injection hop with hop;injection hop with h1 h2;subst h1;subst h2
     exact ⟨_,t,x,iG,el,rfl,hx,hu,rfl⟩
   · cases hop
  exfalso
  (repeat' (split at hop))<;>(first|(cases hop;done)|(simp at hop;done))
 |makeFunc fn first cs=>
  cases fn with
  |func f=>simp only [cop] at hop;split at hop<;>simp at hop
  |_=>simp [cop] at hop
 |_=>
  exfalso
  simp only [cop] at hop
  first
   |cases hop;done
   |(simp at hop;done)
   |(repeat' (split at hop))<;>(first|(cases hop;done)|(simp at hop;done))
theorem J0 {op:cX} {n:Bool} {x:Ar} (h:op.zH= .nq n x):op= .nq n x:=by
 cases op with
 |eZ hh x=>cases hh<;>cases h
 |ld x n=>cases h
 |_=>exact h
theorem Gm {op:cX} {k b:Nat} {x y:Ar} (h:op.zH= .app k b x y):op= .app k b x y:=by
 cases op with
 |eZ hh x=>cases hh<;>cases h
 |ld x n=>cases h
 |_=>exact h
theorem Gn {op:cX} {x:Ar} (h:op.zH= .bg x):op= .bg x:=by
 cases op with
 |eZ hh x=>cases hh<;>cases h
 |ld x n=>cases h
 |_=>exact h
theorem pL {o:Oper} {k b:Nat} {x y:Ar} (hc:bZ P m o=some (.app k b x y)):cop P o=some (.app k b x y):=by
 cases m with
 |true=>simpa [bZ] using hc
 |false=>
  simp only [bZ,Bool.false_eq_true,if_false,Option.map_eq_some_iff] at hc
  obtain ⟨op',ho,hE⟩:=hc
  rw [ho,Gm hE]
theorem Dc {o:Oper} {x:Ar} (hc:bZ P m o=some (.bg x)):cop P o=some (.bg x):=by
 cases m with
 |true=>simpa [bZ] using hc
 |false=>
  simp only [bZ,Bool.false_eq_true,if_false,Option.map_eq_some_iff] at hc
  obtain ⟨op',ho,hE⟩:=hc
  rw [ho,Gn hE]
theorem xB {o:Oper} {n:Bool} {x:Ar} (hc:bZ P m o=some (.nq n x)):cop P o=some (.nq n x):=by
 cases m with
 |true=>simpa [bZ] using hc
 |false=>
  simp only [bZ,Bool.false_eq_true,if_false,Option.map_eq_some_iff] at hc
  obtain ⟨op',ho,hE⟩:=hc
  rw [ho,J0 hE]
theorem u0 {o:Oper} {n:Bool} {x:Ar} {K:Env→AH→Prop} (h:SR L N F γ C e ah ts w) (hd:∀x,o.dst=some x→x<N) (hc:bZ P m o=some (cX.er (.nq n x)))
 (hk:ri L o.dst n x e ah K):∃e' aq,K e' aq∧aG m P L N F γ C o ts ds w e' aq:=by
 obtain ⟨op,t,x0,iG,el,ho,hx,hu,hop⟩:=Cd (xB hc)
 rw [ho]
 exact Mm (d:=o.dst) h hd hx hu hop hk
theorem uz {o:Oper} {k b:Nat} {x y:Ar} {K:Env→AH→Prop} (h:SR L N F γ C e ah ts w) (hd:∀x,o.dst=some x→x<N) (hc:bZ P m o=some (cX.er (.fy k b x y)))
 (hk:iC L o.dst k b x y e ah K):∃e' aq,K e' aq∧aG m P L N F γ C o ts ds w e' aq:=by
 obtain ⟨x0,y0,t,u,el,s,ho,hx,hy,ht,hu,hz,rfl,rfl⟩:=rJ (pL hc)
 rw [ho]
 exact Gh (d:=o.dst) h hd hx hy ht hu hz hk
theorem xC {o:Oper} {k:Nat} {x:Ar} (h:SR L N F γ C e ah ts w) (hd:∀x,o.dst=some x→x<N) (hc:bZ P m o=some (cX.er (.kJ k x)))
 (hev:aN L ⟨o.dst, .kJ k x,none⟩ e ah=some (e',aq)):aG m P L N F γ C o ts ds w e' aq:=by
 obtain ⟨x0,ho,hx⟩:=Gl (Dc hc)
 rw [ho]
 exact JJ (d:=o.dst) h hd hx hev
theorem uA {op:cX} {f:Ar} {zq:List Ar} (h:op.zH= .call f zq):op= .call f zq:=by
 cases op with
 |eZ hh x=>cases hh<;>cases h
 |ld x n=>cases h
 |_=>exact h
theorem O6 {op:cX} {f:Ar} {zq:List Ar} (h:op.er= .call f zq):op= .call f zq:=by
 cases op with
 |jh x=>cases h
 |fy=>cases h
 |kJ=>cases h
 |_=>exact h
theorem u6 {o:Oper} {op:cX} (h:SR L N F γ C e ah ts w) (hd:∀x,o.dst=some x→x<N) (hc:cop P o=some op.er) (cD:op.ic=false)
 (hev:aN L ⟨o.dst,op,none⟩ e ah=some (e',aq)):aG true P L N F γ C o ts ds w e' aq:=by
 by_cases hx:∃x,op= .jh x
 · obtain ⟨x,rfl⟩:=hx
   obtain ⟨d,oo,ty,pos,af,g⟩:=o
   have hc:cop P ⟨d,oo,ty,pos,af,g⟩=some (.eZ .sb x):=hc
   cases oo with
   |convert s t y=>
    simp only [cop] at hc
    split at hc
    case h_2=>cases hc
    rename_i hh x' ie hx
    injection hc with hc
    injection hc with e1 e2
    subst e1;subst e2
    exact F5 h hd hx ie hev
   |makeFunc fn first cs=>
    cases fn with
    |func f=>simp only [cop] at hc;split at hc<;>simp at hc
    |_=>simp [cop] at hc
   |_=>
    exfalso
    simp only [cop] at hc
    first
     |cases hc;done
     |(simp at hc;done)
     |(repeat' (split at hc))<;>(first|(cases hc;done)|(simp at hc;done))
 · by_cases hy:∃k x,op= .kJ k x
   · obtain ⟨k,x,rfl⟩:=hy
     exact xC (m:=true) h hd (by simpa [bZ] using hc) hev
   have:op.er=op:=by
    cases op<;>first|rfl|exact absurd ⟨_,rfl⟩ hx|exact absurd ⟨_,_,rfl⟩ hy|cases cD|rfl
   rw [this] at hc
   exact zU h hd hc cD (.inl rfl) hev
theorem xD {o:Oper} {op:cX} (h:SR L N F γ C e ah ts w) (hd:∀x,o.dst=some x→x<N) (hc:bZ P m o=some op.er) (cD:op.ic=false)
 (hev:aN L ⟨o.dst,op,none⟩ e ah=some (e',aq)):aG m P L N F γ C o ts ds w e' aq:=by
 cases m with
 |true=>exact u6 h hd (by simpa [bZ] using hc) cD hev
 |false=>
  by_cases hx:∃x,op= .jh x
  · obtain ⟨x,rfl⟩:=hx
    simp only [bZ,Bool.false_eq_true,if_false,Option.map_eq_some_iff] at hc
    obtain ⟨op',ho,hE⟩:=hc
    have hE:op'.zH= .eZ .sb x:=hE
    have:op'= .eZ .sb x:=by
     cases op' with
     |eZ hh y=>cases hh<;>first|exact hE|cases hE
     |ld y n=>cases hE
     |_=>exact hE
    subst this
    obtain ⟨v,w',γ',C',h1,h2,h3,h4,h5,h6⟩:=u6 (op:= .jh x) (ds:=ds) h hd ho rfl hev
    refine ⟨v,w',γ',C',h1,h2,h3,h4,h5,fun hq=> ?_⟩
    exfalso
    obtain ⟨d,oo,ty,pos,af,g⟩:=o
    cases oo with
    |convert s t y=>
     simp only [cop] at ho
     split at ho
     case h_2=>cases ho
     rename_i hh x' ie hx
     injection ho with ho
     injection ho with e1 e2
     subst e1
     unfold uK at ie
     split at ie
     · cases ie
     · cases ie
     · rename_i el hs ht
       simp [bX,ht] at hq
     · split at ie
       · split at ie<;>cases ie
       · cases ie
     · cases ie
    |makeFunc fn first cs=>
     cases fn with
     |func f=>simp only [cop] at ho;split at ho<;>simp at ho
     |_=>simp [cop] at ho
    |_=>
     simp only [cop] at ho
     first
      |cases ho;done
      |(simp at ho;done)
      |(repeat' (split at ho))<;>(first|(cases ho;done)|(simp at ho;done))
  · by_cases hy:∃k x,op= .kJ k x
    · obtain ⟨k,x,rfl⟩:=hy
      exact xC h hd hc hev
    have:op.er=op:=by
     cases op<;>first|rfl|exact absurd ⟨_,rfl⟩ hx|exact absurd ⟨_,_,rfl⟩ hy|cases cD|rfl
    rw [this] at hc
    exact JZ h hd hc cD hev
theorem l6 (L:List Nat) (d:Option Nat) (op:cX) (g:Option (Nat×Bool)) (e:Env) (ah:AH):aN L ⟨d,op,g⟩ e ah=aN L ⟨d,op,none⟩ e ah:=by
 cases op<;>rfl
def eK (P:Program) (f:Nat):Bool:=match P.funcs[f]? with
 |some fn=>fn.body.isSome&&fn.name != "runtime.NumGoroutine"
 |none=>false
def cL:Nat→List AV→Env
 |_,[]=>[]
 |i,a::r=>(i,a)::cL (i+1) r
theorem cm:∀(l:List AV) (i t:Nat),get (cL i l) t=if i≤t then (l[t - i]?).getD .un else .un:=by
 intro l
 induction l with
 |nil=>intro i t;simp [cL,get]
 |cons a r ih=>
  intro i t
  simp only [cL,get]
  by_cases h:i=t
  · subst h;simp
  · rw [if_neg h,ih]
    by_cases h1:i≤t
    · obtain ⟨q,hq⟩:∃q,t - i=q+1:=⟨t - i - 1,by omega⟩
      rw [if_pos h1,if_pos (by omega),hq,show t - (i+1)=q by omega];simp
    · rw [if_neg h1,if_neg (by omega)]
def aC (P:Program) (f:Nat) (args:List AV) (ah:AH) (R:AV→AH→Prop):Prop:=
 eK P f=true∧∀(F:Nat→Prop) (γ:List Nat) (C:Nat→List Value) (w:World) (vs:Array Value),SR [] args.length F γ C (cL 0 args) ah vs w→
  Calls P f vs w fun en w'=>∃r v aq γ' C',en= .returned v∧R r aq∧γ <+: γ'∧SR [] 1 F γ' C' [(0,r)] aq #[v] w'∧Ext F C w C' w'
theorem aC.mono {f:Nat} {args:List AV} {ah:AH} {R R':AV→AH→Prop} (h:aC P f args ah R) (hr:∀r aq,R r aq→R' r aq):aC P f args ah R':=
 ⟨h.1,fun F γ C w vs hs=>(h.2 F γ C w vs hs).mono fun _ _ ⟨r,v,aq,γ',C',h1,h2,h3⟩=>⟨r,v,aq,γ',C',h1,hr _ _ h2,h3⟩⟩
def AV.ey:AV→AV
 | .sl (.fr (.cell _ _)) k xs=> .sl .n k xs
 |a=>a
def l7:Env→Env
 |[]=>[]
 |(i,a)::r=>(i,a.ey)::l7 r
theorem oB (e:Env) (t:Nat):get (l7 e) t=(get e t).ey:=by
 induction e with
 |nil=>rfl
 |cons p r ih=>
  obtain ⟨i,b⟩:=p
  simp only [l7,get]
  by_cases h:i=t<;>simp [h,ih]
theorem Wk.ey (a:AV):Wk a a.ey:=by
 cases a with
 |sl t k xs=>
  cases t with
  |fr m=>cases m<;>first|exact .n .. |exact .same _
  |_=>exact .same _
 |_=>exact .same _
theorem Gp (a:AV):a.ey.aU=a.aU:=by
 cases a with
 |sl t k xs=>
  cases t with
  |fr m=>cases m<;>rfl
  |_=>rfl
 |_=>rfl
theorem Dd (a:AV) (v:Value):aV a.ey v=aV a v:=by
 cases a with
 |sl t k xs=>
  cases t with
  |fr m=>cases m<;>simp [AV.ey,aV]
  |_=>rfl
 |_=>rfl
theorem J1 {a:AV} {l:Loc} {k:Nat} {xs:List AV} (h:a.ey= .sl (.fr l) k xs):a= .sl (.fr l) k xs∧∃t,l= .tmp t:=by
 cases a with
 |sl t k' xs'=>
  cases t with
  |fr m=>cases m with
   |tmp u=>simp only [AV.ey] at h;exact ⟨h,u,by injection h with h;injection h with h;exact h.symm⟩
   |cell s o=>simp [AV.ey] at h
  |_=>simp [AV.ey] at h
 |_=>simp [AV.ey] at h
theorem xE {f:Nat} {zq:List AV} {vs:Array Value} {R:AV→AH→Prop} {d:Option Nat} (h:SR L N F γ C e ah ts w) (hd:∀x,d=some x→x<N) (hac:aC P f zq ah R)
 (hlen:vs.size=zq.length) (has:∀(i:Nat) (a:AV),zq[i]? =some a→VR C γ a (vs.getD i undef)∧TC w C a (vs.getD i undef)∧a.plain=true):
 Calls P f vs w fun en w'=>∃r v aq γ' C',en= .returned v∧R r aq∧γ <+: γ'∧SR L N F γ' C' (Am.au L (l7 e) d r.df) aq (Act.put ⟨ts,ds⟩ d v).tmps w'∧Ext F C w C' w':=by
 let F':Nat→Prop:=fun b=>F b∨∃t,blk γ e ah ts w (.tmp t) b
 have De:∀t,get (cL 0 zq) t=(zq[t]?).getD .un:=fun t=>by rw [cm];simp
 have hnot:∀t,(get (cL 0 zq) t).aU=false:=by
  intro t
  rw [De]
  cases ht:zq[t]? with
  |none=>rfl
  |some a=>exact dN (has t a ht).2.2
 have hsub:∀p b,blk γ (cL 0 zq) ah vs w p b→blk γ e ah ts w p b∧∀t,p≠ .tmp t:=by
  intro p b hp
  cases p with
  |obj s=>exact ⟨hp,by simp⟩
  |cell s i=>exact ⟨hp,by simp⟩
  |tmp t=>simp only [blk] at hp;rw [eg _ (hnot t)] at hp;cases hp
 have hs:SR [] zq.length F' γ C (cL 0 zq) ah vs w:=by
  refine ⟨h.mem,hlen,fun t=> ?_,fun p q b hp hq=>h.b5 p q b (hsub p b hp).1 (hsub q b hq).1,fun p b hp=> ?_,⟨fun b hb=> ?_,fun e he=>by obtain ⟨h1,h2⟩:=h.fH.zI e he;exact ⟨.inl h1,h2⟩⟩,fun t l k xs ht=> ?_⟩
  · rw [De]
    cases ht:zq[t]? with
    |none=>exact ⟨.un ..,by cases vs.getD t undef<;>trivial⟩
    |some a=>exact ⟨(has t a ht).1,(has t a ht).2.1⟩
  · rintro (hF|⟨t,ht⟩)
    · exact h.nf p b (hsub p b hp).1 hF
    · exact (hsub p b hp).2 t (h.b5 p (.tmp t) b (hsub p b hp).1 ht)
  · rcases hb with hF|⟨t,ht⟩
    · exact h.fH.lt b hF
    · exact dn h ht
  · rw [De] at ht
    cases hq:zq[t]? with
    |none=>rw [hq] at ht;simp at ht
    |some a=>rw [hq] at ht;exact absurd ht (mJ (has t a hq).2.2 l k xs)
 refine (hac.2 F' γ C w vs hs).mono ?_
 rintro en w' ⟨r,v,aq,γ',C',rfl,hR,hγ,fM,hx⟩
 refine ⟨r,v,aq,γ',C',rfl,hR,hγ, ?_,⟨hx.pre,fun b hb=>hx.keep b (.inl hb),hx.size,hx.out⟩⟩
 have hg:∀(s b:Nat),γ[s]? =some b→γ'[s]? =some b:=by
  intro s b hs
  obtain ⟨q,rfl⟩:=hγ
  rw [List.getElem?_append_left (List.getElem?_eq_some_iff.1 hs).1];exact hs
 have hown:∀t b,aV (get e t) (ts.getD t undef)=some b→F' b:=fun t b hb=> .inr ⟨t,hb⟩
 have hbk:∀p b,blk γ' (l7 e) aq ts w' p b→(∃t,p= .tmp t∧blk γ e ah ts w (.tmp t) b)∨((∀t,p≠ .tmp t)∧blk γ' [(0,r)] aq #[v] w' p b):=by
  intro p b hp
  cases p with
  |obj s=>exact .inr ⟨by simp,hp⟩
  |cell s i=>exact .inr ⟨by simp,hp⟩
  |tmp t=>simp only [blk,oB,Dd] at hp;exact .inl ⟨t,rfl,hp⟩
 have h2:SR L N F γ' C' (l7 e) aq ts w':=by
  refine ⟨fM.mem,h.sz,fun t=> ?_,fun p q b hp hq=> ?_,fun p b hp=> ?_,h.fH.keep hx.size (fun b hb=>(hx.keep b (.inl hb)).1),fun t l k xs ht=> ?_⟩
  · rw [oB]
    refine ⟨(Wk.ey _).vr ((h.env t).1.mono hx.pre _ hg),(Wk.ey _).tc ((h.env t).2.mono fun b hb=> ?_)⟩
    exact hx.keep b (hown t b hb)
  · rcases hbk p b hp with ⟨t,rfl,h1⟩|⟨h1,h2⟩<;>rcases hbk q b hq with ⟨u,rfl,h3⟩|⟨h3,h4⟩
    · exact h.b5 _ _ b h1 h3
    · exact absurd (hown t b h1) (fM.nf q b h4)
    · exact absurd (hown u b h3) (fM.nf p b h2)
    · exact fM.b5 p q b h2 h4
  · rcases hbk p b hp with ⟨t,rfl,h1⟩|⟨h1,h2⟩
    · exact h.nf _ b h1
    · exact fun hF=>fM.nf p b h2 (.inl hF)
  · rw [oB] at ht
    obtain ⟨h1,u,rfl⟩:=J1 ht
    have:=h.fr t _ k xs h1
    exact ⟨this.1,fun hu=>this.2 (by rw [oB,Gp] at hu;exact hu)⟩
 have hr:=fM.env 0
 simp only [get,if_true] at hr
 have hv0:(#[v]:Array Value).getD 0 undef=v:=rfl
 rw [hv0] at hr
 by_cases ho:r.aU=true
 · cases r with
   |sl t k xs=>
    cases t with
    |own=>
     simp only [AV.df]
     refine h2.jY hd hr.1 hr.2 fun b hb=> ?_
     have hb0:blk γ' [(0, .sl .own k xs)] aq #[v] w' (.tmp 0) b:=hb
     refine ⟨fun hF=>fM.nf _ b hb0 (.inl hF),fun p hp=> ?_⟩
     rcases hbk p b hp with ⟨t,rfl,h1⟩|⟨h1,h3⟩
     · exact fM.nf _ b hb0 (hown t b h1)
     · exact h1 0 (fM.b5 p (.tmp 0) b h3 hb0)
    |_=>cases ho
   |_=>cases ho
 · have ho':r.aU=false:=by simpa using ho
   exact h2.au hd ((Wk.df r).vr hr.1) ((Wk.df r).tc hr.2) (B5 ho') (fun l k xs hl=>absurd hl (zJ r l k xs))
end
end Go.Am
end
section
namespace Go.Am
open Go
variable [Tabs]
def oC (P:Program) (L:List Nat) (o:aA) (e:Env) (ah:AH) (K:Env→AH→Prop):Prop:=
 match o.op with
 | .call f zq=>
   match ev e f with
   | .fn f caps=>bz caps=true∧aC P f (zq.map (fun x=>(ev e x).sh)++caps.map AV.s1) ah fun r aq=>K (au L (l7 e) o.d r.df) aq
   |_=>False
 | .fy k b x y=>iC L o.d k b x y e ah K
 | .nq n x=>ri L o.d n x e ah K
 |_=>match aN L o e ah with
  |some (e',aq)=>K e' aq
  |none=>False
def iJ (e:Env):Option Nat→Env
 |some d=>put e d (.aK [])
 |none=>e
def b6 (P:Program) (L:List Nat):List aA→Env→AH→(Env→AH→Prop)→Prop
 |[],e,ah,K=>K e ah
 |o::r,e,ah,K=>match dz e o with
  |some true=>oC P L o e ah fun e ah=>b6 P L r e ah K
  |some false=>b6 P L r (iJ e o.d) ah K
  |none=>False
def fI (N:Nat):List aA→Bool
 |[]=>true
 |o::r=>(match o.d with|some d=>decide (d<N)|none=>true)&&(match o.op with| .lit y _=>decide (y<N)|_=>true)&&fI N r
theorem Ce (N:Nat):∀zq:List aA,fI N (zq.map aA.er)=fI N zq:=by
 intro zq
 induction zq with
 |nil=>rfl
 |cons o r ih=>
  obtain ⟨d,op,g⟩:=o
  simp only [List.map_cons,fI,ih,aA.er]
  cases op<;>rfl
def NG:Exit→Prop
 | .goto _=>False
 |_=>True
def AW (P:Program) (L:List Nat) (N n0:Nat) (c:Code) (Q:Exit→Env→AH→Prop) (e:Env) (ah:AH):Prop:=
 ∀(F:Nat→Prop) (γ:List Nat) (C:Nat→List Value) (ts:Array Value) (w:World),SR L N F γ C e ah ts w→n0≤γ.length→
  c.wp P (fun x a' w'=>a'.defers=[]∧NG x∧∃e' aq γ' C',Q x e' aq∧γ.take n0 <+: γ'∧SR L N F γ' C' e' aq a'.tmps w'∧Ext F C w C' w') ⟨ts,[]⟩ w
section
variable {P:Program} {L:List Nat} {N n0:Nat} {F:Nat→Prop} {γ:List Nat} {C C':Nat→List Value} {e:Env} {ah:AH} {ts:Array Value} {w w':World}
variable {e':Env} {aq:AH}
theorem uB {γ γ':List Nat} {n:Nat} (h:γ <+: γ'):γ.take n <+: γ':=(List.take_prefix n γ).trans h
theorem iK {γ γ' O7:List Nat} {n:Nat} (h0:n≤γ.length) (h:γ.take n <+: γ') (h':γ'.take n <+: O7):γ.take n <+: O7:=by
 obtain ⟨r,rfl⟩:=h
 have:(γ.take n++r).take n=γ.take n:=by
  rw [List.take_append_of_le_length (by simp;omega),List.take_take,Nat.min_self]
 rwa [this] at h'
theorem xF {γ γ':List Nat} {n:Nat} (h0:n≤γ.length) (h:γ.take n <+: γ'):n≤γ'.length:=by
 have:=h.length_le;simp at this;omega
theorem AW.mono {c:Code} {Q Q':Exit→Env→AH→Prop} (h:AW P L N n0 c Q e ah) (hq:∀x e ah,Q x e ah→Q' x e ah):AW P L N n0 c Q' e ah:=
 fun F γ C ts w hs hn=>wp_mono (h F γ C ts w hs hn) fun _ _ _ ⟨hd,hg,e',aq,γ',C',h1,h2⟩=>⟨hd,hg,e',aq,γ',C',hq _ _ _ h1,h2⟩
theorem AW.skip {Q:Exit→Env→AH→Prop} (h:Q .normal e ah):AW P L N n0 .skip Q e ah:=
 fun F γ C ts w hs hn=>wp_skip ⟨rfl,trivial,e,ah,γ,C,h,List.take_prefix _ _,hs,Ext.refl ..⟩
theorem AW.label {Q:Exit→Env→AH→Prop} {l:Nat} (h:Q .normal e ah):AW P L N n0 (.label l) Q e ah:=
 fun F γ C ts w hs hn=>wp_label ⟨rfl,trivial,e,ah,γ,C,h,List.take_prefix _ _,hs,Ext.refl ..⟩
theorem AW.ret {Q:Exit→Env→AH→Prop} (h:Q .ret e ah):AW P L N n0 .ret Q e ah:=
 fun F γ C ts w hs hn=>wp_ret ⟨rfl,trivial,e,ah,γ,C,h,List.take_prefix _ _,hs,Ext.refl ..⟩
theorem AW.exit {Q:Exit→Env→AH→Prop} {i:Nat} (h:Q (.exit i) e ah):AW P L N n0 (.exit i) Q e ah:=
 fun F γ C ts w hs hn=>wp_exit ⟨rfl,trivial,e,ah,γ,C,h,List.take_prefix _ _,hs,Ext.refl ..⟩
theorem AW.seq {a b:Code} {Q:Exit→Env→AH→Prop} (h:AW P L N n0 a (fun x e ah=>match x with| .normal=>AW P L N n0 b Q e ah|x=>Q x e ah) e ah):AW P L N n0 (.seq a b) Q e ah:=by
 intro F γ C ts w hs hn
 refine wp_seq (wp_mono (h F γ C ts w hs hn) ?_)
 rintro x ⟨ts',ds'⟩ w' ⟨rfl,hg,e',aq,γ',C',h1,h2,h3,h4⟩
 cases x with
 |normal=>
  refine wp_mono (h1 F γ' C' ts' w' h3 (xF hn h2)) ?_
  rintro x ⟨Gq,RS⟩ w2 ⟨rfl,hg,e2,j0,γ2,C2,g1,g2,g3,g4⟩
  exact ⟨rfl,hg,e2,j0,γ2,C2,g1,iK hn h2 g2,g3,h4.trans g4⟩
 |_=>exact ⟨rfl,hg,e',aq,γ',C',h1,h2,h3,h4⟩
theorem AW.cond {c:Operand} {c':Ar} {a b:Code} {t:Bool} {Q:Exit→Env→AH→Prop} (hc:aI c=some c') (ht:ev e c'= .bool t) (h:AW P L N n0 (if t then a else b) Q e ah):
 AW P L N n0 (.cond c a b) Q e ah:=by
 intro F γ C ts w hs hn
 have:=(aQ (ds:=[]) hs hc).1
 rw [ht] at this
 exact wp_cond (t:=t) this.dA (h F γ C ts w hs hn)
theorem AW.blk {c:Code} {i:Nat} {Q:Exit→Env→AH→Prop} (h:AW P L N n0 c (fun x e ah=>match x with| .exit j=>if j=i then Q .normal e ah else Q (.exit j) e ah|x=>Q x e ah) e ah):
 AW P L N n0 (.block i c) Q e ah:=by
 intro F γ C ts w hs hn
 refine wp_block (wp_mono (h F γ C ts w hs hn) ?_)
 rintro x a w' ⟨hd,hg,e',aq,γ',C',h1,h2⟩
 cases x with
 |exit j=>
  simp only [Exit.inBlock] at h1 ⊢
  by_cases hj:j=i
  · rw [if_pos hj] at h1 ⊢;exact ⟨hd,trivial,e',aq,γ',C',h1,h2⟩
  · rw [if_neg hj] at h1 ⊢;exact ⟨hd,trivial,e',aq,γ',C',h1,h2⟩
 |_=>exact ⟨hd,hg,e',aq,γ',C',h1,h2⟩
theorem AW.loop {c:Code} {Q:Exit→Env→AH→Prop} (I:Nat→Env→AH→Prop) {k0:Nat}
 (round:∀k e ah,I k e ah→AW P L N n0 c (fun x e' aq=>match x with| .normal=>∃k',k'<k∧I k' e' aq|x=>Q x e' aq) e ah) (h0:I k0 e ah):AW P L N n0 (.loop c) Q e ah:=by
 intro F γ C ts w hs hn
 refine wp_loop_ghost (fun k a w'=>a.defers=[]∧∃e' aq γ' C',I k e' aq∧γ.take n0 <+: γ'∧SR L N F γ' C' e' aq a.tmps w'∧Ext F C w C' w') k0
  ⟨rfl,e,ah,γ,C,h0,List.take_prefix _ _,hs,Ext.refl ..⟩ ?_
 rintro k ⟨rK,RT⟩ w1 ⟨rfl,e1,aW,γ1,C1,h1,h2,h3,h4⟩
 refine wp_mono (round k e1 aW h1 F γ1 C1 rK w1 h3 (xF hn h2)) ?_
 rintro x ⟨Gq,RS⟩ w2 ⟨rfl,hg,e2,j0,γ2,C2,g1,g2,g3,g4⟩
 cases x with
 |normal=>obtain ⟨k',hk',hI⟩:=g1;exact ⟨k',hk',rfl,e2,j0,γ2,C2,hI,iK hn h2 g2,g3,h4.trans g4⟩
 |_=>exact ⟨rfl,hg,e2,j0,γ2,C2,g1,iK hn h2 g2,g3,h4.trans g4⟩
theorem AW.scope {c:Code} {Q:Exit→Env→AH→Prop} (h:AW P L N n0 c Q e ah):AW P L N n0 (.scope c) Q e ah:=
 fun F γ C ts w hs hn=>wp_scope_straight (wp_mono (h F γ C ts w hs hn) fun x _ _ h=>by cases x<;>first|exact h|exact h.2.1.elim)
theorem AW.weak {c:Code} {Q:Exit→Env→AH→Prop} {e1:Env} (hw:∀t,Wk (get e t) (get e1 t)) (h:AW P L N n0 c Q e1 ah):AW P L N n0 c Q e ah:=
 fun F γ C ts w hs hn=>h F γ C ts w (hs.wk hw) hn
theorem ei {ops:Array Oper} {o:Oper} {g:Option (Nat×Bool)} {d:Option Nat} {op:cX} {b:Bool} (h:SR L N F γ C e ah ts w) (hg:dK ops o.guard=some g) (hb:dz e ⟨d,op,g⟩=some b):
 Region.wanted o (yielded ops ts)=b:=by
 unfold Region.wanted
 cases ho:o.guard with
 |none=>
  rw [ho] at hg
  simp only [dK,Option.some.injEq] at hg
  subst hg
  simp only [dz,Option.some.injEq] at hb
  exact hb
 |some jw=>
  obtain ⟨j,want⟩:=jw
  rw [ho] at hg
  simp only [dK,Option.map_eq_some_iff] at hg
  obtain ⟨t,ht,rfl⟩:=hg
  simp only [dz] at hb
  split at hb
  · rename_i b' he
    have hv:=(h.env t).1
    rw [he] at hv
    have hv:=hv.dA
    have hy:yielded ops ts j=some b':=by
     unfold yielded
     rw [ht]
     simp only [Option.bind_some]
     have:ts[t]? =some (.bool b'):=by
      rw [Array.getD_eq_getD_getElem?] at hv
      cases hq:ts[t]? with
      |none=>rw [hq] at hv;simp [undef] at hv
      |some v=>rw [hq] at hv;simp at hv;rw [hv]
     rw [this]
    simp only [hy]
    simp only [Option.some.injEq] at hb
    rw [←hb]
    simp
  · rename_i he
    have hv:=(h.env t).1
    rw [he] at hv
    obtain ⟨vs,hv, -⟩:=hv.lP
    have hy:yielded ops ts j=none:=by
     unfold yielded
     rw [ht]
     simp only [Option.bind_some]
     rw [Array.getD_eq_getD_getElem?] at hv
     cases hq:ts[t]? with
     |none=>rfl
     |some v=>rw [hq] at hv;simp at hv;rw [hv]
    simp only [hy]
    simp only [Option.some.injEq] at hb
    exact hb
  · cases hb
  · cases hb
theorem uC (h:SR L N F γ C e ah ts w):∀(tys:List TypeId) (l:List Operand) (zq:List Ar),nr P tys l=some zq→zq.length=l.length∧
 ∀(i:Nat) (x:Operand) (a:Ar),l[i]? =some x→zq[i]? =some a→VR C γ (ev e a) (Act.eval ⟨ts,[]⟩ x)∧TC w C (ev e a) (Act.eval ⟨ts,[]⟩ x):=by
 intro tys l
 induction l generalizing tys with
 |nil=>intro zq hc;cases tys<;>(simp [nr] at hc;subst hc;simp)
 |cons x r ih=>
  intro zq hc
  cases tys with
  |nil=>simp [nr] at hc
  |cons t tys=>
   simp only [nr] at hc
   split at hc
   case h_2=>cases hc
   rename_i a zq' ha has
   simp only [Option.some.injEq] at hc
   subst hc
   obtain ⟨h1,h2⟩:=ih tys zq' has
   refine ⟨by simp [h1],fun j y b hy hb=> ?_⟩
   cases j with
   |zero=>simp at hy hb;subst hy;subst hb;exact cW h ha
   |succ j=>exact h2 j y b (by simpa using hy) (by simpa using hb)
theorem rL {f:Nat} (hf:eK P f=true) {d:Option Nat} {x:Operand} {args:Array Operand} {tys:Array TypeId} {ty:TypeId} {pos:String} {af:Array Edge} {g:Option (Nat×Bool)} {caps:Array Value} {ρ:Operand→Value}
 (hx:ρ x= .func (.func f) #[] caps):
 (execOp ρ ⟨d, .call {callee:= .value x,args:=args,argTypes:=tys},ty,pos,af,g⟩).run P w= .ok (.enter f (args.map ρ++caps)) w:=by
 unfold eK at hf
 split at hf
 case h_2=>cases hf
 rename_i fn hfn
 simp only [Bool.and_eq_true,bne_iff_ne] at hf
 obtain ⟨h1,h2⟩:=hf
 have h3:fn.body.isNone=false:=by cases hb:fn.body<;>simp_all
 have h4:(fn.name== "runtime.NumGoroutine")=false:=by simpa using h2
 have h5:fn.body≠none:=by intro h0;rw [h0] at h1;cases h1
 simp [execOp,resolve,Deferred.ofValue,hx,invoke,callFunc,program,Sem.run,hfn,h2,h5]
theorem pM {o:Oper} {f:Ar} {l8:List Ar} (hop:cop P o=some (.call f l8)):
 ∃x args tys,o=⟨o.dst, .call {callee:= .value x,args:=args,argTypes:=tys},o.type,o.pos,o.after,o.guard⟩∧aI x=some f∧nr P tys.toList args.toList=some l8:=by
 obtain ⟨d,oo,ty,pos,af,gd⟩:=o
 cases oo with
 |call c=>
  obtain ⟨callee,args,tys⟩:=c
  simp only [cop] at hop
  split at hop
  · split at hop<;>simp at hop
  · split at hop
    · split at hop
      · simp at hop
      · cases hop
    · cases hop
  · split at hop
    · split at hop
      · simp at hop
      · cases hop
    · cases hop
  · split at hop
    · split at hop
      · split at hop<;>simp at hop
      · split at hop<;>simp at hop
      · cases hop
    · cases hop
  · rename_i x
    split at hop
    · rename_i f2 TD h1 h2
      injection hop with hop
      injection hop with e1 e2
      subst e1;subst e2
      exact ⟨x,args,tys,rfl,h1,h2⟩
    · cases hop
  · cases hop
 |makeFunc fn first cs=>
  cases fn with
  |func f=>simp only [cop] at hop;split at hop<;>simp at hop
  |_=>simp [cop] at hop
 |_=>
  exfalso
  simp only [cop] at hop
  first
   |cases hop;done
   |(simp at hop;done)
   |(repeat' (split at hop))<;>(first|(cases hop;done)|(simp at hop;done))
theorem rM (hs:SR L N F γ C e ah ts w) {l8:List Ar} {caps:List AV} {args:Array Operand} {vs:Array Value} (hfl:bz caps=true) (hcl:caps.length=vs.size)
 (ie:∀(i:Nat) (a:AV),caps[i]? =some a→VR C γ a (vs.getD i undef)) (c1:l8.length=args.toList.length)
 (c2:∀(i:Nat) (x:Operand) (a:Ar),args.toList[i]? =some x→l8[i]? =some a→VR C γ (ev e a) (Act.eval ⟨ts,[]⟩ x)∧TC w C (ev e a) (Act.eval ⟨ts,[]⟩ x)):
 ∀(i:Nat) (a:AV),(l8.map (fun x=>(ev e x).sh)++caps.map AV.s1)[i]? =some a→
  VR C γ a ((args.map (Act.eval ⟨ts,[]⟩)++vs).getD i undef)∧TC w C a ((args.map (Act.eval ⟨ts,[]⟩)++vs).getD i undef)∧a.plain=true:=by
 intro i a hi
 by_cases hlt:i<l8.length
 · rw [List.getElem?_append_left (by simpa using hlt),List.getElem?_map,List.getElem?_eq_getElem hlt] at hi
   obtain rfl:(ev e l8[i]).sh=a:=by simpa using hi
   have xw:i<args.toList.length:=by omega
   have:=c2 i _ _ (List.getElem?_eq_getElem xw) (List.getElem?_eq_getElem hlt)
   have hgd:(args.map (Act.eval ⟨ts,[]⟩)++vs).getD i undef=Act.eval ⟨ts,[]⟩ args.toList[i]:=by
    rw [Array.length_toList] at xw
    simp [Array.getD_eq_getD_getElem?,Array.getElem?_append,xw]
   rw [hgd]
   exact ⟨(Wk.sh _).vr this.1,(Wk.sh _).tc this.2,jZ _⟩
 · rw [List.getElem?_append_right (by simpa using hlt),List.getElem?_map] at hi
   simp only [List.length_map] at hi
   cases tr:caps[i - l8.length]? with
   |none=>rw [tr] at hi;simp at hi
   |some b=>
    rw [tr] at hi
    obtain rfl:b.s1=a:=by simpa using hi
    have hgd:(args.map (Act.eval ⟨ts,[]⟩)++vs).getD i undef=vs.getD (i - l8.length) undef:=by
     have RU:l8.length=args.size:=by simpa using c1
     simp only [Array.getD_eq_getD_getElem?]
     rw [Array.getElem?_append_right (by simp;omega)]
     simp [RU]
    rw [hgd]
    exact ⟨(Wk.fh (Wk.s1 _)).vr (ie _ _ tr),FP b (eJ hfl tr) _,uu b⟩
theorem xG {o:Oper} {a:cX} (h:B3 P o=some a):cop P o=some a∨a= .bad:=by
 unfold B3 at h
 cases hc:cop P o with
 |none=>rw [hc] at h;injection h with h;exact .inr h.symm
 |some b=>rw [hc] at h;exact .inl h
theorem J2 {op:cX} (h:op.er= .bad):op= .bad:=by cases op<;>first|rfl|cases h
theorem qp {ops:Array Oper} {l:List Oper} {zq:List aA} (h:e4 P ops l=some zq):(l=[]∧zq=[])∨
 (∃o o2 r a zq',l=o::o2::r∧gr P o o2=some a∧e4 P ops r=some zq'∧zq=a::zq')∨
 (∃o o2 r ag zq',l=o::o2::r∧xe P ops o o2=some ag∧e4 P ops r=some zq'∧zq=ag++zq')∨
 ∃o r op g zq',l=o::r∧(cop P o=some op∨op= .bad)∧dK ops o.guard=some g∧e4 P ops r=some zq'∧zq=⟨o.dst,op,g⟩::zq':=by
 cases l with
 |nil=>simp only [e4,Option.some.injEq] at h;exact .inl ⟨rfl,h.symm⟩
 |cons o r=>
  cases r with
  |nil=>
   simp only [e4] at h
   split at h
   case h_2=>cases h
   rename_i a g h1 h2
   injection h with h
   exact .inr (.inr (.inr ⟨o,[],a,g,[],rfl,xG h1,h2,rfl,h.symm⟩))
  |cons o2 r=>
   rw [e4] at h
   split at h
   · rename_i a ha
     simp only [Option.map_eq_some_iff] at h
     obtain ⟨zq',h1,rfl⟩:=h
     exact .inr (.inl ⟨o,o2,r,a,zq',rfl,ha,h1,rfl⟩)
   · split at h
     · rename_i ag hag
       simp only [Option.map_eq_some_iff] at h
       obtain ⟨zq',h1,rfl⟩:=h
       exact .inr (.inr (.inl ⟨o,o2,r,ag,zq',rfl,hag,h1,rfl⟩))
     · split at h
       case h_2=>cases h
       rename_i a g zq' h1 h2 h3
       injection h with h
       exact .inr (.inr (.inr ⟨o,o2::r,a,g,zq',rfl,xG h1,h2,h3,h.symm⟩))
theorem Cf {a b:aA} {y:Nat} {bs:List UInt8} (h:a.er=b) (hb:b.op= .lit y bs):a=b:=by
 obtain ⟨d,op,g⟩:=a
 subst h
 cases op<;>first|rfl|(simp [aA.er,cX.er] at hb)
theorem rN {o o2:Oper} {a:aA} (h:gr P o o2=some a):∃y bs,a.op= .lit y bs:=by
 unfold gr at h
 split at h
 case h_2=>cases h
 split at h
 case isFalse=>cases h
 split at h
 case h_2=>cases h
 split at h
 case h_2=>cases h
 split at h
 case isFalse=>cases h
 split at h
 case h_2=>cases h
 simp only [Option.map_eq_some_iff] at h
 obtain ⟨bs, -,rfl⟩:=h
 exact ⟨_,_,rfl⟩
theorem pN {ops:Array Oper} {o o2:Oper} {ag:List aA} (h:xe P ops o o2=some ag):∃d y bs t w g,ag=[⟨some y, .mv (.c .un),some (t,w)⟩,⟨d, .lit y bs,some (t,w)⟩]∧t≠y∧
 gr P (bare o) (bare o2)=some ⟨d, .lit y bs,g⟩∧dK ops o.guard=some (some (t,w))∧dK ops o2.guard=some (some (t,w)):=by
 unfold xe at h
 split at h
 case isFalse=>cases h
 rename_i hg
 split at h
 case h_2=>cases h
 rename_i x t w d y bs g h1 h2 h3
 split at h
 · cases h
 · rename_i hty
   injection h with h
   exact ⟨d,y,bs,t,w,g,h.symm,hty,h3,h2,by rw [←hg];exact h2⟩
theorem Mn {a b:aA} {x:Ar} (h:a.er=b) (hb:b.op= .mv x):a=b:=by
 obtain ⟨d,op,g⟩:=a
 subst h
 cases op<;>first|rfl|(simp [aA.er,cX.er] at hb)
theorem u7 {ops:Array Oper} {l:List Oper} {zq:List aA} (h:e4 P ops l=some (zq.map aA.er)):(l=[]∧zq=[])∨
 (∃o o2 r a zq',l=o::o2::r∧gr P o o2=some a∧e4 P ops r=some (zq'.map aA.er)∧zq=a::zq')∨
 (∃o o2 r ag zq',l=o::o2::r∧xe P ops o o2=some ag∧e4 P ops r=some (zq'.map aA.er)∧zq=ag++zq')∨
 ∃o r op g zq',l=o::r∧(cop P o=some op.er∨op= .bad)∧dK ops o.guard=some g∧e4 P ops r=some (zq'.map aA.er)∧zq=⟨o.dst,op,g⟩::zq':=by
 rcases qp h with ⟨h1,h2⟩|⟨o,o2,r,a,zq',h1,h2,h3,h4⟩|⟨o,o2,r,ag,zq',h1,h2,h3,h4⟩|⟨o,r,op,g,zq',h1,h2,h3,h4,h5⟩
 · exact .inl ⟨h1,by simpa using h2⟩
 · cases zq with
   |nil=>simp at h4
   |cons x xs=>
    simp only [List.map_cons,List.cons.injEq] at h4
    obtain ⟨y,bs,hl⟩:=rN h2
    have:=Cf h4.1 hl
    subst this
    exact .inr (.inl ⟨o,o2,r,x,xs,h1,h2,by rw [h3,h4.2],rfl⟩)
 · obtain ⟨d,y,bs,t,w,g,rfl, -⟩:=pN h2
   cases zq with
   |nil=>simp at h4
   |cons x xs=>
    cases xs with
    |nil=>simp at h4
    |cons x2 xs=>
     simp only [List.map_cons,List.cons_append,List.nil_append,List.cons.injEq] at h4
     have e1:=Mn h4.1 rfl
     have e2:=Cf h4.2.1 rfl
     subst e1;subst e2
     exact .inr (.inr (.inl ⟨o,o2,r,_,xs,h1,h2,by rw [h3,h4.2.2],rfl⟩))
 · cases zq with
   |nil=>simp at h5
   |cons x xs=>
    simp only [List.map_cons,List.cons.injEq] at h5
    obtain ⟨d,op',g'⟩:=x
    obtain ⟨h6,h7⟩:=h5
    simp only [aA.er] at h6
    injection h6 with e1 e2 e3
    subst e1;subst e2;subst e3
    exact .inr (.inr (.inr ⟨o,r,op',g',xs,h1,h2.imp id J2,h3,by rw [h4,h7],rfl⟩))
theorem xH {ops:Array Oper} {o o2:Oper} {l:List Oper} {a:aA} {zq:List aA} {K:Env→AH→Prop} {Q:Exit→Act→World→Prop} (dI:gr P (bare o) (bare o2)=some a)
 (hw1:Region.wanted o (yielded ops ts)=true) (rD:∀y bs v,a.op= .lit y bs→Region.wanted o2 (yielded ops ((⟨ts,[]⟩:Act).put (some y) v).tmps)=true) (hd:fI N (a::zq)=true)
 (hs:SR L N F γ C e ah ts w) (hk:b6 P L (a::zq) e ah K)
 (next:∀e1 aW C1 rK w1,b6 P L zq e1 aW K→fI N zq=true→SR L N F γ C1 e1 aW rK w1→Ext F C w C1 w1→wpList P ops Q l ⟨rK,[]⟩ w1):wpList P ops Q (o::o2::l) ⟨ts,[]⟩ w:=by
 obtain ⟨d1,TE,RV,pos1,RW,g1⟩:=o
 obtain ⟨d2,JY,iG,pos2,RX,g2⟩:=o2
 unfold gr bare at dI
 split at dI
 case h_2=>cases dI
 rename_i t n parts s d x y h1 h2 h3
 simp only at h1 h2 h3
 subst h1;subst h2;subst h3
 split at dI
 case isFalse=>cases dI
 rename_i hcs
 obtain ⟨rfl,rfl,rfl,J3,Gr,RY,hn,hn2⟩:=hcs
 split at dI
 case h_2=>cases dI
 rename_i el hel
 split at dI
 case h_2=>cases dI
 rename_i RZ
 split at dI
 case isFalse=>cases dI
 rename_i hsz
 split at dI
 case h_2=>cases dI
 rename_i l8 O8
 simp only [Option.map_eq_some_iff] at dI
 obtain ⟨bs,zR,rfl⟩:=dI
 have rD:=fun v=>rD _ _ v rfl
 simp only [fI,Bool.and_eq_true] at hd
 obtain ⟨⟨hd1,ny⟩,R0⟩:=hd
 have hy:x<N:=by simpa using ny
 have eT:∀z,d2=some z→z<N:=by
  intro z hz
  rw [hz] at hd1
  simpa using hd1
 simp only [b6,dz,oC,aN] at hk
 have ht:P.underlying d=some (.slice el):=by
  unfold s7 at hel
  split at hel
  · rename_i h;injection hel with hel;subst hel;exact h
  · cases hel
 obtain ⟨q1,q2⟩:=Ge zR e
 obtain ⟨r,hrs,hrun,key⟩:=uy (ds:=[]) (d:=d2) hs eT ht hn (by rw [hsz.1];omega) hsz.2 O8 (by rw [hsz.1];exact q2)
 obtain ⟨C',k1,k2⟩:=key (r.size,r.size+1) (.inr rfl)
 rw [q1,hsz.1] at k1
 have k3:=k1.qn (d:=x) (a:= .un) (v:= .slice (some ⟨w.heap.size,0,none⟩) n n) hy (.un ..) trivial rfl (by simp)
 unfold wpList
 rw [if_pos hw1]
 refine .inl ?_
 unfold Oper.wp
 have e1:(execOp (Act.eval ⟨ts,[]⟩) ⟨some x, .buildSlice d n parts,RV,pos1,RW,g1⟩).run P w= .ok (.value (.slice (some ⟨w.heap.size,0,none⟩) n n)) (w.alloc (.cells r el)):=by
  simp [execOp,hrun]
 rw [e1]
 simp only [Oper.upon]
 unfold wpList
 rw [if_pos (rD _)]
 refine .inl ?_
 unfold Oper.wp
 have hlt:x<ts.size:=by rw [hs.sz];exact hy
 have e2:(execOp (Act.eval ((⟨ts,[]⟩:Act).put (some x) (.slice (some ⟨w.heap.size,0,none⟩) n n))) ⟨d2, .convert d d (.tmp x),iG,pos2,RX,g2⟩).run P (w.alloc (.cells r el))= .ok (.value (.slice (some ⟨w.heap.size,0,none⟩) n n)) (w.alloc (.cells r el (r.size,r.size+1))):=by
  have hev:Act.eval ((⟨ts,[]⟩:Act).put (some x) (.slice (some ⟨w.heap.size,0,none⟩) n n)) (.tmp x)= .slice (some ⟨w.heap.size,0,none⟩) n n:=by
   simp [Act.eval,Act.put,hlt]
  have:=Lib.run_convert_bytes_const (P:=P) w d el r n n ht RZ
  simp only [execOp,hev,Sem.run_bind,this,Result.andThen_ok,Sem.run_pure]
 rw [e2]
 simp only [Oper.upon]
 rw [←SR.rF ts [] RY]
 have hput:(((⟨ts,[]⟩:Act).put d2 (.slice (some ⟨w.heap.size,0,none⟩) n n)).put (some x) (.slice (some ⟨w.heap.size,0,none⟩) n n))=
  ⟨(((⟨ts,[]⟩:Act).put d2 (.slice (some ⟨w.heap.size,0,none⟩) n n)).tmps).setIfInBounds x (.slice (some ⟨w.heap.size,0,none⟩) n n),[]⟩:=by
  cases d2<;>rfl
 rw [hput]
 exact next _ _ C' _ _ hk R0 k3 k2
theorem J4 {ops:Array Oper} {o o2:Oper} {l:List Oper} {a:aA} {zq:List aA} {K:Env→AH→Prop} {Q:Exit→Act→World→Prop} (dI:gr P o o2=some a) (hd:fI N (a::zq)=true)
 (hs:SR L N F γ C e ah ts w) (hk:b6 P L (a::zq) e ah K)
 (next:∀e1 aW C1 rK w1,b6 P L zq e1 aW K→fI N zq=true→SR L N F γ C1 e1 aW rK w1→Ext F C w C1 w1→wpList P ops Q l ⟨rK,[]⟩ w1):wpList P ops Q (o::o2::l) ⟨ts,[]⟩ w:=by
 have hg:o.guard=none∧o2.guard=none:=by
  unfold gr at dI
  split at dI
  case h_2=>cases dI
  split at dI
  case isFalse=>cases dI
  rename_i hcs
  exact ⟨by simpa using hcs.2.2.2.1,by simpa using hcs.2.2.2.2.1⟩
 have e1:bare o=o:=by obtain ⟨d,op,ty,pos,af,g⟩:=o;simp only at hg;simp [bare,hg.1]
 have e2:bare o2=o2:=by obtain ⟨d,op,ty,pos,af,g⟩:=o2;simp only at hg;simp [bare,hg.2]
 exact xH (by rw [e1,e2];exact dI) (by simp [Region.wanted,hg.1]) (fun _ _ _ _=>by simp [Region.wanted,hg.2]) hd hs hk next
theorem Gs {ops:Array Oper}:∀(n:Nat) (l:List Oper) (zq:List aA) (e:Env) (ah:AH) (K:Env→AH→Prop) (F:Nat→Prop) (γ:List Nat) (C:Nat→List Value) (ts:Array Value) (w:World)
 (Q:Exit→Act→World→Prop),l.length≤n→e4 P ops l=some (zq.map aA.er)→fI N zq=true→SR L N F γ C e ah ts w→b6 P L zq e ah K→
 (∀e' aq γ' C' ts' w',K e' aq→γ <+: γ'→SR L N F γ' C' e' aq ts' w'→Ext F C w C' w'→Q .normal ⟨ts',[]⟩ w')→wpList P ops Q l ⟨ts,[]⟩ w:=by
 intro n
 induction n with
 |zero=>
  intro l zq e ah K F γ C ts w Q hn hc hd hs hk hq
  obtain rfl:l=[]:=List.eq_nil_of_length_eq_zero (by omega)
  simp only [e4,Option.some.injEq] at hc
  obtain rfl:zq=[]:=by simpa using hc.symm
  exact wpList_nil (hq e ah γ C ts w hk (List.prefix_refl _) hs (Ext.refl ..))
 |succ n ih=>
  intro l zq e ah K F γ C ts w Q hn hc hd hs hk hq
  rcases u7 hc with ⟨rfl,rfl⟩|⟨o,o2,l,a,zq',rfl,dI,has,rfl⟩|⟨o,o2,l,ag,zq',rfl,dI,has,rfl⟩|⟨o,l,op,g,zq',rfl,hop,hg,has,rfl⟩
  · exact wpList_nil (hq e ah γ C ts w hk (List.prefix_refl _) hs (Ext.refl ..))
  · exact J4 dI hd hs hk fun e1 aW C1 rK w1 pJ hd1 hs1 hx1=>ih l zq' e1 aW K F γ C1 rK w1 Q (by simp at hn;omega) has hd1 hs1 pJ
     fun e' aq γ' C' ts' w' g1 g2 g3 g4=>hq e' aq γ' C' ts' w' g1 g2 g3 (hx1.trans g4)
  · obtain ⟨d,y,bs,tg,want,g0,rfl,hty,hlo,J3,Gr⟩:=pN dI
    have hd:fI N [⟨some y, .mv (.c .un),some (tg,want)⟩,⟨d, .lit y bs,some (tg,want)⟩]=true∧fI N zq'=true:=by
     simp only [List.cons_append,List.nil_append,fI,Bool.and_eq_true,Bool.and_true] at hd ⊢
     exact ⟨⟨hd.1,hd.2.1⟩,hd.2.2⟩
    have O9:y<N:=by
     have:=hd.1
     simp only [fI,Bool.and_eq_true] at this
     simpa using this.1.1
    have Pa:∀v,SR L N F γ C (put e y .un) ah (ts.setIfInBounds y v) w:=fun v=>hs.qn O9 (.un ..) trivial rfl (by simp)
    have hge:∀a,get (put e y a) tg=get e tg:=fun a=>by rw [cK,if_neg hty]
    have ov:∀a (d d2:Option Nat) (op JY:cX),dz (put e y a) ⟨d,op,some (tg,want)⟩=dz e ⟨d2,JY,some (tg,want)⟩:=fun a _ _ _ _=>by simp only [dz,hge]
    rw [List.cons_append,List.cons_append,List.nil_append] at hk
    simp only [b6] at hk
    split at hk
    · rename_i kP
      have hw1:=ei hs J3 kP
      have e0:au L e (some y) (cp L (.c .un) (ev e (.c .un)))=put e y .un:=by
       simp only [ev,cp,au];split<;>rfl
      simp only [oC,aN] at hk
      rw [e0,ov .un d (some y) (.lit y bs) (.mv (.c .un)),kP] at hk
      simp only at hk
      have R1:b6 P L (⟨d, .lit y bs,g0⟩::zq') (put e y .un) ah K:=by
       have h0:g0=none:=by
        unfold gr at hlo
        split at hlo
        case h_2=>cases hlo
        split at hlo
        case isFalse=>cases hlo
        split at hlo
        case h_2=>cases hlo
        split at hlo
        case h_2=>cases hlo
        split at hlo
        case isFalse=>cases hlo
        split at hlo
        case h_2=>cases hlo
        simp only [Option.map_eq_some_iff] at hlo
        obtain ⟨_, -,hlo⟩:=hlo
        injection hlo with _ _ h3
        exact h3.symm
       subst h0
       exact hk
      refine xH hlo hw1 (fun y' bs' v h=> ?_) (by
       have h1:=hd.1
       simp only [fI,Bool.and_eq_true] at h1 ⊢
       exact ⟨h1.2.1,hd.2⟩) (hs.jX (.un _)) R1 fun e1 aW C1 rK w1 pJ hd1 hs1 hx1=>ih l zq' e1 aW K F γ C1 rK w1 Q (by simp at hn;omega) has hd1 hs1 pJ
       fun e' aq γ' C' ts' w' g1 g2 g3 g4=>hq e' aq γ' C' ts' w' g1 g2 g3 (hx1.trans g4)
      injection h with h1 h2
      subst h1
      exact ei (Pa v) Gr (d:=d) (op:= .lit y bs) ((ov .un d (some y) (.lit y bs) (.mv (.c .un))).trans kP)
    · rename_i kP
      have hw1:=ei hs J3 kP
      rw [show iJ e (some y)=put e y (.aK []) from rfl,ov (.aK []) d (some y) (.lit y bs) (.mv (.c .un)),kP] at hk
      simp only at hk
      obtain ⟨R2,R3⟩:o.dst=some y∧o2.dst=d:=by
       unfold gr bare at hlo
       split at hlo
       case h_2=>cases hlo
       rename_i h1 h2 h3
       simp only at h3
       split at hlo
       case isFalse=>cases hlo
       split at hlo
       case h_2=>cases hlo
       split at hlo
       case h_2=>cases hlo
       split at hlo
       case isFalse=>cases hlo
       split at hlo
       case h_2=>cases hlo
       simp only [Option.map_eq_some_iff] at hlo
       obtain ⟨_, -,hlo⟩:=hlo
       injection hlo with q1 q2 _
       injection q2 with q2 _
       subst q2
       exact ⟨h3,q1⟩
      have hs1:SR L N F γ C (put e y (.aK [])) ah (ts.setIfInBounds y undef) w:=hs.qn O9 (.aK _ [] #[] rfl (by simp)) (by simp [undef,TC]) rfl (by simp)
      unfold wpList
      rw [if_neg (by rw [hw1];simp)]
      unfold wpList
      have Mo:(⟨ts,[]⟩:Act).put o.dst undef=⟨ts.setIfInBounds y undef,[]⟩:=by rw [R2];rfl
      rw [Mo]
      have rD:=ei hs1 Gr (d:=d) (op:= .lit y bs) ((ov (.aK []) d (some y) (.lit y bs) (.mv (.c .un))).trans kP)
      rw [if_neg (by show ¬(Region.wanted o2 (yielded ops (ts.setIfInBounds y undef))=true);rw [rD];simp)]
      have hput:(⟨ts.setIfInBounds y undef,[]⟩:Act).put o2.dst undef=⟨((⟨ts.setIfInBounds y undef,[]⟩:Act).put o2.dst undef).tmps,[]⟩:=by cases o2.dst<;>rfl
      rw [hput]
      refine ih l zq' _ ah K F γ C _ w Q (by simp at hn;omega) has hd.2 ?_ hk hq
      rw [R3]
      cases R4:d with
      |none=>exact hs1
      |some d'=>
       have hdN:d'<N:=by
        have:=hd.1
        simp only [fI,Bool.and_eq_true,R4] at this
        simpa using this.2.1.1
       exact hs1.qn hdN (.aK _ [] #[] rfl (by simp)) (by simp [undef,TC]) rfl (by simp)
    · exact hk.elim
  have hn':l.length≤n:=by simp at hn;omega
  simp only [fI,Bool.and_eq_true] at hd
  have eT:∀x,o.dst=some x→x<N:=by
   intro x hx
   have:=hd.1.1
   rw [hx] at this
   simpa using this
  simp only [b6] at hk
  split at hk
  · rename_i kP
    have hw:=ei hs hg kP
    unfold wpList
    rw [if_pos hw]
    refine .inl ?_
    rcases hop with hop|rfl
    case inr=>exact hk.elim
    by_cases cD:op.ic=true
    · cases op with
      |call f l8=>
       simp only [oC] at hk
       split at hk
       case h_2=>exact hk.elim
       rename_i f' caps Mp
       obtain ⟨hfl,hk⟩:=hk
       obtain ⟨x,args,tys,ho,hx,hargs⟩:=pM hop
       have h1:=aQ (ds:=[]) hs hx
       rw [Mp] at h1
       obtain ⟨vs,Mq,hcl,ie⟩:=h1.1.uN
       obtain ⟨c1,c2⟩:=uC hs _ _ _ hargs
       have rO:=xE (d:=o.dst) (ds:=[]) (vs:=args.map (Act.eval ⟨ts,[]⟩)++vs) hs eT hk (by simp [c1,hcl]) (rM hs hfl hcl ie c1 c2)
       have zV:(execOp (Act.eval ⟨ts,[]⟩) o).run P w= .ok (.enter f' (args.map (Act.eval ⟨ts,[]⟩)++vs)) w:=by
        rw [ho];exact rL hk.1 Mq
       unfold Oper.wp
       rw [zV]
       simp only [Oper.upon]
       refine rO.mono ?_
       rintro en w1 ⟨r,v,aW,γ1,C1,rfl,hR,hγ,hs1,hx1⟩
       have hput:(⟨ts,[]⟩:Act).put o.dst v=⟨((⟨ts,[]⟩:Act).put o.dst v).tmps,[]⟩:=by cases o.dst<;>rfl
       show wpList P ops Q l ((⟨ts,[]⟩:Act).put o.dst v) w1
       rw [hput]
       exact ih l zq' _ aW K F γ1 C1 _ w1 Q hn' has hd.2 hs1 hR fun e' aq γ' C' ts' w' g1 g2 g3 g4=>hq e' aq γ' C' ts' w' g1 (hγ.trans g2) g3 (hx1.trans g4)
      |fy k b x y=>
       simp only [oC] at hk
       obtain ⟨e1,aW,hk',v,w1,γ1,C1,hr,hγ,hs1,hx1, -, -⟩:=uz (m:=true) (ds:=[]) hs eT (by simpa [bZ] using hop) hk
       have next:wpList P ops Q l ((⟨ts,[]⟩:Act).put o.dst v) w1:=by
        have hput:(⟨ts,[]⟩:Act).put o.dst v=⟨((⟨ts,[]⟩:Act).put o.dst v).tmps,[]⟩:=by cases o.dst<;>rfl
        rw [hput]
        exact ih l zq' e1 aW K F γ1 C1 _ w1 Q hn' has hd.2 hs1 hk' fun e' aq γ' C' ts' w' g1 g2 g3 g4=>hq e' aq γ' C' ts' w' g1 (hγ.trans g2) g3 (hx1.trans g4)
       unfold Oper.wp
       rcases hr with hr|⟨hr,rfl⟩<;>rw [hr]<;>exact next
      |nq n x=>
       simp only [oC] at hk
       obtain ⟨e1,aW,hk',v,w1,γ1,C1,hr,hγ,hs1,hx1, -, -⟩:=u0 (m:=true) (ds:=[]) hs eT (by simpa [bZ] using hop) hk
       have next:wpList P ops Q l ((⟨ts,[]⟩:Act).put o.dst v) w1:=by
        have hput:(⟨ts,[]⟩:Act).put o.dst v=⟨((⟨ts,[]⟩:Act).put o.dst v).tmps,[]⟩:=by cases o.dst<;>rfl
        rw [hput]
        exact ih l zq' e1 aW K F γ1 C1 _ w1 Q hn' has hd.2 hs1 hk' fun e' aq γ' C' ts' w' g1 g2 g3 g4=>hq e' aq γ' C' ts' w' g1 (hγ.trans g2) g3 (hx1.trans g4)
       unfold Oper.wp
       rcases hr with hr|⟨hr,rfl⟩<;>rw [hr]<;>exact next
      |_=>cases cD
    · have jl:op.ic=false:=by simpa using cD
      have hk':match aN L ⟨o.dst,op,g⟩ e ah with|some (e',aq)=>b6 P L zq' e' aq K|none=>False:=by
       cases op<;>first|exact hk|cases jl
      rw [l6] at hk'
      cases hev:aN L ⟨o.dst,op,none⟩ e ah with
      |none=>rw [hev] at hk';exact hk'.elim
      |some ea=>
       obtain ⟨e1,aW⟩:=ea
       rw [hev] at hk'
       obtain ⟨v,w1,γ1,C1,hr,hγ,hs1,hx1, -, -⟩:=u6 (ds:=[]) hs eT hop jl hev
       have next:wpList P ops Q l ((⟨ts,[]⟩:Act).put o.dst v) w1:=by
        have hput:(⟨ts,[]⟩:Act).put o.dst v=⟨((⟨ts,[]⟩:Act).put o.dst v).tmps,[]⟩:=by cases o.dst<;>rfl
        rw [hput]
        exact ih l zq' e1 aW K F γ1 C1 _ w1 Q hn' has hd.2 hs1 hk' fun e' aq γ' C' ts' w' g1 g2 g3 g4=>hq e' aq γ' C' ts' w' g1 (hγ.trans g2) g3 (hx1.trans g4)
       unfold Oper.wp
       rcases hr with hr|⟨hr,rfl⟩<;>rw [hr]<;>exact next
  · rename_i kP
    have hw:=ei hs hg kP
    unfold wpList
    rw [if_neg (by rw [hw];simp)]
    have hput:(⟨ts,[]⟩:Act).put o.dst undef=⟨((⟨ts,[]⟩:Act).put o.dst undef).tmps,[]⟩:=by cases o.dst<;>rfl
    rw [hput]
    refine ih l zq' _ ah K F γ C _ w Q hn' has hd.2 ?_ hk hq
    cases ho:o.dst with
    |none=>exact hs
    |some d=>exact hs.qn (eT d ho) (.aK _ [] #[] rfl (by simp)) (by simp [undef,TC]) rfl (by simp)
  · exact hk.elim
theorem J5 {ops:Array Oper} (l:List Oper) (zq:List aA) (e:Env) (ah:AH) (K:Env→AH→Prop) (F:Nat→Prop) (γ:List Nat) (C:Nat→List Value) (ts:Array Value) (w:World)
 (Q:Exit→Act→World→Prop) (hc:e4 P ops l=some (zq.map aA.er)) (hd:fI N zq=true) (hs:SR L N F γ C e ah ts w) (hk:b6 P L zq e ah K)
 (hq:∀e' aq γ' C' ts' w',K e' aq→γ <+: γ'→SR L N F γ' C' e' aq ts' w'→Ext F C w C' w'→Q .normal ⟨ts',[]⟩ w'):wpList P ops Q l ⟨ts,[]⟩ w:=
 Gs l.length l zq e ah K F γ C ts w Q (Nat.le_refl _) hc hd hs hk hq
end
end Go.Am
end
section
namespace Go.Am
open Go
variable [Tabs]
section
variable {P:Program} {ops:Array Oper} {Q:Exit→Act→World→Prop} {md:Region.Mode} {S:World→Prop} {D:Nat→Bool}
def wpS (P:Program) (ops:Array Oper) (Q:Exit→Act→World→Prop) (S:World→Prop) (D:Nat→Bool):Nat→Array Bool→Act→World→Prop
 |0,listed,a,w=>Region.ready .any ops listed=[]∧Q .normal a w
 |n+1,listed,a,w=>(Region.ready .any ops listed=[]→Q .normal a w)∧
  ∀i∈Region.ready .any ops listed,wpOp P ops Q i (fun a' w'=>(D i=false→S w')∧wpS P ops Q S D n (listed.setIfInBounds i true) a' w') a w
theorem wpS.any:∀ {n:Nat} {listed:Array Bool} {a:Act} {w:World},wpS P ops Q S D n listed a w→wpAny P .any ops Q n listed a w
 |0,_,_,_,h=>h
 |_+1,_,_,_,h=>⟨h.1,fun i hi=>wpOp_mono (fun _ _ h'=>h'.2.any) (h.2 i hi)⟩
theorem wpS.mono {S':World→Prop} (hS:∀w,S' w→S w):∀ {n:Nat} {listed:Array Bool} {a:Act} {w:World},wpS P ops Q S' D n listed a w→wpS P ops Q S D n listed a w
 |0,_,_,_,h=>h
 |_+1,_,_,_,h=>⟨h.1,fun i hi=>wpOp_mono (fun _ _ h'=>⟨fun hd=>hS _ (h'.1 hd),h'.2.mono hS⟩) (h.2 i hi)⟩
theorem dW {listed:Array Bool} {i j:Nat} (h:(listed.setIfInBounds i true).getD j true=false):listed.getD j true=false:=by
 by_cases hij:i=j
 · subst hij
   by_cases hlt:i<listed.size
   · simp [hlt] at h
   · simp [Array.getElem?_eq_none (Nat.le_of_not_lt hlt)] at h
 · rwa [getD_set_ne true hij] at h
theorem qq:∀ {n:Nat} {listed:Array Bool} {a:Act} {w:World},(∀j,listed.getD j true=false→D j=true)→wpAny P .any ops Q n listed a w→wpS P ops Q S D n listed a w
 |0,_,_,_,_,h=>h
 |_+1,listed,_,_,hD,h=>⟨h.1,fun i hi=>wpOp_mono (fun _ _ h'=>⟨fun hd=>Bool.noConfusion ((hD i (mem_ready.1 hi).1).symm.trans hd),qq (fun j hj=>hD j (dW hj)) h'⟩) (h.2 i hi)⟩
theorem zW {i:Nat} {oi:Oper} {v:Value} (hi:ops[i]? =some oi) (hsel:∀(j:Nat) (o:Oper) cs b,ops[j]? =some o→o.op≠ .select cs b)
 (hQ:∀c a w,¬Q (.panic c) a w) (W:Nat→Prop):
 ∀(n:Nat) (listed:Array Bool) (a:Act) (w:World),
  (∀j oj,ops[j]? =some oj→j≠i→listed.getD j true=false→(∀e∈oj.after,Region.binds .any e=true→e.on≠i)→oi.apart ops oj=true)→
  (∀j,W j→listed.getD j true=false∧∃oj,ops[j]? =some oj∧∃e∈oj.after,Region.binds .any e=true∧(e.on=i∨W e.on))→(∀j,j<ops.size→D j=true→listed.getD j true=false→W j)→
  i∈Region.ready .any ops listed→YieldsIf P ops S oi v a→S w→
  wpS P ops Q S D n (listed.setIfInBounds i true) (a.put oi.dst v) w→wpS P ops Q S D (n+1) listed a w:=by
 intro n
 induction n with
 |zero=>
  intro listed a w _ _ _ hr hy hS H
  refine ⟨fun h=>(by rw [h] at hr;cases hr),fun j hj=> ?_⟩
  by_cases hji:j=i
  · subst hji;exact hy.wpOp hi hS ⟨fun _=>hS,H⟩
  · have:=ready_mono hj hji
    rw [H.1] at this
    cases this
 |succ n ih=>
  intro listed a w hfree l9 Pb hr hy hS H
  refine ⟨fun h=>(by rw [h] at hr;cases hr),fun j hj=> ?_⟩
  by_cases hji:j=i
  · subst hji;exact hy.wpOp hi hS ⟨fun _=>hS,H⟩
  · have h1:=H.2 j (ready_mono hj hji)
    obtain ⟨LJ,oj,zX,hall⟩:=mem_ready.1 hj
    have hun:∀k,listed.getD k true=false→listed.getD k false=false:=fun k hk=>by
     rcases Nat.lt_or_ge k listed.size with h'|h'
     · simp [h'] at hk ⊢;exact hk
     · simp [Array.getElem?_eq_none h'] at hk
    have hnot:∀e∈oj.after,Region.binds .any e=true→listed.getD e.on true=false→False:=fun e he hb hu=>by
     have h1:=hall e he hb
     rw [hun _ hu] at h1
     cases h1
    have hni:∀e∈oj.after,Region.binds .any e=true→e.on≠i:=fun e he hb heq=>hnot e he hb (by rw [heq];exact (mem_ready.1 hr).1)
    have Pc:¬W j:=by
     intro hw
     obtain ⟨-,TF,Cg,e,he,hb,h0⟩:=l9 j hw
     rw [zX] at Cg
     injection Cg with Cg
     subst Cg
     rcases h0 with h0|h0
     · exact hni e he hb h0
     · exact hnot e he hb (l9 _ h0).1
    have Mr:D j=false:=by
     cases hd:D j with
     |false=>rfl
     |true=>exact absurd (Pb j (Array.getElem?_eq_some_iff.1 zX).1 hd LJ) Pc
    have h2:=wpOp_putIf zX (hfree j oj zX hji LJ hni) (fun cs b=>hsel i oi cs b hi) (fun cs b=>hsel j oj cs b zX) (fun c a w hq=>(hQ c _ w hq).elim) hy h1
    refine wpOp_mono (fun a' w' h3=> ?_) h2
    have Pd:=h3.2.1 Mr
    refine ⟨fun _=>Pd,ih (listed.setIfInBounds j true) a' w' ?_ ?_ ?_ (ready_mono hr (Ne.symm hji)) h3.1 Pd ?_⟩
    · exact fun k ok hk hki Ms hno=>hfree k ok hk hki (dW Ms) hno
    · intro k hk
      obtain ⟨h5,h6⟩:=l9 k hk
      refine ⟨?_,h6⟩
      rw [getD_set_ne true (fun h7=>Pc (by rw [h7];exact hk))]
      exact h5
    · exact fun k hk hd Ms=>Pb k hk hd (dW Ms)
    · rw [Array.setIfInBounds_comm _ _ hji]
      exact h3.2.2
end
section
variable {P:Program} {L:List Nat} {N n0:Nat} {F:Nat→Prop} {γ:List Nat} {C C':Nat→List Value} {e:Env} {ah:AH} {ts:Array Value} {w w':World} {m:Bool}
variable {e':Env} {aq:AH} {ops:Array Oper} {Q:Exit→Act→World→Prop}
theorem KA.trans {γ':List Nat} {w2:World} (hg:∀(s b:Nat),γ[s]? =some b→γ'[s]? =some b) (hC:∀b,C b <+: C' b) (h:KA m γ C w w') (h':KA m γ' C' w' w2):KA m γ C w w2:=
 ⟨fun b i hi=>(h'.1 b i (Nat.lt_of_lt_of_le hi (hC b).length_le)).trans (h.1 b i hi),fun hm s b hs=>(h'.2 hm s b (hg s b hs)).trans (h.2 hm s b hs)⟩
theorem Gt {γ γ':List Nat} (h:γ <+: γ') {s b:Nat} (hs:γ[s]? =some b):γ'[s]? =some b:=by
 obtain ⟨q,rfl⟩:=h
 rw [List.getElem?_append_left (List.getElem?_eq_some_iff.1 hs).1];exact hs
theorem KA.u9 {e ah ts e' aq ts'} {γ':List Nat} (h:SR L N F γ C e ah ts w) (h':SR L N F γ' C' e' aq ts' w') (hx:Ext F C w C' w')
 (ho:m=true→∀(s b:Nat),γ[s]? =some b→w'.heap[b]? =w.heap[b]?):KA m γ C w w':=by
 refine ⟨fun b i hi=> ?_,ho⟩
 rw [iz h hi,iz h' (Nat.lt_of_lt_of_le hi (hx.pre b).length_le),dM (hx.pre b) hi]
theorem pO (a:Act) (d:Option Nat) (v:Value) (h:a.defers=[]):a.put d v=⟨(a.put d v).tmps,[]⟩:=by
 obtain ⟨ts,ds⟩:=a
 simp only at h
 subst h
 cases d<;>rfl
theorem xI {o:Oper} {i:Nat} {op:cX} {g:Option (Nat×Bool)} {zq:List aA} {K:Env→AH→Prop} {R:Act→World→Prop} (hi:ops[i]? =some o) (hop:bZ P m o=some op.er) (hg:dK ops o.guard=some g)
 (eT:∀x,o.dst=some x→x<N) (hs:SR L N F γ C e ah ts w) (hk:b6 P L (⟨o.dst,op,g⟩::zq) e ah K)
 (next:∀v e' aq γ' C' w',b6 P L zq e' aq K→γ <+: γ'→SR L N F γ' C' e' aq ((⟨ts,[]⟩:Act).put o.dst v).tmps w'→Ext F C w C' w'→(ur P m o=true→KA m γ C w w')→R ((⟨ts,[]⟩:Act).put o.dst v) w'):
 wpOp P ops Q i R ⟨ts,[]⟩ w:=by
 unfold wpOp
 simp only [hi]
 simp only [b6] at hk
 split at hk
 · rename_i kP
   rw [if_pos (ei hs hg kP)]
   refine .inl ?_
   by_cases cD:op.ic=true
   · cases op with
     |call f l8=>
      have hop:cop P o=some (.call f l8):=by
       cases m with
       |true=>simpa [bZ,cX.er] using hop
       |false=>
        simp only [bZ,Bool.false_eq_true,if_false,Option.map_eq_some_iff] at hop
        obtain ⟨op',h1,h2⟩:=hop
        rw [h1,uA h2]
      simp only [oC] at hk
      split at hk
      case h_2=>exact hk.elim
      rename_i f' caps Mp
      obtain ⟨hfl,hk⟩:=hk
      obtain ⟨x,args,tys,ho,hx,hargs⟩:=pM hop
      have h1:=aQ (ds:=[]) hs hx
      rw [Mp] at h1
      obtain ⟨vs,Mq,hcl,ie⟩:=h1.1.uN
      obtain ⟨c1,c2⟩:=uC hs _ _ _ hargs
      have rO:=xE (d:=o.dst) (ds:=[]) (vs:=args.map (Act.eval ⟨ts,[]⟩)++vs) hs eT hk (by simp [c1,hcl]) (rM hs hfl hcl ie c1 c2)
      have zV:(execOp (Act.eval ⟨ts,[]⟩) o).run P w= .ok (.enter f' (args.map (Act.eval ⟨ts,[]⟩)++vs)) w:=by
       rw [ho];exact rL hk.1 Mq
      unfold Oper.wp
      rw [zV]
      simp only [Oper.upon]
      refine rO.mono ?_
      rintro en w1 ⟨r,v,aW,γ1,C1,rfl,hR,hγ,hs1,hx1⟩
      refine next v _ aW γ1 C1 w1 hR hγ hs1 hx1 fun hst=>KA.u9 hs hs1 hx1 fun hm=> ?_
      rw [ho] at hst
      simp [ur,bX,dL,og,hm] at hst
     |fy k b x y=>
      simp only [oC] at hk
      obtain ⟨e1,aW,hk',v,w1,γ1,C1,hr,hγ,hs1,hx1,hst, -⟩:=uz (ds:=[]) hs eT hop hk
      have nx:=next v e1 aW γ1 C1 w1 hk' hγ hs1 hx1 fun h=>KA.u9 hs hs1 hx1 fun hm=>by
       refine hst ?_
       obtain ⟨_,_,_,_,_,_,ho, -⟩:=rJ (pL hop)
       rw [ho] at h
       simp [ur,bX,dL,hm] at h
      unfold Oper.wp
      rcases hr with hr|⟨hr,rfl⟩<;>rw [hr]<;>exact nx
     |nq n x=>
      simp only [oC] at hk
      obtain ⟨e1,aW,hk',v,w1,γ1,C1,hr,hγ,hs1,hx1,hst, -⟩:=u0 (ds:=[]) hs eT hop hk
      have nx:=next v e1 aW γ1 C1 w1 hk' hγ hs1 hx1 fun h=>KA.u9 hs hs1 hx1 fun hm=>by
       refine hst ?_
       obtain ⟨_,_,_,_,_,ho, -⟩:=Cd (xB hop)
       rw [ho];rfl
      unfold Oper.wp
      rcases hr with hr|⟨hr,rfl⟩<;>rw [hr]<;>exact nx
     |_=>cases cD
   · have jl:op.ic=false:=by simpa using cD
     have hk':match aN L ⟨o.dst,op,g⟩ e ah with|some (e',aq)=>b6 P L zq e' aq K|none=>False:=by
      cases op<;>first|exact hk|cases jl
     rw [l6] at hk'
     cases hev:aN L ⟨o.dst,op,none⟩ e ah with
     |none=>rw [hev] at hk';exact hk'.elim
     |some ea=>
      obtain ⟨e1,aW⟩:=ea
      rw [hev] at hk'
      obtain ⟨v,w1,γ1,C1,hr,hγ,hs1,hx1,hst, -⟩:=xD (ds:=[]) hs eT hop jl hev
      have nx:=next v e1 aW γ1 C1 w1 hk' hγ hs1 hx1 fun h=>KA.u9 hs hs1 hx1 fun hm=>by
       refine hst ?_
       cases uY:dL o.op with
       |false=>rfl
       |true=>
        exfalso
        cases ho:o.op with
        |call c=>
         rw [ho] at uY
         obtain ⟨ce,_,_⟩:=c
         cases ce with
         |builtin b=>cases b<;>simp [dL] at uY;simp [ur,bX,dL,ho,hm] at h
         |_=>simp [dL] at uY
        |store a b c=>simp [ur,bX,dL,ho,hm] at h
        |_=>rw [ho] at uY;simp [dL] at uY
      unfold Oper.wp
      rcases hr with hr|⟨hr,rfl⟩<;>rw [hr]<;>exact nx
 · rename_i kP
   have hw:=ei hs hg kP
   rw [if_neg (by rw [hw];simp)]
   refine next undef _ ah γ C w hk (List.prefix_refl _) ?_ (Ext.refl ..) fun _=>KA.refl ..
   cases ho:o.dst with
   |none=>exact hs
   |some d=>exact hs.qn (eT d ho) (.aK _ [] #[] rfl (by simp)) (by simp [undef,TC]) rfl (by simp)
 · exact hk.elim
theorem Df {o:Oper} {op:cX} {g:Option (Nat×Bool)} {zq:List aA} {K:Env→AH→Prop} (hq:bX P o.op=true) (hop:bZ P m o=some op.er) (hg:dK ops o.guard=some g)
 (eT:∀x,o.dst=some x→x<N) (hs:SR L N F γ C e ah ts w) (hk:b6 P L (⟨o.dst,op,g⟩::zq) e ah K):
 ∃v e' aq,YieldsIf P ops (KA m γ C w) o v ⟨ts,[]⟩∧b6 P L zq e' aq K∧SR L N F γ C e' aq ((⟨ts,[]⟩:Act).put o.dst v).tmps w:=by
 simp only [b6] at hk
 split at hk
 · rename_i kP
   have hw:=ei hs hg kP
   by_cases Pe:∃n x,op= .nq n x
   · obtain ⟨n,x,rfl⟩:=Pe
     simp only [oC] at hk
     obtain ⟨e1,aW,hk',v,w1,γ1,C1,hr,hγ,hs1,hx1,hst,Gu⟩:=u0 (ds:=[]) hs eT hop hk
     obtain ⟨rfl,rfl,rfl,hrun⟩:=Gu hq
     exact ⟨v,e1,aW, .inl ⟨hw,hrun⟩,hk',hs1⟩
   have jl:op.ic=false:=by
    cases op with
    |call f l8=>
     exfalso
     have hop:cop P o=some (.call f l8):=by
      cases m with
      |true=>simpa [bZ,cX.er] using hop
      |false=>
       simp only [bZ,Bool.false_eq_true,if_false,Option.map_eq_some_iff] at hop
       obtain ⟨op',h1,h2⟩:=hop
       rw [h1,uA h2]
     obtain ⟨x,args,tys,ho, -, -⟩:=pM hop
     rw [ho] at hq
     simp [bX] at hq
    |fy k b x y=>
     exfalso
     obtain ⟨_,_,_,_,_,_,ho, -⟩:=rJ (pL hop)
     rw [ho] at hq
     simp [bX] at hq
    |nq n x=>exact absurd ⟨_,_,rfl⟩ Pe
    |_=>rfl
   have hk':match aN L ⟨o.dst,op,g⟩ e ah with|some (e',aq)=>b6 P L zq e' aq K|none=>False:=by
    cases op<;>first|exact hk|cases jl
   rw [l6] at hk'
   cases hev:aN L ⟨o.dst,op,none⟩ e ah with
   |none=>rw [hev] at hk';exact hk'.elim
   |some ea=>
    obtain ⟨e1,aW⟩:=ea
    rw [hev] at hk'
    obtain ⟨v,w1,γ1,C1,hr,hγ,hs1,hx1,hst,Gu⟩:=xD (ds:=[]) hs eT hop jl hev
    obtain ⟨rfl,rfl,rfl,hrun⟩:=Gu hq
    exact ⟨v,e1,aW, .inl ⟨hw,hrun⟩,hk',hs1⟩
 · rename_i kP
   refine ⟨undef,_,ah, .inr ⟨ei hs hg kP,rfl⟩,hk, ?_⟩
   cases ho:o.dst with
   |none=>exact hs
   |some d=>exact hs.qn (eT d ho) (.aK _ [] #[] rfl (by simp)) (by simp [undef,TC]) rfl (by simp)
 · exact hk.elim
theorem zY:∀(l r:List (Bool×Nat)) (zq:List aA),cP P ops (l++r)=some zq→∃a1 a2,cP P ops l=some a1∧cP P ops r=some a2∧zq=a1++a2:=by
 intro l
 induction l with
 |nil=>intro r zq h;exact ⟨[],zq,rfl,h,rfl⟩
 |cons p l ih=>
  intro r zq h
  obtain ⟨m,i⟩:=p
  simp only [List.cons_append,cP] at h
  split at h
  case h_2=>cases h
  rename_i o ho
  split at h
  case h_2=>cases h
  rename_i a g zq' h1 h2 h3
  injection h with h
  obtain ⟨a1,a2,g1,g2,rfl⟩:=ih r zq' h3
  exact ⟨⟨o.dst,a,g⟩::a1,a2,by simp [cP,ho,h1,h2,g1],g2,by rw [←h];rfl⟩
theorem xJ (l r:List (Bool×Nat)) (zq:List aA) (h:cP P ops (l++r)=some (zq.map aA.er)):∃a1 a2,cP P ops l=some (a1.map aA.er)∧cP P ops r=some (a2.map aA.er)∧zq=a1++a2:=by
 obtain ⟨b1,b2,h1,h2,h3⟩:=zY _ _ _ h
 obtain ⟨a1,a2,rfl,rfl,rfl⟩:=List.map_eq_append_iff.1 h3
 exact ⟨a1,a2,h1,h2,rfl⟩
theorem Dg:∀(l r:List aA) (e:Env) (ah:AH) (K:Env→AH→Prop),b6 P L (l++r) e ah K=b6 P L l e ah fun e ah=>b6 P L r e ah K:=by
 intro l
 induction l with
 |nil=>intros;rfl
 |cons o l ih=>
  intro r e ah K
  simp only [List.cons_append,b6,ih]
theorem Gv:∀(l r:List aA),fI N (l++r)=true→fI N l=true∧fI N r=true:=by
 intro l
 induction l with
 |nil=>intro r h;exact ⟨rfl,h⟩
 |cons o l ih=>
  intro r h
  simp only [List.cons_append,fI,Bool.and_eq_true] at h ⊢
  obtain ⟨h1,h2⟩:=ih r h.2
  exact ⟨⟨h.1,h1⟩,h2⟩
theorem Ch {o:Oper} {a:cX} {g:Option (Nat×Bool)} {zq:List aA} (h:fI N (⟨o.dst,a,g⟩::zq)=true):(∀x,o.dst=some x→x<N)∧fI N zq=true:=by
 simp only [fI,Bool.and_eq_true] at h
 refine ⟨fun x hx=> ?_,h.2⟩
 have:=h.1.1
 rw [hx] at this
 simpa using this
theorem qs {i:Nat} {r:List (Bool×Nat)} {zq:List aA} (h:cP P ops ((m,i)::r)=some zq):
 ∃o a g zq',ops[i]? =some o∧bZ P m o=some a∧dK ops o.guard=some g∧cP P ops r=some zq'∧zq=⟨o.dst,a,g⟩::zq':=by
 simp only [cP] at h
 split at h
 case h_2=>cases h
 rename_i o ho
 split at h
 case h_2=>cases h
 rename_i a g zq' h1 h2 h3
 injection h with h
 exact ⟨o,a,g,zq',ho,h1,h2,h3,h.symm⟩
theorem oD {i:Nat} {r:List (Bool×Nat)} {zq:List aA} (h:cP P ops ((m,i)::r)=some (zq.map aA.er)):
 ∃o a g zq',ops[i]? =some o∧bZ P m o=some (cX.er a)∧dK ops o.guard=some g∧cP P ops r=some (zq'.map aA.er)∧zq=⟨o.dst,a,g⟩::zq':=by
 obtain ⟨o,a,g,zq',h1,h2,h3,h4,h5⟩:=qs h
 cases zq with
 |nil=>simp at h5
 |cons x xs=>
  simp only [List.map_cons,List.cons.injEq] at h5
  obtain ⟨d,op',g'⟩:=x
  obtain ⟨h6,h7⟩:=h5
  simp only [aA.er] at h6
  injection h6 with e1 e2 e3
  subst e1;subst e2;subst e3
  exact ⟨o,op',g',xs,h1,h2,h3,by rw [h4,h7],rfl⟩
theorem Dh {D:Nat→Bool} (hsel:Region.noSelect ops=true) (hQ:∀c a w,¬Q (.panic c) a w):∀(l:List Nat) (zq:List aA) (e:Env) (ah:AH) (γ:List Nat) (C:Nat→List Value) (ts:Array Value) (w:World) (listed:Array Bool) (n:Nat)
 (K:Env→AH→Prop),cP P ops (l.map fun i=>(m,i))=some (zq.map aA.er)→fI N zq=true→SR L N F γ C e ah ts w→b6 P L zq e ah K→lO P ops m D l listed=true→
 (∀e' aq γ' C' ts' w',K e' aq→γ <+: γ'→SR L N F γ' C' e' aq ts' w'→Ext F C w C' w'→wpS P ops Q (KA m γ' C' w') D n (l.foldl (fun a i=>a.setIfInBounds i true) listed) ⟨ts',[]⟩ w')→
 wpS P ops Q (KA m γ C w) D (l.length+n) listed ⟨ts,[]⟩ w:=by
 intro l
 induction l with
 |nil=>
  intro zq e ah γ C ts w listed n K hc hd hs hk hst cont
  simp only [List.map_nil,cP,Option.some.injEq] at hc
  obtain rfl:zq=[]:=by simpa using hc.symm
  have:=cont e ah γ C ts w hk (List.prefix_refl _) hs (Ext.refl ..)
  simpa using this
 |cons i l ih=>
  intro zq e ah γ C ts w listed n K hc hd hs hk hst cont
  obtain ⟨o,a,g,zq',ho,hop,hg,has,rfl⟩:=oD hc
  obtain ⟨eT,hd'⟩:=Ch hd
  simp only [lO,ho,Bool.and_eq_true,Bool.or_eq_true] at hst
  obtain ⟨hst,rP⟩:=hst
  have hlen:(i::l).length+n=(l.length+n)+1:=by simp;omega
  rw [hlen]
  rcases hst with ⟨⟨⟨⟨hq,TG⟩,hr⟩,hfree⟩,l9⟩|⟨hok,hr⟩
  · obtain ⟨v,e1,aW,hy,pJ,hs1⟩:=Df hq hop hg eT hs hk
    refine zW ho (Region.noSelect_spec hsel) hQ (fun j=>j∈xg ops i) _ listed _ w (Region.free_spec ho hfree) (fun j hj=> ?_) (fun j hj Mr R5=> ?_) (by simpa using hr) hy (KA.refl ..) ?_
    · simp only [uM,uL,Bool.and_eq_true,List.all_eq_true] at l9
      obtain ⟨h1,h2⟩:=l9.1 j hj
      refine ⟨by simpa using h1, ?_⟩
      split at h2
      · rename_i oj zX
        obtain ⟨x,hx,hb⟩:=Array.any_eq_true'.1 h2
        simp only [Bool.and_eq_true,Bool.or_eq_true,beq_iff_eq,List.contains_iff_mem] at hb
        exact ⟨oj,zX,x,hx,hb.1,hb.2⟩
      · cases h2
    · simp only [uM,uL,Bool.and_eq_true,List.all_eq_true,List.mem_range] at l9
      have:=l9.2 j hj
      simpa [Mr,R5] using this
    · rw [pO _ _ _ rfl]
      exact ih zq' e1 aW γ C _ w _ n K has hd' hs1 pJ rP cont
  · have hr:Region.ready .any ops listed=[i]:=by simpa using hr
    refine ⟨fun h=>(by rw [hr] at h;cases h),fun j hj=> ?_⟩
    rw [hr] at hj
    obtain rfl:j=i:=by simpa using hj
    refine xI ho hop hg eT hs hk fun v e1 aW γ1 C1 w1 pJ hγ hs1 hx1 hka=>⟨fun _=>hka hok, ?_⟩
    rw [pO _ _ _ rfl]
    refine (ih zq' e1 aW γ1 C1 _ w1 _ n K has hd' hs1 pJ rP fun e' aq γ' C' ts' w' g1 g2 g3 g4=> ?_).mono fun w2 h2=>(hka hok).trans (fun s b hs=>Gt hγ hs) hx1.pre h2
    exact cont e' aq γ' C' ts' w' g1 (hγ.trans g2) g3 (hx1.trans g4)
theorem tu:∀(l:List Nat) (listed:Array Bool) (j:Nat),(l.foldl (fun a i=>a.setIfInBounds i true) listed).getD j true=false→listed.getD j true=false∧j∉l:=by
 intro l
 induction l with
 |nil=>intro listed j h;exact ⟨h,by simp⟩
 |cons i l ih=>
  intro listed j h
  obtain ⟨h1,h2⟩:=ih _ j h
  refine ⟨dW h1, ?_⟩
  rw [List.mem_cons,not_or]
  refine ⟨fun hj=> ?_,h2⟩
  subst hj
  by_cases hlt:j<listed.size
  · simp [hlt] at h1
  · have:=dW h1
    simp [Array.getElem?_eq_none (Nat.le_of_not_lt hlt)] at this
theorem zZ (hsel:Region.noSelect ops=true) (hQ:∀c a w,¬Q (.panic c) a w):∀(st:List (Bool×List Nat)) (zq:List aA) (e:Env) (ah:AH) (γ:List Nat) (C:Nat→List Value) (ts:Array Value) (w:World) (listed:Array Bool)
 (K:Env→AH→Prop),cP P ops (jI st)=some (zq.map aA.er)→fI N zq=true→SR L N F γ C e ah ts w→b6 P L zq e ah K→iy P ops st listed=true→
 (∀e' aq γ' C' ts' w',K e' aq→γ <+: γ'→SR L N F γ' C' e' aq ts' w'→Ext F C w C' w'→Q .normal ⟨ts',[]⟩ w')→
 wpAny P .any ops Q (jI st).length listed ⟨ts,[]⟩ w:=by
 intro st
 induction st with
 |nil=>
  intro zq e ah γ C ts w listed K hc hd hs hk hst cont
  simp only [jI,cP,Option.some.injEq] at hc
  obtain rfl:zq=[]:=by simpa using hc.symm
  exact ⟨by simpa [iy] using hst,cont e ah γ C ts w hk (List.prefix_refl _) hs (Ext.refl ..)⟩
 |cons s st ih=>
  intro zq e ah γ C ts w listed K hc hd hs hk hst cont
  obtain ⟨m,l⟩:=s
  simp only [jI] at hc ⊢
  obtain ⟨a1,a2,C3,Pf,rfl⟩:=xJ _ _ _ hc
  obtain ⟨hd1,ny⟩:=Gv _ _ hd
  rw [Dg] at hk
  unfold iy at hst
  rw [Bool.and_eq_true] at hst
  obtain ⟨hst,rP⟩:=hst
  have key:∀(Q':Nat→Bool),lO P ops m Q' l listed=true→(∀j,Q' j= !l.contains j)→wpAny P .any ops Q (l.map (fun i=>(m,i))++jI st).length listed ⟨ts,[]⟩ w:=by
   intro D Pg hD
   rw [List.length_append,List.length_map]
   refine (Dh hsel hQ l a1 e ah γ C ts w listed _ _ C3 hd1 hs hk Pg fun e' aq γ' C' ts' w' g1 g2 g3 g4=> ?_).any
   refine qq (fun j hj=> ?_) (ih a2 e' aq γ' C' ts' w' _ K Pf ny g3 g1 rP fun e2 j0 γ2 C2 Gq w2 q1 q2 q3 q4=>cont e2 j0 γ2 C2 Gq w2 q1 (g2.trans q2) q3 (g4.trans q4))
   rw [hD]
   simpa using (tu l listed j hj).2
  split at hst
  · rename_i i
    simp only [Bool.and_eq_true,beq_iff_eq] at hst
    obtain ⟨rfl,hr⟩:=hst
    obtain ⟨o,a,g,zq',ho,hop,hg,has,rfl⟩:=oD C3
    simp only [List.map_nil,cP,Option.some.injEq] at has
    obtain rfl:zq'=[]:=by simpa using has.symm
    obtain ⟨eT, -⟩:=Ch hd1
    refine ⟨fun h=>(by rw [hr] at h;cases h),fun j hj=> ?_⟩
    rw [hr] at hj
    obtain rfl:j=i:=by simpa using hj
    refine xI ho hop hg eT hs hk fun v e1 aW γ1 C1 w1 pJ hγ hs1 hx1 hka=> ?_
    rw [pO _ _ _ rfl]
    exact ih a2 e1 aW γ1 C1 _ w1 _ K Pf ny hs1 pJ rP fun e2 j0 γ2 C2 Gq w2 q1 q2 q3 q4=>cont e2 j0 γ2 C2 Gq w2 q1 (hγ.trans q2) q3 (hx1.trans q4)
  · exact key _ hst fun _=>rfl
theorem Di {st:List (Bool×List Nat)} (h:sched P ops=some st):iy P ops st (Array.replicate ops.size false)=true∧(jI st).length=ops.size:=by
 have:om P ops st=true:=by
  unfold sched at h
  split at h
  · rename_i s hs
    injection h with h;subst h
    exact (Option.filter_eq_some_iff.1 hs).2
  · exact (Option.filter_eq_some_iff.1 h).2
 simpa [om] using this
theorem AW.drawn {id:Nat} {st:List (Bool×List Nat)} {zq:List aA} {Q:Exit→Env→AH→Prop} (hm:P.follows .mixedOrders=true) (hsel:Region.noSelect ops=true) (hst:sched P ops=some st) (hc:cP P ops (jI st)=some (zq.map aA.er))
 (hd:fI N zq=true) (h:b6 P L zq e ah fun e ah=>Q .normal (keep L e) ah):AW P L N n0 (.region id ops true) Q e ah:=by
 intro F γ C ts w hs hn
 obtain ⟨h1,h2⟩:=Di hst
 refine wp_mono (Q:=fun x a' w'=>x= .normal∧a'.defers=[]∧NG x∧∃e' aq γ' C',Q x e' aq∧γ.take n0 <+: γ'∧SR L N F γ' C' e' aq a'.tmps w'∧Ext F C w C' w') ?_ (fun _ _ _ h=>h.2)
 refine wp_region_any hm ?_
 have hw0:∀b,b<w.heap.size→({w with drawn:=w.drawn+1}:World).heap[b]? =w.heap[b]? :=fun _ _=>rfl
 obtain ⟨hs1,hx1⟩:=hs.grow (w':= {w with drawn:=w.drawn+1}) (C':=C) hw0 (Nat.le_refl _) (fun _ _=>rfl) (fun b hb hne=>absurd (lW hs hb) hne)
 have qt:=fun q=>zZ (Q:=fun x a' w'=>x= .normal∧a'.defers=[]∧NG x∧∃e' aq γ' C',Q x e' aq∧γ.take n0 <+: γ'∧SR L N F γ' C' e' aq a'.tmps w'∧Ext F C w C' w') hsel (fun c a w hq=>by cases hq.1) st zq e ah γ C ts _ _ _ hc hd hs1 h h1 q
 rw [h2] at qt
 refine qt fun e' aq γ' C' ts' w' q1 q2 q3 q4=> ?_
 exact ⟨rfl,rfl,trivial,keep L e',aq,γ',C',q1,uB q2,q3.keep L,hx1.trans q4⟩
end
end Go.Am
end
section
namespace Go.Am
open Go
variable [Tabs]
def jf (N:Nat):az→Bool
 | .rg ops=>fI N ops
 | .seq a b| .cond _ a b=>jf N a&&jf N b
 | .blk _ c| .loop c=>jf N c
 |_=>true
def AX (P:Program) (L:List Nat) (N n0:Nat) (c:az) (Q:Exit→Env→AH→Prop) (e:Env) (ah:AH):Prop:=
 ∀c',aO P c'=some c→AW P L N n0 c' Q e ah
def eW (P:Program) (L:List Nat) (N n0:Nat):az→(Exit→Env→AH→Prop)→Env→AH→Prop
 | .skip,Q,e,ah=>Q .normal e ah
 | .ret,Q,e,ah=>Q .ret e ah
 | .exit i,Q,e,ah=>Q (.exit i) e ah
 | .rg ops,Q,e,ah=>b6 P L ops e ah fun e ah=>Q .normal (keep L e) ah
 | .seq a b,Q,e,ah=>eW P L N n0 a (fun x e ah=>match x with| .normal=>eW P L N n0 b Q e ah|x=>Q x e ah) e ah
 | .cond c a b,Q,e,ah=>match ev e c with
   | .bool t=>if t then eW P L N n0 a Q e ah else eW P L N n0 b Q e ah
   |_=>False
 | .blk i c,Q,e,ah=>eW P L N n0 c (fun x e ah=>match x with| .exit j=>if j=i then Q .normal e ah else Q (.exit j) e ah|x=>Q x e ah) e ah
 | .loop c,Q,e,ah=>AX P L N n0 (.loop c) Q e ah
 | .sem c,Q,e,ah=>AX P L N n0 c Q e ah
section
variable {P:Program} {L:List Nat} {N n0:Nat} {e:Env} {ah:AH}
theorem AW.region {id:Nat} {ops:Array Oper} {zq:List aA} {Q:Exit→Env→AH→Prop} (hc:e4 P ops ops.toList=some (zq.map aA.er)) (hd:fI N zq=true)
 (h:b6 P L zq e ah fun e ah=>Q .normal (keep L e) ah):AW P L N n0 (.region id ops false) Q e ah:=by
 intro F γ C ts w hs hn
 refine wp_region_list (J5 ops.toList zq e ah _ F γ C ts w _ hc hd hs h ?_)
 intro e' aq γ' C' ts' w' hq hγ hs' hx
 exact ⟨rfl,trivial,keep L e',aq,γ',C',hq,uB hγ,hs'.keep L,hx⟩
theorem iA:∀(c':Code) (c:az) (Q:Exit→Env→AH→Prop) (e:Env) (ah:AH),aO P c'=some (erase c)→jf N (erase c)=true→eW P L N n0 c Q e ah→AW P L N n0 c' Q e ah:=by
 intro c'
 induction c' with
 |skip=>
  intro c Q e ah hc ho h
  cases c with
  |sem c0=>exact h _ hc
  |skip=>exact AW.skip h
  |_=>simp [aO,erase] at hc
 |label l=>
  intro c Q e ah hc ho h
  cases c with
  |sem c0=>exact h _ hc
  |skip=>exact AW.label h
  |_=>simp [aO,erase] at hc
 |ret=>
  intro c Q e ah hc ho h
  cases c with
  |sem c0=>exact h _ hc
  |ret=>exact AW.ret h
  |_=>simp [aO,erase] at hc
 |exit i=>
  intro c Q e ah hc ho h
  cases c with
  |sem c0=>exact h _ hc
  |exit j=>simp [aO,erase] at hc;subst hc;exact AW.exit h
  |_=>simp [aO,erase] at hc
 |region id ops draw=>
  intro c Q e ah hc ho h
  cases c with
  |sem c0=>exact h _ hc
  |rg zq=>
   simp only [aO,erase] at hc
   cases draw with
   |true=>
    simp only [if_true] at hc
    split at hc
    case isFalse=>cases hc
    rename_i hmn
    simp only [Bool.and_eq_true] at hmn
    split at hc
    case h_2=>cases hc
    rename_i st hst
    simp only [Option.map_eq_some_iff] at hc
    obtain ⟨zq',has,he⟩:=hc
    injection he with he
    subst he
    exact AW.drawn hmn.1 hmn.2 hst has (by simpa only [erase,jf,Ce] using ho) h
   |false=>
    simp only [Bool.false_eq_true,if_false,Option.map_eq_some_iff] at hc
    obtain ⟨zq',has,he⟩:=hc
    injection he with he
    subst he
    exact AW.region has (by simpa only [erase,jf,Ce] using ho) h
  |_=>simp only [aO,erase] at hc;repeat' (split at hc)<;>simp at hc
 |seq a b rQ rR=>
  intro c Q e ah hc ho h
  cases c with
  |sem c0=>exact h _ hc
  |seq x y=>
   simp only [aO,erase] at hc
   split at hc
   case h_2=>cases hc
   rename_i a' b' ha hb
   injection hc with hc
   injection hc with h1 h2
   subst h1;subst h2
   simp only [erase,jf,Bool.and_eq_true] at ho
   refine AW.seq ((rQ x _ e ah ha ho.1 h).mono fun x e ah hx=> ?_)
   cases x with
   |normal=>exact rR y _ e ah hb ho.2 hx
   |_=>exact hx
  |_=>simp only [aO,erase] at hc;split at hc<;>simp at hc
 |cond c0 a b rQ rR=>
  intro c Q e ah hc ho h
  cases c with
  |sem c0=>exact h _ hc
  |cond c2 x y=>
   simp only [aO,erase] at hc
   split at hc
   case h_2=>cases hc
   rename_i c1 a' b' h1 ha hb
   injection hc with hc
   injection hc with g0 g1 g2
   subst g0;subst g1;subst g2
   simp only [erase,jf,Bool.and_eq_true] at ho
   simp only [eW] at h
   split at h
   case h_2=>exact h.elim
   rename_i t ht
   refine AW.cond h1 ht ?_
   cases t with
   |true=>exact rQ x Q e ah ha ho.1 h
   |false=>exact rR y Q e ah hb ho.2 h
  |_=>simp only [aO,erase] at hc;split at hc<;>simp at hc
 |block i c0 ih=>
  intro c Q e ah hc ho h
  cases c with
  |sem c0=>exact h _ hc
  |blk j x=>
   simp only [aO,erase,Option.map_eq_some_iff] at hc
   obtain ⟨a,ha,he⟩:=hc
   injection he with h1 h2
   subst h1;subst h2
   exact AW.blk (ih x _ e ah ha ho h)
  |_=>simp [aO,erase] at hc
 |loop c0 ih=>
  intro c Q e ah hc ho h
  cases c with
  |sem c0=>exact h _ hc
  |loop x=>exact h _ hc
  |_=>simp [aO,erase] at hc
 |rangeFunc=>intro c Q e ah hc;simp [aO] at hc
 |goto=>intro c Q e ah hc;simp [aO] at hc
 |scope c0 ih=>intro c Q e ah hc ho h;exact AW.scope (ih c Q e ah hc ho h)
 |refuse=>intro c Q e ah hc;simp [aO] at hc
theorem pP {o:Oper} {x:Ar} (h:cop P o=some (.jh x)):False:=by
 obtain ⟨d,oo,ty,pos,af,gd⟩:=o
 cases oo with
 |makeFunc fn first cs=>
  cases fn with
  |func f=>simp only [cop] at h;split at h<;>simp at h
  |_=>simp [cop] at h
 |call c=>
  obtain ⟨callee,args,tys⟩:=c
  simp only [cop] at h
  (repeat' (split at h))<;>(first|(cases h;done)|(simp at h;done))
 |_=>
  simp only [cop] at h
  first
   |cases h;done
   |(simp at h;done)
   |(repeat' (split at h))<;>(first|(cases h;done)|(simp at h;done))
theorem nH {o:Oper} {k b:Nat} {x y:Ar} (h:cop P o=some (.fy k b x y)):False:=by
 obtain ⟨d,oo,ty,pos,af,gd⟩:=o
 cases oo with
 |makeFunc fn first cs=>
  cases fn with
  |func f=>simp only [cop] at h;split at h<;>simp at h
  |_=>simp [cop] at h
 |call c=>
  obtain ⟨callee,args,tys⟩:=c
  simp only [cop] at h
  (repeat' (split at h))<;>(first|(cases h;done)|(simp at h;done))
 |_=>
  simp only [cop] at h
  first
   |cases h;done
   |(simp at h;done)
   |(repeat' (split at h))<;>(first|(cases h;done)|(simp at h;done))
theorem pQ {o:Oper} {k:Nat} {x:Ar} (h:cop P o=some (.kJ k x)):False:=by
 obtain ⟨d,oo,ty,pos,af,gd⟩:=o
 cases oo with
 |makeFunc fn first cs=>
  cases fn with
  |func f=>simp only [cop] at h;split at h<;>simp at h
  |_=>simp [cop] at h
 |call c=>
  obtain ⟨callee,args,tys⟩:=c
  simp only [cop] at h
  (repeat' (split at h))<;>(first|(cases h;done)|(simp at h;done))
 |_=>
  simp only [cop] at h
  first
   |cases h;done
   |(simp at h;done)
   |(repeat' (split at h))<;>(first|(cases h;done)|(simp at h;done))
theorem J6 {o:Oper} {op:cX} (h:cop P o=some op):op.er=op:=by
 cases op with
 |jh x=>exact (pP h).elim
 |fy=>exact (nH h).elim
 |kJ=>exact (pQ h).elim
 |_=>rfl
theorem Gw {m:Bool} {o:Oper} {op:cX} (h:bZ P m o=some op):op.er=op:=by
 cases op with
 |jh x=>
  exfalso
  cases m with
  |true=>exact pP (by simpa [bZ] using h)
  |false=>
   simp only [bZ,Bool.false_eq_true,if_false,Option.map_eq_some_iff] at h
   obtain ⟨op',h1,h2⟩:=h
   cases op' with
   |eZ hh y=>cases hh<;>cases h2
   |ld y n=>cases h2
   |jh y=>exact pP h1
   |_=>cases h2
 |fy=>
  exfalso
  cases m with
  |true=>exact nH (by simpa [bZ] using h)
  |false=>
   simp only [bZ,Bool.false_eq_true,if_false,Option.map_eq_some_iff] at h
   obtain ⟨op',h1,h2⟩:=h
   cases op' with
   |eZ hh y=>cases hh<;>cases h2
   |ld y n=>cases h2
   |fy=>exact nH h1
   |_=>cases h2
 |kJ=>
  exfalso
  cases m with
  |true=>exact pQ (by simpa [bZ] using h)
  |false=>
   simp only [bZ,Bool.false_eq_true,if_false,Option.map_eq_some_iff] at h
   obtain ⟨op',h1,h2⟩:=h
   cases op' with
   |eZ hh y=>cases hh<;>cases h2
   |ld y n=>cases h2
   |kJ=>exact pQ h1
   |_=>cases h2
 |_=>rfl
theorem Gx {ops:Array Oper}:∀(n:Nat) (l:List Oper) (zq:List aA),l.length≤n→e4 P ops l=some zq→zq.map aA.er=zq:=by
 intro n
 induction n with
 |zero=>
  intro l zq hn h
  obtain rfl:l=[]:=List.eq_nil_of_length_eq_zero (by omega)
  simp only [e4,Option.some.injEq] at h;subst h;rfl
 |succ n ih=>
  intro l zq hn h
  rcases qp h with ⟨rfl,rfl⟩|⟨o,o2,r,a,zq',rfl,h2,h3,rfl⟩|⟨o,o2,r,ag,zq',rfl,h2,h3,rfl⟩|⟨o,r,op,g,zq',rfl,h2,h3,h4,rfl⟩
  · rfl
  · obtain ⟨y,bs,hl⟩:=rN h2
    obtain ⟨d,op,g⟩:=a
    simp only at hl;subst hl
    simp only [List.map_cons,ih r zq' (by simp at hn;omega) h3];rfl
  · obtain ⟨d,y,bs,t,w,g,rfl, -⟩:=pN h2
    simp only [List.cons_append,List.nil_append,List.map_cons,ih r zq' (by simp at hn;omega) h3];rfl
  · have he:op.er=op:=by
     rcases h2 with h2|rfl
     · exact J6 h2
     · rfl
    simp only [List.map_cons,ih r zq' (by simp at hn;omega) h4,aA.er,he]
theorem Dj {ops:Array Oper}:∀(l:List (Bool×Nat)) (zq:List aA),cP P ops l=some zq→zq.map aA.er=zq:=by
 intro l
 induction l with
 |nil=>intro zq h;simp only [cP,Option.some.injEq] at h;subst h;rfl
 |cons p r ih=>
  intro zq h
  obtain ⟨m,i⟩:=p
  obtain ⟨o,a,g,zq',h1,h2,h3,h4,rfl⟩:=qs h
  simp only [List.map_cons,ih zq' h4,aA.er,Gw h2]
theorem eL:∀(c':Code) (c:az),aO P c'=some c→erase c=c:=by
 intro c'
 induction c' with
 |skip=>intro c hc;simp [aO] at hc;subst hc;rfl
 |label l=>intro c hc;simp [aO] at hc;subst hc;rfl
 |ret=>intro c hc;simp [aO] at hc;subst hc;rfl
 |exit i=>intro c hc;simp [aO] at hc;subst hc;rfl
 |region id ops draw=>
  intro c hc
  simp only [aO] at hc
  cases draw with
  |true=>
   simp only [if_true] at hc
   split at hc
   · split at hc
     · simp only [Option.map_eq_some_iff] at hc;obtain ⟨zq,has,rfl⟩:=hc;simp only [erase,Dj _ _ has]
     · cases hc
   · cases hc
  |false=>simp only [Bool.false_eq_true,if_false,Option.map_eq_some_iff] at hc;obtain ⟨zq,has,rfl⟩:=hc;simp only [erase,Gx _ _ _ (Nat.le_refl _) has]
 |seq a b rQ rR=>
  intro c hc
  simp only [aO] at hc
  split at hc
  case h_2=>cases hc
  rename_i a' b' ha hb
  injection hc with hc
  subst hc
  simp only [erase,rQ _ ha,rR _ hb]
 |cond c0 a b rQ rR=>
  intro c hc
  simp only [aO] at hc
  split at hc
  case h_2=>cases hc
  rename_i c1 a' b' h1 ha hb
  injection hc with hc
  subst hc
  simp only [erase,rQ _ ha,rR _ hb]
 |block i c0 ih=>intro c hc;simp only [aO,Option.map_eq_some_iff] at hc;obtain ⟨a,ha,rfl⟩:=hc;simp only [erase,ih _ ha]
 |loop c0 ih=>intro c hc;simp only [aO,Option.map_eq_some_iff] at hc;obtain ⟨a,ha,rfl⟩:=hc;rfl
 |rangeFunc=>intro c hc;simp [aO] at hc
 |goto=>intro c hc;simp [aO] at hc
 |scope c0 ih=>intro c hc;exact ih c hc
 |refuse=>intro c hc;simp [aO] at hc
inductive It where
 |ops (r:List aA)
 |keep
 |code (c:az)
 |blk (i:Nat)
def U (P:Program) (L:List Nat) (N n0:Nat):List It→(Exit→Env→AH→Prop)→Exit→Env→AH→Prop
 |[],Q,x,e,ah=>Q x e ah
 | .code c::t,Q, .normal,e,ah=>eW P L N n0 c (fun x e ah=>U P L N n0 t Q x e ah) e ah
 | .ops r::t,Q, .normal,e,ah=>b6 P L r e ah fun e ah=>U P L N n0 t Q .normal e ah
 | .keep::t,Q, .normal,e,ah=>U P L N n0 t Q .normal (keep L e) ah
 | .blk i::t,Q, .exit j,e,ah=>if j=i then U P L N n0 t Q .normal e ah else U P L N n0 t Q (.exit j) e ah
 | .blk _::t,Q,x,e,ah=>U P L N n0 t Q x e ah
 | .code _::t,Q,x,e,ah=>U P L N n0 t Q x e ah
 | .ops _::t,Q,x,e,ah=>U P L N n0 t Q x e ah
 | .keep::t,Q,x,e,ah=>U P L N n0 t Q x e ah
def UK (P:Program) (L:List Nat) (N n0 f:Nat) (zq:List AV) (d:Option Nat) (r:List aA) (t:List It) (Q:Exit→Env→AH→Prop) (e:Env) (ah:AH):Prop:=
 aC P f zq ah fun v aq=>U P L N n0 (.ops r::t) Q .normal (au L (l7 e) d v.df) aq
def UF (P:Program) (L:List Nat) (N n0:Nat) (zq:List Ar) (d:Option Nat) (r:List aA) (t:List It) (Q:Exit→Env→AH→Prop) (e:Env) (ah:AH):AV→Prop
 | .fn f caps=>if bz caps then UK P L N n0 f (zq.map (fun x=>(ev e x).sh)++caps.map AV.s1) d r t Q e ah else False
 |_=>False
def US (P:Program) (L:List Nat) (N n0:Nat) (r:List aA) (t:List It) (Q:Exit→Env→AH→Prop):Option (Env×AH)→Prop
 |some (e,ah)=>U P L N n0 (.ops r::t) Q .normal e ah
 |none=>False
def UG (P:Program) (L:List Nat) (N n0:Nat) (o:aA) (r:List aA) (t:List It) (Q:Exit→Env→AH→Prop) (e:Env) (ah:AH):Option Bool→Prop
 |some true=>match o.op with
  | .call f zq=>UF P L N n0 zq o.d r t Q e ah (ev e f)
  | .fy k b x y=>iC L o.d k b x y e ah fun e ah=>U P L N n0 (.ops r::t) Q .normal e ah
  | .nq n x=>ri L o.d n x e ah fun e ah=>U P L N n0 (.ops r::t) Q .normal e ah
  |_=>US P L N n0 r t Q (aN L o e ah)
 |some false=>U P L N n0 (.ops r::t) Q .normal (iJ e o.d) ah
 |none=>False
def UC (P:Program) (L:List Nat) (N n0:Nat) (a b:az) (t:List It) (Q:Exit→Env→AH→Prop) (e:Env) (ah:AH):AV→Prop
 | .bool true=>U P L N n0 (.code a::t) Q .normal e ah
 | .bool false=>U P L N n0 (.code b::t) Q .normal e ah
 |_=>False
def UX (P:Program) (L:List Nat) (N n0:Nat) (c:az) (t:List It) (Q:Exit→Env→AH→Prop) (e:Env) (ah:AH):Prop:=
 AX P L N n0 c (fun x e ah=>U P L N n0 t Q x e ah) e ah
variable {t:List It} {Q:Exit→Env→AH→Prop} {x:Exit}
@[simp] theorem Mt:U P L N n0 [] Q x e ah=Q x e ah:=rfl
@[simp] theorem J7:U P L N n0 (.code .skip::t) Q .normal e ah=U P L N n0 t Q .normal e ah:=rfl
@[simp] theorem Mu:U P L N n0 (.code .ret::t) Q .normal e ah=U P L N n0 t Q .ret e ah:=rfl
@[simp] theorem J8 {i:Nat}:U P L N n0 (.code (.exit i)::t) Q .normal e ah=U P L N n0 t Q (.exit i) e ah:=rfl
theorem Gy (b:az):(fun x e ah=>match x with| .normal=>eW P L N n0 b (fun x e ah=>U P L N n0 t Q x e ah) e ah|x=>U P L N n0 t Q x e ah)=fun x e ah=>U P L N n0 (.code b::t) Q x e ah:=by
 funext x e ah
 cases x<;>rfl
@[simp] theorem Mv {a b:az}:U P L N n0 (.code (.seq a b)::t) Q .normal e ah=U P L N n0 (.code a:: .code b::t) Q .normal e ah:=by
  simp only [U,eW]
  exact congrArg (fun K=>eW P L N n0 a K e ah) (Gy b)
@[simp] theorem Mw {i:Nat} {c:az}:U P L N n0 (.code (.blk i c)::t) Q .normal e ah=U P L N n0 (.code c:: .blk i::t) Q .normal e ah:=by
  have:(fun x e ah=>match x with| .exit j=>if j=i then U P L N n0 t Q .normal e ah else U P L N n0 t Q (.exit j) e ah|x=>U P L N n0 t Q x e ah)=fun x e ah=>U P L N n0 (.blk i::t) Q x e ah:=by
   funext x e ah
   cases x<;>rfl
  exact congrArg (fun K=>eW P L N n0 c K e ah) this
@[simp] theorem Ph {ops:List aA}:U P L N n0 (.code (.rg ops)::t) Q .normal e ah=U P L N n0 (.ops ops:: .keep::t) Q .normal e ah:=rfl
@[simp] theorem J9 {c:az}:U P L N n0 (.code (.loop c)::t) Q .normal e ah=UX P L N n0 (.loop c) t Q e ah:=rfl
@[simp] theorem Mx {c:az}:U P L N n0 (.code (.sem c)::t) Q .normal e ah=UX P L N n0 c t Q e ah:=rfl
@[simp] theorem Ka {c:Ar} {a b:az}:U P L N n0 (.code (.cond c a b)::t) Q .normal e ah=UC P L N n0 a b t Q e ah (ev e c):=by
  simp only [U,eW]
  cases ev e c with
  |bool t=>cases t<;>rfl
  |_=>rfl
@[simp] theorem Kb:U P L N n0 (.keep::t) Q .normal e ah=U P L N n0 t Q .normal (keep L e) ah:=rfl
@[simp] theorem Gz {i:Nat}:U P L N n0 (.blk i::t) Q .normal e ah=U P L N n0 t Q .normal e ah:=rfl
@[simp] theorem GA {i:Nat}:U P L N n0 (.blk i::t) Q .ret e ah=U P L N n0 t Q .ret e ah:=rfl
@[simp] theorem GB {i j:Nat}:U P L N n0 (.blk i::t) Q (.exit j) e ah=if j=i then U P L N n0 t Q .normal e ah else U P L N n0 t Q (.exit j) e ah:=rfl
@[simp] theorem Dk {c:az}:U P L N n0 (.code c::t) Q .ret e ah=U P L N n0 t Q .ret e ah:=by cases c<;>rfl
@[simp] theorem Dl {c:az} {j:Nat}:U P L N n0 (.code c::t) Q (.exit j) e ah=U P L N n0 t Q (.exit j) e ah:=by cases c<;>rfl
@[simp] theorem z1:U P L N n0 (.ops []::t) Q .normal e ah=U P L N n0 t Q .normal e ah:=rfl
@[simp] theorem My {o:aA} {r:List aA}:U P L N n0 (.ops (o::r)::t) Q .normal e ah=UG P L N n0 o r t Q e ah (dz e o):=by
  simp only [U,b6]
  cases dz e o with
  |none=>rfl
  |some b=>
   cases b with
   |false=>rfl
   |true=>
    obtain ⟨d,op,g⟩:=o
    cases op with
    |call f zq=>
     simp only [oC,UG]
     cases ev e f with
     |fn f' caps=>
      simp only [UF,UK]
      by_cases hf:bz caps=true
      · simp only [hf,if_true,true_and];rfl
      · simp [hf]
     |_=>rfl
    |fy k b x y=>rfl
    |nq n x=>rfl
    |_=>
     simp only [oC,UG,US]
     cases aN L ⟨d,_,g⟩ e ah with
     |none=>rfl
     |some ea=>obtain ⟨e',aq⟩:=ea;rfl
@[simp] theorem GC {r:List aA} {e':Env} {aq:AH}:US P L N n0 r t Q (some (e',aq))=U P L N n0 (.ops r::t) Q .normal e' aq:=rfl
@[simp] theorem Dm {o:aA} {r:List aA}:UG P L N n0 o r t Q e ah (some false)=U P L N n0 (.ops r::t) Q .normal (iJ e o.d) ah:=rfl
@[simp] theorem GD {a b:az}:UC P L N n0 a b t Q e ah (.bool true)=U P L N n0 (.code a::t) Q .normal e ah:=rfl
@[simp] theorem Dn {a b:az}:UC P L N n0 a b t Q e ah (.bool false)=U P L N n0 (.code b::t) Q .normal e ah:=rfl
@[simp] theorem Mz {zq:List Ar} {d:Option Nat} {r:List aA} {f:Nat} {caps:List AV}:UF P L N n0 zq d r t Q e ah (.fn f caps)=
 if bz caps then UK P L N n0 f (zq.map (fun x=>(ev e x).sh)++caps.map AV.s1) d r t Q e ah else False:=rfl
theorem OE {a b:az} {v:Bool} (h1:v=true→U P L N n0 (.code a::t) Q .normal e ah) (h2:v=false→U P L N n0 (.code b::t) Q .normal e ah):UC P L N n0 a b t Q e ah (.bool v):=by
 cases v
 · exact h2 rfl
 · exact h1 rfl
theorem R6 {f:Nat} {zq:List AV} {d:Option Nat} {r:List aA} {R:AV→AH→Prop} (h:aC P f zq ah R) (hk:∀v aq,R v aq→U P L N n0 (.ops r::t) Q .normal (au L (l7 e) d v.df) aq):
 UK P L N n0 f zq d r t Q e ah:=h.mono hk
theorem Pj {c:az} (I:Nat→Env→AH→Prop) {k0:Nat} (ho:jf N c=true)
 (round:∀k e ah,I k e ah→U P L N n0 [.code c] (fun x e' aq=>match x with| .normal=>∃k',k'<k∧I k' e' aq|x=>U P L N n0 t Q x e' aq) .normal e ah) (h0:I k0 e ah):
 UX P L N n0 (.loop c) t Q e ah:=by
 intro c'
 induction c' with
 |loop c0 _=>
  intro bk
  simp only [aO,Option.map_eq_some_iff] at bk
  obtain ⟨a,ha,he⟩:=bk
  injection he with he
  subst he
  exact AW.loop I (fun k e ah hI=>iA c0 a _ e ah (by rw [eL c0 a ha];exact ha) (by rw [eL c0 a ha];exact ho) (round k e ah hI)) h0
 |scope c0 ih=>exact fun bk=>AW.scope (ih bk)
 |region id ops draw=>intro bk;simp only [aO] at bk;repeat' (split at bk)<;>simp at bk
 |block i c0=>intro bk;simp only [aO,Option.map_eq_some_iff] at bk;obtain ⟨a, -,h⟩:=bk;cases h
 |seq a b=>intro bk;simp only [aO] at bk;split at bk<;>simp at bk
 |cond a b c=>intro bk;simp only [aO] at bk;split at bk<;>simp at bk
 |_=>intro bk;simp [aO] at bk
end
end Go.Am
end
section
namespace Go.Am
open Go
variable [Tabs]
def AV.cw:AV→Bool
 | .aK _=>true
 |_=>false
def dB (P:Program) (e:Env) (ah:AH):List ResultVar→Option (List AV)
 |[]=>some []
 | .tmp t::r=>if (get e t).cw then none else match dB P e ah r with
   |some vs=>some (get e t::vs)
   |none=>none
 | .cell a ty::r=>if tok P ty then
  match get e a with
  | .ptr s o=>match ah[s]? with
    |some cs=>match fK (tn P ty) s o cs,dB P e ah r with
     |some v,some vs=>some (v.sh::vs)
     |_,_=>none
    |none=>none
  |_=>none
   else none
def fin:List AV→AV
 |[a]=>a.df
 |l=> .aK (l.map AV.sh)
inductive Cl (n:Nat):AV→Prop
 |ptr (s o):s<n→Cl n (.ptr s o)
 |fn (f cs):(∀a∈cs,Cl n a)→Cl n (.fn f cs)
 |agg (cs):(∀a∈cs,Cl n a)→Cl n (.agg cs)
 |aK (cs):(∀a∈cs,Cl n a)→Cl n (.aK cs)
 |v (x):Cl n (.v x)
 |int (k i):Cl n (.int k i)
 |bool (b):Cl n (.bool b)
 |str (l):Cl n (.str l)
 |sl (t k xs):Cl n (.sl t k xs)
 |ep (e o):Cl n (.ep e o)
 |bu (s k o m):s<n→Cl n (.bu s k o m)
 |jj (s k):Cl n (.aZ s k 0 0)
 |aZ (s k m c):s<n→Cl n (.aZ s k m c)
 |bW:Cl n .bW
 |un:Cl n .un
@[simp] theorem Kc {n s k o m:Nat}:Cl n (.bu s k o m)↔s<n:=⟨fun h=>by cases h;assumption, .bu _ _ _ _⟩
@[simp] theorem Rk {n:Nat}:Cl n .bW:= .bW
@[simp] theorem Kd {n s o:Nat}:Cl n (.ptr s o)↔s<n:=⟨fun h=>by cases h;assumption, .ptr _ _⟩
@[simp] theorem MA {n f:Nat} {cs:List AV}:Cl n (.fn f cs)↔∀a∈cs,Cl n a:=⟨fun h=>by cases h;assumption, .fn _ _⟩
@[simp] theorem Ke {n:Nat} {cs:List AV}:Cl n (.agg cs)↔∀a∈cs,Cl n a:=⟨fun h=>by cases h;assumption, .agg _⟩
@[simp] theorem Kf {n:Nat} {cs:List AV}:Cl n (.aK cs)↔∀a∈cs,Cl n a:=⟨fun h=>by cases h;assumption, .aK _⟩
@[simp] theorem Te {n:Nat} {x:Value}:Cl n (.v x):= .v _
@[simp] theorem Rl {n:Nat} {k:IntKind} {i:Int}:Cl n (.int k i):= .int ..
@[simp] theorem Pm {n:Nat} {b:Bool}:Cl n (.bool b):= .bool _
@[simp] theorem Rm {n:Nat} {l:List UInt8}:Cl n (.str l):= .str _
@[simp] theorem R7 {n:Nat} {t:Tg} {k:Nat} {xs:List AV}:Cl n (.sl t k xs):= .sl ..
@[simp] theorem R8 {n:Nat} {e:AV} {o:Nat}:Cl n (.ep e o):= .ep ..
@[simp] theorem Tf {n:Nat}:Cl n .un:= .un
def ga (n:Nat) (ah:AH):Prop:=∀(s:Nat) (cs:List AV),ah[s]? =some cs→∀a∈cs,Cl n a
def z6 (P:Program) (n:Nat) (rs:List ResultVar) (R:AV→AH→Prop) (x:Exit) (e:Env) (ah:AH):Prop:=
 (x= .normal∨x= .ret)∧match dB P e ah rs with
  |some vs=>Cl n (fin vs)∧ga n (ah.take n)∧n≤ah.length∧R (fin vs) (ah.take n)
  |none=>False
section
variable {P:Program} {L:List Nat} {N n0:Nat} {F:Nat→Prop} {γ:List Nat} {C C':Nat→List Value} {e:Env} {ah:AH} {ts:Array Value} {w w':World}
theorem VR.take {a:AV} {v:Value} {n:Nat} (h:VR C γ a v):Cl n a→VR C (γ.take n) a v:=by
 induction h with
 |v _ _ hs=>intro _;exact .v _ _ hs
 |un=>intro _;exact .un ..
 |int=>intro _;exact .int ..
 |bool=>intro _;exact .bool ..
 |str=>intro _;exact .str ..
 |ptr _ s o b hb=>intro hn;exact .ptr _ _ _ _ (by rw [List.getElem?_take_of_lt (Kd.1 hn)];exact hb)
 |bu _ s k o n b c hb hn'=>intro hn;exact .bu _ _ _ _ _ _ _ (by rw [List.getElem?_take_of_lt (Kc.1 hn)];exact hb) hn'
 |jj=>intro _;exact .jj ..
 |aZ _ s k n b c hb hn'=>
  intro hn
  cases hn with
  |jj=>exact .jj ..
  |aZ _ _ _ _ hs=>exact .aZ _ _ _ _ _ _ (by rw [List.getElem?_take_of_lt hs];exact hb) hn'
 |bW=>intro _;exact .bW ..
 |jJ=>intro _;exact .jJ ..
 |sl _ _ _ _ b o n c hn' hc hk hl ho hx=>intro _;exact .sl _ _ _ _ _ _ _ _ hn' hc hk hl ho hx
 |ep _ _ _ b p hl hx=>intro _;exact .ep _ _ _ _ _ hl hx
 |agg _ cs vs hl hx ih=>intro hn;exact .agg _ _ _ hl fun i a hi=>ih i a hi (Ke.1 hn a (List.mem_of_getElem? hi))
 |aK _ cs vs hl hx ih=>intro hn;exact .aK _ _ _ hl fun i a hi=>ih i a hi (Kf.1 hn a (List.mem_of_getElem? hi))
 |fn _ f cs vs hl hx ih=>intro hn;exact .fn _ _ _ _ hl fun i a hi=>ih i a hi (MA.1 hn a (List.mem_of_getElem? hi))
theorem VR.cl {a:AV} {v:Value} (h:VR C γ a v):Cl γ.length a:=by
 have mem:∀ {cs:List AV} {a:AV},a∈cs→∃i:Nat,cs[i]? =some a:=fun ha=>by
  obtain ⟨i,hi,rfl⟩:=List.getElem_of_mem ha;exact ⟨i,List.getElem?_eq_getElem hi⟩
 induction h with
 |ptr _ s o b hb=>exact .ptr _ _ (List.getElem?_eq_some_iff.1 hb).1
 |agg _ cs vs hl hx ih=>exact .agg _ fun a ha=>by obtain ⟨i,hi⟩:=mem ha;exact ih i a hi
 |aK _ cs vs hl hx ih=>exact .aK _ fun a ha=>by obtain ⟨i,hi⟩:=mem ha;exact ih i a hi
 |fn _ f cs vs hl hx ih=>exact .fn _ _ fun a ha=>by obtain ⟨i,hi⟩:=mem ha;exact ih i a hi
 |bu _ s k o n b c hb _=>exact .bu _ _ _ _ (List.getElem?_eq_some_iff.1 hb).1
 |jj=>exact .jj ..
 |aZ _ s k n b c hb _=>exact .aZ _ _ _ _ (List.getElem?_eq_some_iff.1 hb).1
 |bW=>exact .bW
 |v=>exact .v _
 |un=>exact .un
 |int=>exact .int ..
 |bool=>exact .bool _
 |str=>exact .str _
 |jJ=>exact .sl ..
 |sl=>exact .sl ..
 |ep=>exact .ep ..
theorem z7 (h:SR L N F γ C e ah ts w) {a s o:Nat} {ty:TypeId} (ht:tok P ty=true) (hp:get e a= .ptr s o) {cs:List AV} (hs:ah[s]? =some cs) {v:AV} (hl:fK (tn P ty) s o cs=some v):
 ∃u ad,ts.getD a undef= .pointer (some ad)∧(loadVar ty ad).run P w= .ok u w∧VR C γ v.sh u∧TC w C v.sh u:=by
 have hv:=(h.env a).1
 rw [hp] at hv
 obtain ⟨b,hb,hv⟩:=hv.eA
 obtain ⟨vs,tv,hh,hsz,hcell⟩:=h.mem.obj s b cs hs hb
 have lT:=bQ hh
 cases hn:tn P ty with
 |some n=>
  simp only [hn,fK] at hl
  split at hl
  case isFalse=>cases hl
  rename_i hq
  obtain ⟨hq,hfl⟩:=hq
  injection hl with hl
  subst hl
  obtain ⟨r,hr,hrs,hrc⟩:=(run_load (w:=w) ht (b:=b) (o:=o)).1 n hn (fun j hj=>by
   rw [lT];exact ⟨_,Array.getElem?_eq_getElem (by omega)⟩)
  obtain rfl:r=vs.extract o (o+n):=by
   apply Array.ext_getElem?
   intro j
   by_cases hj:j<n
   · rw [hrc j hj,lT,Array.getElem?_extract,if_pos (by omega)]
   · rw [Array.getElem?_eq_none (by omega),Array.getElem?_eq_none (by simp;omega)]
  refine ⟨_,_,hv,hr, ?_, ?_⟩
  · exact (Wk.sh _).vr ((Wk.hO _ Wk.aR _).vr (rB hsz (fun i a hi=>(hcell i a hi).1) hq))
  · exact (Wk.sh _).tc ((Wk.hO _ Wk.aR _).tc (lS hsz (fun i a hi hin=>ot (hcell _ a hi).2 (eJ hfl (i:=i) (by rw [List.getElem?_take_of_lt hin,List.getElem?_drop];exact hi))) hq))
 |none=>
  simp only [hn,fK] at hl
  have gW:∀c,cs[o]? =some c→w.cell? ⟨b,o,none⟩=some (vs.getD o undef):=by
   intro c ia
   have hlt:o<vs.size:=Nat.lt_of_lt_of_le (List.getElem?_eq_some_iff.1 ia).1 hsz
   rw [lT];simp [Array.getD_eq_getD_getElem?,Array.getElem?_eq_getElem hlt]
  split at hl
  · rename_i k xs ia
    injection hl with hl
    subst hl
    have hr:=(run_load (w:=w) ht (b:=b) (o:=o)).2 _ hn (gW _ ia)
    exact ⟨_,_,hv,hr,(hcell o _ ia).1.eV _,by simp only [AV.sh,AV.aR,Tg.sh];cases (vs.getD o undef)<;>trivial⟩
  · rename_i c hno ia
    split at hl
    case isFalse=>cases hl
    rename_i hfl
    injection hl with hl
    subst hl
    have hr:=(run_load (w:=w) ht (b:=b) (o:=o)).2 _ hn (gW _ ia)
    refine ⟨_,_,hv,hr, ?_, ?_⟩
    · exact (Wk.sh _).vr ((Wk.fh (Wk.aR c)).vr (hcell o _ ia).1)
    · exact (Wk.sh _).tc (qV (ot (hcell o _ ia).2 hfl))
  · cases hl
theorem Kg (h:SR L N F γ C e ah ts w):∀(rs:List ResultVar) (vs:List AV),dB P e ah rs=some vs→
 ∃us:List Value,(rs.mapM fun| .tmp t=>pure (ts.getD t undef)| .cell a t=>do loadVar t (←asAddr (ts.getD a undef)):Sem (List Value)).run P w= .ok us w∧us.length=vs.length∧
  (∀(i:Nat) (a:AV),vs[i]? =some a→VR C γ a (us.getD i undef)∧TC w C a (us.getD i undef))∧
  (∀(i:Nat) (a:AV) (b:Nat),vs[i]? =some a→aV a (us.getD i undef)=some b→∃t,blk γ e ah ts w (.tmp t) b)∧∀(i:Nat) (a:AV),vs[i]? =some a→a.cw=false:=by
 intro rs
 induction rs with
 |nil=>intro vs hr;simp [dB] at hr;subst hr;exact ⟨[],rfl,rfl,by simp,by simp,by simp⟩
 |cons r rs ih=>
  intro vs hr
  cases r with
  |tmp t=>
   simp only [dB] at hr
   split at hr
   case isTrue=>cases hr
   rename_i hnt
   split at hr
   case h_2=>cases hr
   rename_i vs' hvs
   injection hr with hr
   subst hr
   obtain ⟨us,h1,h2,h3,h4,h5⟩:=ih vs' hvs
   refine ⟨ts.getD t undef::us, ?_,by simp [h2],fun i a hi=> ?_,fun i a b hi hb=> ?_,fun i a hi=>by
    cases i with
    |zero=>simp at hi;subst hi;simpa using hnt
    |succ i=>exact h5 i a (by simpa using hi)⟩
   · simp only [List.mapM_cons,Sem.run_bind,Sem.run_pure,Result.andThen_ok,h1]
   · cases i with
     |zero=>simp at hi;subst hi;exact h.env t
     |succ i=>exact h3 i a (by simpa using hi)
   · cases i with
     |zero=>simp at hi;subst hi;exact ⟨t,hb⟩
     |succ i=>exact h4 i a b (by simpa using hi) hb
  |cell a ty=>
   simp only [dB] at hr
   split at hr
   case isFalse=>cases hr
   rename_i ht
   split at hr
   case h_2=>cases hr
   rename_i s o hp
   split at hr
   case h_2=>cases hr
   rename_i cs hs
   split at hr
   case h_2=>cases hr
   rename_i v vs' hv hvs
   injection hr with hr
   subst hr
   obtain ⟨us,h1,h2,h3,h4,h5⟩:=ih vs' hvs
   obtain ⟨u,ad,g1,g2,g3,g4⟩:=z7 (P:=P) h ht hp hs hv
   have hnt:v.sh.cw=false:=by
    unfold fK at hv
    split at hv
    · split at hv<;>simp at hv;subst hv;rfl
    · split at hv
      · injection hv with hv;subst hv;rfl
      · split at hv<;>simp at hv
        rename_i c _ _ hf
        subst hv
        cases c<;>first|rfl|cases hf
      · cases hv
   refine ⟨u::us, ?_,by simp [h2],fun i a hi=> ?_,fun i a b hi hb=> ?_,fun i a hi=>by
    cases i with
    |zero=>simp at hi;subst hi;exact hnt
    |succ i=>exact h5 i a (by simpa using hi)⟩
   · have hA:(asAddr (ts.getD a undef)).run P w= .ok ad w:=by rw [g1];rfl
     simp only [List.mapM_cons,Sem.run_bind,hA,Sem.run_pure,Result.andThen_ok,g2,h1]
   · cases i with
     |zero=>simp at hi;subst hi;exact ⟨g3,g4⟩
     |succ i=>exact h3 i a (by simpa using hi)
   · cases i with
     |zero=>simp at hi;subst hi;rw [eg _ (dN (jZ v))] at hb;cases hb
     |succ i=>exact h4 i a b (by simpa using hi) hb
def LK (P:Program) (n0:Nat) (rs:List ResultVar) (R:AV→AH→Prop) (x:Exit) (e:Env) (ah:AH):Prop:=
 (∃m,n0≤m∧z6 P m rs R x e ah)∨((x= .normal∨x= .ret)∧match dB P e ah rs with
  |some vs=>R (fin vs) ah
  |none=>False)
theorem aC.Ci {f:Nat} {fn:Func} {c:Code} {ac:az} {args:List AV} {R:AV→AH→Prop} (L:List Nat) (hf:P.funcs[f]? =some fn) (hname:fn.name≠ "runtime.NumGoroutine") (hb:fn.body=some c)
 (hc:aO P c=some ac) (ho:jf fn.ntmps ac=true) (hN:args.length≤fn.ntmps)
 (h:ga ah.length ah→(∀a∈args,∀s o,a= .ptr s o→s<ah.length)→AX P L fn.ntmps ah.length ac (LK P ah.length fn.results.toList R) (cL 0 args) ah):aC P f args ah R:=by
 refine ⟨by simp [eK,hf,hb,hname],fun F γ C w vs hs=> ?_⟩
 have hlen:=hs.mem.len
 have hcl:ga ah.length ah:=by
  intro s cs xK
  have hlt:s<γ.length:=by rw [hlen];exact (List.getElem?_eq_some_iff.1 xK).1
  obtain ⟨us,ty, -,hsz,hcell⟩:=hs.mem.obj s _ cs xK (List.getElem?_eq_getElem hlt)
  intro a ha
  obtain ⟨i,hi,rfl⟩:=List.getElem_of_mem ha
  rw [←hlen]
  exact (hcell i _ (List.getElem?_eq_getElem hi)).1.cl
 have hargs:∀a∈args,∀s o,a= .ptr s o→s<ah.length:=by
  intro a ha s o he
  obtain ⟨i,hi,rfl⟩:=List.getElem_of_mem ha
  have:=(hs.env i).1
  rw [cm] at this
  simp only [Nat.zero_le,if_true,Nat.sub_zero,List.getElem?_eq_getElem hi,Option.getD_some,he] at this
  obtain ⟨b,hb, -⟩:=this.eA
  rw [←hlen];exact (List.getElem?_eq_some_iff.1 hb).1
 have hU:=h hcl hargs
 have hW:AW P L fn.ntmps ah.length c (LK P ah.length fn.results.toList R) (cL 0 args) ah:=hU c hc
 have hvs:vs.size=args.length:=hs.sz
 have hs2:SR L fn.ntmps F γ C (cL 0 args) ah (vs++Array.replicate (fn.ntmps - vs.size) undef) w:=by
  have hg:∀t,t<vs.size→(vs++Array.replicate (fn.ntmps - vs.size) undef).getD t undef=vs.getD t undef:=by
   intro t ht;simp [Array.getD_eq_getD_getElem?,Array.getElem?_append,ht]
  have hx:∀t,¬t<vs.size→get (cL 0 args) t= .un:=by
   intro t ht;rw [cm];simp only [Nat.zero_le,if_true,Nat.sub_zero];rw [List.getElem?_eq_none (by omega)];rfl
  have hbk:∀p b,blk γ (cL 0 args) ah (vs++Array.replicate (fn.ntmps - vs.size) undef) w p b→blk γ (cL 0 args) ah vs w p b:=by
   intro p b hp
   cases p with
   |obj s=>exact hp
   |cell s i=>exact hp
   |tmp t=>
    by_cases ht:t<vs.size
    · simp only [blk,hg t ht] at hp ⊢;exact hp
    · simp only [blk,hx t ht,aV] at hp;cases hp
  refine ⟨hs.mem,by simp;omega,fun t=> ?_,fun p q b hp hq=>hs.b5 p q b (hbk p b hp) (hbk q b hq),fun p b hp=>hs.nf p b (hbk p b hp),hs.fH,fun t l k xs htl=> ?_⟩
  · by_cases ht:t<vs.size
    · rw [hg t ht];exact hs.env t
    · rw [hx t ht];exact ⟨.un ..,by generalize (vs++Array.replicate (fn.ntmps - vs.size) undef).getD t undef=v;cases v<;>trivial⟩
  · by_cases ht:t<vs.size
    · have:=hs.fr t l k xs htl
      cases l with
      |tmp u=>have:=this.1;simp at this
      |cell s o=>intro cs a b h1 h2 h3 h4;rw [hg t ht];exact this cs a b h1 h2 h3 h4
    · rw [hx t ht] at htl;cases htl
 refine calls_of_wp hf hb (wp_mono (hW F γ C _ w hs2 (by omega)) ?_)
 rintro x ⟨ts',ds'⟩ w' ⟨rfl, -,e',aq,γ',C',MB,hγ,hs',Pn⟩
 have hx:x= .normal∨x= .ret:=by
  rcases MB with ⟨m, -,h, -⟩|⟨h, -⟩<;>exact h
 obtain ⟨mb,zL⟩:∃mb,dB P e' aq fn.results.toList=some mb:=by
  rcases MB with ⟨m, -, -,h⟩|⟨-,h⟩
  · split at h
    · rename_i vs hv;exact ⟨vs,hv⟩
    · exact h.elim
  · split at h
    · rename_i vs hv;exact ⟨vs,hv⟩
    · exact h.elim
 obtain ⟨us,u1,u2,u3,u4,u5⟩:=Kg (P:=P) hs' _ _ zL
 have hres:(results fn ts').run P w'= .ok (if us.length=1 then us.getD 0 undef else .tuple us.toArray) w':=by
  unfold results
  rw [Array.mapM_eq_mapM_toList,map_eq_pure_bind]
  simp only [Sem.run_bind,Sem.run_pure]
  refine (congrArg (fun r=>Result.andThen (Result.andThen r fun (a:List Value) w'=> .ok a.toArray w') fun (a:Array Value) w'=> .ok (if h:a.size=1 then a[0] else Value.tuple a) w') u1).trans ?_
  simp only [Result.andThen_ok]
  by_cases h1:us.length=1
  · rw [if_pos h1]
    have:us.toArray.size=1:=by simpa using h1
    rw [dif_pos this]
    simp [List.getD_eq_getElem?_getD,h1]
  · rw [if_neg h1]
    have:¬us.toArray.size=1:=by simpa using h1
    rw [dif_neg this]
 generalize hv:(if us.length=1 then us.getD 0 undef else .tuple us.toArray)=v at hres
 have qt:VR C' γ' (fin mb) v∧TC w' C' (fin mb) v∧(∀b,aV (fin mb) v=some b→∃t,blk γ' e' aq ts' w' (.tmp t) b)∧∀l k xs,fin mb≠ .sl (.fr l) k xs:=by
  by_cases h1:us.length=1
  · rw [if_pos h1] at hv
    obtain ⟨a,rfl⟩:∃a,mb=[a]:=by
     cases mb with
     |nil=>rw [h1] at u2;simp at u2
     |cons a r=>cases r with
      |nil=>exact ⟨a,rfl⟩
      |cons b r=>rw [h1] at u2;simp at u2
    have h3:=u3 0 a rfl
    rw [hv] at h3
    refine ⟨(Wk.df a).vr h3.1,(Wk.df a).tc h3.2,fun b hb=>u4 0 a b rfl ?_,fun l k xs=>zJ a l k xs⟩
    rw [hv];exact (Wk.df a).own hb
  · rw [if_neg h1] at hv
    have hf:fin mb= .aK (mb.map AV.sh):=by
     cases mb with
     |nil=>rfl
     |cons a r=>cases r with
      |nil=>exact absurd (by simpa using u2) h1
      |cons b r=>rfl
    rw [hf]
    subst hv
    refine ⟨.aK _ _ _ (by simp [u2]) fun i a hi=> ?_,fun i a hi=> ?_,fun b hb=>by simp [aV] at hb,by simp⟩
    · rw [List.getElem?_map] at hi
      cases hq:mb[i]? with
      |none=>rw [hq] at hi;simp at hi
      |some y=>
       rw [hq] at hi
       obtain rfl:y.sh=a:=by simpa using hi
       have:=(Wk.sh y).vr (u3 i y hq).1
       rwa [←dO]
    · rw [List.getElem?_map] at hi
      cases hq:mb[i]? with
      |none=>rw [hq] at hi;simp at hi
      |some y=>
       rw [hq] at hi
       obtain rfl:y.sh=a:=by simpa using hi
       have h3:=(Wk.sh y).tc (u3 i y hq).2
       have h4:=(Wk.sh y).vr (u3 i y hq).1
       rw [←dO]
       show uQ y.sh (us.getD i undef)
       have h5:y.sh.cw=false:=by have:=u5 i y hq;cases y<;>first|rfl|cases this
       generalize us.getD i undef=u at h3 h4
       generalize hz:y.sh=z at h3 h4 h5
       cases z with
       |agg cs=>obtain ⟨vs,rfl, -⟩:=h4.gI;exact h3
       |aK cs=>cases h5
       |sl t k xs=>cases t<;>cases u<;>first|trivial|exact h3|(exfalso;cases y<;>simp [AV.sh,AV.aR] at hz;done)|skip
       |_=>cases u<;>trivial
 obtain ⟨m,hm,hrc,Po,Th,R9⟩:∃m,ah.length≤m∧Cl m (fin mb)∧ga m (aq.take m)∧m≤aq.length∧R (fin mb) (aq.take m):=by
  rcases MB with ⟨m,hm, -,h⟩|⟨-,h⟩
  · rw [zL] at h
    exact ⟨m,hm,h⟩
  · rw [zL] at h
    have hl:aq.take aq.length=aq:=List.take_length
    refine ⟨aq.length, ?_, ?_, ?_,Nat.le_refl _,by rw [hl];exact h⟩
    · rw [←hs'.mem.len]
      have:=hγ.length_le
      rw [←hlen,List.take_length] at this
      omega
    · rw [←hs'.mem.len];exact qt.1.cl
    · rw [hl]
      intro s cs xK
      have hlt:s<γ'.length:=by rw [hs'.mem.len];exact (List.getElem?_eq_some_iff.1 xK).1
      obtain ⟨us',ty', -,Ti,qX⟩:=hs'.mem.obj s _ cs xK (List.getElem?_eq_getElem hlt)
      intro a ha
      obtain ⟨i,hi,rfl⟩:=List.getElem_of_mem ha
      rw [←hs'.mem.len]
      exact (qX i _ (List.getElem?_eq_getElem hi)).1.cl
 have hm0:ah.length≤m:=hm
 have hlen':=hs'.mem.len
 have hpre:γ <+: γ'.take m:=by
  rw [←hlen,List.take_length] at hγ
  obtain ⟨q,rfl⟩:=hγ
  rw [List.take_append]
  rw [List.take_of_length_le (l:=γ) (i:=m) (by omega)]
  exact List.prefix_append _ _
 have Sa:bodyPost P fn (fun en w'=>∃r v aq γ' C',en= .returned v∧R r aq∧γ <+: γ'∧SR [] 1 F γ' C' [(0,r)] aq #[v] w'∧Ext F C w C' w') x ⟨ts',[]⟩ w':=by
  have key:∃v',(results fn ts').run P w'= .ok v' w'∧∃r v aq γ' C',Ending.returned v'= .returned v∧R r aq∧γ <+: γ'∧SR [] 1 F γ' C' [(0,r)] aq #[v] w'∧Ext F C w C' w':=by
   refine ⟨v,hres,fin mb,v,aq.take m,γ'.take m,C',rfl,R9,hpre, ?_,Pn⟩
   have hgt:∀(s b:Nat),(γ'.take m)[s]? =some b→γ'[s]? =some b∧s<m:=by
    intro s b hsb
    by_cases kQ:s<m
    · rw [List.getElem?_take_of_lt kQ] at hsb;exact ⟨hsb,kQ⟩
    · rw [List.getElem?_eq_none (by simp;omega)] at hsb;cases hsb
   have Kh:∀(s:Nat) (cs:List AV),(aq.take m)[s]? =some cs→aq[s]? =some cs:=by
    intro s cs hsb
    by_cases kQ:s<m
    · rwa [List.getElem?_take_of_lt kQ] at hsb
    · rw [List.getElem?_eq_none (by simp;omega)] at hsb;cases hsb
   have hbk:∀p b,blk (γ'.take m) [(0,fin mb)] (aq.take m) #[v] w' p b→(∃t,p= .tmp 0∧blk γ' e' aq ts' w' (.tmp t) b)∨((∀t,p≠ .tmp t)∧blk γ' e' aq ts' w' p b):=by
    intro p b hp
    cases p with
    |obj s=>exact .inr ⟨by simp,(hgt s b hp).1⟩
    |cell s i=>
     obtain ⟨cs,a,b0,g1,g2,g3,g4⟩:=hp
     exact .inr ⟨by simp,cs,a,b0,Kh s cs g1,g2,(hgt s b0 g3).1,g4⟩
    |tmp t=>
     simp only [blk,get] at hp
     by_cases ht:0=t
     · subst ht
       simp only [if_true] at hp
       obtain ⟨t,ht⟩:=qt.2.2.1 b hp
       exact .inl ⟨t,rfl,ht⟩
     · rw [if_neg ht] at hp;simp [aV] at hp
   refine ⟨⟨by simp [hlen'],fun s b cs g1 g2=> ?_,hs'.mem.lR,fun s b cs g1 g0 hsb=>hs'.mem.lq s b cs (Kh s cs g1) g0 (hgt s b hsb).1,fun s b cs us ty fr g1 hsb hh=>hs'.mem.ry s b cs us ty fr (Kh s cs g1) (hgt s b hsb).1 hh⟩,rfl,fun t=> ?_,fun p q b hp hq=> ?_,fun p b hp=> ?_,hs'.fH,fun t l k xs htl=> ?_⟩
   · obtain ⟨vs,ty,q1,q2,q3⟩:=hs'.mem.obj s b cs (Kh s cs g1) (hgt s b g2).1
     exact ⟨vs,ty,q1,q2,fun i a hi=>⟨(q3 i a hi).1.take (Po s cs g1 a (List.mem_of_getElem? hi)),(q3 i a hi).2⟩⟩
   · by_cases ht:0=t
     · subst ht
       simp only [get,if_true]
       exact ⟨qt.1.take hrc,qt.2.1⟩
     · simp only [get,if_neg ht]
       exact ⟨.un ..,by generalize (#[v]:Array Value).getD t undef=u;cases u<;>trivial⟩
   · rcases hbk p b hp with ⟨t,rfl,h1⟩|⟨h1,h2⟩<;>rcases hbk q b hq with ⟨u,rfl,h3⟩|⟨h3,h4⟩
     · rfl
     · exact absurd (hs'.b5 _ _ b h1 h4) (fun e=>h3 t e.symm)
     · exact absurd (hs'.b5 _ _ b h2 h3) (h1 u)
     · exact hs'.b5 p q b h2 h4
   · rcases hbk p b hp with ⟨t,rfl,h1⟩|⟨h1,h2⟩
     · exact hs'.nf _ b h1
     · exact hs'.nf p b h2
   · by_cases ht:0=t
     · subst ht
       simp only [get,if_true] at htl
       exact absurd htl (qt.2.2.2 l k xs)
     · simp only [get,if_neg ht] at htl;cases htl
  rcases hx with rfl|rfl
  · exact ⟨rfl,key⟩
  · exact ⟨rfl,key⟩
 exact Sa
theorem AX.up {c:az} {Q Q':Exit→Env→AH→Prop} {e:Env} {ah:AH} {n0:Nat} (h:AX P L N n0 c Q e ah) (hq:∀x e ah,Q x e ah→Q' x e ah):AX P L N n0 c Q' e ah:=fun c' bk=>(h c' bk).mono hq
theorem aC.enter {f:Nat} {fn:Func} {c:Code} {ac:az} {args:List AV} {R:AV→AH→Prop} (L:List Nat) (m:Nat) (hf:P.funcs[f]? =some fn) (hname:fn.name≠ "runtime.NumGoroutine") (hb:fn.body=some c)
 (hc:aO P c=some ac) (ho:jf fn.ntmps ac=true) (hN:args.length≤fn.ntmps) (hm:ah.length≤m)
 (h:ga ah.length ah→(∀a∈args,∀s o,a= .ptr s o→s<ah.length)→U P L fn.ntmps ah.length [.code ac] (z6 P m fn.results.toList R) .normal (cL 0 args) ah):aC P f args ah R:=
 aC.Ci L hf hname hb hc ho hN fun h1 h2=>AX.up (fun c' bk=>iA c' ac _ _ _ (by rw [eL c ac hc];exact bk) (by rw [eL c ac hc];exact ho) (h h1 h2)) fun x e H hR=> .inl ⟨m,hm,hR⟩
end
end Go.Am
end
section
namespace Go.Am
open Go
variable [Tabs]
def bT (P:Program) (f N:Nat) (rs:List ResultVar) (ac:az):Prop:=
 ∃fn c,P.funcs[f]? =some fn∧fn.name≠ "runtime.NumGoroutine" ∧fn.body=some c∧aO P c=some ac∧fn.ntmps=N∧fn.results.toList=rs
theorem aC.go {P:Program} {f N:Nat} {rs:List ResultVar} {ac:az} (hF:bT P f N rs ac) {args:List AV} {ah:AH} {R:AV→AH→Prop} (L:List Nat) (m:Nat)
 (ho:jf N ac=true) (hN:args.length≤N) (hm:ah.length≤m)
 (h:ga ah.length ah→(∀a∈args,∀s o,a= .ptr s o→s<ah.length)→U P L N ah.length [.code ac] (z6 P m rs R) .normal (cL 0 args) ah):aC P f args ah R:=by
 obtain ⟨fn,c,h1,h2,h3,h4,rfl,rfl⟩:=hF
 exact aC.enter L m h1 h2 h3 h4 ho hN hm h
section
variable {P:Program} {L:List Nat} {N n0:Nat} {e:Env} {ah:AH} {t:List It} {Q:Exit→Env→AH→Prop} {r:List aA} {d:Option Nat} {g:Option (Nat×Bool)}
def MC (want:Bool):AV→Option Bool
 | .bool b=>some (b==want)
 | .aK []=>some false
 |_=>none
theorem Ki {op:cX}:dz e ⟨d,op,none⟩=some true:=rfl
theorem Kj {op:cX} {x:Nat} {want:Bool}:dz e ⟨d,op,some (x,want)⟩=MC want (get e x):=by
 simp only [dz]
 cases get e x with
 |aK cs=>cases cs<;>rfl
 |_=>rfl
theorem Kk {want:Bool}:MC want (.aK [])=some false:=rfl
theorem Dp {b want:Bool}:MC want (.bool b)=some (b==want):=rfl
theorem Pp {x:Ar}:UG P L N n0 ⟨d, .mv x,g⟩ r t Q e ah (some true)=U P L N n0 (It.ops r::t) Q Exit.normal (au L e d (cp L x (ev e x))) ah:=rfl
def eU (P:Program) (L:List Nat) (N n0:Nat) (e:Env) (ah:AH) (d:Option Nat) (r:List aA) (t:List It) (Q:Exit→Env→AH→Prop) (x:Ar):AV→Prop
 | .sl .own k xs=>match x with
   | .t y=>U P L N n0 (.ops r::t) Q .normal (au L (put e y (.sl .n k xs)) d (.sl .own k xs)) ah
   | .c a=>U P L N n0 (.ops r::t) Q .normal (au L e d (cp L (.c a) (.sl .own k xs))) ah
 |a=>U P L N n0 (.ops r::t) Q .normal (au L e d (cp L x a)) ah
theorem MD {x:Ar}:UG P L N n0 ⟨d, .bg x,g⟩ r t Q e ah (some true)=eU P L N n0 e ah d r t Q x (ev e x):=by
 simp only [UG,aN]
 cases h:ev e x with
 |sl tg k xs=>cases tg<;>cases x<;>rfl
 |_=>rfl
def z8 (L:List Nat) (e:Env) (ah:AH) (d:Option Nat) (a b:Ar):AV→Option (Env×AH)
 | .bool t=>some (au L e d (if t then (ev e a).sh else (ev e b).sh),ah)
 |_=>none
theorem Kl {c a b:Ar}:UG P L N n0 ⟨d, .pick c a b,g⟩ r t Q e ah (some true)=US P L N n0 r t Q (z8 L e ah d a b (ev e c)):=by
 simp only [UG,aN];cases ev e c<;>rfl
theorem GG {cs:List AV}:UG P L N n0 ⟨d, .alloc cs,g⟩ r t Q e ah (some true)=U P L N n0 (.ops r::t) Q .normal (au L e d (.ptr ah.length 0)) (ah++[cs]):=rfl
theorem ME {x:Ar}:UG P L N n0 ⟨d, .box x,g⟩ r t Q e ah (some true)=US P L N n0 r t Q (if bh (ev e x).cells then some (au L e d (.ptr ah.length 0),ah++[(ev e x).cells.map AV.aR]) else none):=rfl
theorem GH {z:List AV} {ps:List (Nat×Nat×Ar)}:UG P L N n0 ⟨d, .build z ps,g⟩ r t Q e ah (some true)=US P L N n0 r t Q ((fill e z ps).map fun cs=>(au L e d (.agg cs),ah)):=rfl
theorem MF {k:Nat} {ps:List Ar}:UG P L N n0 ⟨d, .mP k ps,g⟩ r t Q e ah (some true)=US P L N n0 r t Q (if ps.all (fun p=>(ev e p).cells.length=k&&bh (ev e p).cells&&c7 (ev e p).cells) then some (au L e d (.sl .ex k (ps.map fun p=>(ev e p).s0)),ah) else none):=rfl
theorem Sb {y:Nat} {bs:List UInt8}:UG P L N n0 ⟨d, .lit y bs,g⟩ r t Q e ah (some true)=U P L N n0 (It.ops r::t) Q Exit.normal (put (au L e d (.sl .ex 1 (bs.map b8))) y .un) ah:=rfl
def GI (L:List Nat) (e:Env) (ah:AH) (d:Option Nat):AV→Option (Env×AH)
 | .ptr s p=>some (au L e d (.ptr s p),ah)
 | .ep a p=>some (au L e d (.ep a p),ah)
 |_=>none
theorem MG {x:Ar}:UG P L N n0 ⟨d, .Js x,g⟩ r t Q e ah (some true)=US P L N n0 r t Q (GI L e ah d (ev e x)):=by
 simp only [UG,aN];cases ev e x<;>rfl
def GJ (L:List Nat) (e:Env) (ah:AH) (d:Option Nat) (q:Nat):AV→Option (Env×AH)
 | .ptr s p=>some (au L e d (.ptr s (p+q)),ah)
 | .ep a p=>some (au L e d (.ep a (p+q)),ah)
 |_=>none
theorem MH {x:Ar} {q:Nat}:UG P L N n0 ⟨d, .gH x q,g⟩ r t Q e ah (some true)=US P L N n0 r t Q (GJ L e ah d q (ev e x)):=by
 simp only [UG,aN];cases ev e x<;>rfl
theorem Rn {x:Ar} {q:Nat} {n:Option Nat}:UG P L N n0 ⟨d, .um x q n,g⟩ r t Q e ah (some true)=US P L N n0 r t Q (aN L ⟨d, .um x q n,none⟩ e ah):=by simp only [UG,l6 L d _ g]
def Km (L:List Nat) (d:Option Nat) (n:Option Nat) (s p:Nat) (e:Env) (ah:AH):Option (List AV)→Option (Env×AH)
 |some cs=>(fK n s p cs).map fun a=>(au L e d a,ah)
 |none=>none
def Dq (L:List Nat) (d:Option Nat) (e:Env) (ah:AH):Option AV→Option (Env×AH)
 |some c=>if c.flat then some (au L e d c.s1,ah) else none
 |none=>none
def vb (L:List Nat) (d:Option Nat) (n:Option Nat) (e:Env) (ah:AH):AV→Option (Env×AH)
 | .ptr s p=>Km L d n s p e ah (ah[s]?)
 | .ep a p=>match n with
   |some n=>if p+n≤a.cells.length∧bz ((a.cells.drop p).take n) then some (au L e d (.agg (((a.cells.drop p).take n).map AV.s1)),ah) else none
   |none=>Dq L d e ah (a.cells[p]?)
 |_=>none
theorem Pq {x:Ar} {n:Option Nat}:UG P L N n0 ⟨d, .ld x n,g⟩ r t Q e ah (some true)=US P L N n0 r t Q (vb L d n e ah (ev e x)):=by
 simp only [UG,aN]
 cases ev e x with
 |ptr s p=>simp only [vb,Km];cases ah[s]? <;>rfl
 |ep a p=>cases n with
  |some n=>rfl
  |none=>simp only [vb,Dq];cases a.cells[p]? <;>rfl
 |_=>rfl
def jg (s o:Nat):Option AV→Option AV
 |some (.sl .own k xs)=>some (.sl (.fr (.cell s o)) k xs)
 |some a=>if a.flat then some a.aR else none
 |none=>none
theorem rS {s o:Nat} {cs:List AV}:fK none s o cs=jg s o (cs[o]?):=by
 simp only [fK,jg]
 cases cs[o]? with
 |none=>rfl
 |some a=>cases a with
  |sl t k xs=>cases t<;>rfl
  |_=>rfl
theorem rT {n s o:Nat} {cs:List AV}:fK (some n) s o cs=if o+n≤cs.length∧bz ((cs.drop o).take n) then some (.agg (((cs.drop o).take n).map AV.aR)) else none:=rfl
theorem Sc {x:Ar} {n:Option Nat}:UG P L N n0 ⟨d, .CQ x n,g⟩ r t Q e ah (some true)=US P L N n0 r t Q (aN L ⟨d, .CQ x n,none⟩ e ah):=by simp only [UG,l6 L d _ g]
theorem Tj {a x:Ar} {n:Nat}:UG P L N n0 ⟨d, .st a x n,g⟩ r t Q e ah (some true)=US P L N n0 r t Q (aN L ⟨none, .st a x n,none⟩ e ah):=by simp only [UG,aN]
theorem MI {op:BinOp} {x y:Ar}:UG P L N n0 ⟨d, .bin op x y,g⟩ r t Q e ah (some true)=US P L N n0 r t Q ((aH op (ev e x) (ev e y)).map fun a=>(au L e d a,ah)):=rfl
theorem Pr {neq:Bool} {x y:Ar}:UG P L N n0 ⟨d, .bq neq x y,g⟩ r t Q e ah (some true)=US P L N n0 r t Q ((zD (ev e x) (ev e y)).map fun b=>(au L e d (.bool (if neq then !b else b)),ah)):=rfl
theorem Pt {neq:Bool} {x y:Ar}:UG P L N n0 ⟨d, .pq neq x y,g⟩ r t Q e ah (some true)=US P L N n0 r t Q ((zE (ev e x) (ev e y)).map fun b=>(au L e d (.bool (if neq then !b else b)),ah)):=rfl
def LL (L:List Nat) (e:Env) (ah:AH) (d:Option Nat) (ks:List Pk) (neq:Bool):AV→AV→Option (Env×AH)
 | .agg zq, .agg bs=>(bp ks zq bs).map fun b=>(au L e d (.bool (if neq then !b else b)),ah)
 |_,_=>none
theorem MJ {ks:List Pk} {neq:Bool} {x y:Ar}:UG P L N n0 ⟨d, .seq ks neq x y,g⟩ r t Q e ah (some true)=US P L N n0 r t Q (LL L e ah d ks neq (ev e x) (ev e y)):=by
 simp only [UG,aN];cases ev e x<;>cases ev e y<;>rfl
theorem Pu {op:UnOp} {x:Ar}:UG P L N n0 ⟨d, .un op x,g⟩ r t Q e ah (some true)=US P L N n0 r t Q ((zG op (ev e x)).map fun a=>(au L e d a,ah)):=rfl
def Cj (L:List Nat) (e:Env) (ah:AH) (d:Option Nat) (p n:Nat) (cs:List AV):Option (Env×AH):=
 if p+n≤cs.length then (bytesOf ((cs.drop p).take n)).map fun l=>(au L e d (.str l),ah) else none
def GK (L:List Nat) (e:Env) (ah:AH) (d:Option Nat) (p n:Nat):Option (List AV)→Option (Env×AH)
 |some cs=>Cj L e ah d p n cs
 |none=>none
def rU (L:List Nat) (e:Env) (ah:AH) (d:Option Nat) (h:Cv):AV→Option (Env×AH)
 | .bu s k p n=>match h with
   | .bs=>if k=1 then GK L e ah d p n (ah[s]?) else none
   |h=>(cO h (.bu s k p n)).map fun a=>(au L e d a,ah)
 |a=>(cO h a).map fun a=>(au L e d a,ah)
theorem MK {h:Cv} {x:Ar}:UG P L N n0 ⟨d, .eZ h x,g⟩ r t Q e ah (some true)=US P L N n0 r t Q (rU L e ah d h (ev e x)):=by
 simp only [UG,aN]
 congr 1
 cases ev e x with
 |bu s k p n=>
  cases h with
  |bs=>
   simp only [rU]
   split
   · cases ah[s]? <;>rfl
   · rfl
  |_=>rfl
 |_=>cases h<;>rfl
theorem Kn {x:Ar}:UG P L N n0 ⟨d, .qm x,g⟩ r t Q e ah (some true)=US P L N n0 r t Q ((cO .bs (ev e x)).map fun a=>(au L e d a,ah)):=rfl
def GL (L:List Nat) (e:Env) (ah:AH) (d:Option Nat):AV→Option (Env×AH)
 | .str l=>some (au L e d (.bu ah.length 1 0 l.length),ah++[l.map b8])
 |_=>none
theorem Ko {x:Ar}:UG P L N n0 ⟨d, .jh x,g⟩ r t Q e ah (some true)=US P L N n0 r t Q (GL L e ah d (ev e x)):=by
 simp only [UG,aN];cases ev e x<;>rfl
theorem Pv {neq:Bool} {x y:Ar}:UG P L N n0 ⟨d, .iq neq x y,g⟩ r t Q e ah (some true)=US P L N n0 r t Q ((zF (ev e x) (ev e y)).map fun b=>(au L e d (.bool (if neq then !b else b)),ah)):=rfl
theorem Pw {mx:Bool} {x y:Ar}:UG P L N n0 ⟨d, .mm mx x y,g⟩ r t Q e ah (some true)=US P L N n0 r t Q ((xd mx (ev e x) (ev e y)).map fun a=>(au L e d a,ah)):=rfl
theorem ML {f:Nat} {cs:List Ar}:UG P L N n0 ⟨d, .Jt f cs,g⟩ r t Q e ah (some true)=U P L N n0 (It.ops r::t) Q Exit.normal (au L e d (.fn f (cs.map (ev e)))) ah:=rfl
def lu:AV→Option Nat
 | .int _ i=>if 0≤i then some i.toNat else none
 |_=>none
theorem Sd {dflt:Nat}:fZ e dflt none=some dflt:=rfl
theorem GM {dflt:Nat} {x:Ar}:fZ e dflt (some x)=lu (ev e x):=by
 simp only [fZ];cases ev e x<;>rfl
def Ck (L:List Nat) (e:Env) (ah:AH) (d:Option Nat) (l:List UInt8):Option Nat→Option Nat→Option (Env×AH)
 |some i,some j=>if i≤j∧j≤l.length then some (au L e d (.str ((l.take j).drop i)),ah) else none
 |_,_=>none
def Cm (L:List Nat) (e:Env) (ah:AH) (d:Option Nat) (lo hi:Option Ar):AV→Option (Env×AH)
 | .str l=>Ck L e ah d l (fZ e 0 lo) (fZ e l.length hi)
 |_=>none
theorem MM {x:Ar} {lo hi:Option Ar}:UG P L N n0 ⟨d, .uI x lo hi,g⟩ r t Q e ah (some true)=US P L N n0 r t Q (Cm L e ah d lo hi (ev e x)):=by
 simp only [UG,aN]
 cases ev e x with
 |str l=>simp only [Cm,Ck];cases fZ e 0 lo<;>cases fZ e l.length hi<;>rfl
 |_=>rfl
def Cn (L:List Nat) (e:Env) (ah:AH) (d:Option Nat) (k k':Nat) (xs:List AV):Option Nat→Option Nat→Option (Env×AH)
 |some i,some j=>if k'=k∧i≤j∧j≤xs.length then some (au L e d (.sl .n k ((xs.take j).drop i)),ah) else none
 |_,_=>none
def Co (L:List Nat) (e:Env) (ah:AH) (d:Option Nat) (k:Nat) (lo hi:Option Ar):AV→Option (Env×AH)
 | .sl _ k' xs=>Cn L e ah d k k' xs (fZ e 0 lo) (fZ e xs.length hi)
 |_=>none
theorem MN {k:Nat} {x:Ar} {lo hi:Option Ar}:UG P L N n0 ⟨d, .slc k x lo hi none,g⟩ r t Q e ah (some true)=US P L N n0 r t Q (Co L e ah d k lo hi (ev e x)):=by
 simp only [UG,aN]
 cases ev e x with
 |sl t k' xs=>simp only [Co,Cn];cases fZ e 0 lo<;>cases fZ e xs.length hi<;>rfl
 |_=>rfl
def ve (L:List Nat) (e:Env) (ah:AH) (d:Option Nat) (k k':Nat) (xs:List AV):Option Nat→Option Nat→Option Nat→Option (Env×AH)
 |some i,some j,some m=>if k'=k∧i≤j∧j=m∧m≤xs.length then some (au L e d (.sl .ex k ((xs.take j).drop i)),ah) else none
 |_,_,_=>none
def vf (L:List Nat) (e:Env) (ah:AH) (d:Option Nat) (k:Nat) (lo:Option Ar) (hi m:Ar):AV→Option (Env×AH)
 | .sl _ k' xs=>ve L e ah d k k' xs (fZ e 0 lo) (fZ e xs.length (some hi)) (fZ e 0 (some m))
 |_=>none
theorem Kp {k:Nat} {x:Ar} {lo:Option Ar} {hi m:Ar}:UG P L N n0 ⟨d, .slc k x lo (some hi) (some m),g⟩ r t Q e ah (some true)=US P L N n0 r t Q (vf L e ah d k lo hi m (ev e x)):=by
 simp only [UG,aN]
 cases ev e x with
 |sl t k' xs=>
  simp only [vf,ve]
  cases fZ e 0 lo with
  |none=>rfl
  |some i=>
   cases fZ e xs.length (some hi) with
   |none=>rfl
   |some j=>
    simp only [Option.isNone_some,Bool.false_eq_true,if_false]
    cases fZ e 0 (some m)<;>rfl
 |_=>rfl
def Cp (L:List Nat) (e:Env) (ah:AH) (d:Option Nat) (k k':Nat):Option AV→Option (Env×AH)
 |some a=>if k'=k then some (au L e d (.ep a 0),ah) else none
 |none=>none
def oE (L:List Nat) (e:Env) (ah:AH) (d:Option Nat) (k:Nat):AV→AV→Option (Env×AH)
 | .sl _ k' xs, .int _ i=>if 0≤i then Cp L e ah d k k' (xs[i.toNat]?) else none
 | .bu s k' p n, .int _ i=>if 0≤i∧i<n∧k'=k then some (au L e d (.ptr s (p+i.toNat*k)),ah) else none
 | .aZ s k' n _, .int _ i=>if 0≤i∧i<n∧k'=k then some (au L e d (.ptr s (i.toNat*k)),ah) else none
 |_,_=>none
def xL (L:List Nat) (e:Env) (ah:AH) (d:Option Nat) (k m:Nat):AV→AV→Option (Env×AH)
 | .ptr s p, .int _ i=>if 0≤i∧i<m then some (au L e d (.ptr s (p+i.toNat*k)),ah) else none
 | .ep a p, .int _ i=>if 0≤i∧i<m then some (au L e d (.ep a (p+i.toNat*k)),ah) else none
 |_,_=>none
theorem MO {k m:Nat} {x i:Ar}:UG P L N n0 ⟨d, .FH k m x i,g⟩ r t Q e ah (some true)=US P L N n0 r t Q (xL L e ah d k m (ev e x) (ev e i)):=by
 simp only [UG,aN]
 cases ev e x with
 |ptr s p=>cases ev e i<;>rfl
 |ep a p=>cases ev e i<;>rfl
 |_=>cases ev e i<;>rfl
def Cq (L:List Nat) (e:Env) (ah:AH) (d:Option Nat) (u k:Nat) (xs:List AV):AV→Option (Env×AH)
 | .sl .own k2 zs=>if k2=k then some (au L (put e u (.sl .n k2 zs)) d (.sl .own k xs),ah) else none
 |_=>none
def xM (L:List Nat) (e:Env) (ah:AH) (d:Option Nat) (k:Nat):AV→Option (Env×AH)
 | .sl .ex k' []=>if k'=k then some (au L e d (.aZ 0 k 0 0),ah) else none
 | .aZ s k' n c=>some (au L e d (.aZ s k' n c),ah)
 | .sl (.fr (.tmp u)) k' xs=>Cq L e ah d u k' xs (get e u)
 |_=>none
theorem MP {k:Nat} {x:Ar}:UG P L N n0 ⟨d, .kJ k x,g⟩ r t Q e ah (some true)=US P L N n0 r t Q (xM L e ah d k (ev e x)):=by
 simp only [UG,aN]
 cases ev e x with
 |sl t k' xs=>cases t<;>cases xs<;>rfl
 |_=>rfl
theorem MQ {k:Nat} {x i:Ar}:UG P L N n0 ⟨d, .dV k x i,g⟩ r t Q e ah (some true)=US P L N n0 r t Q (oE L e ah d k (ev e x) (ev e i)):=by
 simp only [UG,aN]
 cases ev e x with
 |sl t k' xs=>cases ev e i with
  |int ki n=>simp only [oE,Cp];cases xs[n.toNat]? <;>rfl
  |_=>rfl
 |bu s k' p n=>cases ev e i<;>rfl
 |aZ s k' n c=>cases ev e i<;>rfl
 |_=>cases ev e i<;>rfl
def GN (L:List Nat) (e:Env) (ah:AH) (d:Option Nat):Option UInt8→Option (Env×AH)
 |some c=>some (au L e d (b8 c),ah)
 |none=>none
def xN (L:List Nat) (e:Env) (ah:AH) (d:Option Nat):AV→AV→Option (Env×AH)
 | .str l, .int _ i=>if 0≤i then GN L e ah d (l[i.toNat]?) else none
 |_,_=>none
theorem MR {x i:Ar}:UG P L N n0 ⟨d, .ixs x i,g⟩ r t Q e ah (some true)=US P L N n0 r t Q (xN L e ah d (ev e x) (ev e i)):=by
 simp only [UG,aN]
 cases ev e x with
 |str l=>cases ev e i with
  |int ki n=>simp only [xN,GN];cases l[n.toNat]? <;>rfl
  |_=>rfl
 |_=>cases ev e i<;>rfl
theorem Ro {l:List UInt8} {i j:Nat}:Ck L e ah d l (some i) (some j)=if i≤j∧j≤l.length then some (au L e d (.str ((l.take j).drop i)),ah) else none:=rfl
theorem Rp {k k' i j:Nat} {xs:List AV}:Cn L e ah d k k' xs (some i) (some j)=if k'=k∧i≤j∧j≤xs.length then some (au L e d (.sl .n k ((xs.take j).drop i)),ah) else none:=rfl
theorem Px {k k' i j m:Nat} {xs:List AV}:ve L e ah d k k' xs (some i) (some j) (some m)=if k'=k∧i≤j∧j=m∧m≤xs.length then some (au L e d (.sl .ex k ((xs.take j).drop i)),ah) else none:=rfl
theorem Rq {k k':Nat} {a:AV}:Cp L e ah d k k' (some a)=if k'=k then some (au L e d (.ep a 0),ah) else none:=rfl
theorem Rr {c:UInt8}:GN L e ah d (some c)=some (au L e d (b8 c),ah):=rfl
theorem MS {n:Option Nat} {s p:Nat} {cs:List AV}:Km L d n s p e ah (some cs)=(fK n s p cs).map fun a=>(au L e d a,ah):=rfl
theorem MT {c:AV}:Dq L d e ah (some c)=if c.flat then some (au L e d c.s1,ah) else none:=rfl
theorem Rs {α:Type} {c:Prop} [Decidable c] {x:Option α} (h:c):(if c then x else none)=x:=by rw [if_pos h]
theorem Py {α:Type} {c:Prop} [Decidable c] {x:Option α} (h:¬c):(if c then none else x)=x:=by rw [if_neg h]
theorem Se {x:Ar} {i:Nat}:UG P L N n0 ⟨d, .ext x i,g⟩ r t Q e ah (some true)=US P L N n0 r t Q (aN L ⟨d, .ext x i,none⟩ e ah):=by simp only [UG,l6 L d _ g]
theorem Sf {x:Ar}:UG P L N n0 ⟨d, .len x,g⟩ r t Q e ah (some true)=US P L N n0 r t Q (aN L ⟨d, .len x,none⟩ e ah):=by simp only [UG,l6 L d _ g]
theorem Rt {x:Ar}:UG P L N n0 ⟨d, .lens x,g⟩ r t Q e ah (some true)=US P L N n0 r t Q (aN L ⟨d, .lens x,none⟩ e ah):=by simp only [UG,l6 L d _ g]
def GP (L:List Nat) (e:Env) (ah:AH) (d:Option Nat) (k b:Nat) (x:Ar):AV→Option (Env×AH)
 | .sl _ k' ys=>if k'=k then mW L e ah d k b x ys else none
 |_=>none
theorem MU {k b:Nat} {x y:Ar}:UG P L N n0 ⟨d, .app k b x y,g⟩ r t Q e ah (some true)=US P L N n0 r t Q (GP L e ah d k b x (ev e y)):=by
 simp only [UG,aN];cases ev e y<;>rfl
def GQ (L:List Nat) (e:Env) (ah:AH) (d:Option Nat) (b:Nat) (x:Ar):AV→Option (Env×AH)
 | .str l=>mW L e ah d 1 b x (l.map b8)
 |_=>none
theorem Kq {b:Nat} {x y:Ar}:UG P L N n0 ⟨d, .apps b x y,g⟩ r t Q e ah (some true)=US P L N n0 r t Q (GQ L e ah d b x (ev e y)):=by
 simp only [UG,aN];cases ev e y<;>rfl
theorem Kr {f:Ar} {zq:List Ar}:UG P L N n0 ⟨d, .call f zq,g⟩ r t Q e ah (some true)=UF P L N n0 zq d r t Q e ah (ev e f):=rfl
theorem Pz {o:aA} {b:Bool}:UG P L N n0 o r t Q e ah (some b)=if b then (UG P L N n0 o r t Q e ah (some true)) else U P L N n0 (.ops r::t) Q .normal (iJ e o.d) ah:=by
 cases b<;>rfl
theorem OF {o:aA} {b:Bool} (h1:b=true→UG P L N n0 o r t Q e ah (some true)) (h2:b=false→U P L N n0 (.ops r::t) Q .normal (iJ e o.d) ah):UG P L N n0 o r t Q e ah (some b):=by
 cases b
 · exact h2 rfl
 · exact h1 rfl
end
end Go.Am
namespace Go.Am
open Go
variable [Tabs]
theorem ga.set {n:Nat} {ah:AH} (h:ga n ah) {s:Nat} {cs:List AV} (hc:∀a∈cs,Cl n a):ga n (ah.set s cs):=by
 intro t ds ht a ha
 rw [List.getElem?_set] at ht
 split at ht
 · split at ht
   · injection ht with ht;subst ht;exact hc a ha
   · cases ht
 · exact h t ds ht a ha
theorem z6.old {P:Program} {n:Nat} {rs:List ResultVar} {R:AV→AH→Prop} {x:Exit} {e:Env} {ah:AH} {vs:List AV} (hx:x= .normal∨x= .ret) (hr:dB P e ah rs=some vs)
 (hc:Cl n (fin vs)) (hh:ga n ah) (hn:ah.length=n) (h:R (fin vs) ah):z6 P n rs R x e ah:=by
 refine ⟨hx, ?_⟩
 rw [hr]
 have:ah.take n=ah:=List.take_of_length_le (by omega)
 simp only [this]
 exact ⟨hc,hh,by omega,h⟩
theorem TH {n:Int} (h1: -9223372036854775808≤n) (h2:n≤9223372036854775807):IntKind.wrap .i64 n=n:=by
 simp only [IntKind.wrap,IntKind.bits,IntKind.signed,Bool.true_and,decide_eq_true_eq,Int.reducePow,Nat.reduceSub,ge_iff_le]
 split<;>omega
theorem w8 {n:Int} (h1:0≤n) (h2:n≤255):IntKind.wrap .u8 n=n:=by
 simp only [IntKind.wrap,IntKind.bits,IntKind.signed,Bool.false_and,if_false,Bool.false_eq_true]
 omega
theorem LM {j:Nat}:((j:Int)+1).toNat=j+1:=by omega
theorem Sg {P:Program} {L:List Nat} {N n0:Nat} {t:List It} {Q:Exit→Env→AH→Prop} {r:List aA} {c:Prop} [Decidable c] {x:Option (Env×AH)} (h:c):
 US P L N n0 r t Q (if c then x else none)=US P L N n0 r t Q x:=by rw [if_pos h]
theorem map_if {α β:Type} {f:α→β} {c:Prop} [Decidable c] {x:Option α} (h:c):Option.map f (if c then x else none)=Option.map f x:=by rw [if_pos h]
theorem xO {L:List Nat} {d:Option Nat} {k b:Nat} {x y:Ar} {e:Env} {ah:AH} {K K':Env→AH→Prop} (h:iC L d k b x y e ah K) (hk:∀e ah,K e ah→K' e ah):iC L d k b x y e ah K':=by
 unfold iC at h ⊢
 split at h
 · obtain ⟨h1,h2,h3,h4,h5,h6⟩:=h
   refine ⟨h1,h2,h3,h4,h5, ?_⟩
   rcases h6 with ⟨g1,g2,g3⟩|⟨cs,g1,g2,g3,g4,g5,g6,g7⟩
   · exact .inl ⟨g1,g2,fun c hc=>hk _ _ (g3 c hc)⟩
   · exact .inr ⟨cs,g1,g2,g3,g4,g5,fun h=>hk _ _ (g6 h),fun h c hc=>hk _ _ (g7 h c hc)⟩
 · exact h
theorem Dr {L:List Nat} {d:Option Nat} {n:Bool} {x:Ar} {e:Env} {ah:AH} {K K':Env→AH→Prop} (h:ri L d n x e ah K) (hk:∀e ah,K e ah→K' e ah):ri L d n x e ah K':=by
 unfold ri at h ⊢
 split at h
 · exact ⟨fun h0 b=>hk _ _ (h.1 h0 b),fun h0=>hk _ _ (h.2 h0)⟩
 · exact h
theorem Aa {P:Program} {L:List Nat}:∀(l:List aA) {K K':Env→AH→Prop} {e:Env} {ah:AH},b6 P L l e ah K→(∀e ah,K e ah→K' e ah)→b6 P L l e ah K':=by
 intro l
 induction l with
 |nil=>intro K K' e ah h hk;exact hk _ _ h
 |cons o r ih=>
  intro K K' e ah h hk
  simp only [b6] at h ⊢
  split at h
  · rename_i hg
    obtain ⟨d,op,g⟩:=o
    cases op with
    |call f zq=>
     simp only [oC] at h ⊢
     split at h
     · exact ⟨h.1,h.2.mono fun v aq h=>ih h hk⟩
     · exact h
    |fy k b x y=>
     have h':iC L d k b x y e ah (fun e ah=>b6 P L r e ah K):=h
     exact xO h' fun e ah h=>ih h hk
    |nq n x=>
     have h':ri L d n x e ah (fun e ah=>b6 P L r e ah K):=h
     exact Dr h' fun e ah h=>ih h hk
    |_=>
     simp only [oC] at h ⊢
     split at h
     · exact ih h hk
     · exact h
  · exact ih h hk
  · exact h
theorem xP {P:Program} {L:List Nat} {N n0:Nat}:∀(c:az) {Q Q':Exit→Env→AH→Prop} {e:Env} {ah:AH},eW P L N n0 c Q e ah→(∀x e ah,Q x e ah→Q' x e ah)→eW P L N n0 c Q' e ah:=by
 intro c
 induction c with
 |skip=>intro Q Q' e ah h hq;exact hq _ _ _ h
 |ret=>intro Q Q' e ah h hq;exact hq _ _ _ h
 |exit i=>intro Q Q' e ah h hq;exact hq _ _ _ h
 |rg ops=>intro Q Q' e ah h hq;exact Aa ops h fun e ah h=>hq _ _ _ h
 |seq a b rQ rR=>
  intro Q Q' e ah h hq
  refine rQ h fun x e ah h=> ?_
  cases x with
  |normal=>exact rR h hq
  |_=>exact hq _ _ _ h
 |cond c a b rQ rR=>
  intro Q Q' e ah h hq
  simp only [eW] at h ⊢
  split at h
  · split at h
    · rename_i h1;rw [if_pos h1];exact rQ h hq
    · rename_i h1;rw [if_neg h1];exact rR h hq
  · exact h.elim
 |blk i c ih=>
  intro Q Q' e ah h hq
  refine ih h fun x e ah h=> ?_
  cases x with
  |exit j=>
   simp only at h ⊢
   split at h
   · rename_i h1;rw [if_pos h1];exact hq _ _ _ h
   · rename_i h1;rw [if_neg h1];exact hq _ _ _ h
  |_=>exact hq _ _ _ h
 |loop c ih=>
  intro Q Q' e ah h hq
  exact fun c' bk=>(h c' bk).mono hq
 |sem c ih=>
  intro Q Q' e ah h hq
  exact fun c' bk=>(h c' bk).mono hq
theorem Ks {P:Program} {L:List Nat} {N n0:Nat} {c:az} {Q Q':Exit→Env→AH→Prop} {e:Env} {ah:AH} (h:U P L N n0 [.code c] Q .normal e ah) (hq:∀x e ah,Q x e ah→Q' x e ah):U P L N n0 [.code c] Q' .normal e ah:=
 xP c h hq
theorem GR {e e2:Env} (h:∀p∈e2,p.2= .un∨Am.get e p.1=p.2∨∃t k xs,Am.get e p.1= .sl t k xs∧p.2= .sl .n k xs):∀t,Wk (Am.get e t) (Am.get e2 t):=by
 intro t
 have key:∀e2:Env,Am.get e2 t= .un∨∃p∈e2,p.1=t∧Am.get e2 t=p.2:=by
  intro e2
  induction e2 with
  |nil=>exact .inl rfl
  |cons p r ih=>
   obtain ⟨i,a⟩:=p
   simp only [Am.get]
   split
   · rename_i h;exact .inr ⟨(i,a),by simp,h,rfl⟩
   · rcases ih with h|⟨p,hp,h1,h2⟩
     · exact .inl h
     · exact .inr ⟨p,List.mem_cons_of_mem _ hp,h1,h2⟩
 rcases key e2 with h0|⟨p,hp,rfl,h2⟩
 · rw [h0];exact .un _
 · rw [h2]
   rcases h p hp with h3|h3|⟨tg,k,xs,h3,h4⟩
   · rw [h3];exact .un _
   · rw [h3];exact .same _
   · rw [h3,h4];exact .n ..
def pR (e e2:Env):Prop:=∀p∈e2,p.2= .un∨Am.get e p.1=p.2∨∃t k xs,Am.get e p.1= .sl t k xs∧p.2= .sl .n k xs
theorem Ds {P:Program} {L:List Nat} {N n0:Nat} {e:Env} {ah:AH} {t:List It} {Q:Exit→Env→AH→Prop} {c:az} (J:Nat→Env→AH→Prop) (k0:Nat) (e0:Env) (ho:jf N c=true)
 (hw:∀p∈e0,p.2= .un∨Am.get e p.1=p.2∨∃t k xs,Am.get e p.1= .sl t k xs∧p.2= .sl .n k xs) (h0:J k0 e0 ah)
 (round:∀k e ah,J k e ah→U P L N n0 [.code c] (fun x e' aq=>match x with
  | .normal=>∃k' e2,k'<k∧(∀p∈e2,p.2= .un∨Am.get e' p.1=p.2∨∃t k xs,Am.get e' p.1= .sl t k xs∧p.2= .sl .n k xs)∧J k' e2 aq
  |x=>U P L N n0 t Q x e' aq) .normal e ah):
 UX P L N n0 (.loop c) t Q e ah:=by
 intro c'
 induction c' with
 |loop c0 _=>
  intro bk
  simp only [aO,Option.map_eq_some_iff] at bk
  obtain ⟨a,ha,he⟩:=bk
  injection he with he
  subst he
  refine AW.loop (fun k e ah=>∃e1,(∀t,Wk (Am.get e t) (Am.get e1 t))∧J k e1 ah) (k0:=k0) ?_ ⟨e0,GR hw,h0⟩
  rintro k e ah ⟨e1,hw1,hJ⟩
  refine AW.weak hw1 (iA c0 a _ e1 ah (by rw [eL c0 a ha];exact ha) (by rw [eL c0 a ha];exact ho) ?_)
  have:=round k e1 ah hJ
  refine Ks this fun x e' aq h=> ?_
  cases x with
  |normal=>obtain ⟨k',e2,h1,h2,h3⟩:=h;exact ⟨k',h1,e2,GR h2,h3⟩
  |_=>exact h
 |scope c0 ih=>exact fun bk=>AW.scope (ih bk)
 |region id ops draw=>intro bk;simp only [aO] at bk;repeat' (split at bk)<;>simp at bk
 |block i c0=>intro bk;simp only [aO,Option.map_eq_some_iff] at bk;obtain ⟨a, -,h⟩:=bk;cases h
 |seq a b=>intro bk;simp only [aO] at bk;split at bk<;>simp at bk
 |cond a b c=>intro bk;simp only [aO] at bk;split at bk<;>simp at bk
 |_=>intro bk;simp [aO] at bk
theorem OG {P:Program} {L:List Nat} {N n0:Nat} {e:Env} {ah:AH} {t:List It} {Q:Exit→Env→AH→Prop} {c:az} (J:Nat→Env→AH→Prop) (k0:Nat) (e0:Env) (ho:jf N c=true)
 (hw:pR e e0) (h0:J k0 e0 ah)
 (round:∀(K:Exit→Env→AH→Prop) k e ah,J k e ah→(∀k' e' e2 aq,k'<k→pR e' e2→J k' e2 aq→K .normal e' aq)→(∀e' aq,U P L N n0 t Q .ret e' aq→K .ret e' aq)→
  (∀i e' aq,U P L N n0 t Q (.exit i) e' aq→K (.exit i) e' aq)→U P L N n0 [.code c] K .normal e ah):UX P L N n0 (.loop c) t Q e ah:=
 Ds J k0 e0 ho hw h0 fun k e ah hJ=>round _ k e ah hJ (fun k' e' e2 aq h1 h2 h3=>⟨k',e2,h1,h2,h3⟩) (fun _ _ h=>h) (fun _ _ _ h=>h)
theorem pR.nil {e:Env}:pR e []:=by intro p hp;cases hp
theorem pR.same {e r:Env} {i:Nat} {a:AV} (h:Am.get e i=a) (hr:pR e r):pR e ((i,a)::r):=by
 intro p hp
 rcases List.mem_cons.1 hp with rfl|hp
 · exact .inr (.inl h)
 · exact hr p hp
theorem pR.un {e r:Env} {i:Nat} (hr:pR e r):pR e ((i, .un)::r):=by
 intro p hp
 rcases List.mem_cons.1 hp with rfl|hp
 · exact .inl rfl
 · exact hr p hp
theorem pR.sl {e r:Env} {i k:Nat} {tg:Tg} {xs:List AV} (h:Am.get e i= .sl tg k xs) (hr:pR e r):pR e ((i, .sl .n k xs)::r):=by
 intro p hp
 rcases List.mem_cons.1 hp with rfl|hp
 · exact .inr (.inr ⟨_,_,_,h,rfl⟩)
 · exact hr p hp
theorem aC.weak {P:Program} {f:Nat} {args args':List AV} {ah:AH} {R:AV→AH→Prop} (hl:args'.length=args.length) (hw:∀(i:Nat) (a a':AV),args[i]? =some a→args'[i]? =some a'→Wk a a') (h:aC P f args' ah R):
 aC P f args ah R:=by
 refine ⟨h.1,fun F γ C w vs hs=>h.2 F γ C w vs ?_⟩
 rw [hl]
 refine hs.wk fun t=> ?_
 rw [cm,cm]
 simp only [Nat.zero_le,if_true,Nat.sub_zero]
 cases h1:args[t]? with
 |none=>
  have:args'[t]? =none:=by
   rw [List.getElem?_eq_none_iff] at h1 ⊢
   omega
  rw [this];exact .same _
 |some a=>
  have hlt:t<args'.length:=by rw [hl];exact (List.getElem?_eq_some_iff.1 h1).1
  rw [List.getElem?_eq_getElem hlt]
  exact hw t a _ h1 (List.getElem?_eq_getElem hlt)
theorem xQ:∀l:List UInt8,bytesOf (l.map b8)=some l:=by
 intro l
 induction l with
 |nil=>rfl
 |cons c r ih=>
  simp only [List.map_cons,b8,bytesOf]
  rw [ih]
  simp
theorem Dt {ah:AH} {i:Nat} {x:List AV} (h:ah[i]? =some x):ah.set i x=ah:=by
 have hlt:=(List.getElem?_eq_some_iff.1 h).1
 apply List.ext_getElem?
 intro j
 rw [List.getElem?_set]
 split
 · rename_i hj;subst hj;simp only [h,ite_eq_left_iff];try exact fun h0=>absurd hlt h0
 · rfl
theorem z6.new {P:Program} {n:Nat} {rs:List ResultVar} {R:AV→AH→Prop} {x:Exit} {e:Env} {ah aq:AH} {vs:List AV} (hx:x= .normal∨x= .ret) (hr:dB P e ah rs=some vs) (ht:ah.take n=aq)
 (hc:Cl n (fin vs)) (hh:ga n aq) (hn:n≤ah.length) (h:R (fin vs) aq):z6 P n rs R x e ah:=by
 refine ⟨hx, ?_⟩
 rw [hr]
 simp only [ht]
 exact ⟨hc,hh,hn,h⟩
theorem pS {P:Program} {e:Env} {ah:AH}:dB P e ah []=some []:=rfl
theorem mL {P:Program} {e:Env} {ah:AH} {t:Nat} {rs:List ResultVar} {a:AV} {vs:List AV} (h:Am.get e t=a) (ht:a.cw=false) (hr:dB P e ah rs=some vs):dB P e ah (.tmp t::rs)=some (a::vs):=by
 subst h
 simp only [dB,ht,hr,Bool.false_eq_true,if_false]
theorem rV {P:Program} {e:Env} {ah:AH} {a:Nat} {ty:TypeId} {n:Option Nat} {rs:List ResultVar} {s o:Nat} {cs vs:List AV} {v:AV} (ht:tok P ty=true) (hn:tn P ty=n) (h:Am.get e a= .ptr s o) (hs:ah[s]? =some cs)
 (hl:fK n s o cs=some v) (hr:dB P e ah rs=some vs):dB P e ah (.cell a ty::rs)=some (v.sh::vs):=by
 subst hn
 simp only [dB,ht,if_true,h,hs,hl,hr]
theorem aC.TI {P:Program} {f:Nat} {args:List AV} {ah:AH} {R R':AV→AH→Prop} (h:aC P f args ah R) (hr:∀r aq,R r aq→∃r',Wk r r'∧R' r' aq):aC P f args ah R':=by
 refine ⟨h.1,fun F γ C w vs hs=>(h.2 F γ C w vs hs).mono ?_⟩
 rintro en w' ⟨r,v,aq,γ',C',rfl,h1,h2,h3,h4⟩
 obtain ⟨r',g1,g2⟩:=hr r aq h1
 refine ⟨r',v,aq,γ',C',rfl,g2,h2,h3.wk fun t=> ?_,h4⟩
 simp only [Am.get]
 split
 · exact g1
 · exact .same _
theorem Cl.up {n:Nat} {a:AV} (h:Cl n a) {m:Nat} (hm:n≤m):Cl m a:=by
 induction h with
 |ptr s o hs=>exact .ptr _ _ (by omega)
 |fn f cs _ ih=>exact .fn _ _ fun a ha=>ih a ha
 |agg cs _ ih=>exact .agg _ fun a ha=>ih a ha
 |aK cs _ ih=>exact .aK _ fun a ha=>ih a ha
 |v=>exact .v _
 |int=>exact .int ..
 |bool=>exact .bool _
 |str=>exact .str _
 |sl=>exact .sl ..
 |ep=>exact .ep ..
 |bu s k o n hs=>exact .bu _ _ _ _ (by omega)
 |jj=>exact .jj ..
 |aZ s k o n hs=>exact .aZ _ _ _ _ (by omega)
 |bW=>exact .bW
 |un=>exact .un
theorem ga.up {n m:Nat} {ah:AH} (h:ga n ah) (hm:n≤m):ga m ah:=fun s cs hs a ha=>(h s cs hs a ha).up hm
theorem ga.app {n:Nat} {ah j0:AH} (h:ga n ah) (h2:ga n j0):ga n (ah++j0):=by
 intro s cs hs a ha
 rw [List.getElem?_append] at hs
 split at hs
 · exact h s cs hs a ha
 · exact h2 _ cs hs a ha
theorem ga.one {n:Nat} {cs:List AV} (h:∀a∈cs,Cl n a):ga n [cs]:=by
 intro s ds hs a ha
 rcases s with _|s
 · simp at hs;subst hs;exact h a ha
 · simp at hs
end Go.Am
end
section
namespace Go.Am
open Go
variable [Tabs]
def W1 (a a':AV):Prop:=a'=a∨∃t k xs,a= .sl t k xs∧a'= .sl .n k xs
def gR:List AV→List AV→Prop
 |[],[]=>True
 |a::r,a'::r'=>W1 a a'∧gR r r'
 |_,_=>False
theorem gR.len:∀ {cs cs':List AV},gR cs cs'→cs'.length=cs.length:=by
 intro cs
 induction cs with
 |nil=>intro cs' h;cases cs' with|nil=>rfl|cons=>exact h.elim
 |cons a r ih=>intro cs' h;cases cs' with|nil=>exact h.elim|cons a' r'=>simp [ih h.2]
theorem gR.get:∀ {cs cs':List AV},gR cs cs'→∀(i:Nat) (a a':AV),cs[i]? =some a→cs'[i]? =some a'→W1 a a':=by
 intro cs
 induction cs with
 |nil=>intro cs' _ i a a' h;simp at h
 |cons a r ih=>
  intro cs' h i b b' h1 h2
  cases cs' with
  |nil=>exact h.elim
  |cons a' r'=>
   rcases i with _|i
   · simp at h1 h2;subst h1;subst h2;exact h.1
   · exact ih h.2 i b b' (by simpa using h1) (by simpa using h2)
def W2 (a a':AV):Prop:=W1 a a'∨∃ds ds',a= .agg ds∧a'= .agg ds'∧gR ds ds'
def ig:List AV→List AV→Prop
 |[],[]=>True
 |a::r,a'::r'=>W2 a a'∧ig r r'
 |_,_=>False
theorem ig.len:∀ {cs cs':List AV},ig cs cs'→cs'.length=cs.length:=by
 intro cs
 induction cs with
 |nil=>intro cs' h;cases cs' with|nil=>rfl|cons=>exact h.elim
 |cons a r ih=>intro cs' h;cases cs' with|nil=>exact h.elim|cons a' r'=>simp [ih h.2]
theorem ig.get:∀ {cs cs':List AV},ig cs cs'→∀(i:Nat) (a a':AV),cs[i]? =some a→cs'[i]? =some a'→W2 a a':=by
 intro cs
 induction cs with
 |nil=>intro cs' _ i a a' h;simp at h
 |cons a r ih=>
  intro cs' h i b b' h1 h2
  cases cs' with
  |nil=>exact h.elim
  |cons a' r'=>
   rcases i with _|i
   · simp at h1 h2;subst h1;subst h2;exact h.1
   · exact ih h.2 i b b' (by simpa using h1) (by simpa using h2)
theorem W2.wk {a a':AV} (h:W2 a a'):Wk a a':=by
 rcases h with (rfl|⟨t,k,xs,rfl,rfl⟩)|⟨ds,ds',rfl,rfl,h⟩
 · exact .same _
 · exact .n ..
 · exact .agg _ _ h.len h.get
theorem W2.Sh {a a':AV} {v:Value} (h:W2 a a') (ht:uQ a v):uQ a' v:=by
 rcases h with (rfl|⟨t,k,xs,rfl,rfl⟩)|⟨ds,ds',rfl,rfl,h⟩
 · exact ht
 · exact FM ..
 · cases v with
   |agg vs=>
    intro i a' hi
    have hlt:i<ds.length:=by rw [←h.len];exact (List.getElem?_eq_some_iff.1 hi).1
    rcases h.get i _ _ (List.getElem?_eq_getElem hlt) hi with e|⟨t,k,xs,e1,rfl⟩
    · rw [e];exact ht i _ (List.getElem?_eq_getElem hlt)
    · exact uR ..
   |_=>trivial
inductive Wx:AV→AV→Prop
 |wk (a a'):Wk a a'→(∀l k xs,a'≠ .sl (.fr l) k xs)→Wx a a'
 |own (k xs):Wx (.sl .ex k xs) (.sl .own k xs)
 |Cr (cs cs'):ig cs cs'→Wx (.aK cs) (.aK cs')
def mc (cs cs':List AV):Prop:=cs'.length=cs.length∧∀(i:Nat) (a a':AV),cs[i]? =some a→cs'[i]? =some a'→Wx a a'
def dD (ah aq:AH):Prop:=aq.length=ah.length∧∀(s:Nat) (cs':List AV),aq[s]? =some cs'→∃cs,ah[s]? =some cs∧(cs'=cs∨mc cs cs')
def WS (e:Env) (ah:AH) (e1:Env) (aW:AH):Prop:=(∀t,Wx (get e t) (get e1 t))∧dD ah aW
theorem Wx.vr {C:Nat→List Value} {γ:List Nat} {a a':AV} {v:Value} (hw:Wx a a') (h:VR C γ a v):VR C γ a' v:=by
 cases hw with
 |wk _ _ hk=>exact hk.vr h
 |own=>exact h.eV _
 |Cr cs cs' hc=>
  obtain ⟨vs,rfl,hs,hv⟩:=h.lP
  refine .aK _ _ _ (by rw [hc.len];exact hs) fun i a' hi=> ?_
  have hlt:i<cs.length:=by rw [←hc.len];exact (List.getElem?_eq_some_iff.1 hi).1
  exact (hc.get i _ _ (List.getElem?_eq_getElem hlt) hi).wk.vr (hv i _ (List.getElem?_eq_getElem hlt))
theorem Wx.tc {w:World} {C:Nat→List Value} {γ:List Nat} {a a':AV} {v:Value} (hw:Wx a a') (hv:VR C γ a v) (h:TC w C a v):TC w C a' v:=by
 cases hw with
 |wk _ _ hk=>exact hk.tc h
 |own k xs=>
  obtain ⟨ad,c,rfl, -⟩:=hv.cN
  exact .inl h
 |Cr cs cs' hc=>
  obtain ⟨vs,rfl, -, -⟩:=hv.lP
  intro i a' hi
  have hlt:i<cs.length:=by rw [←hc.len];exact (List.getElem?_eq_some_iff.1 hi).1
  exact (hc.get i _ _ (List.getElem?_eq_getElem hlt) hi).Sh (h i _ (List.getElem?_eq_getElem hlt))
theorem Wx.aV {w:World} {C:Nat→List Value} {γ:List Nat} {a a':AV} {v:Value} {b:Nat} (hw:Wx a a') (hv:VR C γ a v) (ht:TC w C a v) (h:aV a' v=some b):Am.aV a v=some b:=by
 cases hw with
 |wk _ _ hk=>exact hk.own h
 |own k xs=>
  obtain ⟨ad,c,rfl, -⟩:=hv.cN
  have hc:c=xs.length:=ht
  subst hc
  cases ad<;>simp [Am.aV] at h
 |Cr=>simp [Am.aV] at h
theorem SR.wx {L N F γ C e ah ts w} (h:SR L N F γ C e ah ts w) {e':Env} {aq:AH} (hw:WS e ah e' aq):SR L N F γ C e' aq ts w:=by
 obtain ⟨he,hl,hh⟩:=hw
 have hb:∀p b,blk γ e' aq ts w p b→blk γ e ah ts w p b:=by
  intro p b hp
  cases p with
  |obj s=>exact hp
  |tmp t=>exact (he t).aV (h.env t).1 (h.env t).2 hp
  |cell s i=>
   obtain ⟨cs',a',b0,h1,h2,h3,h4⟩:=hp
   obtain ⟨cs,g1,g2⟩:=hh s cs' h1
   rcases g2 with rfl|⟨g2,g3⟩
   · exact ⟨_,a',b0,g1,h2,h3,h4⟩
   · have hlt:i<cs.length:=by rw [←g2];exact (List.getElem?_eq_some_iff.1 h2).1
     have h0:cs[i]? =some cs[i]:=List.getElem?_eq_getElem hlt
     refine ⟨cs,cs[i],b0,g1,h0,h3, ?_⟩
     obtain ⟨vs,ty,q1,q2,q3⟩:=h.mem.obj s b0 cs g1 h3
     have hc:(w.cell? ⟨b0,i,none⟩).getD undef=vs.getD i undef:=by
      rw [bQ q1];simp [Array.getD_eq_getD_getElem?]
     rw [hc] at h4 ⊢
     exact (g3 i _ _ h0 h2).aV (q3 i _ h0).1 (q3 i _ h0).2 h4
 refine ⟨⟨by rw [h.mem.len,hl],fun s b cs' h1 h2=> ?_,h.mem.lR,fun s b cs' h1 hne h2=> ?_,fun s b cs' us ty fr h1 h2 h3=> ?_⟩,h.sz,fun t=>⟨(he t).vr (h.env t).1,(he t).tc (h.env t).1 (h.env t).2⟩,fun p q b hp hq=>h.b5 p q b (hb p b hp) (hb q b hq),
  fun p b hp=>h.nf p b (hb p b hp),h.fH,fun t l k xs ht=> ?_⟩
 · obtain ⟨cs,g1,g2⟩:=hh s cs' h1
   obtain ⟨vs,ty,q1,q2,q3⟩:=h.mem.obj s b cs g1 h2
   rcases g2 with rfl|⟨g2,g3⟩
   · exact ⟨vs,ty,q1,q2,q3⟩
   · refine ⟨vs,ty,q1,by omega,fun i a' hi=> ?_⟩
     have hlt:i<cs.length:=by rw [←g2];exact (List.getElem?_eq_some_iff.1 hi).1
     have h0:cs[i]? =some cs[i]:=List.getElem?_eq_getElem hlt
     exact ⟨(g3 i _ _ h0 hi).vr (q3 i _ h0).1,(g3 i _ _ h0 hi).tc (q3 i _ h0).1 (q3 i _ h0).2⟩
 · obtain ⟨cs,g1,g2⟩:=hh s cs' h1
   refine h.mem.lq s b cs g1 ?_ h2
   rintro rfl
   rcases g2 with rfl|⟨g2, -⟩
   · exact hne rfl
   · exact hne (List.eq_nil_of_length_eq_zero g2)
 · obtain ⟨cs,g1,g2⟩:=hh s cs' h1
   have hl':cs'.length=cs.length:=by
    rcases g2 with rfl|⟨g2, -⟩
    · rfl
    · exact g2
   rw [hl']
   exact h.mem.ry s b cs us ty fr g1 h2 h3
 · exfalso
   have:=he t
   rw [ht] at this
   generalize get e t=a at this
   cases this with
   |wk _ _ _ hn=>exact hn l k xs rfl
theorem dD.refl (ah:AH):dD ah ah:=⟨rfl,fun s cs h=>⟨cs,h, .inl rfl⟩⟩
theorem dD.set {ah:AH} {q:Nat} {cs cs':List AV} (hq:ah[q]? =some cs) (hc:mc cs cs'):dD ah (ah.set q cs'):=by
 refine ⟨by simp,fun s ds hs=> ?_⟩
 rw [List.getElem?_set] at hs
 split at hs
 · rename_i h;subst h
   split at hs
   · injection hs with hs;subst hs;exact ⟨cs,hq, .inr hc⟩
   · cases hs
 · exact ⟨ds,hs, .inl rfl⟩
theorem Wx.un (a:AV):Wx a .un:= .wk _ _ (.un _) (by simp)
theorem Wx.n {t:Tg} {k:Nat} {xs:List AV}:Wx (.sl t k xs) (.sl .n k xs):= .wk _ _ (.n ..) (by simp)
theorem Wx.same {a:AV} (h:∀l k xs,a≠ .sl (.fr l) k xs):Wx a a:= .wk _ _ (.same _) h
theorem Wx.int {k:IntKind} {i:Int}:Wx (.int k i) (.int k i):= .same (by simp)
theorem Wx.b8 {c:UInt8}:Wx (b8 c) (b8 c):= .same (by simp [Am.b8])
theorem Wx.bool {b:Bool}:Wx (.bool b) (.bool b):= .same (by simp)
theorem Wx.str {l:List UInt8}:Wx (.str l) (.str l):= .same (by simp)
theorem Wx.ptr {s o:Nat}:Wx (.ptr s o) (.ptr s o):= .same (by simp)
theorem Wx.v {x:Value}:Wx (.v x) (.v x):= .same (by simp)
theorem Wx.fn {f:Nat} {cs:List AV}:Wx (.fn f cs) (.fn f cs):= .same (by simp)
theorem Wx.ep {a:AV} {o:Nat}:Wx (.ep a o) (.ep a o):= .same (by simp)
theorem Wx.ex {k:Nat} {xs:List AV}:Wx (.sl .ex k xs) (.sl .ex k xs):= .same (by simp)
theorem Wx.nn {k:Nat} {xs:List AV}:Wx (.sl .n k xs) (.sl .n k xs):= .same (by simp)
theorem Wx.oo {k:Nat} {xs:List AV}:Wx (.sl .own k xs) (.sl .own k xs):= .same (by simp)
theorem Wx.agg {cs cs':List AV} (h:gR cs cs'):Wx (.agg cs) (.agg cs'):= .wk _ _ (.agg _ _ h.len h.get) (by simp)
theorem Wx.aK {cs cs':List AV} (h:gR cs cs'):Wx (.aK cs) (.aK cs'):= .wk _ _ (.aK _ _ h.len h.get) (by simp)
theorem Wx.PA {cs cs':List AV} (h:ig cs cs'):Wx (.aK cs) (.aK cs'):= .Cr _ _ h
theorem ig.nil:ig [] []:=trivial
theorem ig.same {a:AV} {r r':List AV} (h:ig r r'):ig (a::r) (a::r'):=⟨.inl (.inl rfl),h⟩
theorem ig.n {t:Tg} {k:Nat} {xs:List AV} {r r':List AV} (h:ig r r'):ig (.sl t k xs::r) (.sl .n k xs::r'):=⟨.inl (.inr ⟨_,_,_,rfl,rfl⟩),h⟩
theorem ig.agg {ds ds':List AV} {r r':List AV} (hd:gR ds ds') (h:ig r r'):ig (.agg ds::r) (.agg ds'::r'):=⟨.inr ⟨_,_,rfl,rfl,hd⟩,h⟩
theorem gR.nil:gR [] []:=trivial
theorem gR.same {a:AV} {r r':List AV} (h:gR r r'):gR (a::r) (a::r'):=⟨.inl rfl,h⟩
theorem gR.n {t:Tg} {k:Nat} {xs:List AV} {r r':List AV} (h:gR r r'):gR (.sl t k xs::r) (.sl .n k xs::r'):=⟨.inr ⟨_,_,_,rfl,rfl⟩,h⟩
theorem mc.nil:mc [] []:=⟨rfl,fun i a a' h=>by simp at h⟩
theorem mc.cons {a a':AV} {r r':List AV} (h:Wx a a') (hr:mc r r'):mc (a::r) (a'::r'):=by
 refine ⟨by simp [hr.1],fun i b b' h1 h2=> ?_⟩
 rcases i with _|i
 · simp at h1 h2;subst h1;subst h2;exact h
 · exact hr.2 i b b' (by simpa using h1) (by simpa using h2)
def WE (e e1:Env):Prop:=∀p∈e1,Wx (Am.get e p.1) p.2
theorem WE.nil {e:Env}:WE e []:=by intro p hp;cases hp
theorem WE.cons {e r:Env} {i:Nat} {a:AV} (h:Wx (Am.get e i) a) (hr:WE e r):WE e ((i,a)::r):=by
 intro p hp
 rcases List.mem_cons.1 hp with rfl|hp
 · exact h
 · exact hr p hp
theorem WE.all {e e1:Env} (h:WE e e1):∀t,Wx (Am.get e t) (Am.get e1 t):=by
 intro t
 have key:∀e1:Env,Am.get e1 t= .un∨∃p∈e1,p.1=t∧Am.get e1 t=p.2:=by
  intro e1
  induction e1 with
  |nil=>exact .inl rfl
  |cons p r ih=>
   obtain ⟨i,a⟩:=p
   simp only [Am.get]
   split
   · rename_i h;exact .inr ⟨(i,a),by simp,h,rfl⟩
   · rcases ih with h|⟨p,hp,h1,h2⟩
     · exact .inl h
     · exact .inr ⟨p,List.mem_cons_of_mem _ hp,h1,h2⟩
 rcases key e1 with h0|⟨p,hp,rfl,h2⟩
 · rw [h0];exact Wx.un _
 · rw [h2];exact h p hp
section
variable {P:Program} {L:List Nat} {N n0:Nat} {e:Env} {ah:AH} {t:List It} {Q K:Exit→Env→AH→Prop} {r:List aA} {d:Option Nat}
theorem AW.vg {c:Code} {e1:Env} {aW:AH} (hw:WS e ah e1 aW) (h:AW P L N n0 c Q e1 aW):AW P L N n0 c Q e ah:=
 fun F γ C ts w hs hn=>h F γ C ts w (hs.wx hw) hn
theorem AW.closed {c:Code} (h:AW P L N n0 c (fun x e ah=>Q x e ah∨∃e1 aW,WS e ah e1 aW∧Q x e1 aW) e ah):AW P L N n0 c Q e ah:=by
 intro F γ C ts w hs hn
 refine wp_mono (h F γ C ts w hs hn) ?_
 rintro x a w' ⟨hd,hg,e',aq,γ',C',h1,h2,h3,h4⟩
 rcases h1 with h1|⟨e1,aW,hw,h1⟩
 · exact ⟨hd,hg,e',aq,γ',C',h1,h2,h3,h4⟩
 · exact ⟨hd,hg,e1,aW,γ',C',h1,h2,h3.wx hw,h4⟩
theorem AX.weak {c:az} {e1:Env} {aW:AH} (he:WE e e1) (hh:dD ah aW) (h:AX P L N n0 c Q e1 aW):AX P L N n0 c Q e ah:=
 fun c' bk=>AW.vg ⟨he.all,hh⟩ (h c' bk)
theorem AX.mono {c:az} {Q':Exit→Env→AH→Prop} (h:AX P L N n0 c Q e ah) (hq:∀x e ah,Q x e ah→Q' x e ah):AX P L N n0 c Q' e ah:=
 fun c' bk=>(h c' bk).mono hq
theorem AX.go {m c:az} (hm:erase m=c) (ho:jf N c=true)
 (h:∀K':Exit→Env→AH→Prop,(∀x e ah e1 aW,WE e e1→dD ah aW→K x e1 aW→K' x e ah)→U P L N n0 [.code m] K' .normal e ah):AX P L N n0 c K e ah:=by
 subst hm
 intro c' bk
 refine AW.closed (iA c' m _ e ah bk ho (h _ ?_))
 intro x e ah e1 aW h1 h2 h3
 exact .inr ⟨e1,aW,⟨h1.all,h2⟩,h3⟩
theorem MV {c:az} (h:AX P L N n0 c (fun x e ah=>U P L N n0 t Q x e ah) e ah):UX P L N n0 c t Q e ah:=h
inductive St (ρ τ σ:Type) where
 |ret (r:ρ)
 |fj (t:τ)
 |b7 (s:σ)
def iter {ρ τ σ:Type} (body:σ→Option (St ρ τ σ)):Nat→σ→Option (ρ⊕τ)
 |0,_=>none
 |n+1,s=>match body s with
  |none=>none
  |some (.ret r)=>some (.inl r)
  |some (.fj t)=>some (.inr t)
  |some (.b7 s')=>iter body n s'
theorem AX.iter {ρ τ σ:Type} {body:σ→Option (St ρ τ σ)} {m c:az} (hm:erase m=c) (ho:jf N c=true) (J:σ→Env→AH→Prop) {F:Nat} {s0:σ} {o:ρ⊕τ} (hit:Am.iter body F s0=some o) (h0:J s0 e ah)
 (round:∀(K':Exit→Env→AH→Prop) s st e ah,J s e ah→body s=some st→
  (∀s',st= .b7 s'→∀e' aq e1 aW,WE e' e1→dD aq aW→J s' e1 aW→K' .normal e' aq)→
  (∀t,st= .fj t→o= .inr t)→(∀r,st= .ret r→o= .inl r)→
  (∀x e' aq e1 aW,x≠ .normal→WE e' e1→dD aq aW→K x e1 aW→K' x e' aq)→U P L N n0 [.code m] K' .normal e ah):AX P L N n0 (.loop c) K e ah:=by
 subst hm
 intro c'
 induction c' with
 |loop c0 _=>
  intro bk
  simp only [aO,Option.map_eq_some_iff] at bk
  obtain ⟨a,ha,he⟩:=bk
  injection he with he
  subst he
  refine AW.loop (fun k e ah=>∃s e1 aW,WS e ah e1 aW∧J s e1 aW∧Am.iter body k s=some o∨(J s e ah∧Am.iter body k s=some o)) (k0:=F) ?_ ⟨s0,e,ah, .inr ⟨h0,hit⟩⟩
  have main:∀k s e ah,J s e ah→Am.iter body k s=some o→AW P L N n0 c0 (fun x e' aq=>match x with
   | .normal=>∃k',k'<k∧∃s e1 aW,WS e' aq e1 aW∧J s e1 aW∧Am.iter body k' s=some o∨(J s e' aq∧Am.iter body k' s=some o)|x=>K x e' aq) e ah:=by
   intro k s e ah hJ hk
   cases k with
   |zero=>simp [Am.iter] at hk
   |succ k=>
    cases hb:body s with
    |none=>simp [Am.iter,hb] at hk
    |some st=>
     simp only [Am.iter,hb] at hk
     refine AW.closed (iA c0 m _ e ah ha ho (round _ s st e ah hJ hb ?_ ?_ ?_ ?_))
     · rintro s' rfl e' aq e1 aW g1 g2 g3
       exact .inl ⟨k,Nat.lt_succ_self k,s',e1,aW, .inl ⟨⟨g1.all,g2⟩,g3,hk⟩⟩
     · rintro t rfl;simp only [Option.some.injEq] at hk;exact hk.symm
     · rintro r rfl;simp only [Option.some.injEq] at hk;exact hk.symm
     · intro x e' aq e1 aW hx g1 g2 g3
       cases x with
       |normal=>exact absurd rfl hx
       |_=>exact .inr ⟨e1,aW,⟨g1.all,g2⟩,g3⟩
  rintro k e ah ⟨s,e1,aW,⟨hw,hJ,hk⟩|⟨hJ,hk⟩⟩
  · exact AW.vg hw (main k s e1 aW hJ hk)
  · exact main k s e ah hJ hk
 |scope c0 ih=>exact fun bk=>AW.scope (ih bk)
 |region id ops draw=>intro bk;simp only [aO] at bk;repeat' (split at bk)<;>simp at bk
 |block i c0=>intro bk;simp only [aO,Option.map_eq_some_iff] at bk;obtain ⟨a, -,h⟩:=bk;cases h
 |seq a b=>intro bk;simp only [aO] at bk;split at bk<;>simp at bk
 |cond a b c=>intro bk;simp only [aO] at bk;split at bk<;>simp at bk
 |_=>intro bk;simp [aO] at bk
theorem aC.Si {f:Nat} {args:List AV} {ah:AH} {R R':AV→AH→Prop} (h:aC P f args ah R) (hr:∀r aq,R r aq→∃r' rW,Wx r r'∧dD aq rW∧R' r' rW):aC P f args ah R':=by
 refine ⟨h.1,fun F γ C w vs hs=>(h.2 F γ C w vs hs).mono ?_⟩
 rintro en w' ⟨r,v,aq,γ',C',rfl,h1,h2,h3,h4⟩
 obtain ⟨r',rW,g1,g2,g3⟩:=hr r aq h1
 refine ⟨r',v,rW,γ',C',rfl,g3,h2,h3.wx ⟨fun t=> ?_,g2⟩,h4⟩
 simp only [Am.get]
 split
 · exact g1
 · exact Wx.un _
def WL:List AV→List AV→Prop
 |[],[]=>True
 |a::r,a'::r'=>Wx a a'∧WL r r'
 |_,_=>False
theorem WL.nil:WL [] []:=trivial
theorem WL.cons {a a':AV} {r r':List AV} (h:Wx a a') (hr:WL r r'):WL (a::r) (a'::r'):=⟨h,hr⟩
theorem WL.len:∀ {zq zq':List AV},WL zq zq'→zq'.length=zq.length:=by
 intro zq
 induction zq with
 |nil=>intro zq' h;cases zq' with|nil=>rfl|cons=>exact h.elim
 |cons a r ih=>intro zq' h;cases zq' with|nil=>exact h.elim|cons a' r'=>simp [ih h.2]
theorem WL.get:∀ {zq zq':List AV},WL zq zq'→∀(i:Nat) (a a':AV),zq[i]? =some a→zq'[i]? =some a'→Wx a a':=by
 intro zq
 induction zq with
 |nil=>intro zq' _ i a a' h;simp at h
 |cons a r ih=>
  intro zq' h i b b' h1 h2
  cases zq' with
  |nil=>exact h.elim
  |cons a' r'=>
   rcases i with _|i
   · simp at h1 h2;subst h1;subst h2;exact h.1
   · exact ih h.2 i b b' (by simpa using h1) (by simpa using h2)
theorem aC.vg {f:Nat} {args args':List AV} {ah aW:AH} {R:AV→AH→Prop} (hw:WL args args') (hh:dD ah aW) (h:aC P f args' aW R):aC P f args ah R:=by
 refine ⟨h.1,fun F γ C w vs hs=>h.2 F γ C w vs ?_⟩
 rw [hw.len]
 refine hs.wx ⟨fun t=> ?_,hh⟩
 rw [cm,cm]
 simp only [Nat.zero_le,if_true,Nat.sub_zero]
 cases h1:args[t]? with
 |none=>
  have:args'[t]? =none:=by
   rw [List.getElem?_eq_none_iff] at h1 ⊢
   rw [hw.len];exact h1
  rw [this];exact Wx.un _
 |some a=>
  have hlt:t<args'.length:=by rw [hw.len];exact (List.getElem?_eq_some_iff.1 h1).1
  rw [List.getElem?_eq_getElem hlt]
  exact hw.get t a _ h1 (List.getElem?_eq_getElem hlt)
theorem LN {f:Nat} {zq zq':List AV} {aW:AH} {R:AV→AH→Prop} (h:aC P f zq' aW R) (hw:WL zq zq') (hh:dD ah aW) (hk:∀v aq,R v aq→U P L N n0 (.ops r::t) Q .normal (au L (l7 e) d v.df) aq):
 UK P L N n0 f zq d r t Q e ah:=(h.vg hw hh).mono hk
def me (P:Program) (ah:AH) (rs:List ResultVar) (R:AV→AH→Prop) (e':Env) (H:AH):Prop:=
 ∃vs r' aq,dB P e' H rs=some vs∧Wx (fin vs) r'∧R r' aq∧
  ((Cl ah.length (fin vs)∧ga ah.length (H.take ah.length)∧ah.length≤H.length∧dD (H.take ah.length) aq)∨dD H aq)
theorem aC.MW {f:Nat} {rs:List ResultVar} {ac m:az} (hF:bT P f N rs ac) (hm:erase m=ac) {args:List AV} {R:AV→AH→Prop} (L:List Nat)
 (ho:jf N ac=true) (hN:args.length≤N)
 (h:ga ah.length ah→∀K:Exit→Env→AH→Prop,(∀x e' H,x= .normal∨x= .ret→me P ah rs R e' H→K x e' H)→
  AX P L N ah.length ac K (cL 0 args) ah):aC P f args ah R:=by
 refine aC.Si (R:=fun r aq=>∃r' rW,Wx r r'∧dD aq rW∧R r' rW) ?_ (fun r aq h=>h)
 obtain ⟨fn,c,h1,h2,h3,h4,rfl,rfl⟩:=hF
 refine aC.Ci L h1 h2 h3 h4 ho hN ?_
 intro hcl hargs
 refine h hcl _ ?_
 rintro x e' H hx ⟨vs,r',aq,g1,g2,g3,⟨g4,g5,g6,g7⟩|g4⟩
 · refine .inl ⟨ah.length,Nat.le_refl _,hx, ?_⟩
   rw [g1]
   exact ⟨g4,g5,g6,r',aq,g2,g7,g3⟩
 · refine .inr ⟨hx, ?_⟩
   rw [g1]
   exact ⟨r',aq,g2,g4,g3⟩
end
end Go.Am
end
section
namespace Go.Am
open Go
variable [Tabs]
def idx {α:Type} (l:List α) (i:Int):Option α:=if 0≤i then l[i.toNat]? else none
def sub {α:Type} (l:List α) (i j:Int):Option (List α):=if 0≤i∧i≤j∧j≤l.length then some ((l.take j.toNat).drop i.toNat) else none
def cx {α:Type} (b:Nat) (xs ys:List α):Option (List α):=if (xs.length+ys.length)*b≤140737488355328∧xs.length+ys.length≤4611686018427387904 then some (xs++ys) else none
def cat (l m:List UInt8):Option (List UInt8):=if l.length+m.length≤9223372036854775807 then some (l++m) else none
def ml {α:Type} (f:α→AV) (xs:List α):List AV:=xs.map f
def dv (k:IntKind) (i j:Int):Option Int:=if j=0 then none else some (k.wrap (i.tdiv j))
def rm (k:IntKind) (i j:Int):Option Int:=if j=0 then none else some (i.tmod j)
def shl (k:IntKind) (i j:Int):Int:=k.wrap (i*2 ^ (min j.toNat k.bits))
def shr (k:IntKind) (i j:Int):Int:=i.fdiv (2 ^ (min j.toNat k.bits))
def GS (k:IntKind) (i j:Int):Int:=k.wrap (BitVec.ofInt k.bits i &&& BitVec.ofInt k.bits j).toNat
def MX (k:IntKind) (i j:Int):Int:=k.wrap (BitVec.ofInt k.bits i ||| BitVec.ofInt k.bits j).toNat
def GU (k:IntKind) (i j:Int):Int:=k.wrap (BitVec.ofInt k.bits i ^^^ BitVec.ofInt k.bits j).toNat
def xR (k:IntKind) (i:Int):AV:= .int k i
theorem ay {α β:Type} {o:Option α} {f:α→Option β} {r:β} (h:o.bind f=some r):∃x,o=some x∧f x=some r:=Option.bind_eq_some_iff.1 h
theorem TJ {β:Type} {B:Bool} {x y:Option β} {r:β} (h:(if B=true then x else y)=some r):(B=true∧x=some r)∨(B=false∧y=some r):=by
 cases B
 · exact .inr ⟨rfl,h⟩
 · exact .inl ⟨rfl,h⟩
theorem GV {β:Type} {p:Prop} [Decidable p] {x:Option β} {r:β} (h:(if p then x else none)=some r):p∧x=some r:=by
 split at h
 · exact ⟨by assumption,h⟩
 · cases h
theorem Cs {α:Type} (f:α→AV) (l:List α) (i:Int):idx (ml f l) i=(idx l i).map f:=by
 unfold idx ml;split<;>simp
theorem vh {α:Type} (f:α→AV) (l:List α) (i j:Int):sub (ml f l) i j=(sub l i j).map (ml f):=by
 unfold sub ml;simp only [List.length_map];split<;>simp [List.map_take,List.map_drop,ml]
theorem jm {α:Type} (f:α→AV) (l:List α):(ml f l).length=l.length:=by simp [ml]
theorem fO {α:Type} {f:α→AV} {b:Nat} {xs ys zs:List α} (h:cx b xs ys=some zs):cx b (ml f xs) (ml f ys)=some (ml f zs):=by
 unfold cx at h ⊢
 simp only [jm]
 obtain ⟨hc,h⟩:=GV h
 rw [if_pos hc]
 injection h with h
 subst h
 simp [ml]
theorem qu (l:List UInt8):bytesOf (ml b8 l)=some l:=xQ l
section
variable {P:Program} {L:List Nat} {N n0:Nat} {e:Env} {ah:AH} {t:List It} {Q:Exit→Env→AH→Prop} {r:List aA} {d:Option Nat} {g:Option (Nat×Bool)}
theorem MY {y:Nat} {bs:List UInt8}:UG P L N n0 ⟨d, .lit y bs,g⟩ r t Q e ah (some true)=U P L N n0 (It.ops r::t) Q Exit.normal (put (au L e d (.sl .ex 1 (ml b8 bs))) y .un) ah:=rfl
theorem Ct {l:List UInt8} {k:IntKind} {i:Int}:xN L e ah d (.str l) (.int k i)=(idx l i).map fun c=>(au L e d (b8 c),ah):=by
 simp only [xN,idx]
 split
 · cases l[i.toNat]? <;>rfl
 · rfl
theorem Cu {tg:Tg} {k:Nat} {xs:List AV} {ki:IntKind} {i:Int}:oE L e ah d k (.sl tg k xs) (.int ki i)=(idx xs i).map fun a=>(au L e d (.ep a 0),ah):=by
 simp only [oE,idx]
 split
 · cases xs[i.toNat]? <;>simp [Cp]
 · rfl
def bI (e:Env) (dflt:Int):Option Ar→AV
 |none=> .int .i64 dflt
 |some x=>ev e x
def Cw (L:List Nat) (e:Env) (ah:AH) (d:Option Nat) (l:List UInt8):AV→AV→Option (Env×AH)
 | .int _ i, .int _ j=>(sub l i j).map fun m=>(au L e d (.str m),ah)
 |_,_=>none
theorem vi {n:Nat} {x:Option Ar}:fZ e n x=lu (bI e n x):=by
 cases x with
 |none=>simp [fZ,bI,lu]
 |some x=>simp only [GM,bI]
theorem rX {x:Option Ar}:fZ e 0 x=lu (bI e 0 x):=vi (n:=0)
theorem OH {k:IntKind} {i:Int}:lu (.int k i)=if 0≤i then some i.toNat else none:=rfl
theorem rY {α:Type} (l:List α) (i j:Int):sub l i j=if 0≤i then if 0≤j then if i.toNat≤j.toNat∧j.toNat≤l.length then some ((l.take j.toNat).drop i.toNat) else none else none else none:=by
 unfold sub
 by_cases h1:0≤i
 · by_cases h2:0≤j
   · simp only [if_pos h1,if_pos h2]
     have:(0≤i∧i≤j∧j≤(l.length:Int))↔(i.toNat≤j.toNat∧j.toNat≤l.length):=by omega
     simp only [this]
   · rw [if_neg (by omega)];simp [h2]
 · rw [if_neg (by omega)];simp [h1]
theorem Kt {l:List UInt8} {lo hi:Option Ar}:Cm L e ah d lo hi (.str l)=Cw L e ah d l (bI e 0 lo) (bI e l.length hi):=by
 simp only [Cm,rX,vi]
 generalize bI e 0 lo=a
 generalize bI e l.length hi=b
 cases a with
 |int k i=>
  cases b with
  |int k' j=>
   simp only [lu,Cw,rY]
   by_cases h1:0≤i<;>by_cases h2:0≤j<;>simp only [h1,h2,if_true,if_false,Ck,Option.map_none]
   split<;>rfl
  |_=>simp only [lu,Cw];split<;>rfl
 |_=>cases b<;>rfl
def Cy (L:List Nat) (e:Env) (ah:AH) (d:Option Nat) (k:Nat) (xs:List AV):AV→AV→Option (Env×AH)
 | .int _ i, .int _ j=>(sub xs i j).map fun ys=>(au L e d (.sl .n k ys),ah)
 |_,_=>none
theorem Ku {tg:Tg} {k:Nat} {xs:List AV} {lo hi:Option Ar}:Co L e ah d k lo hi (.sl tg k xs)=Cy L e ah d k xs (bI e 0 lo) (bI e xs.length hi):=by
 simp only [Co,rX,vi]
 generalize bI e 0 lo=a
 generalize bI e xs.length hi=b
 cases a with
 |int k i=>
  cases b with
  |int k' j=>
   simp only [lu,Cy,rY]
   by_cases h1:0≤i<;>by_cases h2:0≤j<;>simp only [h1,h2,if_true,if_false,Cn,Option.map_none,true_and]
   split<;>rfl
  |_=>simp only [lu,Cy];split<;>rfl
 |_=>cases b<;>rfl
def qv {α:Type} (l:List α) (i j m:Int):Option (List α):=if j=m then sub l i j else none
theorem xS {α:Type} (f:α→AV) (l:List α) (i j m:Int):qv (ml f l) i j m=(qv l i j m).map (ml f):=by
 unfold qv;split
 · exact vh ..
 · rfl
def rZ (L:List Nat) (e:Env) (ah:AH) (d:Option Nat) (k:Nat) (xs:List AV):AV→AV→AV→Option (Env×AH)
 | .int _ i, .int _ j, .int _ m=>(qv xs i j m).map fun ys=>(au L e d (.sl .ex k ys),ah)
 |_,_,_=>none
theorem GW {tg:Tg} {k:Nat} {xs:List AV} {lo:Option Ar} {hi m:Ar}:vf L e ah d k lo hi m (.sl tg k xs)=rZ L e ah d k xs (bI e 0 lo) (ev e hi) (ev e m):=by
 simp only [vf,rX,GM]
 generalize bI e 0 lo=a
 generalize ev e hi=b
 generalize ev e m=c
 cases a with
 |int k i=>
  cases b with
  |int k' j=>
   cases c with
   |int k'' l=>
    simp only [lu,rZ,qv,rY]
    by_cases h1:0≤i<;>by_cases h2:0≤j<;>by_cases h3:0≤l<;>by_cases h4:j=l<;>simp only [h1,h2,h3,h4,if_true,if_false,ve,Option.map_none,true_and]
    all_goals first
     |rfl
     |(exfalso;omega)
     |(subst h4;split<;>rename_i q<;>split<;>rename_i q2<;>first|rfl|(exfalso;omega))
     |(split<;>first|rfl|(exfalso;omega))
   |_=>simp only [lu,rZ];repeat' split
       all_goals first|rfl|skip
  |_=>simp only [lu,rZ];repeat' split
      all_goals first|rfl|skip
 |_=>cases b<;>cases c<;>rfl
theorem Kv {tg:Tg} {k b:Nat} {x:Ar} {ys:List AV}:GP L e ah d k b x (.sl tg k ys)=mW L e ah d k b x ys:=by simp [GP]
theorem GX {b:Nat} {x:Ar} {l:List UInt8}:GQ L e ah d b x (.str l)=mW L e ah d 1 b x (ml b8 l):=rfl
def jM (L:List Nat) (e:Env) (ah:AH) (d:Option Nat) (k:Nat) (x:Ar) (xs zs:List AV):Tg→Option (Env×AH)
 | .ex=>some (au L e d (.sl .own k zs),ah)
 | .own=>match x with
   | .t x=>some (au L (put e x (.sl .n k xs)) d (.sl .own k zs),ah)
   |_=>none
 | .fr (.tmp t)=>match get e t with
   | .sl .own k' us=>if k'=k then some (au L (put e t (.sl .n k' us)) d (.sl .own k zs),ah) else none
   |_=>none
 | .fr (.cell s q)=>match ah[s]? with
   |some cs=>match cs[q]? with
    |some (.sl .own k' us)=>if k'=k then (over cs q [.sl .n k' us]).map fun cs=>(au L e d (.sl .own k zs),ah.set s cs) else none
    |_=>none
   |none=>none
 | .n=>none
def sg (L:List Nat) (e:Env) (ah:AH) (d:Option Nat) (k:Nat) (x:Ar) (xs:List AV) (tg:Tg):Option (List AV)→Option (Env×AH)
 |some zs=>jM L e ah d k x xs zs tg
 |none=>none
theorem GY {L:List Nat} {e:Env} {ah:AH} {d:Option Nat} {k:Nat} {x:Ar} {xs zs:List AV} {tg:Tg}:sg L e ah d k x xs tg (some zs)=jM L e ah d k x xs zs tg:=rfl
def vj (L:List Nat) (e:Env) (ah:AH) (d:Option Nat) (k b:Nat) (x:Ar) (ys:List AV):AV→Option (Env×AH)
 | .sl tg k' xs=>if k'=k then sg L e ah d k x xs tg (cx b xs ys) else none
 |_=>none
theorem Kw {k b:Nat} {x:Ar} {ys:List AV}:mW L e ah d k b x ys=vj L e ah d k b x ys (ev e x):=by
 simp only [mW]
 cases ev e x with
 |sl tg k' xs=>
  simp only [vj,cx]
  by_cases h1:k'=k
  · subst h1
    simp only [true_and,if_true]
    by_cases h2:(xs.length+ys.length)*b≤140737488355328∧xs.length+ys.length≤4611686018427387904
    · simp only [if_pos h2,sg]
      cases tg with
      |fr l=>cases l with
       |tmp u=>
        simp only [jM]
        cases get e u with
        |sl Kx k2 zs=>cases Kx<;>rfl
        |_=>rfl
       |cell s q=>
        simp only [jM]
        cases ah[s]? with
        |none=>rfl
        |some cs=>
         simp only []
         cases cs[q]? with
         |none=>rfl
         |some a=>cases a with
          |sl Kx k2 zs=>cases Kx<;>rfl
          |_=>rfl
      |own=>cases x<;>rfl
      |_=>rfl
    · simp only [if_neg h2,sg]
  · simp [h1]
 |_=>rfl
end
theorem G0 {k:IntKind} {i j:Int}:aH .add (.int k i) (.int k j)=some (.int k (k.wrap (i+j))):=by simp [aH,bB]
theorem G1 {k:IntKind} {i j:Int}:aH .sub (.int k i) (.int k j)=some (.int k (k.wrap (i - j))):=by simp [aH,bB]
theorem MZ {k:IntKind} {i j:Int}:aH .mul (.int k i) (.int k j)=some (.int k (k.wrap (i*j))):=by simp [aH,bB]
theorem M0 {k:IntKind} {i j:Int}:aH .quo (.int k i) (.int k j)=(dv k i j).map (.int k):=by simp [aH,bB,dv];split<;>rfl
theorem G3 {k:IntKind} {i j:Int}:aH .rem (.int k i) (.int k j)=(rm k i j).map (.int k):=by simp [aH,bB,rm];split<;>rfl
theorem G4 {k:IntKind} {i j:Int}:aH .and (.int k i) (.int k j)=some (.int k (GS k i j)):=by simp [aH,bB,GS]
theorem LO {k:IntKind} {i j:Int}:aH .or (.int k i) (.int k j)=some (.int k (MX k i j)):=by simp [aH,bB,MX]
theorem G5 {k:IntKind} {i j:Int}:aH .xor (.int k i) (.int k j)=some (.int k (GU k i j)):=by simp [aH,bB,GU]
theorem Sj {k k':IntKind} {i j:Int}:aH .shl (.int k i) (.int k' j)=if j<0 then none else some (.int k (shl k i j)):=by simp [aH,shl]
theorem Sk {k k':IntKind} {i j:Int}:aH .shr (.int k i) (.int k' j)=if j<0 then none else some (.int k (shr k i j)):=by simp [aH,shr]
theorem G6 {k:IntKind} {i j:Int}:aH .eql (.int k i) (.int k j)=some (.bool (decide (i=j))):=by simp [aH,bB]
theorem G7 {k:IntKind} {i j:Int}:aH .neq (.int k i) (.int k j)=some (.bool (!decide (i=j))):=by simp [aH,bB]
theorem G8 {k:IntKind} {i j:Int}:aH .lss (.int k i) (.int k j)=some (.bool (decide (i<j))):=by simp [aH,bB]
theorem G9 {k:IntKind} {i j:Int}:aH .leq (.int k i) (.int k j)=some (.bool (decide (i≤j))):=by simp [aH,bB]
theorem He {k:IntKind} {i j:Int}:aH .gtr (.int k i) (.int k j)=some (.bool (decide (j<i))):=by simp [aH,bB]
theorem Hf {k:IntKind} {i j:Int}:aH .geq (.int k i) (.int k j)=some (.bool (decide (j≤i))):=by simp [aH,bB]
theorem Ky {k k':IntKind} {i:Int}:aH .shr (.int k i) (.int k' 1)=some (.int k (shr k i 1)):=by simp [aH,shr]
theorem Kz {k k':IntKind} {i:Int}:aH .shl (.int k i) (.int k' 1)=some (.int k (shl k i 1)):=by simp [aH,shl]
theorem KB {k k':IntKind} {i:Int}:aH .shr (.int k i) (.int k' 2)=some (.int k (shr k i 2)):=by simp [aH,shr]
theorem KC {k k':IntKind} {i:Int}:aH .shl (.int k i) (.int k' 2)=some (.int k (shl k i 2)):=by simp [aH,shl]
theorem KD {k k':IntKind} {i:Int}:aH .shr (.int k i) (.int k' 3)=some (.int k (shr k i 3)):=by simp [aH,shr]
theorem KE {k k':IntKind} {i:Int}:aH .shl (.int k i) (.int k' 3)=some (.int k (shl k i 3)):=by simp [aH,shl]
theorem KF {k k':IntKind} {i:Int}:aH .shr (.int k i) (.int k' 4)=some (.int k (shr k i 4)):=by simp [aH,shr]
theorem KG {k k':IntKind} {i:Int}:aH .shl (.int k i) (.int k' 4)=some (.int k (shl k i 4)):=by simp [aH,shl]
theorem KH {k k':IntKind} {i:Int}:aH .shr (.int k i) (.int k' 5)=some (.int k (shr k i 5)):=by simp [aH,shr]
theorem KI {k k':IntKind} {i:Int}:aH .shl (.int k i) (.int k' 5)=some (.int k (shl k i 5)):=by simp [aH,shl]
theorem KJ {k k':IntKind} {i:Int}:aH .shr (.int k i) (.int k' 6)=some (.int k (shr k i 6)):=by simp [aH,shr]
theorem KK {k k':IntKind} {i:Int}:aH .shl (.int k i) (.int k' 6)=some (.int k (shl k i 6)):=by simp [aH,shl]
theorem KL {k k':IntKind} {i:Int}:aH .shr (.int k i) (.int k' 7)=some (.int k (shr k i 7)):=by simp [aH,shr]
theorem KM {k k':IntKind} {i:Int}:aH .shl (.int k i) (.int k' 7)=some (.int k (shl k i 7)):=by simp [aH,shl]
theorem KN {k k':IntKind} {i:Int}:aH .shr (.int k i) (.int k' 8)=some (.int k (shr k i 8)):=by simp [aH,shr]
theorem KO {k k':IntKind} {i:Int}:aH .shl (.int k i) (.int k' 8)=some (.int k (shl k i 8)):=by simp [aH,shl]
theorem Hg {k k':IntKind} {i:Int}:aH .shr (.int k i) (.int k' 16)=some (.int k (shr k i 16)):=by simp [aH,shr]
theorem Hh {k k':IntKind} {i:Int}:aH .shl (.int k i) (.int k' 16)=some (.int k (shl k i 16)):=by simp [aH,shl]
theorem Hi {k k':IntKind} {i:Int}:aH .shr (.int k i) (.int k' 24)=some (.int k (shr k i 24)):=by simp [aH,shr]
theorem Hj {k k':IntKind} {i:Int}:aH .shl (.int k i) (.int k' 24)=some (.int k (shl k i 24)):=by simp [aH,shl]
theorem M1 {l m:List UInt8}:aH .add (.str l) (.str m)=(cat l m).map .str:=by simp only [aH,cat];split<;>rfl
theorem M3 {l m:List UInt8}:aH .eql (.str l) (.str m)=some (.bool (decide (l=m))):=rfl
theorem M4 {l m:List UInt8}:aH .neq (.str l) (.str m)=some (.bool (!decide (l=m))):=rfl
theorem Hl (n:Int):IntKind.wrap .u8 n=((UInt8.ofInt n).toNat:Int):=by
 have:(UInt8.ofInt n).toNat=(n % 256).toNat:=by
  rw [UInt8.ofInt]
  simp
  omega
 rw [this]
 simp only [IntKind.wrap,IntKind.bits,IntKind.signed,Bool.false_and,if_false,Bool.false_eq_true]
 omega
theorem KP (a b:UInt8):IntKind.wrap .u8 ((a.toNat:Int)+b.toNat)=((a+b).toNat:Int):=by
 have h1:=a.toNat_lt
 have h2:=b.toNat_lt
 simp only [IntKind.wrap,IntKind.bits,IntKind.signed,Bool.false_and,if_false,Bool.false_eq_true,UInt8.toNat_add]
 omega
theorem KQ (a b:UInt8):IntKind.wrap .u8 ((a.toNat:Int) - b.toNat)=((a - b).toNat:Int):=by
 have h1:=a.toNat_lt
 have h2:=b.toNat_lt
 simp only [IntKind.wrap,IntKind.bits,IntKind.signed,Bool.false_and,if_false,Bool.false_eq_true,UInt8.toNat_sub]
 omega
theorem vk (a:UInt8):IntKind.wrap .u8 (a.toNat:Int)=(a.toNat:Int):=by
 have h1:=a.toNat_lt
 simp only [IntKind.wrap,IntKind.bits,IntKind.signed,Bool.false_and,if_false,Bool.false_eq_true]
 omega
theorem ofInt8 (a:UInt8):BitVec.ofInt 8 (a.toNat:Int)=a.toBitVec:=by
 apply BitVec.eq_of_toNat_eq;simp
theorem M5 {a b:UInt8}:aH .add (b8 a) (b8 b)=some (b8 (a+b)):=by simp only [b8];rw [G0,KP]
theorem M6 {a b:UInt8}:aH .sub (b8 a) (b8 b)=some (b8 (a - b)):=by simp only [b8];rw [G1,KQ]
theorem M7 {a b:UInt8}:aH .and (b8 a) (b8 b)=some (b8 (a &&& b)):=by
 simp only [b8];rw [G4,GS]
 have:((BitVec.ofInt IntKind.u8.bits (a.toNat:Int) &&& BitVec.ofInt IntKind.u8.bits (b.toNat:Int)).toNat:Int)=((a &&& b).toNat:Int):=by
  simp only [IntKind.bits,ofInt8];rfl
 rw [this,vk]
theorem PB {a b:UInt8}:aH .or (b8 a) (b8 b)=some (b8 (a ||| b)):=by
 simp only [b8];rw [LO,MX]
 have:((BitVec.ofInt IntKind.u8.bits (a.toNat:Int) ||| BitVec.ofInt IntKind.u8.bits (b.toNat:Int)).toNat:Int)=((a ||| b).toNat:Int):=by
  simp only [IntKind.bits,ofInt8];rfl
 rw [this,vk]
theorem M8 {a b:UInt8}:aH .xor (b8 a) (b8 b)=some (b8 (a ^^^ b)):=by
 simp only [b8];rw [G5,GU]
 have:((BitVec.ofInt IntKind.u8.bits (a.toNat:Int) ^^^ BitVec.ofInt IntKind.u8.bits (b.toNat:Int)).toNat:Int)=((a ^^^ b).toNat:Int):=by
  simp only [IntKind.bits,ofInt8];rfl
 rw [this,vk]
theorem M9 {a b:UInt8}:aH .rem (b8 a) (b8 b)=if b=0 then none else some (b8 (a % b)):=by
 simp only [b8];rw [G3,rm]
 by_cases h:b=0
 · subst h;simp
 · have h2:¬(b.toNat:Int)=0:=by
    intro h0;apply h;apply UInt8.toNat_inj.1;simp;omega
   rw [if_neg h,if_neg h2]
   simp only [Option.map_some,UInt8.toNat_mod]
   rw [Int.tmod_eq_emod_of_nonneg (by omega)]
   simp
theorem Na {a b:UInt8}:aH .eql (b8 a) (b8 b)=some (.bool (decide (a=b))):=by
 simp only [b8];rw [G6];simp [←UInt8.toNat_inj,Int.ofNat_inj]
theorem Nb {a b:UInt8}:aH .neq (b8 a) (b8 b)=some (.bool (!decide (a=b))):=by
 simp only [b8];rw [G7];simp [←UInt8.toNat_inj,Int.ofNat_inj]
theorem Nc {a b:UInt8}:aH .lss (b8 a) (b8 b)=some (.bool (decide (a<b))):=by
 simp only [b8];rw [G8];simp [UInt8.lt_iff_toNat_lt]
theorem Nd {a b:UInt8}:aH .leq (b8 a) (b8 b)=some (.bool (decide (a≤b))):=by
 simp only [b8];rw [G9];simp [UInt8.le_iff_toNat_le]
theorem Nf {a b:UInt8}:aH .gtr (b8 a) (b8 b)=some (.bool (decide (b<a))):=by
 simp only [b8];rw [He];simp [UInt8.lt_iff_toNat_lt]
theorem Ng {a b:UInt8}:aH .geq (b8 a) (b8 b)=some (.bool (decide (b≤a))):=by
 simp only [b8];rw [Hf];simp [UInt8.le_iff_toNat_le]
theorem PD {k:IntKind} {c:UInt8}:cO (.int k) (b8 c)=some (.int k (k.wrap c.toNat)):=rfl
theorem PF {k:IntKind} {i:Int}:cO (.int .u8) (.int k i)=some (b8 (UInt8.ofInt i)):=by simp only [cO,b8,Hl]
theorem PG {c:UInt8}:cO (.int .u8) (b8 c)=some (b8 c):=by simp only [cO,b8,vk]
theorem PI {k':IntKind} {i:Int}:cO (.int .i8) (.int k' i)=some (.int .i8 (IntKind.wrap .i8 i)):=rfl
theorem Nh {k':IntKind} {i:Int}:cO (.int .i16) (.int k' i)=some (.int .i16 (IntKind.wrap .i16 i)):=rfl
theorem Ni {k':IntKind} {i:Int}:cO (.int .i32) (.int k' i)=some (.int .i32 (IntKind.wrap .i32 i)):=rfl
theorem Nj {k':IntKind} {i:Int}:cO (.int .i64) (.int k' i)=some (.int .i64 (IntKind.wrap .i64 i)):=rfl
theorem Nk {k':IntKind} {i:Int}:cO (.int .u16) (.int k' i)=some (.int .u16 (IntKind.wrap .u16 i)):=rfl
theorem Nl {k':IntKind} {i:Int}:cO (.int .u32) (.int k' i)=some (.int .u32 (IntKind.wrap .u32 i)):=rfl
theorem Nn {k':IntKind} {i:Int}:cO (.int .u64) (.int k' i)=some (.int .u64 (IntKind.wrap .u64 i)):=rfl
theorem PJ {l:List UInt8}:cO .same (.str l)=some (.str l):=rfl
theorem PK {l:List UInt8}:cO .sb (.str l)=some (.sl .own 1 (ml b8 l)):=rfl
theorem PL {tg:Tg} {xs:List AV}:cO .bs (.sl tg 1 xs)=(bytesOf xs).map .str:=rfl
theorem No {k:IntKind} {i:Int}:zG .neg (.int k i)=some (.int k (k.wrap (0 - i))):=rfl
theorem Np {b:Bool}:zG .not (.bool b)=some (.bool !b):=rfl
def PM (k:IntKind) (i:Int):Int:=k.wrap (BitVec.ofInt k.bits (if k.signed then -1 else k.max) ^^^ BitVec.ofInt k.bits i).toNat
theorem Nq {k:IntKind} {i:Int}:zG .xor (.int k i)=some (.int k (PM k i)):=rfl
theorem vl:bytesOf []=some []:=rfl
theorem Ab {c:UInt8} {r:List AV}:bytesOf (b8 c::r)=(bytesOf r).map (c:: ·):=by
 simp [b8,bytesOf]
theorem Sl {ks:List Pk} {k:IntKind} {i j:Int} {zq bs:List AV}:bp (.i::ks) (.int k i::zq) (.int k j::bs)=(bp ks zq bs).map (decide (i=j)&& ·):=by simp [bp]
theorem Sm {ks:List Pk} {l m:List UInt8} {zq bs:List AV}:bp (.s::ks) (.str l::zq) (.str m::bs)=(bp ks zq bs).map (decide (l=m)&& ·):=rfl
theorem Sn {ks:List Pk} {x y:Bool} {zq bs:List AV}:bp (.b::ks) (.bool x::zq) (.bool y::bs)=(bp ks zq bs).map ((x==y)&& ·):=rfl
theorem So:bp [] [] []=some true:=rfl
theorem PN {x y:Bool}:zD (.bool x) (.bool y)=some (x==y):=rfl
theorem PO {s o:Nat}:zE (.ptr s o) (.v (.pointer none))=some false:=rfl
theorem PR {s o:Nat}:zE (.v (.pointer none)) (.ptr s o)=some false:=rfl
theorem PS:zE (.v (.pointer none)) (.v (.pointer none))=some true:=rfl
section
variable {P:Program} {L:List Nat} {N n0:Nat} {e:Env} {ah:AH} {t:List It} {Q:Exit→Env→AH→Prop} {r:List aA} {d:Option Nat}
theorem vm {c:UInt8}:(b8 c).aR=b8 c:=rfl
theorem LP {c:UInt8}:(b8 c).sh=b8 c:=rfl
theorem Tk {c:UInt8}:(b8 c).s1=b8 c:=rfl
theorem Tl {c:UInt8}:(b8 c).s0=b8 c:=rfl
theorem LQ {c:UInt8}:(b8 c).df=b8 c:=rfl
theorem Sp {c:UInt8}:(b8 c).ey=b8 c:=rfl
theorem Sq {c:UInt8}:(b8 c).je=b8 c:=rfl
theorem Ru {c:UInt8} {l:Loc}:(b8 c).bY l=b8 c:=rfl
theorem Sr {c:UInt8}:(b8 c).aU=false:=rfl
theorem Cz {c:UInt8}:(b8 c).flat=true:=rfl
theorem Ss {c:UInt8}:(b8 c).ez=true:=rfl
theorem Tm {c:UInt8}:(b8 c).np=true:=rfl
theorem PT {c:UInt8}:(b8 c).cells=[b8 c]:=rfl
theorem Su {c:UInt8}:(b8 c).cw=false:=rfl
theorem Tn {c:UInt8} {x:Ar}:cp L x (b8 c)=b8 c:=rfl
theorem Sv {c:UInt8} {x:Ar}:eU P L N n0 e ah d r t Q x (b8 c)=U P L N n0 (.ops r::t) Q .normal (au L e d (b8 c)) ah:=rfl
theorem CA {n:Nat} {c:UInt8}:Cl n (b8 c):= .int ..
theorem Nr {l:List UInt8} {c:UInt8}:xN L e ah d (.str l) (b8 c)=(idx l c.toNat).map fun c=>(au L e d (b8 c),ah):=Ct
theorem Ns {tg:Tg} {k:Nat} {xs:List AV} {c:UInt8}:oE L e ah d k (.sl tg k xs) (b8 c)=(idx xs c.toNat).map fun a=>(au L e d (.ep a 0),ah):=Cu
theorem Sw {s o:Nat} {c:UInt8}:jg s o (some (b8 c))=some (b8 c):=rfl
theorem Nt {c:UInt8}:Dq L d e ah (some (b8 c))=some (au L e d (b8 c),ah):=rfl
end
theorem h_eq {H:AH} {q:Nat} {c:List AV} (h:q<H.length):(H.set q c)[q]? =some c:=List.getElem?_set_self h
theorem LR {H:AH} {s q:Nat} {c:List AV} (h:s≠q):(H.set s c)[q]? =H[q]? :=List.getElem?_set_ne h
theorem Ho {H T:AH} {q:Nat} (h:q<H.length):(H++T)[q]? =H[q]? :=List.getElem?_append_left h
theorem Nu {H:AH} {c:List AV}:(H++[c])[H.length]? =some c:=by simp
theorem CB {H:AH} {q:Nat} {c:List AV} (h:q=H.length):(H++[c])[q]? =some c:=by subst h;simp
theorem gf {H:AH} {q:Nat} {c:List AV} (h:H[q]? =some c):q<H.length:=(List.getElem?_eq_some_iff.1 h).1
theorem j3 {H:AH} {q:Nat} {c:List AV}:(H.set q c).length=H.length:=List.length_set
theorem j4 {H:AH} {c:List AV}:(H++[c]).length=H.length+1:=by simp
structure Fr (ah:AH) (n0:Nat) (S:List Nat) (H:AH):Prop where
 le:n0≤H.length
 eq:∀j,j<n0→j∉S→H[j]? =ah[j]?
theorem Fr.refl (ah:AH) (S:List Nat):Fr ah ah.length S ah:=⟨Nat.le_refl _,fun _ _ _=>rfl⟩
theorem Fr.set {ah H:AH} {n0 s:Nat} {S:List Nat} {c:List AV} (h:Fr ah n0 S H) (hs:s∈S∨n0≤s):Fr ah n0 S (H.set s c):=by
 refine ⟨by simpa using h.le,fun j hj si=> ?_⟩
 rw [List.getElem?_set_ne,h.eq j hj si]
 rintro rfl
 rcases hs with hs|hs
 · exact si hs
 · omega
theorem Fr.app {ah H T:AH} {n0:Nat} {S:List Nat} (h:Fr ah n0 S H):Fr ah n0 S (H++T):=by
 have:=h.le
 exact ⟨by simp;omega,fun j hj si=>by rw [List.getElem?_append_left (by omega),h.eq j hj si]⟩
theorem Fr.LS {ah H:AH} (h:Fr ah ah.length [] H):H.take ah.length=ah:=by
 apply List.ext_getElem?
 intro j
 by_cases hj:j<ah.length
 · rw [List.getElem?_take_of_lt hj,h.eq j hj (by simp)]
 · rw [List.getElem?_eq_none (by simp;omega),List.getElem?_eq_none (by omega)]
theorem Fr.LU {ah H:AH} {s:Nat} {c:List AV} (h:Fr ah ah.length [s] H) (hs:H[s]? =some c) (hl:s<ah.length):H.take ah.length=ah.set s c:=by
 apply List.ext_getElem?
 intro j
 by_cases hj:j<ah.length
 · rw [List.getElem?_take_of_lt hj]
   by_cases he:j=s
   · subst he;rw [hs,List.getElem?_set_self hl]
   · rw [List.getElem?_set_ne (Ne.symm he),h.eq j hj (by simpa using he)]
 · rw [List.getElem?_eq_none (by simp;omega),List.getElem?_eq_none (by simp;omega)]
theorem Fr.LV {ah H:AH} {s s2:Nat} {c c2:List AV} (h:Fr ah ah.length [s,s2] H) (hs:H[s]? =some c) (hs2:H[s2]? =some c2) (hl:s<ah.length) (rH:s2<ah.length) (hne:s≠s2):H.take ah.length=(ah.set s c).set s2 c2:=by
 apply List.ext_getElem?
 intro j
 by_cases hj:j<ah.length
 · rw [List.getElem?_take_of_lt hj]
   by_cases he:j=s2
   · subst he;rw [hs2,List.getElem?_set_self (by simpa using rH)]
   · rw [List.getElem?_set_ne (Ne.symm he)]
     by_cases Nv:j=s
     · subst Nv;rw [hs,List.getElem?_set_self hl]
     · rw [List.getElem?_set_ne (Ne.symm Nv),h.eq j hj (by simp;exact ⟨Nv,he⟩)]
 · rw [List.getElem?_eq_none (by simp;omega),List.getElem?_eq_none (by simp;omega)]
end Go.Am
end
section
namespace Go.Am
open Go
variable [Tabs]
def b9:Bool→AV
 |true=> .bW
 |false=> .v .nilIface
def CC (L:List Nat) (e:Env) (ah:AH) (d:Option Nat):AV→Option (Env×AH)
 | .sl _ _ xs=>some (au L e d (.int .i64 xs.length),ah)
 | .bu _ _ _ n=>some (au L e d (.int .i64 n),ah)
 | .aZ _ _ n _=>some (au L e d (.int .i64 n),ah)
 |_=>none
def Hp (L:List Nat) (e:Env) (ah:AH) (d:Option Nat):AV→Option (Env×AH)
 | .str l=>some (au L e d (.int .i64 l.length),ah)
 |_=>none
def Hq (L:List Nat) (e:Env) (ah:AH) (d:Option Nat):Option AV→Option (Env×AH)
 |some a=>some (au L e d a.sh,ah)
 |none=>none
def Hr (L:List Nat) (e:Env) (ah:AH) (d:Option Nat) (i:Nat):AV→Option (Env×AH)
 | .aK cs=>Hq L e ah d (cs[i]?)
 |_=>none
def Ac (L:List Nat) (e:Env) (ah:AH) (d:Option Nat):Option AV→Option (Env×AH)
 |some a=>some (au L e d a.aR,ah)
 |none=>none
def vn (L:List Nat) (e:Env) (ah:AH) (d:Option Nat) (q:Nat):Option Nat→AV→Option (Env×AH)
 |some n, .agg cs=>if q+n≤cs.length then some (au L e d (.agg (((cs.drop q).take n).map AV.aR)),ah) else none
 |none, .agg cs=>Ac L e ah d (cs[q]?)
 |_,_=>none
def Hs (L:List Nat) (e:Env) (ah:AH) (d:Option Nat) (n:Option Nat):AV→Option (Env×AH)
 | .ep a p=>vb L d n e ah (.ep a p)
 |_=>none
theorem Ht {z:Value}:AV.aR (.v z)=(.v z:AV):=rfl
theorem Ad {k:IntKind} {i:Int}:AV.aR (.int k i)=(.int k i:AV):=rfl
theorem xT {b:Bool}:AV.aR (.bool b)=(.bool b:AV):=rfl
theorem Ae {l:List UInt8}:AV.aR (.str l)=(.str l:AV):=rfl
theorem Af {s o:Nat}:AV.aR (.ptr s o)=(.ptr s o:AV):=rfl
theorem Du {a:AV} {o:Nat}:AV.aR (.ep a o)=(.ep a o:AV):=rfl
theorem Dv {f:Nat} {cs:List AV}:AV.aR (.fn f cs)=(.fn f cs:AV):=rfl
theorem Dw:AV.aR (.un)=(.un:AV):=rfl
theorem Dx {c:UInt8}:AV.aR (b8 c)=(b8 c:AV):=rfl
theorem Dy {k:Nat} {xs:List AV}:AV.aR (.sl .n k xs)=(.sl .n k xs:AV):=rfl
theorem Ag {k:Nat} {xs:List AV}:AV.aR (.sl .ex k xs)=(.sl .ex k xs:AV):=rfl
theorem xU {k:Nat} {xs:List AV}:AV.aR (.sl .own k xs)=(.sl .n k xs:AV):=rfl
theorem Ah {l:Loc} {k:Nat} {xs:List AV}:AV.aR (.sl (.fr l) k xs)=(.sl .n k xs:AV):=rfl
theorem Ai {cs:List AV}:AV.aR (.agg cs)=(.agg cs:AV):=rfl
theorem Aj {cs:List AV}:AV.aR (.aK cs)=(.aK cs:AV):=rfl
theorem Ak {q0 k0 o0 m0:Nat}:AV.aR (.bu q0 k0 o0 m0)=(.bu q0 k0 o0 m0:AV):=rfl
theorem Al {q0 k0 m0 c0:Nat}:AV.aR (.aZ q0 k0 m0 c0)=(.aZ q0 k0 m0 c0:AV):=rfl
theorem An:AV.aR (.bW)=(.bW:AV):=rfl
theorem Dz {eb:Bool}:AV.aR (b9 eb)=(b9 eb:AV):=by cases eb<;>rfl
theorem KR {z:Value}:AV.sh (.v z)=(.v z:AV):=rfl
theorem DA {k:IntKind} {i:Int}:AV.sh (.int k i)=(.int k i:AV):=rfl
theorem Ao {b:Bool}:AV.sh (.bool b)=(.bool b:AV):=rfl
theorem DB {l:List UInt8}:AV.sh (.str l)=(.str l:AV):=rfl
theorem DC {s o:Nat}:AV.sh (.ptr s o)=(.ptr s o:AV):=rfl
theorem Hu {a:AV} {o:Nat}:AV.sh (.ep a o)=(.ep a o:AV):=rfl
theorem Hv {f:Nat} {cs:List AV}:AV.sh (.fn f cs)=(.fn f cs:AV):=rfl
theorem Hw:AV.sh (.un)=(.un:AV):=rfl
theorem Hx {c:UInt8}:AV.sh (b8 c)=(b8 c:AV):=rfl
theorem Hy {k:Nat} {xs:List AV}:AV.sh (.sl .n k xs)=(.sl .n k xs:AV):=rfl
theorem DD {k:Nat} {xs:List AV}:AV.sh (.sl .ex k xs)=(.sl .ex k xs:AV):=rfl
theorem Ap {k:Nat} {xs:List AV}:AV.sh (.sl .own k xs)=(.sl .n k xs:AV):=rfl
theorem DE {l:Loc} {k:Nat} {xs:List AV}:AV.sh (.sl (.fr l) k xs)=(.sl .n k xs:AV):=rfl
theorem DF {cs:List AV}:AV.sh (.agg cs)=(.agg (cs.map AV.aR):AV):=rfl
theorem DG {cs:List AV}:AV.sh (.aK cs)=(.aK (cs.map AV.aR):AV):=rfl
theorem DH {q0 k0 o0 m0:Nat}:AV.sh (.bu q0 k0 o0 m0)=(.bu q0 k0 o0 m0:AV):=rfl
theorem DI {q0 k0 m0 c0:Nat}:AV.sh (.aZ q0 k0 m0 c0)=(.aZ q0 k0 m0 c0:AV):=rfl
theorem DJ:AV.sh (.bW)=(.bW:AV):=rfl
theorem Hz {eb:Bool}:AV.sh (b9 eb)=(b9 eb:AV):=by cases eb<;>rfl
theorem KS {z:Value}:AV.s1 (.v z)=(.v z:AV):=rfl
theorem DK {k:IntKind} {i:Int}:AV.s1 (.int k i)=(.int k i:AV):=rfl
theorem Aq {b:Bool}:AV.s1 (.bool b)=(.bool b:AV):=rfl
theorem DL {l:List UInt8}:AV.s1 (.str l)=(.str l:AV):=rfl
theorem DM {s o:Nat}:AV.s1 (.ptr s o)=(.ptr s o:AV):=rfl
theorem HA {a:AV} {o:Nat}:AV.s1 (.ep a o)=(.ep a o:AV):=rfl
theorem HB {f:Nat} {cs:List AV}:AV.s1 (.fn f cs)=(.fn f cs:AV):=rfl
theorem HC:AV.s1 (.un)=(.un:AV):=rfl
theorem HD {c:UInt8}:AV.s1 (b8 c)=(b8 c:AV):=rfl
theorem HF {k:Nat} {xs:List AV}:AV.s1 (.sl .n k xs)=(.sl .n k xs:AV):=rfl
theorem DN {k:Nat} {xs:List AV}:AV.s1 (.sl .ex k xs)=(.sl .n k xs:AV):=rfl
theorem As {k:Nat} {xs:List AV}:AV.s1 (.sl .own k xs)=(.sl .n k xs:AV):=rfl
theorem DO {l:Loc} {k:Nat} {xs:List AV}:AV.s1 (.sl (.fr l) k xs)=(.sl .n k xs:AV):=rfl
theorem DP {cs:List AV}:AV.s1 (.agg cs)=(.agg cs:AV):=rfl
theorem DQ {cs:List AV}:AV.s1 (.aK cs)=(.aK cs:AV):=rfl
theorem DR {q0 k0 o0 m0:Nat}:AV.s1 (.bu q0 k0 o0 m0)=(.bu q0 k0 o0 m0:AV):=rfl
theorem DS {q0 k0 m0 c0:Nat}:AV.s1 (.aZ q0 k0 m0 c0)=(.aZ q0 k0 m0 c0:AV):=rfl
theorem DT:AV.s1 (.bW)=(.bW:AV):=rfl
theorem HG {eb:Bool}:AV.s1 (b9 eb)=(b9 eb:AV):=by cases eb<;>rfl
theorem KT {z:Value}:AV.s0 (.v z)=(.v z:AV):=rfl
theorem DU {k:IntKind} {i:Int}:AV.s0 (.int k i)=(.int k i:AV):=rfl
theorem At {b:Bool}:AV.s0 (.bool b)=(.bool b:AV):=rfl
theorem DV {l:List UInt8}:AV.s0 (.str l)=(.str l:AV):=rfl
theorem DW {s o:Nat}:AV.s0 (.ptr s o)=(.ptr s o:AV):=rfl
theorem HH {a:AV} {o:Nat}:AV.s0 (.ep a o)=(.ep a o:AV):=rfl
theorem HI {f:Nat} {cs:List AV}:AV.s0 (.fn f cs)=(.fn f cs:AV):=rfl
theorem HJ:AV.s0 (.un)=(.un:AV):=rfl
theorem HK {c:UInt8}:AV.s0 (b8 c)=(b8 c:AV):=rfl
theorem HL {k:Nat} {xs:List AV}:AV.s0 (.sl .n k xs)=(.sl .n k xs:AV):=rfl
theorem DX {k:Nat} {xs:List AV}:AV.s0 (.sl .ex k xs)=(.sl .n k xs:AV):=rfl
theorem Au {k:Nat} {xs:List AV}:AV.s0 (.sl .own k xs)=(.sl .n k xs:AV):=rfl
theorem DY {l:Loc} {k:Nat} {xs:List AV}:AV.s0 (.sl (.fr l) k xs)=(.sl .n k xs:AV):=rfl
theorem DZ {cs:List AV}:AV.s0 (.agg cs)=(.agg (cs.map AV.s1):AV):=rfl
theorem D0 {cs:List AV}:AV.s0 (.aK cs)=(.aK cs:AV):=rfl
theorem D1 {q0 k0 o0 m0:Nat}:AV.s0 (.bu q0 k0 o0 m0)=(.bu q0 k0 o0 m0:AV):=rfl
theorem D2 {q0 k0 m0 c0:Nat}:AV.s0 (.aZ q0 k0 m0 c0)=(.aZ q0 k0 m0 c0:AV):=rfl
theorem D3:AV.s0 (.bW)=(.bW:AV):=rfl
theorem HM {eb:Bool}:AV.s0 (b9 eb)=(b9 eb:AV):=by cases eb<;>rfl
theorem KU {z:Value}:AV.df (.v z)=(.v z:AV):=rfl
theorem D4 {k:IntKind} {i:Int}:AV.df (.int k i)=(.int k i:AV):=rfl
theorem Av {b:Bool}:AV.df (.bool b)=(.bool b:AV):=rfl
theorem D5 {l:List UInt8}:AV.df (.str l)=(.str l:AV):=rfl
theorem D6 {s o:Nat}:AV.df (.ptr s o)=(.ptr s o:AV):=rfl
theorem HN {a:AV} {o:Nat}:AV.df (.ep a o)=(.ep a o:AV):=rfl
theorem HO {f:Nat} {cs:List AV}:AV.df (.fn f cs)=(.fn f cs:AV):=rfl
theorem HP:AV.df (.un)=(.un:AV):=rfl
theorem HQ {c:UInt8}:AV.df (b8 c)=(b8 c:AV):=rfl
theorem HR {k:Nat} {xs:List AV}:AV.df (.sl .n k xs)=(.sl .n k xs:AV):=rfl
theorem D7 {k:Nat} {xs:List AV}:AV.df (.sl .ex k xs)=(.sl .ex k xs:AV):=rfl
theorem Aw {k:Nat} {xs:List AV}:AV.df (.sl .own k xs)=(.sl .own k xs:AV):=rfl
theorem D8 {l:Loc} {k:Nat} {xs:List AV}:AV.df (.sl (.fr l) k xs)=(.sl .n k xs:AV):=rfl
theorem D9 {cs:List AV}:AV.df (.agg cs)=(.agg cs:AV):=rfl
theorem Ea {cs:List AV}:AV.df (.aK cs)=(.aK cs:AV):=rfl
theorem Eb {q0 k0 o0 m0:Nat}:AV.df (.bu q0 k0 o0 m0)=(.bu q0 k0 o0 m0:AV):=rfl
theorem Ec {q0 k0 m0 c0:Nat}:AV.df (.aZ q0 k0 m0 c0)=(.aZ q0 k0 m0 c0:AV):=rfl
theorem Ed:AV.df (.bW)=(.bW:AV):=rfl
theorem HS {eb:Bool}:AV.df (b9 eb)=(b9 eb:AV):=by cases eb<;>rfl
theorem Ax {z:Value}:AV.aU (.v z)=false:=rfl
theorem vo {k:IntKind} {i:Int}:AV.aU (.int k i)=false:=rfl
theorem tw {b:Bool}:AV.aU (.bool b)=false:=rfl
theorem vp {l:List UInt8}:AV.aU (.str l)=false:=rfl
theorem vq {s o:Nat}:AV.aU (.ptr s o)=false:=rfl
theorem xV {a:AV} {o:Nat}:AV.aU (.ep a o)=false:=rfl
theorem xW {f:Nat} {cs:List AV}:AV.aU (.fn f cs)=false:=rfl
theorem xX:AV.aU (.un)=false:=rfl
theorem xY {c:UInt8}:AV.aU (b8 c)=false:=rfl
theorem xZ {k:Nat} {xs:List AV}:AV.aU (.sl .n k xs)=false:=rfl
theorem vt {k:Nat} {xs:List AV}:AV.aU (.sl .ex k xs)=false:=rfl
theorem tA {k:Nat} {xs:List AV}:AV.aU (.sl .own k xs)=true:=rfl
theorem vu {l:Loc} {k:Nat} {xs:List AV}:AV.aU (.sl (.fr l) k xs)=false:=rfl
theorem vv {cs:List AV}:AV.aU (.agg cs)=false:=rfl
theorem vw {cs:List AV}:AV.aU (.aK cs)=false:=rfl
theorem vz {q0 k0 o0 m0:Nat}:AV.aU (.bu q0 k0 o0 m0)=false:=rfl
theorem vA {q0 k0 m0 c0:Nat}:AV.aU (.aZ q0 k0 m0 c0)=false:=rfl
theorem vB:AV.aU (.bW)=false:=rfl
theorem ya {eb:Bool}:AV.aU (b9 eb)=false:=by cases eb<;>rfl
theorem HT {z:Value}:AV.je (.v z)=(.v z:AV):=rfl
theorem Ay {k:IntKind} {i:Int}:AV.je (.int k i)=(.int k i:AV):=rfl
theorem yb {b:Bool}:AV.je (.bool b)=(.bool b:AV):=rfl
theorem Az {l:List UInt8}:AV.je (.str l)=(.str l:AV):=rfl
theorem AA {s o:Nat}:AV.je (.ptr s o)=(.ptr s o:AV):=rfl
theorem Ee {a:AV} {o:Nat}:AV.je (.ep a o)=(.ep a o:AV):=rfl
theorem Ef {f:Nat} {cs:List AV}:AV.je (.fn f cs)=(.fn f cs:AV):=rfl
theorem Eg:AV.je (.un)=(.un:AV):=rfl
theorem Eh {c:UInt8}:AV.je (b8 c)=(b8 c:AV):=rfl
theorem Ei {k:Nat} {xs:List AV}:AV.je (.sl .n k xs)=(.sl .n k xs:AV):=rfl
theorem AB {k:Nat} {xs:List AV}:AV.je (.sl .ex k xs)=(.sl .ex k xs:AV):=rfl
theorem yc {k:Nat} {xs:List AV}:AV.je (.sl .own k xs)=(.sl .n k xs:AV):=rfl
theorem AD {l:Loc} {k:Nat} {xs:List AV}:AV.je (.sl (.fr l) k xs)=(.sl (.fr l) k xs:AV):=rfl
theorem AE {cs:List AV}:AV.je (.agg cs)=(.agg cs:AV):=rfl
theorem AF {cs:List AV}:AV.je (.aK cs)=(.aK cs:AV):=rfl
theorem AG {q0 k0 o0 m0:Nat}:AV.je (.bu q0 k0 o0 m0)=(.bu q0 k0 o0 m0:AV):=rfl
theorem AI {q0 k0 m0 c0:Nat}:AV.je (.aZ q0 k0 m0 c0)=(.aZ q0 k0 m0 c0:AV):=rfl
theorem AJ:AV.je (.bW)=(.bW:AV):=rfl
theorem Ej {eb:Bool}:AV.je (b9 eb)=(b9 eb:AV):=by cases eb<;>rfl
theorem Ek {z:Value} {l0:Loc}:AV.bY l0 (.v z)=(.v z:AV):=rfl
theorem yd {k:IntKind} {i:Int} {l0:Loc}:AV.bY l0 (.int k i)=(.int k i:AV):=rfl
theorem vC {b:Bool} {l0:Loc}:AV.bY l0 (.bool b)=(.bool b:AV):=rfl
theorem ye {l:List UInt8} {l0:Loc}:AV.bY l0 (.str l)=(.str l:AV):=rfl
theorem yf {s o:Nat} {l0:Loc}:AV.bY l0 (.ptr s o)=(.ptr s o:AV):=rfl
theorem AK {a:AV} {o:Nat} {l0:Loc}:AV.bY l0 (.ep a o)=(.ep a o:AV):=rfl
theorem AL {f:Nat} {cs:List AV} {l0:Loc}:AV.bY l0 (.fn f cs)=(.fn f cs:AV):=rfl
theorem AM {l0:Loc}:AV.bY l0 (.un)=(.un:AV):=rfl
theorem AN {c:UInt8} {l0:Loc}:AV.bY l0 (b8 c)=(b8 c:AV):=rfl
theorem AO {k:Nat} {xs:List AV} {l0:Loc}:AV.bY l0 (.sl .n k xs)=(.sl .n k xs:AV):=rfl
theorem yg {k:Nat} {xs:List AV} {l0:Loc}:AV.bY l0 (.sl .ex k xs)=(.sl .ex k xs:AV):=rfl
theorem vD {k:Nat} {xs:List AV} {l0:Loc}:AV.bY l0 (.sl .own k xs)=(.sl .own k xs:AV):=rfl
theorem yh {l:Loc} {k:Nat} {xs:List AV} {l0:Loc}:AV.bY l0 (.sl (.fr l) k xs)=if l=l0 then .sl .n k xs else .sl (.fr l) k xs:=rfl
theorem yj {cs:List AV} {l0:Loc}:AV.bY l0 (.agg cs)=(.agg cs:AV):=rfl
theorem yl {cs:List AV} {l0:Loc}:AV.bY l0 (.aK cs)=(.aK cs:AV):=rfl
theorem ym {q0 k0 o0 m0:Nat} {l0:Loc}:AV.bY l0 (.bu q0 k0 o0 m0)=(.bu q0 k0 o0 m0:AV):=rfl
theorem yo {q0 k0 m0 c0:Nat} {l0:Loc}:AV.bY l0 (.aZ q0 k0 m0 c0)=(.aZ q0 k0 m0 c0:AV):=rfl
theorem yp {l0:Loc}:AV.bY l0 (.bW)=(.bW:AV):=rfl
theorem AP {eb:Bool} {l0:Loc}:AV.bY l0 (b9 eb)=(b9 eb:AV):=by cases eb<;>rfl
theorem HU {z:Value}:AV.ey (.v z)=(.v z:AV):=rfl
theorem AQ {k:IntKind} {i:Int}:AV.ey (.int k i)=(.int k i:AV):=rfl
theorem yq {b:Bool}:AV.ey (.bool b)=(.bool b:AV):=rfl
theorem AR {l:List UInt8}:AV.ey (.str l)=(.str l:AV):=rfl
theorem AS {s o:Nat}:AV.ey (.ptr s o)=(.ptr s o:AV):=rfl
theorem El {a:AV} {o:Nat}:AV.ey (.ep a o)=(.ep a o:AV):=rfl
theorem Em {f:Nat} {cs:List AV}:AV.ey (.fn f cs)=(.fn f cs:AV):=rfl
theorem En:AV.ey (.un)=(.un:AV):=rfl
theorem Eo {c:UInt8}:AV.ey (b8 c)=(b8 c:AV):=rfl
theorem Ep {k:Nat} {xs:List AV}:AV.ey (.sl .n k xs)=(.sl .n k xs:AV):=rfl
theorem AT {k:Nat} {xs:List AV}:AV.ey (.sl .ex k xs)=(.sl .ex k xs:AV):=rfl
theorem yt {k:Nat} {xs:List AV}:AV.ey (.sl .own k xs)=(.sl .own k xs:AV):=rfl
theorem AU {cs:List AV}:AV.ey (.agg cs)=(.agg cs:AV):=rfl
theorem AY {cs:List AV}:AV.ey (.aK cs)=(.aK cs:AV):=rfl
theorem AZ {q0 k0 o0 m0:Nat}:AV.ey (.bu q0 k0 o0 m0)=(.bu q0 k0 o0 m0:AV):=rfl
theorem A0 {q0 k0 m0 c0:Nat}:AV.ey (.aZ q0 k0 m0 c0)=(.aZ q0 k0 m0 c0:AV):=rfl
theorem A1:AV.ey (.bW)=(.bW:AV):=rfl
theorem Er {eb:Bool}:AV.ey (b9 eb)=(b9 eb:AV):=by cases eb<;>rfl
theorem HV {a b k:Nat} {xs:List AV}:AV.ey (.sl (.fr (.cell a b)) k xs)= .sl .n k xs:=rfl
theorem HW {a k:Nat} {xs:List AV}:AV.ey (.sl (.fr (.tmp a)) k xs)= .sl (.fr (.tmp a)) k xs:=rfl
theorem A2 {z:Value}:AV.cells (.v z)=[.v z]:=rfl
theorem vE {k:IntKind} {i:Int}:AV.cells (.int k i)=[.int k i]:=rfl
theorem tB {b:Bool}:AV.cells (.bool b)=[.bool b]:=rfl
theorem vF {l:List UInt8}:AV.cells (.str l)=[.str l]:=rfl
theorem vG {s o:Nat}:AV.cells (.ptr s o)=[.ptr s o]:=rfl
theorem yu {a:AV} {o:Nat}:AV.cells (.ep a o)=[.ep a o]:=rfl
theorem yw {f:Nat} {cs:List AV}:AV.cells (.fn f cs)=[.fn f cs]:=rfl
theorem yx:AV.cells (.un)=[.un]:=rfl
theorem yy {c:UInt8}:AV.cells (b8 c)=[b8 c]:=rfl
theorem yz {k:Nat} {xs:List AV}:AV.cells (.sl .n k xs)=[.sl .n k xs]:=rfl
theorem vH {k:Nat} {xs:List AV}:AV.cells (.sl .ex k xs)=[.sl .ex k xs]:=rfl
theorem tC {k:Nat} {xs:List AV}:AV.cells (.sl .own k xs)=[.sl .own k xs]:=rfl
theorem vI {l:Loc} {k:Nat} {xs:List AV}:AV.cells (.sl (.fr l) k xs)=[.sl (.fr l) k xs]:=rfl
theorem vJ {cs:List AV}:AV.cells (.agg cs)=cs:=rfl
theorem vK {cs:List AV}:AV.cells (.aK cs)=[.aK cs]:=rfl
theorem vL {q0 k0 o0 m0:Nat}:AV.cells (.bu q0 k0 o0 m0)=[.bu q0 k0 o0 m0]:=rfl
theorem vM {q0 k0 m0 c0:Nat}:AV.cells (.aZ q0 k0 m0 c0)=[.aZ q0 k0 m0 c0]:=rfl
theorem vN:AV.cells (.bW)=[.bW]:=rfl
theorem yA {eb:Bool}:AV.cells (b9 eb)=[b9 eb]:=by cases eb<;>rfl
theorem HX {z:Value}:AV.ez (.v z)=true:=rfl
theorem A3 {k:IntKind} {i:Int}:AV.ez (.int k i)=true:=rfl
theorem yB {b:Bool}:AV.ez (.bool b)=true:=rfl
theorem A4 {l:List UInt8}:AV.ez (.str l)=true:=rfl
theorem A5 {s o:Nat}:AV.ez (.ptr s o)=true:=rfl
theorem Es {a:AV} {o:Nat}:AV.ez (.ep a o)=true:=rfl
theorem Et {f:Nat} {cs:List AV}:AV.ez (.fn f cs)=true:=rfl
theorem Eu:AV.ez (.un)=false:=rfl
theorem Ev {c:UInt8}:AV.ez (b8 c)=true:=rfl
theorem Ew {k:Nat} {xs:List AV}:AV.ez (.sl .n k xs)=true:=rfl
theorem A6 {k:Nat} {xs:List AV}:AV.ez (.sl .ex k xs)=true:=rfl
theorem yC {k:Nat} {xs:List AV}:AV.ez (.sl .own k xs)=true:=rfl
theorem A7 {l:Loc} {k:Nat} {xs:List AV}:AV.ez (.sl (.fr l) k xs)=true:=rfl
theorem A8 {cs:List AV}:AV.ez (.agg cs)=false:=rfl
theorem A9 {cs:List AV}:AV.ez (.aK cs)=false:=rfl
theorem Ba {q0 k0 o0 m0:Nat}:AV.ez (.bu q0 k0 o0 m0)=true:=rfl
theorem Bb {q0 k0 m0 c0:Nat}:AV.ez (.aZ q0 k0 m0 c0)=true:=rfl
theorem Bc:AV.ez (.bW)=true:=rfl
theorem Ex {eb:Bool}:AV.ez (b9 eb)=true:=by cases eb<;>rfl
theorem Ey {z:Value}:AV.flat (.v z)=true:=rfl
theorem yD {k:IntKind} {i:Int}:AV.flat (.int k i)=true:=rfl
theorem vO {b:Bool}:AV.flat (.bool b)=true:=rfl
theorem yE {l:List UInt8}:AV.flat (.str l)=true:=rfl
theorem yF {s o:Nat}:AV.flat (.ptr s o)=true:=rfl
theorem Be {a:AV} {o:Nat}:AV.flat (.ep a o)=true:=rfl
theorem Bg {f:Nat} {cs:List AV}:AV.flat (.fn f cs)=true:=rfl
theorem Bh:AV.flat (.un)=true:=rfl
theorem Bi {c:UInt8}:AV.flat (b8 c)=true:=rfl
theorem Bj {k:Nat} {xs:List AV}:AV.flat (.sl .n k xs)=true:=rfl
theorem yG {k:Nat} {xs:List AV}:AV.flat (.sl .ex k xs)=true:=rfl
theorem vP {k:Nat} {xs:List AV}:AV.flat (.sl .own k xs)=true:=rfl
theorem yH {l:Loc} {k:Nat} {xs:List AV}:AV.flat (.sl (.fr l) k xs)=true:=rfl
theorem yI {cs:List AV}:AV.flat (.agg cs)=false:=rfl
theorem yJ {cs:List AV}:AV.flat (.aK cs)=false:=rfl
theorem yK {q0 k0 o0 m0:Nat}:AV.flat (.bu q0 k0 o0 m0)=true:=rfl
theorem yL {q0 k0 m0 c0:Nat}:AV.flat (.aZ q0 k0 m0 c0)=true:=rfl
theorem yM:AV.flat (.bW)=true:=rfl
theorem Bk {eb:Bool}:AV.flat (b9 eb)=true:=by cases eb<;>rfl
theorem KV {z:Value}:AV.np (.v z)=true:=rfl
theorem Ez {k:IntKind} {i:Int}:AV.np (.int k i)=true:=rfl
theorem Bl {b:Bool}:AV.np (.bool b)=true:=rfl
theorem EA {l:List UInt8}:AV.np (.str l)=true:=rfl
theorem EB {s o:Nat}:AV.np (.ptr s o)=false:=rfl
theorem HY {a:AV} {o:Nat}:AV.np (.ep a o)=true:=rfl
theorem HZ {f:Nat} {cs:List AV}:AV.np (.fn f cs)=cs.isEmpty:=rfl
theorem H6:AV.np (.un)=true:=rfl
theorem H7 {c:UInt8}:AV.np (b8 c)=true:=rfl
theorem H8 {k:Nat} {xs:List AV}:AV.np (.sl .n k xs)=true:=rfl
theorem EC {k:Nat} {xs:List AV}:AV.np (.sl .ex k xs)=true:=rfl
theorem Bm {k:Nat} {xs:List AV}:AV.np (.sl .own k xs)=true:=rfl
theorem ED {l:Loc} {k:Nat} {xs:List AV}:AV.np (.sl (.fr l) k xs)=true:=rfl
theorem EE {cs:List AV}:AV.np (.agg cs)=false:=rfl
theorem EG {cs:List AV}:AV.np (.aK cs)=false:=rfl
theorem EH {q0 k0 o0 m0:Nat}:AV.np (.bu q0 k0 o0 m0)=false:=rfl
theorem EI {q0 k0 m0 c0:Nat}:AV.np (.aZ q0 k0 m0 c0)=false:=rfl
theorem EJ:AV.np (.bW)=true:=rfl
theorem H9 {eb:Bool}:AV.np (b9 eb)=true:=by cases eb<;>rfl
theorem Bn {z:Value}:AV.cw (.v z)=false:=rfl
theorem vQ {k:IntKind} {i:Int}:AV.cw (.int k i)=false:=rfl
theorem tD {b:Bool}:AV.cw (.bool b)=false:=rfl
theorem vR {l:List UInt8}:AV.cw (.str l)=false:=rfl
theorem vS {s o:Nat}:AV.cw (.ptr s o)=false:=rfl
theorem yN {a:AV} {o:Nat}:AV.cw (.ep a o)=false:=rfl
theorem yO {f:Nat} {cs:List AV}:AV.cw (.fn f cs)=false:=rfl
theorem yP:AV.cw (.un)=false:=rfl
theorem yQ {c:UInt8}:AV.cw (b8 c)=false:=rfl
theorem yR {k:Nat} {xs:List AV}:AV.cw (.sl .n k xs)=false:=rfl
theorem vT {k:Nat} {xs:List AV}:AV.cw (.sl .ex k xs)=false:=rfl
theorem tE {k:Nat} {xs:List AV}:AV.cw (.sl .own k xs)=false:=rfl
theorem vU {l:Loc} {k:Nat} {xs:List AV}:AV.cw (.sl (.fr l) k xs)=false:=rfl
theorem vV {cs:List AV}:AV.cw (.agg cs)=false:=rfl
theorem vW {cs:List AV}:AV.cw (.aK cs)=true:=rfl
theorem vX {q0 k0 o0 m0:Nat}:AV.cw (.bu q0 k0 o0 m0)=false:=rfl
theorem vY {q0 k0 m0 c0:Nat}:AV.cw (.aZ q0 k0 m0 c0)=false:=rfl
theorem vZ:AV.cw (.bW)=false:=rfl
theorem yS {eb:Bool}:AV.cw (b9 eb)=false:=by cases eb<;>rfl
theorem KW {L:List Nat} {x:Ar} {z:Value}:cp L x (.v z)= .v z:=rfl
theorem EL {L:List Nat} {x:Ar} {k:IntKind} {i:Int}:cp L x (.int k i)= .int k i:=rfl
theorem Bo {L:List Nat} {x:Ar} {b:Bool}:cp L x (.bool b)= .bool b:=rfl
theorem EM {L:List Nat} {x:Ar} {l:List UInt8}:cp L x (.str l)= .str l:=rfl
theorem EN {L:List Nat} {x:Ar} {s o:Nat}:cp L x (.ptr s o)= .ptr s o:=rfl
theorem Ia {L:List Nat} {x:Ar} {a:AV} {o:Nat}:cp L x (.ep a o)= .ep a o:=rfl
theorem Ib {L:List Nat} {x:Ar} {f:Nat} {cs:List AV}:cp L x (.fn f cs)= .fn f cs:=rfl
theorem Ic {L:List Nat} {x:Ar}:cp L x (.un)= .un:=rfl
theorem Ie {L:List Nat} {x:Ar} {c:UInt8}:cp L x (b8 c)=b8 c:=rfl
theorem Ig {L:List Nat} {x:Ar} {k:Nat} {xs:List AV}:cp L x (.sl .n k xs)= .sl .n k xs:=rfl
theorem EO {L:List Nat} {x:Ar} {k:Nat} {xs:List AV}:cp L x (.sl .ex k xs)= .sl .ex k xs:=rfl
theorem EP {L:List Nat} {x:Ar} {l:Loc} {k:Nat} {xs:List AV}:cp L x (.sl (.fr l) k xs)= .sl (.fr l) k xs:=rfl
theorem ER {L:List Nat} {x:Ar} {cs:List AV}:cp L x (.agg cs)= .agg (cs.map AV.aR):=rfl
theorem ES {L:List Nat} {x:Ar} {cs:List AV}:cp L x (.aK cs)= .aK (cs.map AV.aR):=rfl
theorem ET {L:List Nat} {x:Ar} {q0 k0 o0 m0:Nat}:cp L x (.bu q0 k0 o0 m0)= .bu q0 k0 o0 m0:=rfl
theorem EU {L:List Nat} {x:Ar} {q0 k0 m0 c0:Nat}:cp L x (.aZ q0 k0 m0 c0)= .aZ q0 k0 m0 c0:=rfl
theorem EV {L:List Nat} {x:Ar}:cp L x (.bW)= .bW:=rfl
theorem Ih {L:List Nat} {x:Ar} {eb:Bool}:cp L x (b9 eb)=b9 eb:=by cases eb<;>rfl
theorem Ii {L:List Nat} {u k:Nat} {xs:List AV}:cp L (.t u) (.sl .own k xs)=if L.contains u then .sl (.fr (.tmp u)) k xs else .sl .n k xs:=rfl
theorem Ij {L:List Nat} {a:AV} {k:Nat} {xs:List AV}:cp L (.c a) (.sl .own k xs)= .sl .n k xs:=rfl
theorem Ik {P:Program} {L:List Nat} {N n0:Nat} {e:Env} {ah:AH} {t:List It} {Q:Exit→Env→AH→Prop} {r:List aA} {d:Option Nat} {x:Ar} {z:Value}:eU P L N n0 e ah d r t Q x (.v z)=U P L N n0 (.ops r::t) Q .normal (au L e d (cp L x (.v z))) ah:=rfl
theorem Bp {P:Program} {L:List Nat} {N n0:Nat} {e:Env} {ah:AH} {t:List It} {Q:Exit→Env→AH→Prop} {r:List aA} {d:Option Nat} {x:Ar} {k:IntKind} {i:Int}:eU P L N n0 e ah d r t Q x (.int k i)=U P L N n0 (.ops r::t) Q .normal (au L e d (cp L x (.int k i))) ah:=rfl
theorem yT {P:Program} {L:List Nat} {N n0:Nat} {e:Env} {ah:AH} {t:List It} {Q:Exit→Env→AH→Prop} {r:List aA} {d:Option Nat} {x:Ar} {b:Bool}:eU P L N n0 e ah d r t Q x (.bool b)=U P L N n0 (.ops r::t) Q .normal (au L e d (cp L x (.bool b))) ah:=rfl
theorem Bq {P:Program} {L:List Nat} {N n0:Nat} {e:Env} {ah:AH} {t:List It} {Q:Exit→Env→AH→Prop} {r:List aA} {d:Option Nat} {x:Ar} {l:List UInt8}:eU P L N n0 e ah d r t Q x (.str l)=U P L N n0 (.ops r::t) Q .normal (au L e d (cp L x (.str l))) ah:=rfl
theorem Br {P:Program} {L:List Nat} {N n0:Nat} {e:Env} {ah:AH} {t:List It} {Q:Exit→Env→AH→Prop} {r:List aA} {d:Option Nat} {x:Ar} {s o:Nat}:eU P L N n0 e ah d r t Q x (.ptr s o)=U P L N n0 (.ops r::t) Q .normal (au L e d (cp L x (.ptr s o))) ah:=rfl
theorem EW {P:Program} {L:List Nat} {N n0:Nat} {e:Env} {ah:AH} {t:List It} {Q:Exit→Env→AH→Prop} {r:List aA} {d:Option Nat} {x:Ar} {a:AV} {o:Nat}:eU P L N n0 e ah d r t Q x (.ep a o)=U P L N n0 (.ops r::t) Q .normal (au L e d (cp L x (.ep a o))) ah:=rfl
theorem EX {P:Program} {L:List Nat} {N n0:Nat} {e:Env} {ah:AH} {t:List It} {Q:Exit→Env→AH→Prop} {r:List aA} {d:Option Nat} {x:Ar} {f:Nat} {cs:List AV}:eU P L N n0 e ah d r t Q x (.fn f cs)=U P L N n0 (.ops r::t) Q .normal (au L e d (cp L x (.fn f cs))) ah:=rfl
theorem EY {P:Program} {L:List Nat} {N n0:Nat} {e:Env} {ah:AH} {t:List It} {Q:Exit→Env→AH→Prop} {r:List aA} {d:Option Nat} {x:Ar}:eU P L N n0 e ah d r t Q x (.un)=U P L N n0 (.ops r::t) Q .normal (au L e d (cp L x (.un))) ah:=rfl
theorem EZ {P:Program} {L:List Nat} {N n0:Nat} {e:Env} {ah:AH} {t:List It} {Q:Exit→Env→AH→Prop} {r:List aA} {d:Option Nat} {x:Ar} {c:UInt8}:eU P L N n0 e ah d r t Q x (b8 c)=U P L N n0 (.ops r::t) Q .normal (au L e d (cp L x (b8 c))) ah:=rfl
theorem E0 {P:Program} {L:List Nat} {N n0:Nat} {e:Env} {ah:AH} {t:List It} {Q:Exit→Env→AH→Prop} {r:List aA} {d:Option Nat} {x:Ar} {k:Nat} {xs:List AV}:eU P L N n0 e ah d r t Q x (.sl .n k xs)=U P L N n0 (.ops r::t) Q .normal (au L e d (cp L x (.sl .n k xs))) ah:=rfl
theorem Bs {P:Program} {L:List Nat} {N n0:Nat} {e:Env} {ah:AH} {t:List It} {Q:Exit→Env→AH→Prop} {r:List aA} {d:Option Nat} {x:Ar} {k:Nat} {xs:List AV}:eU P L N n0 e ah d r t Q x (.sl .ex k xs)=U P L N n0 (.ops r::t) Q .normal (au L e d (cp L x (.sl .ex k xs))) ah:=rfl
theorem Bt {P:Program} {L:List Nat} {N n0:Nat} {e:Env} {ah:AH} {t:List It} {Q:Exit→Env→AH→Prop} {r:List aA} {d:Option Nat} {x:Ar} {l:Loc} {k:Nat} {xs:List AV}:eU P L N n0 e ah d r t Q x (.sl (.fr l) k xs)=U P L N n0 (.ops r::t) Q .normal (au L e d (cp L x (.sl (.fr l) k xs))) ah:=rfl
theorem Bu {P:Program} {L:List Nat} {N n0:Nat} {e:Env} {ah:AH} {t:List It} {Q:Exit→Env→AH→Prop} {r:List aA} {d:Option Nat} {x:Ar} {cs:List AV}:eU P L N n0 e ah d r t Q x (.agg cs)=U P L N n0 (.ops r::t) Q .normal (au L e d (cp L x (.agg cs))) ah:=rfl
theorem Bv {P:Program} {L:List Nat} {N n0:Nat} {e:Env} {ah:AH} {t:List It} {Q:Exit→Env→AH→Prop} {r:List aA} {d:Option Nat} {x:Ar} {cs:List AV}:eU P L N n0 e ah d r t Q x (.aK cs)=U P L N n0 (.ops r::t) Q .normal (au L e d (cp L x (.aK cs))) ah:=rfl
theorem Bw {P:Program} {L:List Nat} {N n0:Nat} {e:Env} {ah:AH} {t:List It} {Q:Exit→Env→AH→Prop} {r:List aA} {d:Option Nat} {x:Ar} {q0 k0 o0 m0:Nat}:eU P L N n0 e ah d r t Q x (.bu q0 k0 o0 m0)=U P L N n0 (.ops r::t) Q .normal (au L e d (cp L x (.bu q0 k0 o0 m0))) ah:=rfl
theorem Bx {P:Program} {L:List Nat} {N n0:Nat} {e:Env} {ah:AH} {t:List It} {Q:Exit→Env→AH→Prop} {r:List aA} {d:Option Nat} {x:Ar} {q0 k0 m0 c0:Nat}:eU P L N n0 e ah d r t Q x (.aZ q0 k0 m0 c0)=U P L N n0 (.ops r::t) Q .normal (au L e d (cp L x (.aZ q0 k0 m0 c0))) ah:=rfl
theorem By {P:Program} {L:List Nat} {N n0:Nat} {e:Env} {ah:AH} {t:List It} {Q:Exit→Env→AH→Prop} {r:List aA} {d:Option Nat} {x:Ar}:eU P L N n0 e ah d r t Q x (.bW)=U P L N n0 (.ops r::t) Q .normal (au L e d (cp L x (.bW))) ah:=rfl
theorem E1 {P:Program} {L:List Nat} {N n0:Nat} {e:Env} {ah:AH} {t:List It} {Q:Exit→Env→AH→Prop} {r:List aA} {d:Option Nat} {x:Ar} {eb:Bool}:eU P L N n0 e ah d r t Q x (b9 eb)=U P L N n0 (.ops r::t) Q .normal (au L e d (cp L x (b9 eb))) ah:=by cases eb<;>rfl
theorem E2 {P:Program} {L:List Nat} {N n0:Nat} {e:Env} {ah:AH} {t:List It} {Q:Exit→Env→AH→Prop} {r:List aA} {d:Option Nat} {y k:Nat} {xs:List AV}:eU P L N n0 e ah d r t Q (.t y) (.sl .own k xs)=U P L N n0 (.ops r::t) Q .normal (au L (put e y (.sl .n k xs)) d (.sl .own k xs)) ah:=rfl
theorem E3 {P:Program} {L:List Nat} {N n0:Nat} {e:Env} {ah:AH} {t:List It} {Q:Exit→Env→AH→Prop} {r:List aA} {d:Option Nat} {a:AV} {k:Nat} {xs:List AV}:eU P L N n0 e ah d r t Q (.c a) (.sl .own k xs)=U P L N n0 (.ops r::t) Q .normal (au L e d (cp L (.c a) (.sl .own k xs))) ah:=rfl
theorem E4 {L:List Nat} {e:Env} {ah:AH} {d:Option Nat} {a b:Ar}:z8 L e ah d a b (.bool true)=some (au L e d (ev e a).sh,ah):=rfl
theorem E5 {L:List Nat} {e:Env} {ah:AH} {d:Option Nat} {a b:Ar}:z8 L e ah d a b (.bool false)=some (au L e d (ev e b).sh,ah):=rfl
theorem Bz {L:List Nat} {e:Env} {ah:AH} {d:Option Nat} {s o:Nat}:GI L e ah d (.ptr s o)=some (au L e d (.ptr s o),ah):=rfl
theorem E6 {L:List Nat} {e:Env} {ah:AH} {d:Option Nat} {a:AV} {o:Nat}:GI L e ah d (.ep a o)=some (au L e d (.ep a o),ah):=rfl
theorem BA {L:List Nat} {e:Env} {ah:AH} {d:Option Nat} {q s o:Nat}:GJ L e ah d q (.ptr s o)=some (au L e d (.ptr s (o+q)),ah):=rfl
theorem E7 {L:List Nat} {e:Env} {ah:AH} {d:Option Nat} {q o:Nat} {a:AV}:GJ L e ah d q (.ep a o)=some (au L e d (.ep a (o+q)),ah):=rfl
theorem E8 {L:List Nat} {e:Env} {ah:AH} {d:Option Nat} {n:Option Nat} {s o:Nat}:vb L d n e ah (.ptr s o)=Km L d n s o e ah (ah[s]?):=rfl
theorem Il {L:List Nat} {e:Env} {ah:AH} {d:Option Nat} {o:Nat} {a:AV}:vb L d none e ah (.ep a o)=Dq L d e ah (a.cells[o]?):=rfl
theorem Im {L:List Nat} {e:Env} {ah:AH} {d:Option Nat} {n o:Nat} {a:AV}:vb L d (some n) e ah (.ep a o)=if o+n≤a.cells.length∧bz ((a.cells.drop o).take n) then some (au L e d (.agg (((a.cells.drop o).take n).map AV.s1)),ah) else none:=rfl
theorem Io {s1 o1:Nat} {z:Value}:jg s1 o1 (some (.v z))=some (AV.aR (.v z)):=rfl
theorem BB {s1 o1:Nat} {k:IntKind} {i:Int}:jg s1 o1 (some (.int k i))=some (AV.aR (.int k i)):=rfl
theorem yU {s1 o1:Nat} {b:Bool}:jg s1 o1 (some (.bool b))=some (AV.aR (.bool b)):=rfl
theorem BC {s1 o1:Nat} {l:List UInt8}:jg s1 o1 (some (.str l))=some (AV.aR (.str l)):=rfl
theorem BD {s1 o1:Nat} {s o:Nat}:jg s1 o1 (some (.ptr s o))=some (AV.aR (.ptr s o)):=rfl
theorem E9 {s1 o1:Nat} {a:AV} {o:Nat}:jg s1 o1 (some (.ep a o))=some (AV.aR (.ep a o)):=rfl
theorem Fa {s1 o1:Nat} {f:Nat} {cs:List AV}:jg s1 o1 (some (.fn f cs))=some (AV.aR (.fn f cs)):=rfl
theorem Fb {s1 o1:Nat}:jg s1 o1 (some (.un))=some (AV.aR (.un)):=rfl
theorem Fc {s1 o1:Nat} {c:UInt8}:jg s1 o1 (some (b8 c))=some (AV.aR (b8 c)):=rfl
theorem Fe {s1 o1:Nat} {k:Nat} {xs:List AV}:jg s1 o1 (some (.sl .n k xs))=some (AV.aR (.sl .n k xs)):=rfl
theorem BE {s1 o1:Nat} {k:Nat} {xs:List AV}:jg s1 o1 (some (.sl .ex k xs))=some (AV.aR (.sl .ex k xs)):=rfl
theorem BF {s o k:Nat} {xs:List AV}:jg s o (some (.sl .own k xs))=some (.sl (.fr (.cell s o)) k xs):=rfl
theorem BG {s1 o1:Nat} {l:Loc} {k:Nat} {xs:List AV}:jg s1 o1 (some (.sl (.fr l) k xs))=some (AV.aR (.sl (.fr l) k xs)):=rfl
theorem BH {s1 o1:Nat} {q0 k0 o0 m0:Nat}:jg s1 o1 (some (.bu q0 k0 o0 m0))=some (AV.aR (.bu q0 k0 o0 m0)):=rfl
theorem BI {s1 o1:Nat} {q0 k0 m0 c0:Nat}:jg s1 o1 (some (.aZ q0 k0 m0 c0))=some (AV.aR (.aZ q0 k0 m0 c0)):=rfl
theorem BJ {s1 o1:Nat}:jg s1 o1 (some (.bW))=some (AV.aR (.bW)):=rfl
theorem Ff {s1 o1:Nat} {eb:Bool}:jg s1 o1 (some (b9 eb))=some (AV.aR (b9 eb)):=by cases eb<;>rfl
theorem KX {L:List Nat} {e:Env} {ah:AH} {d:Option Nat} {ks:List Pk} {neq:Bool} {zq bs:List AV}:LL L e ah d ks neq (.agg zq) (.agg bs)=(bp ks zq bs).map fun b=>(au L e d (.bool (if neq then !b else b)),ah):=rfl
theorem KY {L:List Nat} {e:Env} {ah:AH} {d:Option Nat} {l:List UInt8} {k k2:IntKind} {i j:Int}:Cw L e ah d l (.int k i) (.int k2 j)=(sub l i j).map fun m=>(au L e d (.str m),ah):=rfl
theorem KZ {L:List Nat} {e:Env} {ah:AH} {d:Option Nat} {q:Nat} {xs:List AV} {k k2:IntKind} {i j:Int}:Cy L e ah d q xs (.int k i) (.int k2 j)=(sub xs i j).map fun ys=>(au L e d (.sl .n q ys),ah):=rfl
theorem Ip {L:List Nat} {e:Env} {ah:AH} {d:Option Nat} {q:Nat} {xs:List AV} {k k2 k3:IntKind} {i j m:Int}:rZ L e ah d q xs (.int k i) (.int k2 j) (.int k3 m)=(qv xs i j m).map fun ys=>(au L e d (.sl .ex q ys),ah):=rfl
theorem Iq {L:List Nat} {e:Env} {ah:AH} {d:Option Nat} {k b:Nat} {x:Ar} {ys xs:List AV} {tg:Tg}:vj L e ah d k b x ys (.sl tg k xs)=sg L e ah d k x xs tg (cx b xs ys):=by simp [vj]
theorem Ir {L:List Nat} {e:Env} {ah:AH} {d:Option Nat} {k:Nat} {x:Ar} {xs zs:List AV}:jM L e ah d k x xs zs .ex=some (au L e d (.sl .own k zs),ah):=rfl
theorem Fg {L:List Nat} {e:Env} {ah:AH} {d:Option Nat} {k y:Nat} {xs zs:List AV}:jM L e ah d k (.t y) xs zs .own=some (au L (put e y (.sl .n k xs)) d (.sl .own k zs),ah):=rfl
def Nw (L:List Nat) (e:Env) (ah:AH) (d:Option Nat) (k u:Nat) (zs:List AV):AV→Option (Env×AH)
 | .sl .own k' us=>if k'=k then some (au L (put e u (.sl .n k' us)) d (.sl .own k zs),ah) else none
 |_=>none
def K1 (L:List Nat) (e:Env) (ah:AH) (d:Option Nat) (k s q:Nat) (zs cs:List AV):Option AV→Option (Env×AH)
 |some (.sl .own k' us)=>if k'=k then (over cs q [.sl .n k' us]).map fun cs=>(au L e d (.sl .own k zs),ah.set s cs) else none
 |_=>none
def Nx (L:List Nat) (e:Env) (ah:AH) (d:Option Nat) (k s q:Nat) (zs:List AV):Option (List AV)→Option (Env×AH)
 |some cs=>K1 L e ah d k s q zs cs (cs[q]?)
 |none=>none
theorem K2 {L:List Nat} {e:Env} {ah:AH} {d:Option Nat} {k u:Nat} {x:Ar} {xs zs:List AV}:jM L e ah d k x xs zs (.fr (.tmp u))=Nw L e ah d k u zs (Am.get e u):=by simp only [jM];cases Am.get e u with|sl tg k2 us=>cases tg<;>rfl|_=>rfl
theorem K3 {L:List Nat} {e:Env} {ah:AH} {d:Option Nat} {k s q:Nat} {x:Ar} {xs zs:List AV}:jM L e ah d k x xs zs (.fr (.cell s q))=Nx L e ah d k s q zs (ah[s]?):=by simp only [jM];cases ah[s]? with|none=>rfl|some cs=>simp only [Nx];cases cs[q]? with|none=>rfl|some a=>cases a with|sl tg k2 us=>cases tg<;>rfl|_=>rfl
theorem Ny {L:List Nat} {e:Env} {ah:AH} {d:Option Nat} {k u:Nat} {zs us:List AV}:Nw L e ah d k u zs (.sl .own k us)=some (au L (put e u (.sl .n k us)) d (.sl .own k zs),ah):=by simp [Nw]
theorem Nz {L:List Nat} {e:Env} {ah:AH} {d:Option Nat} {k s q:Nat} {zs cs:List AV}:Nx L e ah d k s q zs (some cs)=K1 L e ah d k s q zs cs (cs[q]?):=rfl
theorem NA {L:List Nat} {e:Env} {ah:AH} {d:Option Nat} {k s q:Nat} {zs cs us:List AV}:K1 L e ah d k s q zs cs (some (.sl .own k us))=(over cs q [.sl .n k us]).map fun cs=>(au L e d (.sl .own k zs),ah.set s cs):=by simp [K1]
theorem NB:bz []=true:=rfl
theorem NC {a:AV} {r:List AV}:bz (a::r)=(a.flat&&bz r):=rfl
theorem ND:bh []=true:=rfl
theorem PU {a:AV} {r:List AV}:bh (a::r)=(a.ez&&bh r):=rfl
theorem NF:c7 []=true:=rfl
theorem PV {a:AV} {r:List AV}:c7 (a::r)=(a.np&&c7 r):=rfl
theorem PW {t:Nat}:Am.get [] t= .un:=rfl
theorem PX {i t:Nat} {a:AV} {r:Env}:Am.get ((i,a)::r) t=if i=t then a else Am.get r t:=rfl
theorem PY {d:Nat} {a:AV}:put [] d a=[(d,a)]:=rfl
theorem PZ {i d:Nat} {a b:AV} {r:Env}:put ((i,b)::r) d a=if i=d then (d,a)::r else if d<i then (d,a)::(i,b)::r else (i,b)::put r d a:=rfl
theorem P0 {L:List Nat}:keep L []=[]:=rfl
theorem P1 {L:List Nat} {i:Nat} {a:AV} {r:Env}:keep L ((i,a)::r)=if L.contains i then (i,a)::keep L r else keep L r:=rfl
theorem P2 {l:Loc}:ff l []=[]:=rfl
theorem P3 {l:Loc} {i:Nat} {a:AV} {r:Env}:ff l ((i,a)::r)=(i,a.bY l)::ff l r:=rfl
theorem P4:l7 []=[]:=rfl
theorem P5 {i:Nat} {a:AV} {r:Env}:l7 ((i,a)::r)=(i,a.ey)::l7 r:=rfl
theorem P6 {e:Env}:iJ e none=e:=rfl
theorem P7 {e:Env} {d:Nat}:iJ e (some d)=put e d (.aK []):=rfl
theorem P8 {L:List Nat} {e:Env} {a:AV}:au L e none a=e:=rfl
theorem P9 {L:List Nat} {e:Env} {d:Nat} {a:AV}:au L e (some d) a=if L.contains d then (if a.aU then put (ff (.tmp d) e) d a else put e d a.df) else put e d a:=rfl
theorem Qa {i:Nat}:cL i []=[]:=rfl
theorem Qb {i:Nat} {a:AV} {r:List AV}:cL i (a::r)=(i,a)::cL (i+1) r:=rfl
theorem Qc {k:IntKind} {i:Int}:xR k i= .int k i:=rfl
theorem Qd {a b:Nat}:(Loc.tmp a=Loc.tmp b)=(a=b):=by simp
theorem Qe {a b c d:Nat}:(Loc.cell a b=Loc.cell c d)=(a=c∧b=d):=by simp
theorem NH {a c d:Nat}:(Loc.tmp a=Loc.cell c d)=False:=by simp
theorem NI {a c d:Nat}:(Loc.cell c d=Loc.tmp a)=False:=by simp
def kR (e:Env) (ah:AH) (s p n:Nat) (x:Ar) (cs:List AV):AV→Option (Env×AH)
 | .sl .own k xs=>match x with
   | .t y=>if n=1 then (over cs p [.sl .own k xs]).map fun cs=>(ff (.cell s p) (put e y (.sl .n k xs)),ah.set s cs) else none
   | .c a=>if (AV.sl .own k xs).cells.length=n∧bh (AV.sl .own k xs).cells then (over cs p ((AV.sl .own k xs).cells.map AV.aR)).map fun cs=>(e,ah.set s cs) else none
 |w=>if w.cells.length=n∧bh w.cells then (over cs p (w.cells.map AV.aR)).map fun cs=>(e,ah.set s cs) else none
def K4 (e:Env) (ah:AH) (s p n:Nat) (x:Ar):Option (List AV)→Option (Env×AH)
 |some cs=>kR e ah s p n x cs (ev e x)
 |none=>none
def NJ (e:Env) (ah:AH) (n:Nat) (x:Ar):AV→Option (Env×AH)
 | .ptr s p=>K4 e ah s p n x (ah[s]?)
 |_=>none
theorem LW {P:Program} {L:List Nat} {N n0:Nat} {e:Env} {ah:AH} {t:List It} {Q:Exit→Env→AH→Prop} {r:List aA} {d:Option Nat} {a x:Ar} {n:Nat} {g:Option (Nat×Bool)}:UG P L N n0 ⟨d, .st a x n,g⟩ r t Q e ah (some true)=US P L N n0 r t Q (NJ e ah n x (ev e a)):=by
 simp only [UG,aN]
 congr 1
 cases ev e a with
 |ptr s p=>
  simp only [NJ]
  cases ah[s]? with
  |none=>rfl
  |some cs=>
   simp only [K4]
   cases ev e x with
   |sl tg k xs=>cases tg<;>cases x<;>rfl
   |_=>rfl
 |_=>rfl
theorem NK {e:Env} {ah:AH} {s p n:Nat} {x:Ar}:NJ e ah n x (.ptr s p)=K4 e ah s p n x (ah[s]?):=rfl
theorem NL {e:Env} {ah:AH} {s p n:Nat} {x:Ar} {cs:List AV}:K4 e ah s p n x (some cs)=kR e ah s p n x cs (ev e x):=rfl
theorem Fh {e:Env} {ah:AH} {s p n y k:Nat} {cs xs:List AV}:kR e ah s p n (.t y) cs (.sl .own k xs)=if n=1 then (over cs p [.sl .own k xs]).map fun cs=>(ff (.cell s p) (put e y (.sl .n k xs)),ah.set s cs) else none:=rfl
theorem Is {e:Env} {ah:AH} {s p n:Nat} {x:Ar} {cs:List AV} {z:Value}:kR e ah s p n x cs (.v z)=if (AV.cells (.v z)).length=n∧bh (AV.cells (.v z)) then (over cs p ((AV.cells (.v z)).map AV.aR)).map fun cs=>(e,ah.set s cs) else none:=rfl
theorem BK {e:Env} {ah:AH} {s p n:Nat} {x:Ar} {cs:List AV} {k:IntKind} {i:Int}:kR e ah s p n x cs (.int k i)=if (AV.cells (.int k i)).length=n∧bh (AV.cells (.int k i)) then (over cs p ((AV.cells (.int k i)).map AV.aR)).map fun cs=>(e,ah.set s cs) else none:=rfl
theorem yV {e:Env} {ah:AH} {s p n:Nat} {x:Ar} {cs:List AV} {b:Bool}:kR e ah s p n x cs (.bool b)=if (AV.cells (.bool b)).length=n∧bh (AV.cells (.bool b)) then (over cs p ((AV.cells (.bool b)).map AV.aR)).map fun cs=>(e,ah.set s cs) else none:=rfl
theorem BL {e:Env} {ah:AH} {s p n:Nat} {x:Ar} {cs:List AV} {l:List UInt8}:kR e ah s p n x cs (.str l)=if (AV.cells (.str l)).length=n∧bh (AV.cells (.str l)) then (over cs p ((AV.cells (.str l)).map AV.aR)).map fun cs=>(e,ah.set s cs) else none:=rfl
theorem BM {e:Env} {ah:AH} {s p n:Nat} {x:Ar} {cs:List AV} {s0 o:Nat}:kR e ah s p n x cs (.ptr s0 o)=if (AV.cells (.ptr s0 o)).length=n∧bh (AV.cells (.ptr s0 o)) then (over cs p ((AV.cells (.ptr s0 o)).map AV.aR)).map fun cs=>(e,ah.set s cs) else none:=rfl
theorem Fi {e:Env} {ah:AH} {s p n:Nat} {x:Ar} {cs:List AV} {a:AV} {o:Nat}:kR e ah s p n x cs (.ep a o)=if (AV.cells (.ep a o)).length=n∧bh (AV.cells (.ep a o)) then (over cs p ((AV.cells (.ep a o)).map AV.aR)).map fun cs=>(e,ah.set s cs) else none:=rfl
theorem Fj {e:Env} {ah:AH} {s p n:Nat} {x:Ar} {cs:List AV} {f:Nat} {ds:List AV}:kR e ah s p n x cs (.fn f ds)=if (AV.cells (.fn f ds)).length=n∧bh (AV.cells (.fn f ds)) then (over cs p ((AV.cells (.fn f ds)).map AV.aR)).map fun cs=>(e,ah.set s cs) else none:=rfl
theorem Fk {e:Env} {ah:AH} {s p n:Nat} {x:Ar} {cs:List AV} {c:UInt8}:kR e ah s p n x cs (b8 c)=if (AV.cells (b8 c)).length=n∧bh (AV.cells (b8 c)) then (over cs p ((AV.cells (b8 c)).map AV.aR)).map fun cs=>(e,ah.set s cs) else none:=rfl
theorem Fl {e:Env} {ah:AH} {s p n:Nat} {x:Ar} {cs:List AV} {k:Nat} {xs:List AV}:kR e ah s p n x cs (.sl .n k xs)=if (AV.cells (.sl .n k xs)).length=n∧bh (AV.cells (.sl .n k xs)) then (over cs p ((AV.cells (.sl .n k xs)).map AV.aR)).map fun cs=>(e,ah.set s cs) else none:=rfl
theorem BN {e:Env} {ah:AH} {s p n:Nat} {x:Ar} {cs:List AV} {k:Nat} {xs:List AV}:kR e ah s p n x cs (.sl .ex k xs)=if (AV.cells (.sl .ex k xs)).length=n∧bh (AV.cells (.sl .ex k xs)) then (over cs p ((AV.cells (.sl .ex k xs)).map AV.aR)).map fun cs=>(e,ah.set s cs) else none:=rfl
theorem BO {e:Env} {ah:AH} {s p n:Nat} {x:Ar} {cs:List AV} {l:Loc} {k:Nat} {xs:List AV}:kR e ah s p n x cs (.sl (.fr l) k xs)=if (AV.cells (.sl (.fr l) k xs)).length=n∧bh (AV.cells (.sl (.fr l) k xs)) then (over cs p ((AV.cells (.sl (.fr l) k xs)).map AV.aR)).map fun cs=>(e,ah.set s cs) else none:=rfl
theorem BP {e:Env} {ah:AH} {s p n:Nat} {x:Ar} {cs:List AV} {ds:List AV}:kR e ah s p n x cs (.agg ds)=if (AV.cells (.agg ds)).length=n∧bh (AV.cells (.agg ds)) then (over cs p ((AV.cells (.agg ds)).map AV.aR)).map fun cs=>(e,ah.set s cs) else none:=rfl
theorem BQ {e:Env} {ah:AH} {s p n:Nat} {x:Ar} {cs:List AV} {q0 k0 o0 m0:Nat}:kR e ah s p n x cs (.bu q0 k0 o0 m0)=if (AV.cells (.bu q0 k0 o0 m0)).length=n∧bh (AV.cells (.bu q0 k0 o0 m0)) then (over cs p ((AV.cells (.bu q0 k0 o0 m0)).map AV.aR)).map fun cs=>(e,ah.set s cs) else none:=rfl
theorem BR {e:Env} {ah:AH} {s p n:Nat} {x:Ar} {cs:List AV} {q0 k0 m0 c0:Nat}:kR e ah s p n x cs (.aZ q0 k0 m0 c0)=if (AV.cells (.aZ q0 k0 m0 c0)).length=n∧bh (AV.cells (.aZ q0 k0 m0 c0)) then (over cs p ((AV.cells (.aZ q0 k0 m0 c0)).map AV.aR)).map fun cs=>(e,ah.set s cs) else none:=rfl
theorem BS {e:Env} {ah:AH} {s p n:Nat} {x:Ar} {cs:List AV}:kR e ah s p n x cs (.bW)=if (AV.cells (.bW)).length=n∧bh (AV.cells (.bW)) then (over cs p ((AV.cells (.bW)).map AV.aR)).map fun cs=>(e,ah.set s cs) else none:=rfl
theorem Fm {e:Env} {ah:AH} {s p n:Nat} {x:Ar} {cs:List AV} {eb:Bool}:kR e ah s p n x cs (b9 eb)=if (AV.cells (b9 eb)).length=n∧bh (AV.cells (b9 eb)) then (over cs p ((AV.cells (b9 eb)).map AV.aR)).map fun cs=>(e,ah.set s cs) else none:=by cases eb<;>rfl
theorem K5 {c0:AV} {cs ws:List AV} {o:Nat}:over (c0::cs) o ws=if o+ws.length≤(c0::cs).length then some ((c0::cs).take o++ws++(c0::cs).drop (o+ws.length)) else none:=rfl
theorem Qf {e:Env} {cs:List AV}:fill e cs []=some cs:=rfl
def Iu (e:Env) (r:List (Nat×Nat×Ar)):Option (List AV)→Option (List AV)
 |some cs=>fill e cs r
 |none=>none
theorem Qg {e:Env} {cs:List AV} {o n:Nat} {x:Ar} {r:List (Nat×Nat×Ar)}:fill e cs ((o,n,x)::r)=if (ev e x).cells.length=n∧bh (ev e x).cells then Iu e r (over cs o ((ev e x).cells.map AV.aR)) else none:=by
 simp only [fill]
 split
 · cases over cs o ((ev e x).cells.map AV.aR)<;>rfl
 · rfl
theorem Qh {e:Env} {cs:List AV} {r:List (Nat×Nat×Ar)}:Iu e r (some cs)=fill e cs r:=rfl
theorem Iv {P:Program} {L:List Nat} {N n0:Nat} {e:Env} {ah:AH} {t:List It} {Q:Exit→Env→AH→Prop} {r:List aA} {d:Option Nat} {x:Ar} {g:Option (Nat×Bool)}:UG P L N n0 ⟨d, .len x,g⟩ r t Q e ah (some true)=US P L N n0 r t Q (CC L e ah d (ev e x)):=by simp only [UG,aN];cases ev e x<;>rfl
theorem K6 {L:List Nat} {e:Env} {ah:AH} {d:Option Nat} {tg:Tg} {k:Nat} {xs:List AV}:CC L e ah d (.sl tg k xs)=some (au L e d (.int .i64 xs.length),ah):=rfl
theorem CD {P:Program} {L:List Nat} {N n0:Nat} {e:Env} {ah:AH} {t:List It} {Q:Exit→Env→AH→Prop} {r:List aA} {d:Option Nat} {x:Ar} {g:Option (Nat×Bool)}:UG P L N n0 ⟨d, .lens x,g⟩ r t Q e ah (some true)=US P L N n0 r t Q (Hp L e ah d (ev e x)):=by simp only [UG,aN];cases ev e x<;>rfl
theorem Iw {L:List Nat} {e:Env} {ah:AH} {d:Option Nat} {l:List UInt8}:Hp L e ah d (.str l)=some (au L e d (.int .i64 l.length),ah):=rfl
theorem Ix {P:Program} {L:List Nat} {N n0:Nat} {e:Env} {ah:AH} {t:List It} {Q:Exit→Env→AH→Prop} {r:List aA} {d:Option Nat} {x:Ar} {i:Nat} {g:Option (Nat×Bool)}:UG P L N n0 ⟨d, .ext x i,g⟩ r t Q e ah (some true)=US P L N n0 r t Q (Hr L e ah d i (ev e x)):=by simp only [UG,aN];cases ev e x with|aK cs=>simp only [Hr];cases cs[i]? <;>rfl|_=>rfl
theorem K7 {L:List Nat} {e:Env} {ah:AH} {d:Option Nat} {i:Nat} {cs:List AV}:Hr L e ah d i (.aK cs)=Hq L e ah d (cs[i]?):=rfl
theorem K8 {L:List Nat} {e:Env} {ah:AH} {d:Option Nat} {a:AV}:Hq L e ah d (some a)=some (au L e d a.sh,ah):=rfl
theorem CE {P:Program} {L:List Nat} {N n0:Nat} {e:Env} {ah:AH} {t:List It} {Q:Exit→Env→AH→Prop} {r:List aA} {d:Option Nat} {x:Ar} {q:Nat} {n:Option Nat} {g:Option (Nat×Bool)}:UG P L N n0 ⟨d, .um x q n,g⟩ r t Q e ah (some true)=US P L N n0 r t Q (vn L e ah d q n (ev e x)):=by
 simp only [UG,aN]
 cases ev e x with
 |agg cs=>
  cases n with
  |some n=>rfl
  |none=>simp only [vn];cases cs[q]? <;>rfl
 |_=>cases n<;>rfl
theorem NM {L:List Nat} {e:Env} {ah:AH} {d:Option Nat} {q:Nat} {cs:List AV}:vn L e ah d q none (.agg cs)=Ac L e ah d (cs[q]?):=rfl
theorem NN {L:List Nat} {e:Env} {ah:AH} {d:Option Nat} {a:AV}:Ac L e ah d (some a)=some (au L e d a.aR,ah):=rfl
theorem NO {L:List Nat} {e:Env} {ah:AH} {d:Option Nat} {q n:Nat} {cs:List AV}:vn L e ah d q (some n) (.agg cs)=if q+n≤cs.length then some (au L e d (.agg (((cs.drop q).take n).map AV.aR)),ah) else none:=rfl
theorem Iy {P:Program} {L:List Nat} {N n0:Nat} {e:Env} {ah:AH} {t:List It} {Q:Exit→Env→AH→Prop} {r:List aA} {d:Option Nat} {x:Ar} {n:Option Nat} {g:Option (Nat×Bool)}:UG P L N n0 ⟨d, .CQ x n,g⟩ r t Q e ah (some true)=US P L N n0 r t Q (Hs L e ah d n (ev e x)):=by
 simp only [UG,aN]
 cases ev e x with
 |ep a p=>
  cases n with
  |some n=>rfl
  |none=>simp only [Hs,vb,Dq];cases a.cells[p]? <;>rfl
 |_=>cases n<;>rfl
theorem NP {L:List Nat} {e:Env} {ah:AH} {d:Option Nat} {n:Option Nat} {a:AV} {p:Nat}:Hs L e ah d n (.ep a p)=vb L d n e ah (.ep a p):=rfl
def Sx:=And.intro @Ht<|And.intro @Ad<|And.intro @xT<|And.intro @Ae<|And.intro @Af<|And.intro @Du<|And.intro @Dv<|And.intro @Dw<|And.intro @Dx<|And.intro @Dy<|And.intro @Ag<|And.intro @xU<|And.intro @Ah<|And.intro @Ai<|And.intro @Aj<|And.intro @Ak<|And.intro @Al<|And.intro @An<|And.intro @Dz<|And.intro @KR<|And.intro @DA<|And.intro @Ao<|And.intro @DB<|And.intro @DC<|And.intro @Hu<|And.intro @Hv<|And.intro @Hw<|And.intro @Hx<|And.intro @Hy<|And.intro @DD<|And.intro @Ap<|And.intro @DE<|And.intro @DF<|And.intro @DG<|And.intro @DH<|And.intro @DI<|And.intro @DJ<|And.intro @Hz<|And.intro @KS<|And.intro @DK<|And.intro @Aq<|And.intro @DL<|And.intro @DM<|And.intro @HA<|And.intro @HB<|And.intro @HC<|And.intro @HD<|And.intro @HF<|And.intro @DN<|And.intro @As<|And.intro @DO<|And.intro @DP<|And.intro @DQ<|And.intro @DR<|And.intro @DS<|And.intro @DT<|And.intro @HG<|And.intro @KT<|And.intro @DU<|@At
def Sy:=And.intro @DV<|And.intro @DW<|And.intro @HH<|And.intro @HI<|And.intro @HJ<|And.intro @HK<|And.intro @HL<|And.intro @DX<|And.intro @Au<|And.intro @DY<|And.intro @DZ<|And.intro @D0<|And.intro @D1<|And.intro @D2<|And.intro @D3<|And.intro @HM<|And.intro @KU<|And.intro @D4<|And.intro @Av<|And.intro @D5<|And.intro @D6<|And.intro @HN<|And.intro @HO<|And.intro @HP<|And.intro @HQ<|And.intro @HR<|And.intro @D7<|And.intro @Aw<|And.intro @D8<|And.intro @D9<|And.intro @Ea<|And.intro @Eb<|And.intro @Ec<|And.intro @Ed<|And.intro @HS<|And.intro @Ax<|And.intro @vo<|And.intro @tw<|And.intro @vp<|And.intro @vq<|And.intro @xV<|And.intro @xW<|And.intro @xX<|And.intro @xY<|And.intro @xZ<|And.intro @vt<|And.intro @tA<|And.intro @vu<|And.intro @vv<|And.intro @vw<|And.intro @vz<|And.intro @vA<|And.intro @vB<|And.intro @ya<|And.intro @HT<|And.intro @Ay<|And.intro @yb<|And.intro @Az<|And.intro @AA<|@Ee
def Sz:=And.intro @Ef<|And.intro @Eg<|And.intro @Eh<|And.intro @Ei<|And.intro @AB<|And.intro @yc<|And.intro @AD<|And.intro @AE<|And.intro @AF<|And.intro @AG<|And.intro @AI<|And.intro @AJ<|And.intro @Ej<|And.intro @Ek<|And.intro @yd<|And.intro @vC<|And.intro @ye<|And.intro @yf<|And.intro @AK<|And.intro @AL<|And.intro @AM<|And.intro @AN<|And.intro @AO<|And.intro @yg<|And.intro @vD<|And.intro @yh<|And.intro @yj<|And.intro @yl<|And.intro @ym<|And.intro @yo<|And.intro @yp<|And.intro @AP<|And.intro @HU<|And.intro @AQ<|And.intro @yq<|And.intro @AR<|And.intro @AS<|And.intro @El<|And.intro @Em<|And.intro @En<|And.intro @Eo<|And.intro @Ep<|And.intro @AT<|And.intro @yt<|And.intro @AU<|And.intro @AY<|And.intro @AZ<|And.intro @A0<|And.intro @A1<|And.intro @Er<|And.intro @HV<|And.intro @HW<|And.intro @A2<|And.intro @vE<|And.intro @tB<|And.intro @vF<|And.intro @vG<|And.intro @yu<|And.intro @yw<|@yx
def SA:=And.intro @yy<|And.intro @yz<|And.intro @vH<|And.intro @tC<|And.intro @vI<|And.intro @vJ<|And.intro @vK<|And.intro @vL<|And.intro @vM<|And.intro @vN<|And.intro @yA<|And.intro @HX<|And.intro @A3<|And.intro @yB<|And.intro @A4<|And.intro @A5<|And.intro @Es<|And.intro @Et<|And.intro @Eu<|And.intro @Ev<|And.intro @Ew<|And.intro @A6<|And.intro @yC<|And.intro @A7<|And.intro @A8<|And.intro @A9<|And.intro @Ba<|And.intro @Bb<|And.intro @Bc<|And.intro @Ex<|And.intro @Ey<|And.intro @yD<|And.intro @vO<|And.intro @yE<|And.intro @yF<|And.intro @Be<|And.intro @Bg<|And.intro @Bh<|And.intro @Bi<|And.intro @Bj<|And.intro @yG<|And.intro @vP<|And.intro @yH<|And.intro @yI<|And.intro @yJ<|And.intro @yK<|And.intro @yL<|And.intro @yM<|And.intro @Bk<|And.intro @KV<|And.intro @Ez<|And.intro @Bl<|And.intro @EA<|And.intro @EB<|And.intro @HY<|And.intro @HZ<|And.intro @H6<|And.intro @H7<|And.intro @H8<|@EC
def SB:=And.intro @Bm<|And.intro @ED<|And.intro @EE<|And.intro @EG<|And.intro @EH<|And.intro @EI<|And.intro @EJ<|And.intro @H9<|And.intro @Bn<|And.intro @vQ<|And.intro @tD<|And.intro @vR<|And.intro @vS<|And.intro @yN<|And.intro @yO<|And.intro @yP<|And.intro @yQ<|And.intro @yR<|And.intro @vT<|And.intro @tE<|And.intro @vU<|And.intro @vV<|And.intro @vW<|And.intro @vX<|And.intro @vY<|And.intro @vZ<|And.intro @yS<|And.intro @KW<|And.intro @EL<|And.intro @Bo<|And.intro @EM<|And.intro @EN<|And.intro @Ia<|And.intro @Ib<|And.intro @Ic<|And.intro @Ie<|And.intro @Ig<|And.intro @EO<|And.intro @EP<|And.intro @ER<|And.intro @ES<|And.intro @ET<|And.intro @EU<|And.intro @EV<|And.intro @Ih<|And.intro @Ii<|And.intro @Ij<|And.intro @Ik<|And.intro @Bp<|And.intro @yT<|And.intro @Bq<|And.intro @Br<|And.intro @EW<|And.intro @EX<|And.intro @EY<|And.intro @EZ<|And.intro @E0<|And.intro @Bs<|And.intro @Bt<|@Bu
def SC:=And.intro @Bv<|And.intro @Bw<|And.intro @Bx<|And.intro @By<|And.intro @E1<|And.intro @E2<|And.intro @E3<|And.intro @E4<|And.intro @E5<|And.intro @Bz<|And.intro @E6<|And.intro @BA<|And.intro @E7<|And.intro @E8<|And.intro @Il<|And.intro @Im<|And.intro @Io<|And.intro @BB<|And.intro @yU<|And.intro @BC<|And.intro @BD<|And.intro @E9<|And.intro @Fa<|And.intro @Fb<|And.intro @Fc<|And.intro @Fe<|And.intro @BE<|And.intro @BF<|And.intro @BG<|And.intro @BH<|And.intro @BI<|And.intro @BJ<|And.intro @Ff<|And.intro @KX<|And.intro @KY<|And.intro @KZ<|And.intro @Ip<|And.intro @Iq<|And.intro @Ir<|And.intro @Fg<|And.intro @K2<|And.intro @K3<|And.intro @Ny<|And.intro @Nz<|And.intro @NA<|And.intro @NB<|And.intro @NC<|And.intro @ND<|And.intro @PU<|And.intro @NF<|And.intro @PV<|And.intro @PW<|And.intro @PX<|And.intro @PY<|And.intro @PZ<|And.intro @P0<|And.intro @P1<|And.intro @P2<|And.intro @P3<|@P4
def SD:=And.intro @P5<|And.intro @P6<|And.intro @P7<|And.intro @P8<|And.intro @P9<|And.intro @Qa<|And.intro @Qb<|And.intro @Qc<|And.intro @Qd<|And.intro @Qe<|And.intro @NH<|And.intro @NI<|And.intro @LW<|And.intro @NK<|And.intro @NL<|And.intro @Fh<|And.intro @Is<|And.intro @BK<|And.intro @yV<|And.intro @BL<|And.intro @BM<|And.intro @Fi<|And.intro @Fj<|And.intro @Fk<|And.intro @Fl<|And.intro @BN<|And.intro @BO<|And.intro @BP<|And.intro @BQ<|And.intro @BR<|And.intro @BS<|And.intro @Fm<|And.intro @K5<|And.intro @Qf<|And.intro @Qg<|And.intro @Qh<|And.intro @Iv<|And.intro @K6<|And.intro @CD<|And.intro @Iw<|And.intro @Ix<|And.intro @K7<|And.intro @K8<|And.intro @CE<|And.intro @NM<|And.intro @NN<|And.intro @NO<|And.intro @Iy<|@NP
end Go.Am
end
section
namespace Go.Am
open Go
variable [Tabs]
def mR (n:Nat) (i:Int):Option Nat:=if 0≤i∧i<n then some i.toNat else none
def uD {α:Type} (xs:List α) (j:Nat) (c:α):Option (List α):=if j<xs.length then some (xs.set j c) else none
section
variable {P:Program} {L:List Nat} {e:Env} {ah:AH} {d:Option Nat}
theorem K9 {xs:List UInt8} {j:Nat} {c:UInt8}:over (ml b8 xs) j [b8 c]=(uD xs j c).map (ml b8):=by
 unfold over uD ml
 simp only [List.length_map,List.length_cons,List.length_nil]
 by_cases h:j<xs.length
 · rw [if_pos (by omega),if_pos h]
   simp only [Option.map_some,Option.some.injEq,List.map_set]
   rw [List.set_eq_take_append_cons_drop,if_pos (by simpa using h)]
   simp
 · rw [if_neg (by omega),if_neg h];rfl
theorem NQ {xs:List UInt8} {j:Nat}:(ml b8 xs)[j]? =(xs[j]?).map b8:=by simp [ml]
theorem Qi {s n:Nat} {ki:IntKind} {i:Int}:oE L e ah d 1 (.bu s 1 0 n) (.int ki i)=(mR n i).map fun j=>(au L e d (.ptr s j),ah):=by
 simp only [oE,mR,and_true]
 split<;>simp
theorem NR {s k o n:Nat}:CC L e ah d (.bu s k o n)=some (au L e d (.int .i64 n),ah):=rfl
theorem Iz {h:Cv} {l:List UInt8}:rU L e ah d h (.str l)=(cO h (.str l)).map fun a=>(au L e d a,ah):=rfl
theorem IA {h:Cv} {k:IntKind} {i:Int}:rU L e ah d h (.int k i)=(cO h (.int k i)).map fun a=>(au L e d a,ah):=rfl
theorem La {h:Cv} {c:UInt8}:rU L e ah d h (b8 c)=(cO h (b8 c)).map fun a=>(au L e d a,ah):=rfl
theorem Lb {h:Cv} {t:Tg} {k:Nat} {xs:List AV}:rU L e ah d h (.sl t k xs)=(cO h (.sl t k xs)).map fun a=>(au L e d a,ah):=rfl
theorem IB {s n:Nat}:rU L e ah d .bs (.bu s 1 0 n)=GK L e ah d 0 n (ah[s]?):=rfl
theorem SE {p n:Nat} {cs:List AV}:GK L e ah d p n (some cs)=Cj L e ah d p n cs:=rfl
theorem SF {n:Nat} {xs:List UInt8}:Cj L e ah d 0 n (ml b8 xs)=(sub xs 0 (n:Int)).map fun l=>(au L e d (.str l),ah):=by
 unfold Cj sub
 have hb:bytesOf (((ml b8 xs).drop 0).take n)=some (xs.take n):=by
  have:((ml b8 xs).drop 0).take n=(ml b8 (xs.take n)):=by simp [ml,List.map_take]
  rw [this];exact qu _
 rw [hb]
 by_cases h:n≤xs.length
 · rw [if_pos (by simp [ml];exact h),if_pos (by omega)];simp
 · rw [if_neg (by simp [ml];omega),if_neg (by omega)];rfl
theorem SG {l:List UInt8}:GL L e ah d (.str l)=some (au L e d (.bu ah.length 1 0 l.length),ah++[ml b8 l]):=rfl
theorem NS:zF .bW (.v .nilIface)=some false:=rfl
theorem NT:zF (.v .nilIface) (.v .nilIface)=some true:=rfl
theorem NU {b:Bool}:zF (b9 b) (.v .nilIface)=some (!b):=by cases b<;>rfl
theorem NV {k:IntKind} {i j:Int}:xd true (.int k i) (.int k j)=some (.int k (max i j)):=by simp [xd]
theorem NW {k:IntKind} {i j:Int}:xd false (.int k i) (.int k j)=some (.int k (min i j)):=by simp [xd]
end
def WM:=And.intro @K9<|And.intro @NQ<|And.intro @Qi<|And.intro @NR<|And.intro @Iz<|And.intro @IA<|And.intro @La<|And.intro @Lb<|And.intro @IB<|And.intro @SE<|And.intro @SF<|And.intro @SG<|And.intro @NS<|And.intro @NT<|And.intro @NU<|And.intro @Bool.not_not<|And.intro @NV<|And.intro @NW<|And.intro @Kn<|And.intro @Ko<|And.intro @Pv @Pw
theorem Wx.bu {s k o n:Nat}:Wx (.bu s k o n) (.bu s k o n):= .same (by simp)
theorem Wx.bW:Wx .bW .bW:= .same (by simp)
theorem Wx.TK {a b:AV} {o:Nat} (h:a=b):Wx (.ep a o) (.ep b o):=by subst h;exact Wx.ep
theorem Wx.err {b:Bool}:Wx (b9 b) (b9 b):= .same (by cases b<;>simp [b9])
end Go.Am
end
section
namespace Go.Am
open Go
variable [Tabs]
section
variable {P:Program} {L:List Nat} {N n0:Nat} {F:Nat→Prop} {γ:List Nat} {C:Nat→List Value} {e e':Env} {ah:AH} {ts:Array Value} {w:World} {Q K:Exit→Env→AH→Prop}
theorem SR.freeze (h:SR L N F γ C e ah ts w) {s:Nat} {cs ds:List AV} (hs:ah[s]? =some cs) (hne:cs≠[]) (hnp:c7 cs=true) (hw:gR cs ds)
 (he:∀t,get e' t=get e t∨∃o,get e t= .ptr s o∧get e' t= .ep (.agg ds) o):∃C',SR L N F γ C' e' (ah.set s []) ts w∧Ext F C w C' w:=by
 have hlt:s<γ.length:=by rw [h.mem.len];exact (List.getElem?_eq_some_iff.1 hs).1
 obtain ⟨b,hb⟩:∃b,γ[s]? =some b:=⟨_,List.getElem?_eq_getElem hlt⟩
 obtain ⟨vs,ty,hh,hsz,hcell⟩:=h.mem.obj s b cs hs hb
 have xl:=h.mem.lq s b cs hs hne hb
 have ox:blk γ e ah ts w (.obj s) b:=hb
 refine ⟨fun x=>if x=b then vs.toList else C x, ?_⟩
 generalize nt:(fun x=>if x=b then vs.toList else C x)=C'
 have c0:C' b=vs.toList:=by rw [←nt];simp
 have c1:∀x,x≠b→C' x=C x:=fun x hx=>by rw [←nt];simp [hx]
 have hpre:∀x,C x <+: C' x:=by
  intro x
  by_cases hx:x=b
  · subst hx;rw [xl];exact List.nil_prefix
  · rw [c1 x hx];exact List.prefix_refl _
 have fA:∀(s':Nat),s'≠s→(ah.set s [])[s']? =ah[s']? :=fun s' hn=>List.getElem?_set_ne (Ne.symm hn)
 have eB:(ah.set s [])[s]? =some []:=List.getElem?_set_self (by rw [←h.mem.len];exact hlt)
 have nu:∀(s':Nat),γ[s']? =some b→s'=s:=fun s' hs'=>by
  have:=h.b5 (.obj s') (.obj s) b hs' hb;injection this
 have hbk:∀p x,blk γ e' (ah.set s []) ts w p x→blk γ e ah ts w p x:=by
  intro p x hp
  cases p with
  |obj s'=>exact hp
  |cell s' i=>
   obtain ⟨ds,a,b0,h1,h2,h3,h4⟩:=hp
   by_cases hn:s'=s
   · subst hn;rw [eB] at h1;injection h1 with h1;subst h1;simp at h2
   · rw [fA s' hn] at h1;exact ⟨ds,a,b0,h1,h2,h3,h4⟩
  |tmp t=>
   simp only [blk] at hp ⊢
   rcases he t with h1|⟨o,h1,h2⟩
   · rwa [h1] at hp
   · rw [h2] at hp;simp [aV] at hp
 have iF:∀(a:AV) (v:Value),TC w C a v→(∀x,aV a v=some x→x≠b)→TC w C' a v:=fun a v ht hn=>ht.mono fun x hx=>⟨rfl,c1 x (hn x hx)⟩
 refine ⟨⟨⟨by simp [h.mem.len],fun s' x ds h1 h2=> ?_,fun x hx=> ?_,fun s' x ds h1 h0 h2=> ?_,fun s' x ds us ty' fr h1 h2 h3=> ?_⟩,h.sz,fun t=> ?_,fun p q x hp hq=>h.b5 p q x (hbk p x hp) (hbk q x hq),fun p x hp=>h.nf p x (hbk p x hp),h.fH,fun t l k xs ht=> ?_⟩,
  ⟨hpre,fun x hx=>⟨rfl,c1 x (fun e=>h.nf _ _ ox (e▸hx))⟩,Nat.le_refl _,rfl,rfl,rfl⟩⟩
 · by_cases hn:s'=s
   · subst hn
     rw [eB] at h1;injection h1 with h1;subst h1
     rw [hb] at h2;injection h2 with h2;subst h2
     exact ⟨vs,ty,hh,by simp,by simp⟩
   · rw [fA s' hn] at h1
     obtain ⟨us,ty',g1,g2,g3⟩:=h.mem.obj s' x ds h1 h2
     refine ⟨us,ty',g1,g2,fun i a hi=>⟨(g3 i a hi).1.mono hpre _ (fun _ _ h=>h),iF _ _ (g3 i a hi).2 fun y hy e=> ?_⟩⟩
     subst e
     obtain ⟨v,hv, -, -⟩:=cellAt h.mem h1 hi h2
     have zP:v=us.getD i undef:=by
      have hlt:i<us.size:=Nat.lt_of_lt_of_le (List.getElem?_eq_some_iff.1 hi).1 g2
      rw [bQ g1,Array.getElem?_eq_getElem hlt] at hv
      simp [Array.getD_eq_getD_getElem?,Array.getElem?_eq_getElem hlt,Option.some.inj hv]
     have:blk γ e ah ts w (.cell s' i) y:=⟨ds,a,x,h1,hi,h2,by rw [hv,zP];exact hy⟩
     have:=h.b5 _ _ _ this ox
     cases this
 · by_cases IC:x=b
   · subst IC;exact ⟨vs,ty.1,ty.2,hh,by rw [c0];exact List.prefix_refl _⟩
   · rw [c1 x IC] at hx ⊢;exact h.mem.lR x hx
 · have hn:s'≠s:=by
    rintro rfl
    rw [eB] at h1;injection h1 with h1;exact h0 h1.symm
   rw [fA s' hn] at h1
   rw [c1 x (fun e=>hn (nu s' (e▸h2)))]
   exact h.mem.lq s' x ds h1 h0 h2
 · by_cases hn:s'=s
   · subst hn
     rw [eB] at h1;injection h1 with h1;subst h1
     intro i hi;simp at hi
   · rw [fA s' hn] at h1
     exact h.mem.ry s' x ds us ty' fr h1 h2 h3
 · rcases he t with h1|⟨o,h1,h2⟩
   · rw [h1]
     refine ⟨(h.env t).1.mono hpre _ (fun _ _ h=>h),iF _ _ (h.env t).2 fun y hy e=> ?_⟩
     subst e
     have:=h.b5 (.tmp t) (.obj s) y hy ox
     cases this
   · have hv:=(h.env t).1
     rw [h1] at hv
     obtain ⟨b',hb',hv⟩:=hv.eA
     rw [hb] at hb';injection hb' with hb';subst hb'
     rw [h2,hv]
     refine ⟨?_,by trivial⟩
     have SH:=VR.ep (C:=C') γ (.agg ds) o b 0 (by rw [c0];simpa [AV.cells,hw.len] using hsz) (fun j a hj=>by
      have hj2:ds[j]? =some a:=hj
      have hjl:j<cs.length:=by rw [←hw.len];exact (List.getElem?_eq_some_iff.1 hj2).1
      have hj':cs[j]? =some cs[j]:=List.getElem?_eq_getElem hjl
      have:=(Wk.fh (hw.get j _ _ hj' hj2)).vr (((hcell j _ hj').1.np (kO hnp hj')).mono hpre [] (fun _ _ h=>h))
      rw [c0,Nat.zero_add]
      have e1:vs.toList.getD j undef=vs.getD j undef:=by simp [List.getD_eq_getElem?_getD,Array.getD_eq_getD_getElem?]
      rw [e1];exact this)
     rwa [Nat.zero_add] at SH
 · rcases he t with h1|⟨o,h1,h2⟩
   · have hf:=h.fr t l k xs (by rw [←h1];exact ht)
     cases l with
     |tmp u=>
      refine ⟨hf.1,fun hu=>hf.2 ?_⟩
      rcases he u with g1|⟨o,g1,g2⟩
      · rwa [g1] at hu
      · rw [g2] at hu;cases hu
     |cell s' o=>
      intro ds a x g1 g2 g3 g4
      by_cases hn:s'=s
      · subst hn;rw [eB] at g1;injection g1 with g1;subst g1;simp at g2
      · rw [fA s' hn] at g1;exact hf ds a x g1 g2 g3 g4
   · rw [h2] at ht;cases ht
theorem AW.freeze {c:Code} {s:Nat} {cs ds:List AV} (hs:ah[s]? =some cs) (hne:cs≠[]) (hnp:c7 cs=true) (hw:gR cs ds)
 (he:∀t,get e' t=get e t∨∃o,get e t= .ptr s o∧get e' t= .ep (.agg ds) o) (h:AW P L N n0 c Q e' (ah.set s [])):AW P L N n0 c Q e ah:=by
 intro F γ C ts w fM hn
 obtain ⟨C',h1,h2⟩:=fM.freeze hs hne hnp hw he
 refine wp_mono (h F γ C' ts w h1 hn) ?_
 rintro x a w' ⟨q1,q2,e2,j0,γ2,C2,q3,q4,q5,q6⟩
 exact ⟨q1,q2,e2,j0,γ2,C2,q3,q4,q5,h2.trans q6⟩
inductive FZ (s:Nat) (cs:List AV):Env→Env→Prop
 |nil:FZ s cs [] []
 |same (i:Nat) (a:AV) (r r':Env):FZ s cs r r'→FZ s cs ((i,a)::r) ((i,a)::r')
 |ep (i o:Nat) (r r':Env):FZ s cs r r'→FZ s cs ((i, .ptr s o)::r) ((i, .ep (.agg cs) o)::r')
theorem FZ.get {s:Nat} {cs:List AV} {e e':Env} (h:FZ s cs e e') (t:Nat):Am.get e' t=Am.get e t∨∃o,Am.get e t= .ptr s o∧Am.get e' t= .ep (.agg cs) o:=by
 induction h with
 |nil=>exact .inl rfl
 |same i a r r' _ ih=>
  simp only [Am.get]
  by_cases hi:i=t
  · simp [hi]
  · simpa [hi] using ih
 |ep i o r r' _ ih=>
  simp only [Am.get]
  by_cases hi:i=t
  · exact .inr ⟨o,by simp [hi],by simp [hi]⟩
  · simpa [hi] using ih
theorem AX.freeze {c:az} {s:Nat} {cs ds:List AV} (hs:ah[s]? =some cs) (hw:gR cs ds) (hne:cs≠[]) (hnp:c7 cs=true) (he:FZ s ds e e') (h:AX P L N n0 c K e' (ah.set s [])):AX P L N n0 c K e ah:=
 fun c' bk=>AW.freeze hs hne hnp hw he.get (h c' bk)
end
end Go.Am
end
