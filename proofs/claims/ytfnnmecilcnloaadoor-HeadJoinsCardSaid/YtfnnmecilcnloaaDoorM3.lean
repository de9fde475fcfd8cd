import Derived.Test.YtfnnmecilcnloaaDoorM2
import Derived.Shelf.Strconv.Itoa3
import Derived.Shelf.Small.Strs
import Derived.Shelf.Utf8.RuneCount
import Derived.Shelf.Strconv.Atoi
import Derived.Shelf.Strconv.Itoa0
import Derived.Shelf.Strconv.Itoa1
import Derived.Shelf.LaysM
import Derived.Shelf.Strconv.Itoa2
import Derived.Shelf.Strconv.AtoiErrFast
import Derived.Shelf.Strconv.ParseIntEmpty
import Derived.Shelf.Strconv.AtoiFail
import Derived.Shelf.Strconv.Clone
import Derived.Shelf.Strconv.SyntaxError
import Derived.Shelf.LaysC
import Derived.Shelf.Strconv.ToError
import Derived.Shelf.Strconv.Lower
import Derived.Shelf.Strconv.ParseUint10
import Derived.Shelf.Strconv.ParseUint10Empty
import Derived.Shelf.Strconv.ParseUint10Any
import Derived.Shelf.Strconv.ParseInt10
import Derived.Shelf.Strconv.AtoiLong
import Derived.Shelf.Strconv.AtoiInnerAll
import Derived.Shelf.Strconv.RangeError
import Derived.Shelf.Strconv.ToErrorRange
import Derived.Shelf.Strconv.AtoiAll
import Derived.Shelf.Strconv.ErrVarAll
import Derived.Shelf.Strings.Search1
import Derived.Shelf.Strings.Search2
import Derived.Shelf.Strings.Search3
import Derived.Shelf.Strings.Cut
import Derived.Shelf.Strings.Count
import Derived.Shelf.Strings.Shaped
import Derived.Shelf.Strings.Split
import Derived.Shelf.Strings.SplitShaped
import Derived.Shelf.Unicode.Decode
import Derived.Shelf.Strings.RuneCount
import Derived.Shelf.Strings.Explode
import Derived.Shelf.Unicode.DecodeSlow
import Derived.Shelf.Unicode.DecodeAny
import Derived.Test.YtfnnmecilcnloaaDoorProg
import Derived.Shelf.Spec.SlicesGrow
import Derived.Shelf.SlGeneric
import Derived.Lib.IndexMore
set_option linter.unusedSimpArgs false
set_option linter.unusedVariables false
set_option linter.unusedSectionVars false
set_option linter.defProp false
section
namespace Go.Am
open Go
variable [Tabs]
def EK (k:Nat) (xs:List AV):Prop:=∀(i:Nat) (a:AV),xs[i]? =some a→a.cells.length=k∧bh a.cells=true∧c7 a.cells=true∧bz a.cells=true
theorem EK.ml {α:Type} {f:α→AV} {k:Nat} (h:∀x,(f x).cells.length=k∧bh (f x).cells=true∧c7 (f x).cells=true∧bz (f x).cells=true) (l:List α):EK k (ml f l):=by
 intro i a hi
 simp only [Am.ml,List.getElem?_map,Option.map_eq_some_iff] at hi
 obtain ⟨x, -,rfl⟩:=hi
 exact h x
def fla (xs:List AV):List AV:=(xs.map fun a=>a.cells.map AV.s1).flatten
theorem gw (a:AV) (xs:List AV):fla (a::xs)=a.cells.map AV.s1++fla xs:=rfl
theorem yW (xs ys:List AV):fla (xs++ys)=fla xs++fla ys:=by simp [fla]
theorem EK.tail {k:Nat} {a:AV} {xs:List AV} (h:EK k (a::xs)):EK k xs:=fun i b hb=>h (i+1) b (by simpa using hb)
theorem gJ {k:Nat}:∀ {xs:List AV},EK k xs→(fla xs).length=xs.length*k:=by
 intro xs
 induction xs with
 |nil=>intro _;simp [fla]
 |cons a r ih=>intro h;rw [gw,List.length_append,List.length_map,ih h.tail,(h 0 a rfl).1,List.length_cons,Nat.succ_mul];omega
theorem yX {k:Nat}:∀ {xs:List AV},EK k xs→∀(i j:Nat) (a:AV),xs[i]? =some a→j<k→(fla xs)[i*k+j]? =(a.cells.map AV.s1)[j]? :=by
 intro xs
 induction xs with
 |nil=>intro _ i j a h;simp at h
 |cons y r ih=>
  intro h i j a hi hj
  have hy:=(h 0 y rfl).1
  rw [gw]
  cases i with
  |zero=>
   simp at hi;subst hi
   rw [List.getElem?_append_left (by simp;omega)];simp
  |succ i=>
   rw [List.getElem?_append_right (by simp only [List.length_map,hy,Nat.succ_mul];omega)]
   rw [show (i+1)*k+j - (y.cells.map AV.s1).length=i*k+j by simp only [List.length_map,hy,Nat.succ_mul];omega]
   exact ih h.tail i j a (by simpa using hi) hj
theorem ID {k:Nat}:∀ {xs:List AV},EK k xs→∀(i j:Nat) (a a' w:AV),xs[i]? =some a→j<k→a'.cells.map AV.s1=(a.cells.map AV.s1).set j w→fla (xs.set i a')=(fla xs).set (i*k+j) w:=by
 intro xs
 induction xs with
 |nil=>intro _ i j a a' w h;simp at h
 |cons y r ih=>
  intro h i j a a' w hi hj hw
  have hy:=(h 0 y rfl).1
  cases i with
  |zero=>
   simp at hi;subst hi
   rw [List.set_cons_zero,gw,gw,hw,List.set_append_left _ _ (by simp;omega)];simp
  |succ i=>
   rw [List.set_cons_succ,gw,gw,ih h.tail i j a a' w (by simpa using hi) hj hw,List.set_append_right _ _ (by simp only [List.length_map,hy,Nat.succ_mul];omega)]
   rw [show (i+1)*k+j - (y.cells.map AV.s1).length=i*k+j by simp only [List.length_map,hy,Nat.succ_mul];omega]
theorem NX (a:AV):a.s1.s1=a.s1:=by cases a<;>rfl
theorem Lc (xs:List AV):(fla xs).map AV.s1=fla xs:=by
 unfold fla
 rw [List.map_flatten,List.map_map]
 congr 1
 apply List.map_congr_left
 intro a _
 simp [List.map_map,Function.comp_def,NX]
theorem sj {k:Nat}:∀ {xs:List AV},EK k xs→∀(q:Nat) (a:AV),(fla xs)[q]? =some a→a.flat=true∧a.np=true∧a.ez=true:=by
 intro xs
 induction xs with
 |nil=>intro _ q a h;simp [fla] at h
 |cons y r ih=>
  intro h q a hq
  rw [gw] at hq
  by_cases hlt:q<(y.cells.map AV.s1).length
  · rw [List.getElem?_append_left hlt,List.getElem?_map,Option.map_eq_some_iff] at hq
    obtain ⟨z,hz,rfl⟩:=hq
    have h1:=eJ (h 0 y rfl).2.2.2 hz
    have h2:=kO (h 0 y rfl).2.2.1 hz
    have h3:z.ez=true:=by
     have:=(h 0 y rfl).2.1
     generalize y.cells=l at this hz
     clear hlt
     induction l generalizing q with
     |nil=>simp at hz
     |cons b l ihl=>
      simp only [bh,Bool.and_eq_true] at this
      cases q with
      |zero=>simp at hz;subst hz;exact this.1
      |succ q=>exact ihl q this.2 (by simpa using hz)
    cases z<;>simp_all [AV.s1,AV.flat,AV.np,AV.ez]
  · rw [List.getElem?_append_right (by omega)] at hq
    exact ih h.tail _ a hq
theorem yY {l:List AV} (h:∀(q:Nat) (a:AV),l[q]? =some a→a.flat=true):bz l=true:=by
 induction l with
 |nil=>rfl
 |cons a r ih=>simp only [bz,Bool.and_eq_true];exact ⟨h 0 a rfl,ih fun q b hb=>h (q+1) b (by simpa using hb)⟩
theorem fP (k:Nat) (xs:List AV) (c:Nat):eo k xs c=fla xs++List.replicate ((c - xs.length)*k) .un:=rfl
theorem oF {k c:Nat} {xs:List AV} (h:EK k xs) (hc:xs.length≤c):(eo k xs c).length=c*k:=by
 rw [fP,List.length_append,gJ h,List.length_replicate, ←Nat.add_mul];congr 1;omega
theorem pT {k c:Nat} {xs:List AV} (h:EK k xs):(eo k xs c).take (xs.length*k)=fla xs:=by
 rw [fP,List.take_append_of_le_length (by rw [gJ h];exact Nat.le_refl _),List.take_of_length_le (by rw [gJ h];exact Nat.le_refl _)]
theorem IE {k c i j:Nat} {xs:List AV} {a:AV} (h:EK k xs) (hi:xs[i]? =some a) (hj:j<k):(eo k xs c)[i*k+j]? =(a.cells.map AV.s1)[j]? :=by
 have hlt:i<xs.length:=(List.getElem?_eq_some_iff.1 hi).1
 have:(i+1)*k≤xs.length*k:=Nat.mul_le_mul_right _ hlt
 rw [Nat.succ_mul] at this
 rw [fP,List.getElem?_append_left (by rw [gJ h];omega),yX h i j a hi hj]
theorem Fo {k c i j:Nat} {xs:List AV} {a a' w:AV} (h:EK k xs) (hi:xs[i]? =some a) (hj:j<k) (hw:a'.cells.map AV.s1=(a.cells.map AV.s1).set j w):
 over (eo k xs c) (i*k+j) [w]=some (eo k (xs.set i a') c):=by
 have hlt:i<xs.length:=(List.getElem?_eq_some_iff.1 hi).1
 have hm:(i+1)*k≤xs.length*k:=Nat.mul_le_mul_right _ hlt
 rw [Nat.succ_mul] at hm
 have hl:=gJ h
 unfold over
 rw [if_pos (by rw [fP,List.length_append,hl,List.length_singleton];omega)]
 congr 1
 rw [fP k (xs.set i a'),List.length_set,ID h i j a a' w hi hj hw,fP]
 rw [←List.set_append_left _ _ (by rw [hl];omega)]
 rw [List.set_eq_take_append_cons_drop,if_pos (by rw [List.length_append,hl];omega)]
 simp
def GF (k n0 q:Nat) (xs:List AV) (c:Nat) (ah:AH):Prop:=
 (c=0∧xs=[])∨(n0≤q∧0<c∧xs.length≤c∧ah[q]? =some (eo k xs c))
theorem GF.lt {k n0 q c:Nat} {xs:List AV} {ah:AH} (h:GF k n0 q xs c ah) (hc:0<c):q<ah.length∧n0≤q:=by
 rcases h with ⟨h, -⟩|⟨h1, -, -,h2⟩
 · omega
 · exact ⟨(List.getElem?_eq_some_iff.1 h2).1,h1⟩
theorem GF.nil {k n0 q:Nat} {ah:AH}:GF k n0 q [] 0 ah:= .inl ⟨rfl,rfl⟩
theorem GF.at {k n0 q c i:Nat} {xs:List AV} {ah:AH} {a:AV} (h:GF k n0 q xs c ah) (hi:xs[i]? =some a):n0≤q∧ah[q]? =some (eo k xs c):=by
 rcases h with ⟨-,rfl⟩|⟨h1, -, -,h2⟩
 · simp at hi
 · exact ⟨h1,h2⟩
theorem GF.of {k n0 q c:Nat} {xs:List AV} {ah aq:AH} (h:GF k n0 q xs c ah) (he:q<ah.length→n0≤q→aq[q]? =ah[q]?):GF k n0 q xs c aq:=by
 rcases h with h|⟨h1,h2,h3,h4⟩
 · exact .inl h
 · exact .inr ⟨h1,h2,h3,by rw [he (List.getElem?_eq_some_iff.1 h4).1 h1];exact h4⟩
theorem GF.set {k n0 q c i:Nat} {xs:List AV} {ah:AH} {a a':AV} (h:GF k n0 q xs c ah) (hi:xs[i]? =some a):GF k n0 q (xs.set i a') c (ah.set q (eo k (xs.set i a') c)):=by
 rcases h with ⟨-,rfl⟩|⟨h1,h2,h3,h4⟩
 · simp at hi
 · exact .inr ⟨h1,h2,by simpa using h3,List.getElem?_set_self (List.getElem?_eq_some_iff.1 h4).1⟩
section
variable {P:Program} {L:List Nat} {N n0:Nat} {e:Env} {ah:AH} {t:List It} {Q:Exit→Env→AH→Prop} {r:List aA} {d:Option Nat} {g:Option (Nat×Bool)}
theorem IF {α:Type} {f:α→AV} {k b q c n1:Nat} {x y:Ar} {tg:Tg} {X Y Z:List α} {ys:List AV} (hf:∀x,(f x).cells.length=k∧bh (f x).cells=true∧c7 (f x).cells=true∧bz (f x).cells=true)
 (ou:0<k) (hx:ev e x= .aZ q k X.length c) (hy:ev e y= .sl tg k ys) (hys:ys=ml f Y) (hY:Y≠[]) (hz:cx b X Y=some Z) (hG:GF k n1 q (ml f X) c ah) (hn:n1≤ah.length)
 (hK:∀q' c' aq,GF k n1 q' (ml f Z) c' aq→(∀s,s<ah.length→s<n1∨(0<c→s≠q)→aq[s]? =ah[s]?)→ah.length≤aq.length→(q'=q∨ah.length≤q')→
  U P L N n0 (.ops r::t) Q .normal (au L e d (.aZ q' k Z.length c')) aq):
 UG P L N n0 ⟨d, .fy k b x y,g⟩ r t Q e ah (some true):=by
 subst hys
 obtain ⟨hc,hZ⟩:=GV hz
 injection hZ with hZ
 subst hZ
 have eX:=EK.ml hf X
 have eY:=EK.ml hf Y
 have TL:EK k (ml f (X++Y)):=EK.ml hf _
 have hap:ml f (X++Y)=ml f X++ml f Y:=by simp [ml]
 have lX:(ml f X).length=X.length:=by simp [ml]
 have lY:(ml f Y).length=Y.length:=by simp [ml]
 have hyp:0<Y.length:=List.length_pos_iff.2 hY
 show iC L d k b x y e ah fun e ah=>U P L N n0 (.ops r::t) Q .normal e ah
 unfold iC
 rw [hx,hy]
 refine ⟨rfl,rfl,by simpa [ml] using hY,by rw [lY];exact hc.1,by rw [lY];exact hc.2, ?_⟩
 have Qj:(X++Y).length=X.length+Y.length:=List.length_append
 rcases hG with ⟨rfl,hX⟩|⟨h1,h2,h3,h4⟩
 · have hX:X=[]:=by simpa [ml] using hX
   subst hX
   refine .inl ⟨rfl,rfl,fun c' bk=> ?_⟩
   rw [lY] at bk ⊢
   have:=hK ah.length c' (ah++[eo k (ml f Y) c']) (.inr ⟨hn,by omega,by simpa [ml] using bk,by simp⟩) (fun s hs _=>List.getElem?_append_left hs) (by simp) (.inr (Nat.le_refl _))
   simpa using this
 · rw [lX] at h3
   have hlt:=(List.getElem?_eq_some_iff.1 h4).1
   refine .inr ⟨_,h4,fun h0=> ?_,oF eX (by rw [lX];exact h3),h3, ?_,fun hr=> ?_,fun hr c' bk=> ?_⟩
   · have:=oF eX (c:=c) (by rw [lX];exact h3)
     rw [h0] at this
     have h5:=Nat.mul_pos h2 ou
     simp at this
     omega
   · rw [←lX,pT eX];exact yY fun q a hq=>(sj eX q a hq).1
   · rw [lY] at hr ⊢
     have e1:(eo k (ml f X) c).take (X.length*k)++((ml f Y).map fun a=>a.cells.map AV.s1).flatten++(eo k (ml f X) c).drop ((X.length+Y.length)*k)=eo k (ml f (X++Y)) c:=by
      have t1:=pT (c:=c) eX
      rw [lX] at t1
      rw [t1,fP k (ml f (X++Y)),hap,yW]
      show fla (ml f X)++fla (ml f Y)++_=_
      congr 1
      rw [fP,List.drop_append,List.drop_of_length_le (by rw [gJ eX,lX];exact Nat.mul_le_mul_right _ (by omega)),List.nil_append,List.drop_replicate]
      congr 1
      rw [gJ eX,List.length_append,lX,lY, ←Nat.sub_mul, ←Nat.sub_mul]
      congr 1
      omega
     rw [e1]
     have:=hK q c (ah.set q (eo k (ml f (X++Y)) c)) (.inr ⟨h1,h2,by simpa [ml] using hr,List.getElem?_set_self hlt⟩) (fun s hs hq=>List.getElem?_set_ne (hq.elim (fun h=>by omega) (fun h=>Ne.symm (h h2)))) (by simp) (.inl rfl)
     rw [Qj] at this
     exact this
   · rw [lY] at bk hr ⊢
     have e1:((eo k (ml f X) c).take (X.length*k)).map AV.s1++eo k (ml f Y) (c' - X.length)=eo k (ml f (X++Y)) c':=by
      have t1:=pT (c:=c) eX
      rw [lX] at t1
      rw [t1,Lc,fP,fP,hap,yW,List.append_assoc]
      congr 3
      rw [List.length_append,lX,lY];congr 1;omega
     rw [e1]
     have:=hK ah.length c' (ah++[eo k (ml f (X++Y)) c']) (.inr ⟨hn,by omega,by simpa [ml] using bk,by simp⟩) (fun s hs _=>List.getElem?_append_left hs) (by simp) (.inr (Nat.le_refl _))
     rw [Qj] at this
     exact this
theorem NY {q k n c:Nat}:CC L e ah d (.aZ q k n c)=some (au L e d (.int .i64 n),ah):=rfl
theorem Qk {q k n c:Nat} {ki:IntKind} {i:Int}:oE L e ah d k (.aZ q k n c) (.int ki i)=(mR n i).map fun j=>(au L e d (.ptr q (j*k)),ah):=by
 simp only [oE,mR,and_true]
 split<;>simp
theorem NZ {k m s p:Nat} {ki:IntKind} {i:Int}:xL L e ah d k m (.ptr s p) (.int ki i)=(mR m i).map fun j=>(au L e d (.ptr s (p+j*k)),ah):=by
 simp only [xL,mR]
 split<;>simp
theorem N0 {k m p:Nat} {a:AV} {ki:IntKind} {i:Int}:xL L e ah d k m (.ep a p) (.int ki i)=(mR m i).map fun j=>(au L e d (.ep a (p+j*k)),ah):=by
 simp only [xL,mR]
 split<;>simp
theorem N1 {k:Nat}:xM L e ah d k (.sl .ex k [])=some (au L e d (.aZ 0 k 0 0),ah):=by simp [xM]
theorem N2 {s k n c j:Nat}:xM L e ah d j (.aZ s k n c)=some (au L e d (.aZ s k n c),ah):=rfl
theorem N3 {u k j:Nat} {xs:List AV}:xM L e ah d j (.sl (.fr (.tmp u)) k xs)=Cq L e ah d u k xs (Am.get e u):=rfl
theorem Ld {u k:Nat} {xs zs:List AV}:Cq L e ah d u k xs (.sl .own k zs)=some (au L (put e u (.sl .n k zs)) d (.sl .own k xs),ah):=by simp [Cq]
end
theorem Wx.To {s k n m c:Nat} (h:n=m):Wx (.aZ s k n c) (.aZ s k m c):=by subst h;exact .same (by simp)
theorem Wx.aZ {s k n c:Nat}:Wx (.aZ s k n c) (.aZ s k n c):= .same (by simp)
def WG:=And.intro @N3<|And.intro @Ld<|And.intro @Ky<|And.intro @Kz<|And.intro @KB<|And.intro @KC<|And.intro @KD<|And.intro @KE<|And.intro @KF<|And.intro @KG<|And.intro @KH<|And.intro @KI<|And.intro @KJ<|And.intro @KK<|And.intro @KL<|And.intro @KM<|And.intro @KN<|And.intro @KO<|And.intro @Hg<|And.intro @Hh<|And.intro @Hi<|And.intro @Hj<|And.intro @NY<|And.intro @Qk<|And.intro @NZ<|And.intro @N0<|And.intro @N1<|And.intro @N2<|And.intro @MO<|And.intro @MP<|And.intro @Nat.add_zero<|And.intro @Nat.zero_add @Nat.mul_one
section
variable {P:Program} {L:List Nat} {N n0:Nat} {F:Nat→Prop} {γ:List Nat} {C:Nat→List Value} {e e':Env} {ah:AH} {ts:Array Value} {w:World} {Q K:Exit→Env→AH→Prop}
theorem VR.one' {x:AV} {u:Value} (hx:VR C γ x u) (hk:x.ez=true):u.oneCell'=true:=by
 cases hx<;>first|rfl|cases hk|skip
 rename_i hs
 cases u<;>first|rfl|cases hs
theorem SR.sn (h:SR L N F γ C e ah ts w) {s k n1 c:Nat} {xs:List AV} (hkp:0<k) (hk:EK k xs) (hG:GF k n1 s xs c ah)
 (he:∀t,get e' t=get e t∨(get e t= .aZ s k xs.length c∧get e' t= .sl .n k xs)):∃C',SR L N F γ C' e' (if c=0 then ah else ah.set s []) ts w∧Ext F C w C' w:=by
 rcases hG with ⟨rfl,rfl⟩|⟨-,hc0,hcl,hs⟩
 · refine ⟨C, ?_,Ext.refl ..⟩
   rw [if_pos rfl]
   have hbk:∀p b,blk γ e' ah ts w p b→blk γ e ah ts w p b:=by
    intro p b hp
    cases p with
    |tmp t=>
     simp only [blk] at hp ⊢
     rcases he t with h1|⟨h1,h2⟩
     · rwa [h1] at hp
     · rw [h2] at hp;simp [aV] at hp
    |obj s=>exact hp
    |cell s i=>exact hp
   refine ⟨h.mem,h.sz,fun t=> ?_,fun p q b hp hq=>h.b5 p q b (hbk p b hp) (hbk q b hq),fun p b hp=>h.nf p b (hbk p b hp),h.fH,fun t l k' xs' ht=> ?_⟩
   · rcases he t with h1|⟨h1,h2⟩
     · rw [h1];exact h.env t
     · rw [h2]
       have hv:=(h.env t).1
       rw [h1] at hv
       obtain ⟨a,hv, -⟩:=hv.lQ
       rw [hv]
       exact ⟨.jJ ..,by simp [TC]⟩
   · rcases he t with h1|⟨h1,h2⟩
     · rw [h1] at ht
       have hf:=h.fr t l k' xs' ht
       cases l with
       |tmp u=>
        refine ⟨hf.1,fun hu=>hf.2 ?_⟩
        rcases he u with g1|⟨g1,g2⟩
        · rwa [g1] at hu
        · rw [g2] at hu;cases hu
       |cell s' o=>exact hf
     · rw [h2] at ht;cases ht
 rw [if_neg (by omega)]
 have hlt:s<γ.length:=by rw [h.mem.len];exact (List.getElem?_eq_some_iff.1 hs).1
 obtain ⟨b,hb⟩:∃b,γ[s]? =some b:=⟨_,List.getElem?_eq_getElem hlt⟩
 obtain ⟨vs,ty,hh,hsz,hcell⟩:=h.mem.obj s b _ hs hb
 have ox:blk γ e ah ts w (.obj s) b:=hb
 have ou:eo k xs c≠[]:=by
  intro h0
  have:=oF (c:=c) hk hcl
  rw [h0] at this
  have h5:=Nat.mul_pos hc0 hkp
  simp at this
  omega
 have xl:=h.mem.lq s b _ hs ou hb
 refine ⟨fun x=>if x=b then vs.toList.take (xs.length*k) else C x, ?_⟩
 generalize nt:(fun x=>if x=b then vs.toList.take (xs.length*k) else C x)=C'
 have c0:C' b=vs.toList.take (xs.length*k):=by rw [←nt];simp
 have c1:∀x,x≠b→C' x=C x:=fun x hx=>by rw [←nt];simp [hx]
 have SI:=oF (c:=c) hk hcl
 have hmul:xs.length*k≤c*k:=Nat.mul_le_mul_right _ hcl
 have hvl:(C' b).length=xs.length*k:=by rw [c0,List.length_take,show vs.toList.length=vs.size from Array.length_toList];omega
 have hpre:∀x,C x <+: C' x:=by
  intro x
  by_cases hx:x=b
  · subst hx;rw [xl];exact List.nil_prefix
  · rw [c1 x hx];exact List.prefix_refl _
 have fA:∀(s':Nat),s'≠s→(ah.set s [])[s']? =ah[s']? :=fun s' hn=>List.getElem?_set_ne (Ne.symm hn)
 have eB:(ah.set s [])[s]? =some []:=List.getElem?_set_self (by rw [←h.mem.len];exact hlt)
 have nu:∀(s':Nat),γ[s']? =some b→s'=s:=fun s' hs'=>by
  have:=h.b5 (.obj s') (.obj s) b hs' hb;injection this
 have hbk:∀p x,blk γ e' (ah.set s []) ts w p x→blk γ e ah ts w p x:=by
  intro p x hp
  cases p with
  |obj s'=>exact hp
  |cell s' i=>
   obtain ⟨ds,a,b0,h1,h2,h3,h4⟩:=hp
   by_cases hn:s'=s
   · subst hn;rw [eB] at h1;injection h1 with h1;subst h1;simp at h2
   · rw [fA s' hn] at h1;exact ⟨ds,a,b0,h1,h2,h3,h4⟩
  |tmp t=>
   simp only [blk] at hp ⊢
   rcases he t with h1|⟨h1,h2⟩
   · rwa [h1] at hp
   · rw [h2] at hp;simp [aV] at hp
 have iF:∀(a:AV) (v:Value),TC w C a v→(∀x,aV a v=some x→x≠b)→TC w C' a v:=fun a v ht hn=>ht.mono fun x hx=>⟨rfl,c1 x (hn x hx)⟩
 refine ⟨⟨⟨by simp [h.mem.len],fun s' x ds h1 h2=> ?_,fun x hx=> ?_,fun s' x ds h1 h0 h2=> ?_,fun s' x ds us ty' fr h1 h2 h3=> ?_⟩,h.sz,fun t=> ?_,fun p q x hp hq=>h.b5 p q x (hbk p x hp) (hbk q x hq),fun p x hp=>h.nf p x (hbk p x hp),h.fH,fun t l k xs ht=> ?_⟩,
  ⟨hpre,fun x hx=>⟨rfl,c1 x (fun e=>h.nf _ _ ox (e▸hx))⟩,Nat.le_refl _,rfl,rfl,rfl⟩⟩
 · by_cases hn:s'=s
   · subst hn
     rw [eB] at h1;injection h1 with h1;subst h1
     rw [hb] at h2;injection h2 with h2;subst h2
     exact ⟨vs,ty,hh,by simp,by simp⟩
   · rw [fA s' hn] at h1
     obtain ⟨us,ty',g1,g2,g3⟩:=h.mem.obj s' x ds h1 h2
     refine ⟨us,ty',g1,g2,fun i a hi=>⟨(g3 i a hi).1.mono hpre _ (fun _ _ h=>h),iF _ _ (g3 i a hi).2 fun y hy e=> ?_⟩⟩
     subst e
     obtain ⟨v,hv, -, -⟩:=cellAt h.mem h1 hi h2
     have zP:v=us.getD i undef:=by
      have hlt:i<us.size:=Nat.lt_of_lt_of_le (List.getElem?_eq_some_iff.1 hi).1 g2
      rw [bQ g1,Array.getElem?_eq_getElem hlt] at hv
      simp [Array.getD_eq_getD_getElem?,Array.getElem?_eq_getElem hlt,Option.some.inj hv]
     have:blk γ e ah ts w (.cell s' i) y:=⟨ds,a,x,h1,hi,h2,by rw [hv,zP];exact hy⟩
     have:=h.b5 _ _ _ this ox
     cases this
 · by_cases IC:x=b
   · subst IC;exact ⟨vs,ty.1,ty.2,hh,by rw [c0];exact List.take_prefix _ _⟩
   · rw [c1 x IC] at hx ⊢;exact h.mem.lR x hx
 · have hn:s'≠s:=by
    rintro rfl
    rw [eB] at h1;injection h1 with h1;exact h0 h1.symm
   rw [fA s' hn] at h1
   rw [c1 x (fun e=>hn (nu s' (e▸h2)))]
   exact h.mem.lq s' x ds h1 h0 h2
 · by_cases hn:s'=s
   · subst hn
     rw [eB] at h1;injection h1 with h1;subst h1
     intro i hi;simp at hi
   · rw [fA s' hn] at h1
     exact h.mem.ry s' x ds us ty' fr h1 h2 h3
 · rcases he t with h1|⟨h1,h2⟩
   · rw [h1]
     refine ⟨(h.env t).1.mono hpre _ (fun _ _ h=>h),iF _ _ (h.env t).2 fun y hy e=> ?_⟩
     subst e
     have:=h.b5 (.tmp t) (.obj s) y hy ox
     cases this
   · have hv:=(h.env t).1
     rw [h1] at hv
     obtain ⟨ad,hv,hnc,hcase⟩:=hv.lQ
     have hcase:ad=some ⟨b,0,none⟩:=by
      rcases hcase with ⟨-,h0⟩|⟨b',hb',e⟩
      · omega
      · rw [hb] at hb';injection hb' with hb';subst hb';exact e
     subst hcase
     rw [h2,hv]
     have hval:∀q,q<xs.length*k→(C' b).getD q undef=vs.getD q undef:=by
      intro q hq
      rw [c0]
      simp [List.getD_eq_getElem?_getD,Array.getD_eq_getD_getElem?,List.getElem?_take_of_lt hq]
     have ie:∀q a,(fla xs)[q]? =some a→VR C γ a (vs.getD q undef):=by
      intro q a hq
      refine (hcell q a ?_).1
      rw [fP,List.getElem?_append_left (List.getElem?_eq_some_iff.1 hq).1];exact hq
     have hfl:=gJ hk
     refine ⟨.sl _ _ _ _ _ _ _ _ rfl hnc (fun i a hi=>(hk i a hi).1) (by omega) (fun q _ hq=> ?_) (fun i a hi j y hj=> ?_),by simp [TC]⟩
     · rw [Nat.zero_add] at hq
       rw [hval q hq]
       have Gd:(fla xs)[q]? =some ((fla xs)[q]'(by omega)):=List.getElem?_eq_getElem (by omega)
       have h3:=ie q _ Gd
       have h4:=(sj hk q _ Gd).2.2
       exact VR.one' h3 h4
     · have hlt':i<xs.length:=(List.getElem?_eq_some_iff.1 hi).1
       have FJ:j<k:=by rw [←(hk i a hi).1];exact (List.getElem?_eq_some_iff.1 hj).1
       have hm:(i+1)*k≤xs.length*k:=Nat.mul_le_mul_right _ hlt'
       rw [Nat.succ_mul] at hm
       rw [Nat.zero_add,hval _ (by omega)]
       have hg:=yX hk i j a hi FJ
       rw [List.getElem?_map,hj] at hg
       have h3:=ie _ _ hg
       have hnp:=kO (hk i a hi).2.2.1 hj
       have h4:VR C [] y.s1 (vs.getD (i*k+j) undef):=h3.np (sj hk _ _ hg).2.1
       have h5:VR C' [] y.s1 (vs.getD (i*k+j) undef):=h4.mono hpre [] (fun _ _ h=>h)
       cases y with
       |sl t k xs=>exact h5.eV _
       |_=>exact h5
 · rcases he t with h1|⟨h1,h2⟩
   · have hf:=h.fr t l k xs (by rw [←h1];exact ht)
     cases l with
     |tmp u=>
      refine ⟨hf.1,fun hu=>hf.2 ?_⟩
      rcases he u with g1|⟨g1,g2⟩
      · rwa [g1] at hu
      · rw [g2] at hu;cases hu
     |cell s' o=>
      intro ds a x g1 g2 g3 g4
      by_cases hn:s'=s
      · subst hn;rw [eB] at g1;injection g1 with g1;subst g1;simp at g2
      · rw [fA s' hn] at g1;exact hf ds a x g1 g2 g3 g4
   · rw [h2] at ht;cases ht
end
end Go.Am
namespace Go.Am
open Go
variable [Tabs]
section
variable {P:Program} {L:List Nat} {N n0:Nat} {e e':Env} {ah:AH} {K:Exit→Env→AH→Prop}
inductive FG (s k c:Nat) (xs:List AV):Env→Env→Prop
 |nil:FG s k c xs [] []
 |same (i:Nat) (a:AV) (r r':Env):FG s k c xs r r'→FG s k c xs ((i,a)::r) ((i,a)::r')
 |lay (i n:Nat) (r r':Env):n=xs.length→FG s k c xs r r'→FG s k c xs ((i, .aZ s k n c)::r) ((i, .sl .n k xs)::r')
theorem FG.get {s k c:Nat} {xs:List AV} {e e':Env} (h:FG s k c xs e e') (t:Nat):Am.get e' t=Am.get e t∨(Am.get e t= .aZ s k xs.length c∧Am.get e' t= .sl .n k xs):=by
 induction h with
 |nil=>exact .inl rfl
 |same i a r r' _ ih=>
  simp only [Am.get]
  by_cases hi:i=t
  · simp [hi]
  · simpa [hi] using ih
 |lay i n r r' hn _ ih=>
  simp only [Am.get]
  by_cases hi:i=t
  · exact .inr ⟨by simp [hi,hn],by simp [hi]⟩
  · simpa [hi] using ih
theorem AX.sn {c0:az} {s k n1 c:Nat} {xs:List AV} (hkp:0<k) (hk:EK k xs) (hG:GF k n1 s xs c ah) (he:FG s k c xs e e')
 (h:∀H',(∀s',s'<n1∨(0<c→s'≠s)→H'[s']? =ah[s']?)→H'.length=ah.length→AX P L N n0 c0 K e' H'):AX P L N n0 c0 K e ah:=by
 intro c' bk F γ C ts w fM hn
 obtain ⟨C',h1,h2⟩:=fM.sn hkp hk hG he.get
 have hsame:∀s',s'<n1∨(0<c→s'≠s)→(if c=0 then ah else ah.set s [])[s']? =ah[s']? :=by
  intro s' hs'
  rcases hG with ⟨rfl, -⟩|⟨g1,g2, -, -⟩
  · rw [if_pos rfl]
  · rw [if_neg (by omega),List.getElem?_set_ne]
    rcases hs' with h|h
    · omega
    · exact Ne.symm (h g2)
 refine wp_mono (h _ hsame (by split<;>simp) c' bk F γ C' ts w h1 hn) ?_
 rintro x a w' ⟨q1,q2,e2,j0,γ2,C2,q3,q4,q5,q6⟩
 exact ⟨q1,q2,e2,j0,γ2,C2,q3,q4,q5,h2.trans q6⟩
end
end Go.Am
namespace Go.Am
open Go
variable [Tabs]
def EF {α:Type} (k:Nat) (f:α→AV):Prop:=∀x,(f x).cells.length=k∧bh (f x).cells=true∧c7 (f x).cells=true∧bz (f x).cells=true
section
variable {α:Type} {f:α→AV} {k c j o n q:Nat} {X:List α} {x x':α} {w:AV} {ah:AH}
theorem mM (h:X[j]? =some x):(ml f X)[j]? =some (f x):=by simp [ml,h]
theorem CF:(ml f X).set j (f x')=ml f (X.set j x'):=by simp [ml,List.map_set]
theorem pU (he:EF k f) (h:X[j]? =some x) (ho:o<k):(eo k (ml f X) c)[j*k+o]? =((f x).cells.map AV.s1)[o]? :=IE (EK.ml he X) (mM h) ho
theorem N4 (he:EF k f) (h:X[j]? =some x) (ho:0<k):(eo k (ml f X) c)[j*k]? =((f x).cells.map AV.s1)[0]? :=pU (o:=0) he h ho
theorem nI (he:EF k f) (h:X[j]? =some x) (ho:o<k) (hw:(f x').cells.map AV.s1=((f x).cells.map AV.s1).set o w):over (eo k (ml f X) c) (j*k+o) [w]=some (eo k (ml f (X.set j x')) c):=by
 rw [Fo (EK.ml he X) (mM h) ho hw,CF]
theorem LX (he:EF k f) (h:X[j]? =some x) (ho:0<k) (hw:(f x').cells.map AV.s1=((f x).cells.map AV.s1).set 0 w):over (eo k (ml f X) c) (j*k) [w]=some (eo k (ml f (X.set j x')) c):=nI (o:=0) he h ho hw
theorem GF.LY (h:GF k n q (ml f X) c ah) (hj:X[j]? =some x):GF k n q (ml f (X.set j x')) c (ah.set q (eo k (ml f (X.set j x')) c)):=by
 have:=h.set (a':=f x') (mM hj)
 rwa [CF] at this
theorem GF.Le (h:GF k n q (ml f X) c ah) (hj:X[j]? =some x):ah[q]? =some (eo k (ml f X) c):=(h.at (mM hj)).2
theorem GF.Ql (h:GF k n q (ml f X) c ah) (hj:X[j]? =some x):n≤q:=(h.at (mM hj)).1
end
theorem Fr.grow {H0 H H':AH} {S:List Nat} {n q c:Nat} (h:Fr H0 n S H) (hs:∀s,s<H.length→s<n∨(0<c→s≠q)→H'[s]? =H[s]?) (hl:H.length≤H'.length):Fr H0 n S H':=
 ⟨Nat.le_trans h.le hl,fun j hj si=>(hs j (Nat.lt_of_lt_of_le hj h.le) (.inl hj)).trans (h.eq j hj si)⟩
theorem Fr.lay {H0 H H':AH} {S:List Nat} {n q c:Nat} (h:Fr H0 n S H) (hs:∀s,s<n∨(0<c→s≠q)→H'[s]? =H[s]?) (hl:H'.length=H.length):Fr H0 n S H':=
 ⟨by rw [hl];exact h.le,fun j hj si=>(hs j (.inl hj)).trans (h.eq j hj si)⟩
end Go.Am
end
section
namespace Go.Am
open Go
variable [Tabs]
theorem Qm {e:Env} {n:Nat}:ev e (.t n)=Am.get e n:=rfl
theorem Qn {e:Env} {a:AV}:ev e (.c a)=a:=rfl
theorem IG {e:Env} {n:Int}:bI e n none= .int .i64 n:=rfl
theorem II {e:Env} {n:Int} {x:Ar}:bI e n (some x)=ev e x:=rfl
def WU:=And.intro @Mt<|And.intro @J7<|And.intro @Mu<|And.intro @J8<|And.intro @Mv<|And.intro @Mw<|And.intro @Ph<|And.intro @J9<|And.intro @Mx<|And.intro @Ka<|And.intro @Kb<|And.intro @Gz<|And.intro @GA<|And.intro @GB<|And.intro @Dk<|And.intro @Dl<|And.intro @z1<|And.intro @My<|And.intro @GC<|And.intro @Dm<|And.intro @GD<|And.intro @Dn<|And.intro @Mz<|And.intro @Ki<|And.intro @Kj<|And.intro @Dp<|And.intro @Kk<|And.intro @Pp<|And.intro @MD<|And.intro @Kl<|And.intro @GG<|And.intro @ME<|And.intro @GH<|And.intro @MF<|And.intro @MY<|And.intro @MG<|And.intro @MH<|And.intro @CE<|And.intro @Pq<|And.intro @Iy<|And.intro @LW<|And.intro @MI<|And.intro @Pr<|And.intro @Pt<|And.intro @MJ<|And.intro @Pu<|And.intro @MK<|And.intro @ML<|And.intro @MM<|And.intro @MN<|And.intro @Kp<|And.intro @MQ<|And.intro @MR<|And.intro @Ix<|And.intro @Iv<|And.intro @CD<|And.intro @MU<|And.intro @Kq<|@Kr
def WV:=And.intro @Qm<|And.intro @Qn<|And.intro @Ct<|And.intro @Cu<|And.intro @Kt<|And.intro @Ku<|And.intro @GW<|And.intro @Kv<|And.intro @GX<|And.intro @Kw<|And.intro @GY<|And.intro @IG<|And.intro @II<|And.intro @G0<|And.intro @G1<|And.intro @MZ<|And.intro @M0<|And.intro @G3<|And.intro @G4<|And.intro @LO<|And.intro @G5<|And.intro @G6<|And.intro @G7<|And.intro @G8<|And.intro @G9<|And.intro @He<|And.intro @Hf<|And.intro @M1<|And.intro @M3<|And.intro @M4<|And.intro @M5<|And.intro @M6<|And.intro @M7<|And.intro @PB<|And.intro @M8<|And.intro @M9<|And.intro @Na<|And.intro @Nb<|And.intro @Nc<|And.intro @Nd<|And.intro @Nf<|And.intro @Ng<|And.intro @PD<|And.intro @PF<|And.intro @PG<|And.intro @PI<|And.intro @Nh<|And.intro @Ni<|And.intro @Nj<|And.intro @Nk<|And.intro @Nl<|And.intro @Nn<|And.intro @PJ<|And.intro @PK<|And.intro @PL<|And.intro @No<|And.intro @Np<|And.intro @Nq<|And.intro @Ab<|And.intro @vl<|And.intro @qu<|And.intro @Sl<|And.intro @Sm<|And.intro @Sn<|And.intro @So<|And.intro @PN<|And.intro @PO<|And.intro @PR<|And.intro @PS<|And.intro @CA<|And.intro @Nr<|And.intro @Ns<|And.intro @Nt<|And.intro @Cs<|And.intro @vh<|And.intro @xS<|And.intro @jm<|And.intro @Nu<|And.intro @j3<|And.intro @j4<|And.intro @MS<|And.intro @MT<|And.intro @rS<|@rT
theorem AX.IJ {P:Program} {L:List Nat} {N n0:Nat} {K:Exit→Env→AH→Prop} {e:Env} {ah:AH} {m c:az} (hm:erase m=c) (ho:jf N c=true) (h:U P L N n0 [.code m] K .normal e ah):AX P L N n0 c K e ah:=by
 subst hm
 exact fun c' bk=>iA c' m _ e ah bk ho h
theorem Wx.N5 {a b:Bool} (h:a=b):Wx (.bool a) (.bool b):=by subst h;exact Wx.bool
theorem Wx.Qo {k:IntKind} {a b:Int} (h:a=b):Wx (.int k a) (.int k b):=by subst h;exact Wx.int
theorem Wx.Tp {a b:List UInt8} (h:a=b):Wx (.str a) (.str b):=by subst h;exact Wx.str
theorem dD.Tq {ah:AH} {q:Nat} {cs:List AV} (hq:ah[q]? =some cs):dD ah (ah.set q cs):=by
 rw [Dt hq];exact dD.refl _
theorem SJ {α:Type} {f:α→AV} {xs:List α} {i:Int} {x:α} (h:idx xs i=some x):idx (ml f xs) i=some (f x):=by rw [Cs,h];rfl
theorem v7 {α:Type} {f:α→AV} {xs ys:List α} {i j:Int} (h:sub xs i j=some ys):sub (ml f xs) i j=some (ml f ys):=by rw [vh,h];rfl
theorem Rv {α:Type} {f:α→AV} {xs ys:List α} {i j m:Int} (h:qv xs i j m=some ys):qv (ml f xs) i j m=some (ml f ys):=by rw [xS,h];rfl
end Go.Am
namespace Go.Am
open Go
variable [Tabs]
section
variable {P:Program} {L:List Nat} {N n0:Nat} {e:Env} {ah:AH} {t:List It} {Q:Exit→Env→AH→Prop} {r:List aA}
theorem Qp {a b:az} {B:Bool} (h:B=true) (hk:U P L N n0 (.code a::t) Q .normal e ah):UC P L N n0 a b t Q e ah (.bool B):=by subst h;exact hk
theorem Qq {a b:az} {B:Bool} (h:B=false) (hk:U P L N n0 (.code b::t) Q .normal e ah):UC P L N n0 a b t Q e ah (.bool B):=by subst h;exact hk
theorem SK {o:aA} {B want:Bool} (h:B=want) (hk:UG P L N n0 o r t Q e ah (some true)):UG P L N n0 o r t Q e ah (some (B==want)):=by subst h;simpa using hk
theorem IK {o:aA} {B want:Bool} (h:B= !want) (hk:U P L N n0 (.ops r::t) Q .normal (iJ e o.d) ah):UG P L N n0 o r t Q e ah (some (B==want)):=by
 subst h;cases want<;>exact hk
theorem SL {o:aA} {B:Bool} (h:B=false) (hk:U P L N n0 (.ops r::t) Q .normal (iJ e o.d) ah):UG P L N n0 o r t Q e ah (some (B==true)):=IK h hk
theorem SM {o:aA} {B:Bool} (h:B=true) (hk:U P L N n0 (.ops r::t) Q .normal (iJ e o.d) ah):UG P L N n0 o r t Q e ah (some (B==false)):=IK h hk
end
theorem Rw (B:Bool):B=true∨B=false:=by cases B<;>simp
theorem SN:(true==true)=true:=rfl
theorem SO:(true==false)=false:=rfl
theorem SP:(false==true)=false:=rfl
theorem SQ:(false==false)=true:=rfl
def WB:=And.intro @SN<|And.intro @SO<|And.intro @SP<|And.intro @SQ<|And.intro @Bool.and_true<|And.intro @Bool.true_and<|And.intro @Bool.and_false<|And.intro @Bool.false_and<|And.intro @Bool.or_true<|And.intro @Bool.true_or<|And.intro @Bool.or_false<|And.intro @Bool.false_or<|And.intro @Bool.not_true<|And.intro @Bool.not_false<|And.intro @decide_true<|And.intro @decide_false<|And.intro @and_true<|And.intro @true_and<|And.intro @and_self<|And.intro @and_false<|And.intro @false_and<|And.intro @Nat.zero_add<|And.intro @Nat.add_zero<|And.intro @Nat.succ_ne_zero<|And.intro @Nat.lt_irrefl<|And.intro @Bool.false_eq_true<|And.intro @List.contains_cons.{0}<|And.intro @List.contains_nil.{0}<|And.intro @List.take_succ_cons.{0}<|And.intro @List.take_zero.{0}<|And.intro @List.drop_succ_cons.{0}<|And.intro @List.drop_zero.{0}<|And.intro @List.length_cons.{0}<|And.intro @List.length_nil.{0}<|And.intro @List.getElem?_cons_zero.{0}<|And.intro @List.getElem?_cons_succ.{0}<|And.intro @List.getElem?_nil.{0}<|And.intro @List.cons_append.{0}<|And.intro @List.nil_append.{0}<|And.intro @List.append_nil.{0}<|And.intro @List.all_cons.{0}<|And.intro @List.all_nil.{0}<|And.intro @List.set_cons_zero.{0}<|And.intro @List.set_cons_succ.{0}<|And.intro @List.isEmpty_cons.{0}<|And.intro @List.isEmpty_nil.{0}<|And.intro @List.map_cons.{0,0}<|And.intro @List.map_nil.{0,0}<|And.intro @Option.map_some.{0,0}<|And.intro @Option.map_none.{0,0}<|@Option.bind_some.{0,0}
end Go.Am
namespace Go.Am
open Go
variable [Tabs]
section
variable {P:Program} {e':Env} {H0 H':AH} {rs:List ResultVar} {vs:List AV} {r':AV} {R:AV→AH→Prop}
theorem aJ (hcl:ga H0.length H0) (hr:dB P e' H0 rs=some vs) (hc:Cl H0.length (fin vs)) (hw:Wx (fin vs) r') (hR:R r' H0):me P H0 rs R e' H0:=
 ⟨vs,r',H0,hr,hw,hR, .inl ⟨hc,by rw [List.take_length];exact hcl,Nat.le_refl _,by rw [List.take_length];exact dD.refl _⟩⟩
theorem dX (hf:Fr H0 H0.length [] H') (hcl:ga H0.length H0) (hr:dB P e' H' rs=some vs) (hc:Cl H0.length (fin vs)) (hw:Wx (fin vs) r') (hR:R r' H0):me P H0 rs R e' H':=
 ⟨vs,r',H0,hr,hw,hR, .inl ⟨hc,by rw [hf.LS];exact hcl,hf.le,by rw [hf.LS];exact dD.refl _⟩⟩
theorem Qr (hr:dB P e' H' rs=some vs) (hw:Wx (fin vs) r') {aq:AH} (hh:dD H' aq) (hR:R r' aq):me P H0 rs R e' H':=
 ⟨vs,r',aq,hr,hw,hR, .inr hh⟩
theorem Qs {s:Nat} {c c':List AV} (hf:Fr H0 H0.length [s] H') (hcl:ga H0.length H0) (hr:dB P e' H' rs=some vs) (hc:Cl H0.length (fin vs)) (hw:Wx (fin vs) r')
 (hs:H'[s]? =some c) (hl:s<H0.length) (N6:∀a∈c,Cl H0.length a) (N7:mc c c') (hR:R r' (H0.set s c')):me P H0 rs R e' H':=by
 refine ⟨vs,r',H0.set s c',hr,hw,hR, .inl ⟨hc,by rw [hf.LU hs hl];exact hcl.set N6,hf.le, ?_⟩⟩
 rw [hf.LU hs hl]
 have:=dD.set (ah:=H0.set s c) (q:=s) (cs':=c') (h_eq hl) N7
 rwa [List.set_set] at this
theorem dD.trans {a b c:AH} (h1:dD a b) (h2:∀(s:Nat) (cs':List AV),c[s]? =some cs'→∃cs,b[s]? =some cs∧(cs'=cs∨(mc cs cs'∧a[s]? =some cs))) (hl:c.length=b.length):dD a c:=by
 refine ⟨by rw [hl,h1.1],fun s cs' hs=> ?_⟩
 obtain ⟨cs,hb,rfl|⟨hw,ha⟩⟩:=h2 s cs' hs
 · exact h1.2 s _ hb
 · exact ⟨cs,ha, .inr hw⟩
theorem dD.Qt {ah:AH} {q q2:Nat} {cs cs' ds ds':List AV} (hne:q≠q2) (hq:ah[q]? =some cs) (hc:mc cs cs') (tr:ah[q2]? =some ds) (hd:mc ds ds'):dD ah ((ah.set q cs').set q2 ds'):=by
 refine dD.trans (dD.set hq hc) (fun s es hs=> ?_) (by simp)
 rw [List.getElem?_set] at hs
 split at hs
 · rename_i h;subst h
   split at hs
   · injection hs with hs;subst hs
     exact ⟨ds,by rw [List.getElem?_set_ne hne];exact tr, .inr ⟨hd,tr⟩⟩
   · cases hs
 · exact ⟨es,hs, .inl rfl⟩
theorem Qu {s s2:Nat} {c c' d d':List AV} (hf:Fr H0 H0.length [s,s2] H') (hcl:ga H0.length H0) (hr:dB P e' H' rs=some vs) (hc:Cl H0.length (fin vs)) (hw:Wx (fin vs) r')
 (hs:H'[s]? =some c) (hl:s<H0.length) (N6:∀a∈c,Cl H0.length a) (N7:mc c c') (hs2:H'[s2]? =some d) (rH:s2<H0.length) (Qv:∀a∈d,Cl H0.length a) (Qw:mc d d') (hne:s≠s2)
 (hR:R r' ((H0.set s c').set s2 d')):me P H0 rs R e' H':=by
 refine ⟨vs,r',(H0.set s c').set s2 d',hr,hw,hR, .inl ⟨hc,by rw [hf.LV hs hs2 hl rH hne];exact (hcl.set N6).set Qv,hf.le, ?_⟩⟩
 rw [hf.LV hs hs2 hl rH hne]
 have:=dD.Qt (ah:=(H0.set s c).set s2 d) (q:=s) (q2:=s2) (cs:=c) (cs':=c') (ds:=d) (ds':=d') hne (by rw [List.getElem?_set_ne (Ne.symm hne)];exact h_eq hl) N7 (h_eq (by simpa using rH)) Qw
 have e1:(((H0.set s c).set s2 d).set s c').set s2 d'=(H0.set s c').set s2 d':=by
  rw [List.set_comm d c' (Ne.symm hne),List.set_set,List.set_set]
 rwa [e1] at this
end
theorem Fr.trans {ah H H':AH} {n0:Nat} {S S2:List Nat} (h:Fr ah n0 S H) (h2:Fr H H.length S2 H') (hs:∀s∈S2,s∈S∨n0≤s):Fr ah n0 S H':=by
 have h3:=h.le
 refine ⟨Nat.le_trans h.le h2.le,fun j hj si=> ?_⟩
 rw [h2.eq j (by omega),h.eq j hj si]
 intro hm
 rcases hs j hm with h4|h4
 · exact si h4
 · omega
end Go.Am
namespace Go.Am
open Go
variable [Tabs]
theorem LZ {P:Program} {L:List Nat} {N n0:Nat} {e:Env} {ah:AH} {t:List It} {Q:Exit→Env→AH→Prop} {r:List aA} {d:Option Nat} {f:Nat} {zq zq':List AV} {aW HE:AH} {V:AV}
 (h:aC P f zq' aW fun v H'=>v=V∧H'=HE) (hw:WL zq zq') (hh:dD ah aW) (hk:U P L N n0 (.ops r::t) Q .normal (au L (l7 e) d V.df) HE):UK P L N n0 f zq d r t Q e ah:=by
 refine LN h hw hh ?_
 rintro _ _ ⟨rfl,rfl⟩
 exact hk
end Go.Am
namespace Go.Am
open Go
variable [Tabs]
def WW:=And.intro WG<|And.intro WM<|And.intro WU<|And.intro WV<|And.intro WB<|And.intro Sx<|And.intro Sy<|And.intro Sz<|And.intro SA<|And.intro SB<|And.intro SC SD
def WH:=And.intro @h_eq<|And.intro @LR<|And.intro @Ho @CB
theorem TM:Tg.sh .ex= .ex:=rfl
theorem Kx:Tg.sh .own= .n:=rfl
theorem TN:Tg.sh .n= .n:=rfl
end Go.Am
end
section
namespace Go.Am
open Go
variable [Tabs]
theorem SR.CG {L:List Nat} {N:Nat} {F:Nat→Prop} {γ:List Nat} {C:Nat→List Value} {e:Env} {ah:AH} {ts:Array Value} {w:World} (h:SR L N F γ C e ah ts w) {r:AV} {v:Value} (hv:VR C γ r v) (ht:TC w C r v)
 (ho:r.aU=false) (hf:∀l k xs,r≠ .sl (.fr l) k xs):SR [] 1 F γ C [(0,r)] ah #[v] w:=by
 have hbk:∀p b,blk γ [(0,r)] ah #[v] w p b→blk γ e ah ts w p b∧∀t,p≠ .tmp t:=by
  intro p b hp
  cases p with
  |obj s=>exact ⟨hp,by simp⟩
  |cell s i=>exact ⟨hp,by simp⟩
  |tmp t=>
   simp only [blk,get] at hp
   split at hp
   · rename_i h0;subst h0;rw [eg _ ho] at hp;cases hp
   · simp [aV] at hp
 refine ⟨h.mem,rfl,fun t=> ?_,fun p q b hp hq=>h.b5 p q b (hbk p b hp).1 (hbk q b hq).1,fun p b hp=>h.nf p b (hbk p b hp).1,h.fH,fun t l k xs htl=> ?_⟩
 · by_cases h0:0=t
   · subst h0;simp only [get,if_true];exact ⟨hv,ht⟩
   · simp only [get,if_neg h0];exact ⟨.un ..,by generalize (#[v]:Array Value).getD t undef=u;cases u<;>trivial⟩
 · simp only [get] at htl
   split at htl
   · exact absurd htl (hf l k xs)
   · cases htl
theorem aC.Lf {P:Program} {f:Nat} {args:List AV} {ah:AH} {l:List UInt8} (hc:eK P f=true)
 (h:∀(F:Nat→Prop) (C:Nat→List Value) (γ:List Nat) (w:World) (vs:Array Value),FL F w→vs.size=args.length→(∀(i:Nat) (a:AV),args[i]? =some a→VR C γ a (vs.getD i undef))→
  Calls P f vs w fun en w'=>en= .returned (.string ⟨l.toArray⟩)∧(∀b,b<w.heap.size→w'.heap[b]? =w.heap[b]?)∧w.heap.size≤w'.heap.size∧fL w w'):
 aC P f args ah fun r aq=>r= .str l∧aq=ah:=by
 refine ⟨hc,fun F γ C w vs hs=> ?_⟩
 refine (h F C γ w vs hs.fH hs.sz fun i a hi=> ?_).mono ?_
 · have:=(hs.env i).1
   rw [cm] at this
   simpa [hi] using this
 · rintro en w' ⟨rfl,h1,h2,h3⟩
   have hg:=hs.grow (C':=C) h1 h2 (fun _ _=>rfl) (fun b hb hne=>by
    exfalso
    obtain ⟨vs',ty,fr,hh, -⟩:=hs.mem.lR b hne
    have:b<w.heap.size:=by
     rcases Nat.lt_or_ge b w.heap.size with h4|h4
     · exact h4
     · rw [Array.getElem?_eq_none h4] at hh;cases hh
    omega) h3
   exact ⟨.str l, .string ⟨l.toArray⟩,ah,γ,C,rfl,⟨rfl,rfl⟩,List.prefix_refl _,hg.1.CG (.str ..) (by simp [TC]) rfl (by simp),hg.2⟩
theorem aC.Qx {P:Program} {f:Nat} {args:List AV} {ah:AH} {r:AV} (ho:r.aU=false) (hf:∀l k xs,r≠ .sl (.fr l) k xs) (hc:eK P f=true)
 (h:∀(F:Nat→Prop) (C:Nat→List Value) (γ:List Nat) (w:World) (vs:Array Value),FL F w→vs.size=args.length→(∀(i:Nat) (a:AV),args[i]? =some a→VR C γ a (vs.getD i undef))→
  Calls P f vs w fun en w'=>∃v,en= .returned v∧VR C γ r v∧TC w' C r v∧(∀b,b<w.heap.size→w'.heap[b]? =w.heap[b]?)∧w.heap.size≤w'.heap.size∧fL w w'):
 aC P f args ah fun r' aq=>r'=r∧aq=ah:=by
 refine ⟨hc,fun F γ C w vs hs=> ?_⟩
 refine (h F C γ w vs hs.fH hs.sz fun i a hi=> ?_).mono ?_
 · have:=(hs.env i).1
   rw [cm] at this
   simpa [hi] using this
 · rintro en w' ⟨v,rfl,hv,ht,h1,h2,h3⟩
   have hg:=hs.grow (C':=C) h1 h2 (fun _ _=>rfl) (fun b hb hne=>by
    exfalso
    obtain ⟨vs',ty,fr,hh, -⟩:=hs.mem.lR b hne
    have:b<w.heap.size:=by
     rcases Nat.lt_or_ge b w.heap.size with h4|h4
     · exact h4
     · rw [Array.getElem?_eq_none h4] at hh;cases hh
    omega) h3
   exact ⟨r,v,ah,γ,C,rfl,⟨rfl,rfl⟩,List.prefix_refl _,hg.1.CG hv ht ho hf,hg.2⟩
theorem aC.Qy {P:Program} {f:Nat} {args:List AV} {ah:AH} {ps:List (List UInt8)} (hc:eK P f=true)
 (h:∀(F:Nat→Prop) (C:Nat→List Value) (γ:List Nat) (w:World) (vs:Array Value),FL F w→vs.size=args.length→(∀(i:Nat) (a:AV),args[i]? =some a→VR C γ a (vs.getD i undef))→
  Calls P f vs w fun en w'=>∃t fr,en= .returned (.slice (some ⟨w.heap.size,0,none⟩) ps.length ps.length)∧w'=w.alloc (.cells (ps.map fun l=>Value.string ⟨l.toArray⟩).toArray t fr)∧fr.2≤fr.1):
 aC P f args ah fun r' aq=>r'= .sl .n 1 (ml .str ps)∧aq=ah:=by
 refine ⟨hc,fun F γ C w vs hs=> ?_⟩
 refine (h F C γ w vs hs.fH hs.sz fun i a hi=> ?_).mono ?_
 · have:=(hs.env i).1
   rw [cm] at this
   simpa [hi] using this
 · rintro en w' ⟨t,fr,rfl,rfl,hfr⟩
   obtain ⟨C', -,he,hg,hv⟩:=lZ (w':=w.alloc (.cells (ps.map fun l=>Value.string ⟨l.toArray⟩).toArray t fr)) (ds:=[]) hs (d:=none) (by simp) (cs:=(ps.map fun l=>Value.string ⟨l.toArray⟩).toArray) (t:=t) (fr:=fr)
    (qD:=ps.map fun l=>Value.string ⟨l.toArray⟩) (xs:=ml .str ps) (k:=1) (n:=ps.length) (c:=ps.length)
    (fun b hb=>by show (w.heap.push _)[b]? =_;rw [Array.getElem?_push_lt hb,Array.getElem?_eq_getElem hb]) (by show (w.heap.push _).size=_;simp) (by show (w.heap.push _)[w.heap.size]? =_;simp)
    (by simp) (by simp only [List.mem_map];rintro v ⟨l, -,rfl⟩;rfl) (by simp) (by simp [ml]) (Nat.le_refl _) (by simp) (by intro i _;omega)
    (by intro i a hi;simp only [ml,List.getElem?_map,Option.map_eq_some_iff] at hi;obtain ⟨l, -,rfl⟩:=hi;rfl)
    (by
     intro i a hi j y hj
     simp only [ml,List.getElem?_map,Option.map_eq_some_iff] at hi
     obtain ⟨l,hl,rfl⟩:=hi
     cases j with
     |succ j=>simp [AV.cells] at hj
     |zero=>
      simp only [AV.cells,List.getElem?_cons_zero,Option.some.injEq] at hj
      subst hj
      simp only [Nat.mul_one,Nat.add_zero,List.getD_eq_getElem?_getD,List.getElem?_map,hl,Option.map_some,Option.getD_some]
      exact .str ..)
   exact ⟨.sl .n 1 (ml .str ps),_,ah,γ,C',rfl,⟨rfl,rfl⟩,List.prefix_refl _,hg.CG (hv.eV _) (by simp [TC]) rfl (by simp),he⟩
theorem yZ {P:Program} {f:Nat} {ah:AH} (n:Int) (hc:eK P f=true) (htab:∀F w,FL F w→Lib.TabIs P w "internal/strconv.uint64pow10" .u64 Lib.pow10Tab)
 (Qz:∀w,Lib.TabIs P w "internal/strconv.uint64pow10" .u64 Lib.pow10Tab→Calls P f #[.int .i64 n] w fun e w'=>e= .returned (.string ⟨(Lib.itoa n).toArray⟩)∧∃k os,w'=Go.Sort.grow (w.drewN k) os):
 aC P f [.int .i64 n] ah fun r aq=>r= .str (Lib.itoa n)∧aq=ah:=by
 refine aC.Lf hc fun F C γ w vs hF hl hv=> ?_
 have h0:=(hv 0 _ rfl).bH
 have hvs:vs= #[.int .i64 n]:=by
  apply Array.ext
  · simpa using hl
  · intro i h1 h2
    simp at h2;subst h2
    simpa [Array.getD_eq_getD_getElem?,Array.getElem?_eq_getElem h1] using h0
 subst hvs
 refine (Qz w (htab F w hF)).mono ?_
 rintro e w' ⟨rfl,k,os,rfl⟩
 refine ⟨rfl,fun b hb=> ?_, ?_,rfl,rfl,rfl⟩
 · show (w.heap++os)[b]? =_
   rw [Array.getElem?_append_left hb]
 · show w.heap.size≤(w.heap++os).size
   simp
theorem Fp {P:Program} {w:World} {F:Nat→Prop} {name:String} {k:IntKind} {zs:List Int} {g:Nat} (hF:FL F w) (hm:(g,fun cs=>cs=(zs.map fun z=>Value.int k z).toArray)∈Tabs.l) (hg:P.globalNamed name=some g):Lib.TabIs P w name k zs:=by
 obtain ⟨-,cs,ty,fr,h,hcs⟩:=hF.zI _ hm
 simp only at h hcs
 subst hcs
 unfold Lib.TabIs World.var?
 rw [hg]
 simp [h]
end Go.Am
end
section
namespace Go.Am
open Go
variable [Tabs]
def AV.oG:AV→Bool
 | .int _ _| .bool _| .str _| .v _=>true
 |_=>false
def v8:List AV→Bool
 |[]=>true
 |a::r=>a.oG&&v8 r
def AV.we:AV→Bool
 | .agg cs=>v8 cs
 |a=>a.oG
def qY:List AV→Bool
 |[]=>true
 |a::r=>a.we&&qY r
def AV.tF:AV→Bool
 | .aK cs=>qY cs
 |a=>a.we
theorem kS {l:List AV} (h:v8 l=true) {i:Nat} {a:AV} (hi:l[i]? =some a):a.oG=true:=by
 induction l generalizing i with
 |nil=>simp at hi
 |cons b r ih=>
  simp only [v8,Bool.and_eq_true] at h
  cases i with
  |zero=>simp at hi;subst hi;exact h.1
  |succ i=>exact ih h.2 (by simpa using hi)
theorem qw {l:List AV} (h:qY l=true) {i:Nat} {a:AV} (hi:l[i]? =some a):a.we=true:=by
 induction l generalizing i with
 |nil=>simp at hi
 |cons b r ih=>
  simp only [qY,Bool.and_eq_true] at h
  cases i with
  |zero=>simp at hi;subst hi;exact h.1
  |succ i=>exact ih h.2 (by simpa using hi)
theorem VR.oG {C C':Nat→List Value} {γ γ':List Nat} {a:AV} {v:Value} (h:VR C γ a v) (hs:a.oG=true):VR C' γ' a v:=by
 cases h with
 |v _ _ hv=>exact .v _ _ hv
 |int=>exact .int ..
 |bool=>exact .bool ..
 |str=>exact .str ..
 |_=>cases hs
theorem VR.we {C C':Nat→List Value} {γ γ':List Nat} {a:AV} {v:Value} (h:VR C γ a v) (hs:a.we=true):VR C' γ' a v:=by
 cases h with
 |agg _ cs vs h1 h2=>exact .agg _ _ _ h1 fun i a hi=>(h2 i a hi).oG (kS hs hi)
 |v _ _ hv=>exact .v _ _ hv
 |int=>exact .int ..
 |bool=>exact .bool ..
 |str=>exact .str ..
 |_=>cases hs
theorem VR.tF {C C':Nat→List Value} {γ γ':List Nat} {a:AV} {v:Value} (h:VR C γ a v) (hs:a.tF=true):VR C' γ' a v:=by
 cases h with
 |aK _ cs vs h1 h2=>exact .aK _ _ _ h1 fun i a hi=>(h2 i a hi).we (qw hs hi)
 |agg _ cs vs h1 h2=>exact .agg _ _ _ h1 fun i a hi=>(h2 i a hi).oG (kS hs hi)
 |v _ _ hv=>exact .v _ _ hv
 |int=>exact .int ..
 |bool=>exact .bool ..
 |str=>exact .str ..
 |_=>cases hs
theorem fG.oG {a:AV} (hs:a.oG=true) (v:Value):fG a v:=by
 cases a<;>first|(cases hs;done)|(cases v<;>trivial)
theorem uQ.we {a:AV} (hs:a.we=true) (v:Value):uQ a v:=by
 cases a with
 |agg cs=>cases v<;>first|trivial|exact fun i a hi=>fG.oG (kS hs hi) _
 |_=>first|(cases hs;done)|(cases v<;>trivial)
theorem TC.tF {w:World} {C:Nat→List Value} {a:AV} (hs:a.tF=true) (v:Value):TC w C a v:=by
 cases a with
 |aK cs=>cases v<;>first|trivial|exact fun i a hi=>uQ.we (qw hs hi) _
 |agg cs=>cases v<;>first|trivial|exact fun i a hi=>fG.oG (kS hs hi) _
 |_=>first|(cases hs;done)|(cases v<;>trivial)
theorem IL {a:AV} (hs:a.tF=true):a.aU=false:=by
 cases a<;>first|rfl|cases hs
theorem Lg {a:AV} (hs:a.tF=true) (l:Loc) (k:Nat) (xs:List AV):a≠ .sl (.fr l) k xs:=by
 rintro rfl;cases hs
inductive fk (ah:AH):AV→AV→Prop
 |same (a):a.oG=true→fk ah a a
 |ep (a p):fk ah (.ep a p) (.ep a p)
 |sl (t k xs):fk ah (.sl t k xs) (.sl .n k xs)
 |ptr (s o:Nat) (cs cs':List AV):ah[s]? =some cs→cs'.length=cs.length→(∀(i:Nat) (a a':AV),cs[i]? =some a→cs'[i]? =some a'→fk ah a a')→fk ah (.ptr s o) (.ep (.agg cs') o)
inductive PE (ah:AH):AV→AV→Prop
 |one (a a'):fk ah a a'→PE ah a a'
 |fn (f:Nat) (cs:List AV):PE ah (.fn f []) (.fn f [])
 |agg (cs cs':List AV):cs'.length=cs.length→(∀(i:Nat) (a a':AV),cs[i]? =some a→cs'[i]? =some a'→fk ah a a')→PE ah (.agg cs) (.agg cs')
def so (w:World) (b:Nat):List Value:=match w.heap[b]? with|some (.cells vs _ _)=>vs.toList|_=>[]
open Classical in
noncomputable def Cx (w:World) (γ:List Nat) (C:Nat→List Value):Nat→List Value:=fun b=>if b∈γ then so w b else C b
section
variable {L:List Nat} {N:Nat} {F:Nat→Prop} {γ:List Nat} {C:Nat→List Value} {e:Env} {ah:AH} {ts:Array Value} {w:World}
theorem CH (h:Mem γ C ah w) (b:Nat):C b <+: Cx w γ C b:=by
 unfold Cx
 split
 · rename_i hb
   by_cases hne:C b=[]
   · rw [hne];exact List.nil_prefix
   · obtain ⟨vs,ty,fr,hh,hp⟩:=h.lR b hne
     unfold so;rw [hh];exact hp
 · exact List.prefix_refl _
theorem CI {s b:Nat} {vs:Array Value} {ty:TypeId} {fr:Nat×Nat} (hs:γ[s]? =some b) (hb:w.heap[b]? =some (.cells vs ty fr)):Cx w γ C b=vs.toList:=by
 unfold Cx so
 rw [if_pos (List.mem_of_getElem? hs),hb]
theorem VR.Lh {C:Nat→List Value} {γ:List Nat} {t:Tg} {k:Nat} {xs:List AV} {v:Value} (h:VR C γ (.sl t k xs) v) (γ':List Nat):VR C γ' (.sl .n k xs) v:=by
 cases h with
 |jJ=>exact .jJ ..
 |sl _ _ _ _ b o n c hn hc hk hl ho hx=>exact .sl _ _ _ _ _ _ _ _ hn hc hk hl ho hx
theorem fk.vr (hm:Mem γ C ah w) {a a':AV} (hp:fk ah a a'):∀ {v:Value},VR C γ a v→VR (Cx w γ C) [] a' v:=by
 induction hp with
 |same a hs=>intro v h;exact h.oG hs
 |ep a p=>
  intro v h
  have h':=h.np rfl
  exact h'.mono (CH hm) [] (fun _ _ h=>h)
 |sl t k xs=>
  intro v h
  exact (h.Lh []).mono (CH hm) [] (fun _ _ h=>h)
 |ptr s o cs cs' hs hl hc ih=>
  intro v h
  obtain ⟨b,hb,rfl⟩:=h.eA
  obtain ⟨vs,ty,hh,hsz,hcell⟩:=hm.obj s b cs hs hb
  have hx:Cx w γ C b=vs.toList:=CI hb hh
  suffices hS:VR (Cx w γ C) [] (.ep (.agg cs') o) (.pointer (some ⟨b,0+o,none⟩)) by rwa [Nat.zero_add] at hS
  refine VR.ep [] (.agg cs') o b 0 (by rw [hx];simpa [AV.cells,hl] using hsz) fun j a' hj=> ?_
  simp only [AV.cells] at hj
  have hlt:j<cs.length:=by rw [←hl];exact (List.getElem?_eq_some_iff.1 hj).1
  have h0:cs[j]? =some cs[j]:=List.getElem?_eq_getElem hlt
  have:=ih j _ _ h0 hj (hcell j _ h0).1
  rw [hx,Nat.zero_add]
  have e1:vs.toList.getD j undef=vs.getD j undef:=by simp [List.getD_eq_getElem?_getD,Array.getD_eq_getD_getElem?]
  rw [e1];exact this
theorem fk.flat {a a':AV} (hp:fk ah a a') (v:Value):fG a' v∧a'.plain=true:=by
 cases hp with
 |same _ hs=>exact ⟨fG.oG hs v,by cases a<;>first|rfl|cases hs⟩
 |ep=>exact ⟨by cases v<;>trivial,rfl⟩
 |sl=>exact ⟨uR ..,rfl⟩
 |ptr=>exact ⟨by cases v<;>trivial,rfl⟩
theorem PE.vr (hm:Mem γ C ah w) {a a':AV} (hp:PE ah a a') {v:Value} (h:VR C γ a v):VR (Cx w γ C) [] a' v:=by
 cases hp with
 |one _ _ h1=>exact h1.vr hm h
 |fn f cs=>
  obtain ⟨vs,rfl,h1,h2⟩:=h.uN
  exact .fn _ _ _ _ h1 (by simp)
 |agg cs cs' hl hc=>
  obtain ⟨vs,rfl,h1,h2⟩:=h.gI
  refine .agg _ _ _ (by omega) fun i a' hi=> ?_
  have hlt:i<cs.length:=by rw [←hl];exact (List.getElem?_eq_some_iff.1 hi).1
  have h0:cs[i]? =some cs[i]:=List.getElem?_eq_getElem hlt
  exact (hc i _ _ h0 hi).vr hm (h2 i _ h0)
theorem PE.tc {a a':AV} (hp:PE ah a a') {C':Nat→List Value} (v:Value):TC w C' a' v∧a'.plain=true:=by
 cases hp with
 |one _ _ h1=>
  cases h1 with
  |same _ hs=>exact ⟨by cases a<;>first|(cases hs;done)|(cases v<;>trivial),by cases a<;>first|rfl|cases hs⟩
  |ep=>exact ⟨by cases v<;>trivial,rfl⟩
  |sl=>exact ⟨by cases v<;>trivial,rfl⟩
  |ptr=>exact ⟨by cases v<;>trivial,rfl⟩
 |fn=>exact ⟨by cases v<;>trivial,rfl⟩
 |agg cs cs' hl hc=>
  refine ⟨?_,rfl⟩
  cases v with
  |agg vs=>
   intro i a' hi
   have hlt:i<cs.length:=by rw [←hl];exact (List.getElem?_eq_some_iff.1 hi).1
   exact ((hc i _ _ (List.getElem?_eq_getElem hlt) hi).flat _).1
  |_=>trivial
def qE (ah:AH):List AV→List AV→Prop
 |[],[]=>True
 |a::r,a'::r'=>PE ah a a'∧qE ah r r'
 |_,_=>False
theorem qE.len:∀ {xs ys:List AV},qE ah xs ys→ys.length=xs.length:=by
 intro xs
 induction xs with
 |nil=>intro ys h;cases ys with|nil=>rfl|cons=>exact h.elim
 |cons a r ih=>intro ys h;cases ys with|nil=>exact h.elim|cons a' r'=>simp [ih h.2]
theorem qE.get:∀ {xs ys:List AV},qE ah xs ys→∀(i:Nat) (a a':AV),xs[i]? =some a→ys[i]? =some a'→PE ah a a':=by
 intro xs
 induction xs with
 |nil=>intro ys _ i a a' h;simp at h
 |cons a r ih=>
  intro ys h i b b' h1 h2
  cases ys with
  |nil=>exact h.elim
  |cons a' r'=>
   rcases i with _|i
   · simp at h1 h2;subst h1;subst h2;exact h.1
   · exact ih h.2 i b b' (by simpa using h1) (by simpa using h2)
def gY (ah:AH):List AV→List AV→Prop
 |[],[]=>True
 |a::r,a'::r'=>fk ah a a'∧gY ah r r'
 |_,_=>False
theorem gY.len:∀ {xs ys:List AV},gY ah xs ys→ys.length=xs.length:=by
 intro xs
 induction xs with
 |nil=>intro ys h;cases ys with|nil=>rfl|cons=>exact h.elim
 |cons a r ih=>intro ys h;cases ys with|nil=>exact h.elim|cons a' r'=>simp [ih h.2]
theorem gY.get:∀ {xs ys:List AV},gY ah xs ys→∀(i:Nat) (a a':AV),xs[i]? =some a→ys[i]? =some a'→fk ah a a':=by
 intro xs
 induction xs with
 |nil=>intro ys _ i a a' h;simp at h
 |cons a r ih=>
  intro ys h i b b' h1 h2
  cases ys with
  |nil=>exact h.elim
  |cons a' r'=>
   rcases i with _|i
   · simp at h1 h2;subst h1;subst h2;exact h.1
   · exact ih h.2 i b b' (by simpa using h1) (by simpa using h2)
theorem qE.nil:qE ah [] []:=trivial
theorem qE.cons {a a':AV} {r r':List AV} (h:PE ah a a') (hr:qE ah r r'):qE ah (a::r) (a'::r'):=⟨h,hr⟩
theorem gY.nil:gY ah [] []:=trivial
theorem gY.cons {a a':AV} {r r':List AV} (h:fk ah a a') (hr:gY ah r r'):gY ah (a::r) (a'::r'):=⟨h,hr⟩
theorem fk.int {k:IntKind} {i:Int}:fk ah (.int k i) (.int k i):= .same _ rfl
theorem fk.b8 {c:UInt8}:fk ah (Am.b8 c) (Am.b8 c):= .same _ rfl
theorem fk.bool {b:Bool}:fk ah (.bool b) (.bool b):= .same _ rfl
theorem fk.str {l:List UInt8}:fk ah (.str l) (.str l):= .same _ rfl
theorem fk.v {x:Value}:fk ah (.v x) (.v x):= .same _ rfl
theorem fk.Tr {s o:Nat} {cs cs':List AV} (hs:ah[s]? =some cs) (h:gY ah cs cs'):fk ah (.ptr s o) (.ep (.agg cs') o):= .ptr _ _ _ _ hs h.len h.get
theorem PE.Ts {cs cs':List AV} (h:gY ah cs cs'):PE ah (.agg cs) (.agg cs'):= .agg _ _ h.len h.get
theorem aC.SS {P:Program} {f:Nat} {args args':List AV} {R:AV→Prop} (h:aC P f args' [] fun r aq=>R r∧aq=[]) (hp:qE ah args args') (hs:∀r,R r→r.tF=true):
 aC P f args ah fun r aq=>R r∧aq=ah:=by
 refine ⟨h.1,fun F γ C w vs fM=> ?_⟩
 have De:∀(l:List AV) (t:Nat),get (cL 0 l) t=(l[t]?).getD .un:=fun l t=>by rw [cm];simp
 have CJ:∀t,VR (Cx w γ C) [] (get (cL 0 args') t) (vs.getD t undef)∧TC w (Cx w γ C) (get (cL 0 args') t) (vs.getD t undef)∧(get (cL 0 args') t).plain=true:=by
  intro t
  rw [De]
  cases ht:args'[t]? with
  |none=>exact ⟨.un ..,by cases vs.getD t undef<;>trivial,rfl⟩
  |some a'=>
   have hlt:t<args.length:=by rw [←hp.len];exact (List.getElem?_eq_some_iff.1 ht).1
   have h0:args[t]? =some args[t]:=List.getElem?_eq_getElem hlt
   have h1:=(fM.env t).1
   rw [De,h0] at h1
   have QA:=hp.get t _ _ h0 ht
   exact ⟨QA.vr fM.mem h1,QA.tc _⟩
 have hnb:∀p b,¬blk [] (cL 0 args') [] vs w p b:=by
  intro p b hb
  cases p with
  |obj s=>simp [blk] at hb
  |cell s i=>obtain ⟨cs,a,b0,h1, -⟩:=hb;simp at h1
  |tmp t=>simp only [blk] at hb;rw [eg _ (dN (CJ t).2.2)] at hb;cases hb
 have hs0:SR [] args'.length (fun b=>b<w.heap.size) [] (Cx w γ C) (cL 0 args') [] vs w:=by
  refine ⟨⟨rfl,fun s b cs h1=>by simp at h1,fun b hne=> ?_,fun s b cs h1=>by simp at h1,fun s b cs us ty fr h1=>by simp at h1⟩,by rw [fM.sz,hp.len],fun t=>⟨(CJ t).1,(CJ t).2.1⟩,fun p q b h1=>absurd h1 (hnb p b),fun p b h1=>absurd h1 (hnb p b),
   ⟨fun b hb=>hb,fun e he=>⟨fM.fH.lt _ (fM.fH.zI e he).1,(fM.fH.zI e he).2⟩⟩,fun t l k xs ht=>absurd ht (mJ (CJ t).2.2 l k xs)⟩
  by_cases hb:b∈γ
  · obtain ⟨s,hsb⟩:=List.getElem?_of_mem hb
    have hlt:s<ah.length:=by rw [←fM.mem.len];exact (List.getElem?_eq_some_iff.1 hsb).1
    obtain ⟨xs,ty,hh, -⟩:=fM.mem.obj s b _ (List.getElem?_eq_getElem hlt) hsb
    exact ⟨xs,ty.1,ty.2,hh,by rw [CI hsb hh];exact List.prefix_refl _⟩
  · have:Cx w γ C b=C b:=by unfold Cx;rw [if_neg hb]
    rw [this] at hne ⊢
    exact fM.mem.lR b hne
 refine (h.2 _ [] (Cx w γ C) w vs hs0).mono ?_
 rintro en w' ⟨r,v,aq,γ',L7,rfl,⟨hR,rfl⟩,hγ,QB,hx⟩
 have hold:∀b,b<w.heap.size→w'.heap[b]? =w.heap[b]? :=fun b hb=>(hx.keep b hb).1
 have hg:=fM.grow (w':=w') (C':=C) hold hx.size (fun _ _=>rfl) (fun b hb hne=>by
  exfalso
  obtain ⟨vs',ty,fr,hh, -⟩:=fM.mem.lR b hne
  exact absurd (lV hh) (by omega)) hx.out
 have hv:=(QB.env 0).1
 simp only [get,if_true] at hv
 have hsc:=hs r hR
 exact ⟨r,v,ah,γ,C,rfl,⟨hR,rfl⟩,List.prefix_refl _,hg.1.CG (hv.tF hsc) (TC.tF hsc _) (IL hsc) (Lg hsc),hg.2⟩
end
end Go.Am
end
section
set_option maxRecDepth 100000
namespace Go.Am
open Go
open Nat renaming reduceEqDiff→nA,reduceLT→nB,reduceLeDiff→nC,reduceAdd→nD,reduceSub→nE,reduceMul→nF,reduceBEq→nG
variable [Tabs]
theorem N8 {P:Program} {L:List Nat} {N n0:Nat} {e:Env} {ah:AH} {t:List It} {Q:Exit→Env→AH→Prop} {r:List aA} {d:Option Nat} {g:Option (Nat×Bool)} {n:Bool} {x:Ar} {tg:Tg} {k:Nat} {xs:List AV}
 (hx:ev e x= .sl tg k xs) (h1:xs=[]→∀b,U P L N n0 (.ops r::t) Q .normal (au L e d (.bool b)) ah) (h2:xs≠[]→U P L N n0 (.ops r::t) Q .normal (au L e d (.bool n)) ah):
 UG P L N n0 ⟨d, .nq n x,g⟩ r t Q e ah (some true):=by
 show ri L d n x e ah _
 unfold ri
 rw [hx]
 exact ⟨h1,h2⟩
def oH (k b:Nat):az:= .seq (.rg [⟨some 2, .bg (.c (.sl .ex k [])),none⟩]) (.seq (.seq (.rg [⟨some 3, .mv (.t 0),none⟩,⟨some 4, .nq false (.t 3),none⟩]) (.cond (.t 4) (.seq (.rg [⟨some 2, .bg (.c (.sl .ex k [])),none⟩]) .ret) .skip))
 (.seq (.rg [⟨some 5, .mP k [],none⟩,⟨some 6, .mv (.t 0),none⟩,⟨some 7, .app k b (.t 5) (.t 6),none⟩,⟨some 2, .bg (.t 7),none⟩]) .ret))
theorem wg {P:Program} {f k b:Nat} {xs ys:List AV} {H0:AH} (hF:bT P f 8 [.tmp 2] (oH k b)) (hz:cx b [] xs=some ys):aC P f [.sl .n k xs] H0 fun v H'=>v= .sl .own k ys∧H'=H0:=by
 refine aC.MW hF (m:=oH k b) rfl [0,2,4] rfl (by simp) fun hcl K0 br=> ?_
 refine AX.IJ (m:=oH k b) rfl rfl ?_
 have hys:ys=xs:=by unfold cx at hz;split at hz<;>simp_all
 subst hys
 simp only [WW, ↓reduceIte,nA,nB,nC,nD,nE,nF,nG,reduceCtorEq,oH]
 have step:U P [0,2,4] 8 H0.length [.code .skip, .code (.seq (.rg [⟨some 5, .mP k [],none⟩,⟨some 6, .mv (.t 0),none⟩,⟨some 7, .app k b (.t 5) (.t 6),none⟩,⟨some 2, .bg (.t 7),none⟩]) .ret)] K0 .normal
  [(0, .sl .n k ys),(2, .sl .ex k []),(4, .bool false)] H0:=by
  simp only [WW, ↓reduceIte,nA,nB,nC,nD,nE,nF,nG,reduceCtorEq,hz,List.all_nil,List.map_nil]
  refine br _ _ _ (.inr rfl) ?_
  exact aJ hcl (mL (a:= .sl .own k ys) rfl rfl pS) (by simp [fin,AV.df]) Wx.oo (r':= .sl .own k ys) ⟨rfl,rfl⟩
 refine N8 (by rfl) (fun h0 b=> ?_) (fun h0=> ?_)
 · subst h0
   simp only [WW, ↓reduceIte,nA,nB,nC,nD,nE,nF,nG,reduceCtorEq]
   cases b
   · refine Qq rfl ?_
     exact step
   · refine Qp rfl ?_
     simp only [WW, ↓reduceIte,nA,nB,nC,nD,nE,nF,nG,reduceCtorEq]
     refine br _ _ _ (.inr rfl) ?_
     exact aJ hcl (mL (a:= .sl .ex k []) rfl rfl pS) (by simp [fin,AV.df]) (Wx.own ..) (r':= .sl .own k []) ⟨rfl,rfl⟩
 · simp only [WW, ↓reduceIte,nA,nB,nC,nD,nE,nF,nG,reduceCtorEq,hz,List.all_nil,List.map_nil]
   refine br _ _ _ (.inr rfl) ?_
   exact aJ hcl (mL (a:= .sl .own k ys) rfl rfl pS) (by simp [fin,AV.df]) Wx.oo (r':= .sl .own k ys) ⟨rfl,rfl⟩
end Go.Am
namespace Go.Am
open Go
variable [Tabs]
theorem SR.L0 {L:List Nat} {N:Nat} {F:Nat→Prop} {γ:List Nat} {C:Nat→List Value} {e:Env} {ah:AH} {ts:Array Value} {w:World} (h:SR L N F γ C e ah ts w) {r:AV} {v:Value} (hr:Am.get e 0=r) (hv:ts.getD 0 undef=v)
 (hf:∀l k xs,r≠ .sl (.fr l) k xs):SR [] 1 F γ C [(0,r)] ah #[v] w:=by
 subst hr;subst hv
 have hbk:∀p b,blk γ [(0,Am.get e 0)] ah #[ts.getD 0 undef] w p b→blk γ e ah ts w p b:=by
  intro p b hp
  cases p with
  |obj s=>exact hp
  |cell s i=>exact hp
  |tmp t=>
   simp only [blk,Am.get] at hp ⊢
   split at hp
   · rename_i h0;subst h0;exact hp
   · simp [aV] at hp
 refine ⟨h.mem,rfl,fun t=> ?_,fun p q b hp hq=>h.b5 p q b (hbk p b hp) (hbk q b hq),fun p b hp=>h.nf p b (hbk p b hp),h.fH,fun t l k xs htl=> ?_⟩
 · by_cases h0:0=t
   · subst h0;simp only [Am.get,if_true];exact h.env 0
   · simp only [Am.get,if_neg h0];exact ⟨.un ..,by generalize (#[ts.getD 0 undef]:Array Value).getD t undef=u;cases u<;>trivial⟩
 · simp only [Am.get] at htl
   split at htl
   · exact absurd htl (hf l k xs)
   · cases htl
theorem y8 {P:Program} {f:Nat} {n:Int} {H0:AH} {el:TypeId} {z:Value} (hc:eK P f=true) (hz:z.cells.size=1) (h0:0≤n)
 (hroom:∀(base:Option Addr) (w:World),n=0→Calls P f #[.slice base 0 0, .int .i64 n] w fun e w'=>e= .returned (.slice base 0 0)∧w'=w)
 (hgrow:∀(base:Option Addr) (w:World),0<n→Calls P f #[.slice base 0 0, .int .i64 n] w fun e w'=>e= .returned (.slice (some ⟨w.heap.size,0,none⟩) 0 (grownCap w n.toNat 0 el))∧
  w'=w.drew.alloc (.cells ((#[]:Array Value)++Builtin.zeroCells z.cells n.toNat++Builtin.zeroCells z.cells (grownCap w n.toNat 0 el - n.toNat)) el)):
 aC P f [.sl .ex 1 [], .int .i64 n] H0 fun v H'=>v= .sl .own 1 []∧H'=H0:=by
 refine ⟨hc,fun F γ C w vs hs=> ?_⟩
 have h1:=hs.env 0
 have h2:=(hs.env 1).1
 rw [cm] at h1 h2
 simp only [Nat.zero_le,if_true,Nat.sub_zero,List.getElem?_cons_zero,Option.getD_some] at h1
 simp only [Nat.zero_le,if_true,Nat.sub_zero,List.getElem?_cons_succ,List.getElem?_cons_zero,Option.getD_some] at h2
 obtain ⟨a,c,e1, -⟩:=h1.1.cN
 rw [e1] at h1
 have hc0:c=0:=h1.2
 subst hc0
 have e2:=h2.bH
 have hvs:vs= #[.slice a 0 0, .int .i64 n]:=by
  have hsz:vs.size=2:=hs.sz
  apply Array.ext
  · simpa using hsz
  · intro i g1 g2
    have:i=0∨i=1:=by omega
    rcases this with rfl|rfl
    · simpa [Array.getD_eq_getD_getElem?,Array.getElem?_eq_getElem g1] using e1
    · simpa [Array.getD_eq_getD_getElem?,Array.getElem?_eq_getElem g1] using e2
 by_cases hn:n=0
 · rw [hvs]
   refine (hroom a w hn).mono ?_
   rintro en w' ⟨rfl,rfl⟩
   have hw:SR [] 2 F γ C (Am.put (cL 0 [.sl .ex 1 [], .int .i64 n]) 0 (.sl .own 1 [])) H0 vs w':=by
    refine hs.wx ⟨fun t=> ?_,dD.refl _⟩
    rw [cK]
    split
    · rename_i ht;subst ht
      rw [cm]
      exact Wx.own _ _
    · refine Wx.same fun l k xs=> ?_
      rw [cm]
      match t with
      |0=>simp
      |1=>simp
      |t+2=>simp
   exact ⟨.sl .own 1 [],_,H0,γ,C,rfl,⟨rfl,rfl⟩,List.prefix_refl _,hw.L0 (by rw [cK];simp) (by rw [hvs];rfl) (by simp),Ext.refl ..⟩
 · have hpos:0<n:=by omega
   rw [hvs]
   refine (hgrow a w hpos).mono ?_
   rintro en w' ⟨rfl,rfl⟩
   generalize hcap:grownCap w n.toNat 0 el=cap
   have hge:n.toNat≤cap:=by rw [←hcap];exact grownCap_ge w _ _ _
   generalize hrow:(#[]:Array Value)++Builtin.zeroCells z.cells n.toNat++Builtin.zeroCells z.cells (cap - n.toNat)=row
   have hrl:row.size=cap:=by
    rw [←hrow];simp only [Array.size_append,size_zeroCells,hz];simp;omega
   obtain ⟨q1,q2,q3⟩:=heap_alloc w.drew (.cells row el)
   obtain ⟨C',g1,g2, -, -⟩:=lZ (ds:=[]) (w':=w.drew.alloc (.cells row el)) (d:=some 0) (qD:=[]) (xs:=[]) (k:=1) (n:=0) (c:=cap)
    hs (by intro x hx;injection hx with hx;subst hx;simp) q2 q3 q1 (by simp) (by simp) (by simp) rfl (Nat.zero_le _) (by omega) (fun q hq=>by simp) (by simp) (by simp)
   refine ⟨.sl .own 1 [],_,H0,γ,C',rfl,⟨rfl,rfl⟩,List.prefix_refl _,g1.L0 ?_ ?_ (by simp),g2⟩
   · simp [Am.au,cK,AV.aU,AV.df]
   · rw [hvs];rfl
end Go.Am
end
section
set_option maxRecDepth 100000
namespace Go.Am
open Go
open Nat renaming reduceEqDiff→nA,reduceLT→nB,reduceLeDiff→nC,reduceAdd→nD,reduceSub→nE,reduceMul→nF,reduceBEq→nG
variable [Tabs]
theorem y9 {p:Prop} (h:p:=by first|assumption|omega|(simp only [j3,j4]<;>omega)):p:=h
section
variable {H T:AH} {q s:Nat} {c c':List AV}
theorem BT (h:q<H.length:=by first|assumption|omega|(simp only [j3,j4]<;>omega)) (hc:c=c':=by rfl):(H.set q c)[q]? =some c':=hc▸h_eq h
theorem QC {r:Option (List AV)} (hx:H[q]? =r) (h:s≠q:=by first|assumption|omega|(simp only [j3,j4]<;>omega)):(H.set s c)[q]? =r:=(LR h).trans hx
theorem QD {r:Option (List AV)} (hx:H[q]? =r) (h:q<H.length:=by first|assumption|omega|(simp only [j3,j4]<;>omega)):(H++T)[q]? =r:=(Ho h).trans hx
theorem N9 (h:q=H.length:=by first|assumption|omega|(simp only [j3,j4]<;>omega)) (hc:c=c':=by rfl):(H++[c])[q]? =some c':=hc▸CB h
theorem qF {ah:AH} {n0:Nat} {S:List Nat} (s:Nat) (h:Fr ah n0 S H) (hs:s∈S∨n0≤s:=by first|exact .inr (by first|assumption|omega|(simp only [j3,j4]<;>omega))|exact .inl (by simp)):Fr ah n0 S (H.set s c):=Fr.set h hs
end
theorem aB {H:AH}:dD H H:=dD.refl _
theorem aD {g g':Prop} (k:g') (h:g=g':=by
 first|(conv=>lhs;simp only [WW, ↓reduceIte,nA,nB,nC,nD,nE,nF,nG,reduceCtorEq])|rfl):g:=h▸k
theorem bn {p g g':Prop} (f:p) (k:g') (h:p→g=g':=by
 intro f;first|(conv=>lhs;simp only [WW, ↓reduceIte,nA,nB,nC,nD,nE,nF,nG,reduceCtorEq,f])|rfl):g:=h f▸k
theorem bJ {g g':Prop} (k:g') (h:g=g':=by
 first|(conv=>lhs;simp (disch:=first|assumption|omega|(simp only [j3,j4]<;>omega)|fail) only [WW,WH, ↓reduceIte,nA,nB,nC,nD,nE,nF,nG,reduceCtorEq])|rfl):g:=h▸k
theorem bO {p g g':Prop} (f:p) (k:g') (h:p→g=g':=by
 intro f;first|(conv=>lhs;simp (disch:=first|assumption|omega|(simp only [j3,j4]<;>omega)|fail) only [WW,WH, ↓reduceIte,nA,nB,nC,nD,nE,nF,nG,reduceCtorEq,f])|rfl):g:=h f▸k
structure GZ (p:Prop):Prop where
 out:p
section
variable {P:Program} {L:List Nat} {N n0:Nat} {e:Env} {ah:AH} {t:List It} {Q:Exit→Env→AH→Prop} {r:List aA}
theorem eu {β:Type} {x y:Option β} {z:β} {o:aA} {B want:Bool} (h:(if B=true then x else y)=some z) (k1:B=true→x=some z→GZ (UG P L N n0 o r t Q e ah (some (true==want))))
 (k2:B=false→y=some z→GZ (UG P L N n0 o r t Q e ah (some (false==want)))):GZ (UG P L N n0 o r t Q e ah (some (B==want))):=by
 cases B
 · exact k2 rfl h
 · exact k1 rfl h
theorem Fq {o:aA} {B want:Bool} (k1:B=true→GZ (UG P L N n0 o r t Q e ah (some (true==want))))
 (k2:B=false→GZ (UG P L N n0 o r t Q e ah (some (false==want)))):GZ (UG P L N n0 o r t Q e ah (some (B==want))):=by
 cases B
 · exact k2 rfl
 · exact k1 rfl
theorem cc {β:Type} {x y:Option β} {z:β} {a b:az} {B:Bool} (h:(if B=true then x else y)=some z) (k1:B=true→x=some z→GZ (U P L N n0 (.code a::t) Q .normal e ah))
 (k2:B=false→y=some z→GZ (U P L N n0 (.code b::t) Q .normal e ah)):GZ (UC P L N n0 a b t Q e ah (.bool B)):=by
 cases B
 · exact k2 rfl h
 · exact k1 rfl h
end
def AV.QE:AV→Bool
 | .sl (.fr _) _ _=>false
 |_=>true
theorem Wx.Oa {a:AV} (h:a.QE=true):Wx a a:= .same fun l k xs e=>by subst e;cases h
theorem Wx.SU {s k n n' c:Nat} (h:n=n'):Wx (.aZ s k n c) (.aZ s k n' c):=by subst h;exact Wx.Oa rfl
theorem QF {cs cs':List AV} (h:gR cs cs':=by repeat (first|exact gR.nil|apply gR.same|apply gR.n)):gR cs cs':=h
theorem SV {cs cs':List AV} (h:ig cs cs':=by repeat (first|exact ig.nil|apply ig.same|apply ig.n|refine ig.agg QF ?_)):ig cs cs':=h
theorem bU {a a':AV} (h:Wx a a':=by
 first|exact Wx.Oa rfl|exact Wx.n|exact Wx.own .. |exact Wx.un _|exact Wx.agg QF|exact Wx.err|exact Wx.SU (by simp)|exact Wx.PA SV):Wx a a':=h
theorem aP {e e1:Env} (h:WE e e1:=by
 repeat (refine WE.cons bU ?_)
 exact WE.nil):WE e e1:=h
theorem jN {p:Prop} {e e1:Env} (f:p) (h:p→WE e e1:=by
 intro f
 repeat (refine WE.cons (by first|exact bU|exact Wx.N5 (by simp only [f,WB])|exact Wx.Qo (by simp only [f,WB])) ?_)
 exact WE.nil):WE e e1:=h f
theorem TO {a a':List AV} (h:WL a a':=by
 repeat (refine WL.cons bU ?_)
 exact WL.nil):WL a a':=h
theorem TP {a a':List AV} (h:mc a a':=by
 repeat (refine mc.cons bU ?_)
 exact mc.nil):mc a a':=h
theorem fm {x:Exit} (h:x≠ .normal:=by simp):x≠ .normal:=h
section
variable {P:Program} {L:List Nat} {N n0:Nat} {e:Env} {ah:AH} {t:List It} {Q:Exit→Env→AH→Prop} {r:List aA} {d:Option Nat} {f:Nat}
theorem bP {zs zs':List AV} {aW HE:AH} {V:AV} (hh:dD ah aW) (h:aC P f zs' aW fun v H'=>v=V∧H'=HE) (hk:GZ (U P L N n0 (.ops r::t) Q .normal (au L (l7 e) d V.df) HE))
 (hw:WL zs zs':=by
 repeat (refine WL.cons bU ?_)
 exact WL.nil):GZ (UK P L N n0 f zs d r t Q e ah):=⟨LZ h hw hh hk.out⟩
theorem TQ {zs zs':List AV} {aW:AH} {R:AV→AH→Prop} (hh:dD ah aW) (h:aC P f zs' aW R) (hk:∀v aq,R v aq→GZ (U P L N n0 (.ops r::t) Q .normal (au L (l7 e) d v.df) aq))
 (hw:WL zs zs':=by
 repeat (refine WL.cons bU ?_)
 exact WL.nil):GZ (UK P L N n0 f zs d r t Q e ah):=⟨LN h hw hh fun v aq hR=>(hk v aq hR).out⟩
theorem TR {zs zs':List AV} {V:AV} (h:aC P f zs' [] fun v H'=>v=V∧H'=[]) (hp:qE ah zs zs') (hk:GZ (U P L N n0 (.ops r::t) Q .normal (au L (l7 e) d V.df) ah)) (hs:V.tF=true:=by rfl) (hw:WL zs zs:=by
 repeat (refine WL.cons (Wx.Oa rfl) ?_)
 exact WL.nil):GZ (UK P L N n0 f zs d r t Q e ah):=
 ⟨LZ (aC.SS h hp (by rintro _ rfl;exact hs)) hw (dD.refl _) hk.out⟩
theorem TS {cs cs':List AV} (h:gY ah cs cs':=by
 repeat (first|exact gY.nil|refine gY.cons (by first|exact fk.int|exact fk.b8|exact fk.bool|exact fk.str|exact fk.v|exact .sl _ _ _|exact .ep _ _) ?_)):gY ah cs cs':=h
theorem Fs {c:az} (h:AX P L N n0 c (fun x e ah=>GZ (U P L N n0 t Q x e ah)) e ah):GZ (UX P L N n0 c t Q e ah):=⟨MV (AX.mono h fun _ _ _ h=>h.out)⟩
theorem IM {c:az} (h:GZ (UX P L N n0 c t Q e ah)):AX P L N n0 c (fun x e ah=>GZ (U P L N n0 t Q x e ah)) e ah:=AX.mono h.out fun _ _ _ h=>⟨h⟩
theorem cy {c:az} {e1:Env} {aW:AH} (hh:dD ah aW) (h:AX P L N n0 c (fun x e ah=>GZ (U P L N n0 t Q x e ah)) e1 aW) (he:WE e e1:=by
 repeat (refine WE.cons bU ?_)
 exact WE.nil):GZ (UX P L N n0 c t Q e ah):=Fs (AX.weak he hh h)
theorem QG {α:Type} {f:α→AV} {k b q c n1:Nat} {x y:Ar} {tg:Tg} {X Y Z:List α} {ys:List AV} {g:Option (Nat×Bool)} (hf:∀x,(f x).cells.length=k∧bh (f x).cells=true∧c7 (f x).cells=true∧bz (f x).cells=true)
 (ou:0<k) (hx:ev e x= .aZ q k X.length c) (hy:ev e y= .sl tg k ys) (hys:ys=ml f Y) (hY:Y≠[]) (hz:cx b X Y=some Z) (hG:GF k n1 q (ml f X) c ah) (hn:n1≤ah.length)
 (hK:∀q' c' aq,GF k n1 q' (ml f Z) c' aq→(∀s,s<ah.length→s<n1∨(0<c→s≠q)→aq[s]? =ah[s]?)→ah.length≤aq.length→(q'=q∨ah.length≤q')→
  GZ (U P L N n0 (.ops r::t) Q .normal (au L e d (.aZ q' k Z.length c')) aq)):
 GZ (UG P L N n0 ⟨d, .fy k b x y,g⟩ r t Q e ah (some true)):=⟨IF hf ou hx hy hys hY hz hG hn fun q' c' aq h1 h2 h3 h4=>(hK q' c' aq h1 h2 h3 h4).out⟩
end
theorem aF {α:Type} {a b:α} (h:some a=some b):a=b:=Option.some.inj h
theorem mY {α β:Type} {a b:α} {c d:β} (h:some (a,c)=some (b,d)):a=b∧c=d:=Prod.mk.inj (Option.some.inj h)
theorem L1 {α β γ:Type} {a b:α} {c d:β} {e f:γ} (h:some (a,c,e)=some (b,d,f)):a=b∧c=d∧e=f:=by
 obtain ⟨h1,h2⟩:=mY h;exact ⟨h1,Prod.mk.inj h2⟩
theorem QH {α β γ δ:Type} {a b:α} {c d:β} {e f:γ} {g i:δ} (h:some (a,c,e,g)=some (b,d,f,i)):a=b∧c=d∧e=f∧g=i:=by
 obtain ⟨h1,h2,h3⟩:=L1 h;exact ⟨h1,h2,Prod.mk.inj h3⟩
theorem QI {α β γ δ ε:Type} {a b:α} {c d:β} {e f:γ} {g i:δ} {j k:ε} (h:some (a,c,e,g,j)=some (b,d,f,i,k)):a=b∧c=d∧e=f∧g=i∧j=k:=by
 obtain ⟨h1,h2,h3,h4⟩:=QH h;exact ⟨h1,h2,h3,Prod.mk.inj h4⟩
theorem Tt {α β γ δ ε ζ:Type} {a b:α} {c d:β} {e f:γ} {g i:δ} {j k:ε} {l m:ζ} (h:some (a,c,e,g,j,l)=some (b,d,f,i,k,m)):a=b∧c=d∧e=f∧g=i∧j=k∧l=m:=by
 obtain ⟨h1,h2,h3,h4,h5⟩:=QI h;exact ⟨h1,h2,h3,h4,Prod.mk.inj h5⟩
theorem cA {P:Program} {e:Env} {ah:AH}:dB P e ah []=some []:=rfl
theorem bS {P:Program} {e:Env} {ah:AH} {t:Nat} {rs:List ResultVar} {vs:List AV} (hr:dB P e ah rs=some vs) (a:AV) (h:Am.get e t=a:=by rfl) (ht:a.cw=false:=by rfl):dB P e ah (.tmp t::rs)=some (a::vs):=mL h ht hr
theorem cB {n:Nat} {a:AV} (h:Cl n a:=by first|(simp [fin,LQ,LP,vm,CA];done)|(simp [fin,AV.df,AV.sh,AV.aR,LQ,LP,vm,CA];done)):Cl n a:=h
theorem TT {n:Nat} {c:List AV} (h:∀a∈c,Cl n a:=by simp [CA];try omega):∀a∈c,Cl n a:=h
theorem aX {p q:Prop} (a:p) (b:q):p∧q:=⟨a,b⟩
theorem cC:Exit.ret= .normal∨Exit.ret= .ret:= .inr rfl
theorem TU:Exit.normal= .normal∨Exit.normal= .ret:= .inl rfl
theorem za {P:Program} {N f:Nat} {rs:List ResultVar} {m:az} (hF:bT P f N rs (erase m)) (L:List Nat) {args:List AV} {R:AV→AH→Prop} {H0:AH} (S:List Nat) {F0:AH→Prop} (hf:F0 H0)
 (h:ga H0.length H0→∀K0:Exit→Env→AH→Prop,(∀x e' H,x= .normal∨x= .ret→me P H0 rs R e' H→GZ (K0 x e' H))→
  ∀H,Fr H0 H0.length S H→F0 H→GZ (U P L N H0.length [.code m] K0 .normal (cL 0 args) H)) (ho:jf N (erase m)=true:=by kernel_rfl) (hN:args.length≤N:=by simp):aC P f args H0 R:=by
 refine aC.MW hF (m:=m) rfl L ho hN fun hcl K0 br=> ?_
 refine AX.IJ (m:=m) rfl ho ?_
 exact (h hcl K0 (fun x e' H h1 h2=>⟨br x e' H h1 h2⟩) H0 (Fr.refl H0 S) hf).out
theorem gS {P:Program} {N f:Nat} {rs:List ResultVar} {m:az} (hF:bT P f N rs (erase m)) (L:List Nat) {args:List AV} {R:AV→AH→Prop} {H0:AH}
 (h:ga H0.length H0→∀K0:Exit→Env→AH→Prop,(∀x e' H,x= .normal∨x= .ret→me P H0 rs R e' H→GZ (K0 x e' H))→
  GZ (U P L N H0.length [.code m] K0 .normal (cL 0 args) H0)) (ho:jf N (erase m)=true:=by kernel_rfl) (hN:args.length≤N:=by simp):aC P f args H0 R:=by
 refine aC.MW hF (m:=m) rfl L ho hN fun hcl K0 br=> ?_
 exact AX.IJ (m:=m) rfl ho (h hcl K0 (fun x e' H h1 h2=>⟨br x e' H h1 h2⟩)).out
theorem e6 {P:Program} {L:List Nat} {N n0:Nat} {e:Env} {ah:AH} {K:Exit→Env→AH→Prop} {m:az}
 (h:∀K':Exit→Env→AH→Prop,(∀x e ah e1 aW,WE e e1→dD ah aW→K x e1 aW→GZ (K' x e ah))→GZ (U P L N n0 [.code m] K' .normal e ah)) (ho:jf N (erase m)=true:=by kernel_rfl):AX P L N n0 (erase m) K e ah:=
 AX.go rfl ho fun K' hK=>(h K' fun x e ah e1 aW h1 h2 h3=>⟨hK x e ah e1 aW h1 h2 h3⟩).out
theorem jO {P:Program} {L:List Nat} {N n0:Nat} {e:Env} {ah:AH} {K:Exit→Env→AH→Prop} {m:az} {ρ τ σ:Type} {body:σ→Option (St ρ τ σ)} (J:σ→Env→AH→Prop) {F:Nat} {s0:σ} {o:ρ⊕τ} (hit:Am.iter body F s0=some o) (h0:J s0 e ah)
 (round:∀(K':Exit→Env→AH→Prop) s st e ah,J s e ah→body s=some st→
 (∀s',st= .b7 s'→∀e' aq e1 aW,WE e' e1→dD aq aW→J s' e1 aW→GZ (K' .normal e' aq))→
 (∀t,st= .fj t→o= .inr t)→(∀r,st= .ret r→o= .inl r)→
 (∀x e' aq e1 aW,x≠ .normal→WE e' e1→dD aq aW→K x e1 aW→GZ (K' x e' aq))→GZ (U P L N n0 [.code m] K' .normal e ah)) (ho:jf N (erase m)=true:=by kernel_rfl):AX P L N n0 (.loop (erase m)) K e ah:=
 AX.iter rfl ho J hit h0 fun K' s st e ah h1 h2 h3 h4 h5 h6=>(round K' s st e ah h1 h2 (fun s' h e' aq e1 aW g1 g2 g3=>⟨h3 s' h e' aq e1 aW g1 g2 g3⟩) h4 h5 fun x e' aq e1 aW hx g1 g2 g3=>⟨h6 x e' aq e1 aW hx g1 g2 g3⟩).out
abbrev ai (d:Nat) (p:cX):aA:=⟨some d,p,none⟩
abbrev aE (d:Nat) (p:cX) (g:Nat) (w:Bool):aA:=⟨some d,p,some (g,w)⟩
abbrev sr (p:cX):aA:=⟨none,p,none⟩
abbrev ax (d x:Nat):aA:=⟨some d, .mv (.t x),none⟩
abbrev aM (d x:Nat):aA:=⟨some d, .bg (.t x),none⟩
end Go.Am
end
section
namespace Go.Proofs
open Go.Shelf
def Tryd.wh:Go.Shelf.Ren:=⟨fun|137=>114|217=>122|266=>135|n=>n,fun|9=>9|5=>5|3=>3|n=>n,fun|n=>n⟩
theorem Tryd.IN:Go.Proofs.Lays.n137 Tryd.prog Tryd.wh:= {
 mixed:=by kernel_rfl
 f137:=Tryd.func114.trans (congrArg some (by kernel_rfl))
 f217:=Tryd.func122.trans (congrArg some (by kernel_rfl))
 f266:=Tryd.func135.trans (congrArg some (by kernel_rfl))
 t3:=Tryd.underlying3
 a3:=Tryd.isAgg3
 z3:=Tryd.sizeOf3
 v3:=Tryd.zeroValue3
 t5:=Tryd.underlying5
 a5:=Tryd.isAgg5
 z5:=Tryd.sizeOf5
 v5:=Tryd.zeroValue5
 t9:=Tryd.underlying9
 a9:=Tryd.isAgg9
 z9:=Tryd.sizeOf9
 v9:=Tryd.zeroValue9}
def Tryd.tG:Go.Shelf.Ren:=⟨fun|171=>91|243=>111|246=>121|283=>131|284=>132|285=>133|286=>134|129=>144|317=>143|318=>145|319=>146|320=>147|337=>151|338=>152|n=>n,fun|3=>3|9=>9|2=>2|4=>4|171=>121|0=>0|53=>122|37=>26|5=>5|173=>125|212=>136|51=>72|20=>20|213=>137|46=>107|232=>154|233=>155|n=>n,fun|17=>1|18=>6|19=>7|n=>n⟩
theorem Tryd.Ft:Go.Proofs.LaysM.n171 Tryd.prog Tryd.tG:= {
 mixed:=by kernel_rfl
 f129:=Tryd.func144.trans (congrArg some (by kernel_rfl))
 f171:=Tryd.func91.trans (congrArg some (by kernel_rfl))
 f243:=Tryd.func111.trans (congrArg some (by kernel_rfl))
 f246:=Tryd.func121.trans (congrArg some (by kernel_rfl))
 f283:=Tryd.func131.trans (congrArg some (by kernel_rfl))
 f284:=Tryd.func132.trans (congrArg some (by kernel_rfl))
 f285:=Tryd.func133.trans (congrArg some (by kernel_rfl))
 f286:=Tryd.func134.trans (congrArg some (by kernel_rfl))
 f317:=Tryd.func143.trans (congrArg some (by kernel_rfl))
 f318:=Tryd.func145.trans (congrArg some (by kernel_rfl))
 f319:=Tryd.func146.trans (congrArg some (by kernel_rfl))
 f320:=Tryd.func147.trans (congrArg some (by kernel_rfl))
 f337:=Tryd.func151.trans (congrArg some (by kernel_rfl))
 f338:=Tryd.func152.trans (congrArg some (by kernel_rfl))
 t0:=Tryd.underlying0
 a0:=Tryd.isAgg0
 z0:=Tryd.sizeOf0
 v0:=Tryd.zeroValue0
 t2:=Tryd.underlying2
 a2:=Tryd.isAgg2
 z2:=Tryd.sizeOf2
 v2:=Tryd.zeroValue2
 t3:=Tryd.underlying3
 a3:=Tryd.isAgg3
 z3:=Tryd.sizeOf3
 v3:=Tryd.zeroValue3
 t4:=Tryd.underlying4
 a4:=Tryd.isAgg4
 z4:=Tryd.sizeOf4
 v4:=Tryd.zeroValue4
 t5:=Tryd.underlying5
 a5:=Tryd.isAgg5
 z5:=Tryd.sizeOf5
 v5:=Tryd.zeroValue5
 t9:=Tryd.underlying9
 a9:=Tryd.isAgg9
 z9:=Tryd.sizeOf9
 v9:=Tryd.zeroValue9
 t20:=Tryd.underlying20
 a20:=Tryd.isAgg20
 z20:=Tryd.sizeOf20
 v20:=Tryd.zeroValue20
 t37:=Tryd.underlying26
 a37:=Tryd.isAgg26
 z37:=Tryd.sizeOf26
 v37:=Tryd.zeroValue26
 t46:=Tryd.underlying107
 a46:=Tryd.isAgg107
 z46:=Tryd.sizeOf107
 v46:=Tryd.zeroValue107
 t51:=Tryd.underlying72
 a51:=Tryd.isAgg72
 z51:=Tryd.sizeOf72
 v51:=Tryd.zeroValue72
 t53:=Tryd.underlying122
 a53:=Tryd.isAgg122
 z53:=Tryd.sizeOf122
 v53:=Tryd.zeroValue122
 t171:=Tryd.underlying121
 a171:=Tryd.isAgg121
 z171:=Tryd.sizeOf121
 v171:=Tryd.zeroValue121
 t173:=Tryd.underlying125
 a173:=Tryd.isAgg125
 z173:=Tryd.sizeOf125
 v173:=Tryd.zeroValue125
 t212:=Tryd.underlying136
 a212:=Tryd.isAgg136
 z212:=Tryd.sizeOf136
 v212:=Tryd.zeroValue136
 t213:=Tryd.underlying137
 a213:=Tryd.isAgg137
 z213:=Tryd.sizeOf137
 t232:=Tryd.underlying154
 a232:=Tryd.isAgg154
 z232:=Tryd.sizeOf154
 v232:=Tryd.zeroValue154
 t233:=Tryd.underlying155
 a233:=Tryd.isAgg155
 z233:=Tryd.sizeOf155
 v233:=Tryd.zeroValue155
 g17:=by kernel_rfl
 g18:=by kernel_rfl
 g19:=by kernel_rfl
 i0:=by kernel_rfl
 i2:=by kernel_rfl
 i3:=by kernel_rfl
 i4:=by kernel_rfl
 i5:=by kernel_rfl
 i9:=by kernel_rfl
 i20:=by kernel_rfl
 i37:=by kernel_rfl
 i46:=by kernel_rfl
 i51:=by kernel_rfl
 i53:=by kernel_rfl
 i171:=by kernel_rfl
 i173:=by kernel_rfl
 i212:=by kernel_rfl
 i232:=by kernel_rfl
 i233:=by kernel_rfl
 m17:=by kernel_rfl
 m18:=by kernel_rfl
 m19:=by kernel_rfl}
def Tryd.tH:Go.Shelf.Ren:=⟨fun|172=>116|244=>126|245=>127|247=>137|279=>138|280=>139|281=>140|282=>141|287=>148|316=>149|171=>91|205=>150|321=>153|322=>154|243=>111|246=>121|283=>131|284=>132|285=>133|286=>134|129=>144|317=>143|318=>145|319=>146|320=>147|337=>151|338=>152|n=>n,fun|9=>9|3=>3|75=>112|76=>113|4=>4|5=>5|167=>129|37=>26|0=>0|85=>130|2=>2|168=>132|53=>122|175=>139|46=>107|210=>142|127=>150|145=>153|143=>151|21=>21|171=>121|173=>125|212=>136|51=>72|20=>20|213=>137|232=>154|233=>155|80=>93|n=>n,fun|15=>2|16=>3|17=>1|18=>6|19=>7|n=>n⟩
theorem Tryd.pV:Go.Proofs.LaysC.n172 Tryd.prog Tryd.tH:= {
 mixed:=by kernel_rfl
 f129:=Tryd.func144.trans (congrArg some (by kernel_rfl))
 f171:=Tryd.func91.trans (congrArg some (by kernel_rfl))
 f172:=Tryd.func116.trans (congrArg some (by kernel_rfl))
 f205:=Tryd.func150.trans (congrArg some (by kernel_rfl))
 f243:=Tryd.func111.trans (congrArg some (by kernel_rfl))
 f244:=Tryd.func126.trans (congrArg some (by kernel_rfl))
 f245:=Tryd.func127.trans (congrArg some (by kernel_rfl))
 f246:=Tryd.func121.trans (congrArg some (by kernel_rfl))
 f247:=Tryd.func137.trans (congrArg some (by kernel_rfl))
 f279:=Tryd.func138.trans (congrArg some (by kernel_rfl))
 f280:=Tryd.func139.trans (congrArg some (by kernel_rfl))
 f281:=Tryd.func140.trans (congrArg some (by kernel_rfl))
 f282:=Tryd.func141.trans (congrArg some (by kernel_rfl))
 f283:=Tryd.func131.trans (congrArg some (by kernel_rfl))
 f284:=Tryd.func132.trans (congrArg some (by kernel_rfl))
 f285:=Tryd.func133.trans (congrArg some (by kernel_rfl))
 f286:=Tryd.func134.trans (congrArg some (by kernel_rfl))
 f287:=Tryd.func148.trans (congrArg some (by kernel_rfl))
 f316:=Tryd.func149.trans (congrArg some (by kernel_rfl))
 f317:=Tryd.func143.trans (congrArg some (by kernel_rfl))
 f318:=Tryd.func145.trans (congrArg some (by kernel_rfl))
 f319:=Tryd.func146.trans (congrArg some (by kernel_rfl))
 f320:=Tryd.func147.trans (congrArg some (by kernel_rfl))
 f321:=Tryd.func153.trans (congrArg some (by kernel_rfl))
 f322:=Tryd.func154.trans (congrArg some (by kernel_rfl))
 f337:=Tryd.func151.trans (congrArg some (by kernel_rfl))
 f338:=Tryd.func152.trans (congrArg some (by kernel_rfl))
 t0:=Tryd.underlying0
 a0:=Tryd.isAgg0
 z0:=Tryd.sizeOf0
 v0:=Tryd.zeroValue0
 t2:=Tryd.underlying2
 a2:=Tryd.isAgg2
 z2:=Tryd.sizeOf2
 v2:=Tryd.zeroValue2
 t3:=Tryd.underlying3
 a3:=Tryd.isAgg3
 z3:=Tryd.sizeOf3
 v3:=Tryd.zeroValue3
 t4:=Tryd.underlying4
 a4:=Tryd.isAgg4
 z4:=Tryd.sizeOf4
 v4:=Tryd.zeroValue4
 t5:=Tryd.underlying5
 a5:=Tryd.isAgg5
 z5:=Tryd.sizeOf5
 v5:=Tryd.zeroValue5
 t9:=Tryd.underlying9
 a9:=Tryd.isAgg9
 z9:=Tryd.sizeOf9
 v9:=Tryd.zeroValue9
 t20:=Tryd.underlying20
 a20:=Tryd.isAgg20
 z20:=Tryd.sizeOf20
 v20:=Tryd.zeroValue20
 t21:=Tryd.underlying21
 a21:=Tryd.isAgg21
 z21:=Tryd.sizeOf21
 v21:=Tryd.zeroValue21
 t37:=Tryd.underlying26
 a37:=Tryd.isAgg26
 z37:=Tryd.sizeOf26
 v37:=Tryd.zeroValue26
 t46:=Tryd.underlying107
 a46:=Tryd.isAgg107
 z46:=Tryd.sizeOf107
 v46:=Tryd.zeroValue107
 t51:=Tryd.underlying72
 a51:=Tryd.isAgg72
 z51:=Tryd.sizeOf72
 v51:=Tryd.zeroValue72
 t53:=Tryd.underlying122
 a53:=Tryd.isAgg122
 z53:=Tryd.sizeOf122
 v53:=Tryd.zeroValue122
 t75:=Tryd.underlying112
 a75:=Tryd.isAgg112
 z75:=Tryd.sizeOf112
 v75:=Tryd.zeroValue112
 t76:=Tryd.underlying113
 a76:=Tryd.isAgg113
 z76:=Tryd.sizeOf113
 v76:=Tryd.zeroValue113
 t85:=Tryd.underlying130
 a85:=Tryd.isAgg130
 z85:=Tryd.sizeOf130
 v85:=Tryd.zeroValue130
 t127:=Tryd.underlying150
 a127:=Tryd.isAgg150
 z127:=Tryd.sizeOf150
 v127:=Tryd.zeroValue150
 t143:=Tryd.underlying151
 a143:=Tryd.isAgg151
 z143:=Tryd.sizeOf151
 v143:=Tryd.zeroValue151
 t145:=Tryd.underlying153
 a145:=Tryd.isAgg153
 z145:=Tryd.sizeOf153
 v145:=Tryd.zeroValue153
 t167:=Tryd.underlying129
 a167:=Tryd.isAgg129
 z167:=Tryd.sizeOf129
 v167:=Tryd.zeroValue129
 t168:=Tryd.underlying132
 a168:=Tryd.isAgg132
 z168:=Tryd.sizeOf132
 v168:=Tryd.zeroValue132
 t171:=Tryd.underlying121
 a171:=Tryd.isAgg121
 z171:=Tryd.sizeOf121
 v171:=Tryd.zeroValue121
 t173:=Tryd.underlying125
 a173:=Tryd.isAgg125
 z173:=Tryd.sizeOf125
 v173:=Tryd.zeroValue125
 t175:=Tryd.underlying139
 a175:=Tryd.isAgg139
 z175:=Tryd.sizeOf139
 v175:=Tryd.zeroValue139
 t210:=Tryd.underlying142
 a210:=Tryd.isAgg142
 z210:=Tryd.sizeOf142
 v210:=Tryd.zeroValue142
 t212:=Tryd.underlying136
 a212:=Tryd.isAgg136
 z212:=Tryd.sizeOf136
 v212:=Tryd.zeroValue136
 t213:=Tryd.underlying137
 a213:=Tryd.isAgg137
 z213:=Tryd.sizeOf137
 t232:=Tryd.underlying154
 a232:=Tryd.isAgg154
 z232:=Tryd.sizeOf154
 v232:=Tryd.zeroValue154
 t233:=Tryd.underlying155
 a233:=Tryd.isAgg155
 z233:=Tryd.sizeOf155
 v233:=Tryd.zeroValue155
 g15:=by kernel_rfl
 g16:=by kernel_rfl
 g17:=by kernel_rfl
 g18:=by kernel_rfl
 g19:=by kernel_rfl
 t80:=Tryd.underlying93
 a80:=Tryd.isAgg93
 z80:=Tryd.sizeOf93
 v80:=Tryd.zeroValue93
 i0:=by kernel_rfl
 i2:=by kernel_rfl
 i3:=by kernel_rfl
 i4:=by kernel_rfl
 i5:=by kernel_rfl
 i9:=by kernel_rfl
 i20:=by kernel_rfl
 i21:=by kernel_rfl
 i37:=by kernel_rfl
 i46:=by kernel_rfl
 i51:=by kernel_rfl
 i53:=by kernel_rfl
 i75:=by kernel_rfl
 i76:=by kernel_rfl
 i80:=by kernel_rfl
 i85:=by kernel_rfl
 i127:=by kernel_rfl
 i143:=by kernel_rfl
 i145:=by kernel_rfl
 i167:=by kernel_rfl
 i168:=by kernel_rfl
 i171:=by kernel_rfl
 i173:=by kernel_rfl
 i175:=by kernel_rfl
 i210:=by kernel_rfl
 i212:=by kernel_rfl
 i232:=by kernel_rfl
 i233:=by kernel_rfl
 m15:=by kernel_rfl
 m16:=by kernel_rfl
 m17:=by kernel_rfl
 m18:=by kernel_rfl
 m19:=by kernel_rfl
 c0:=by kernel_rfl
 c2:=by kernel_rfl
 c3:=by kernel_rfl
 c4:=by kernel_rfl
 c5:=by kernel_rfl
 c9:=by kernel_rfl
 c20:=by kernel_rfl
 c21:=by kernel_rfl
 c37:=by kernel_rfl
 c46:=by kernel_rfl
 c51:=by kernel_rfl
 c53:=by kernel_rfl
 c75:=by kernel_rfl
 c76:=by kernel_rfl
 c80:=by kernel_rfl
 c85:=by kernel_rfl
 c127:=by kernel_rfl
 c143:=by kernel_rfl
 c145:=by kernel_rfl
 c167:=by kernel_rfl
 c168:=by kernel_rfl
 c171:=by kernel_rfl
 c173:=by kernel_rfl
 c175:=by kernel_rfl
 c210:=by kernel_rfl
 c212:=by kernel_rfl
 c213:=by kernel_rfl
 c232:=by kernel_rfl
 c233:=by kernel_rfl}
def Tryd.wj:Go.Shelf.Ren:=⟨fun|145=>61|220=>94|219=>113|217=>122|225=>123|224=>124|267=>125|266=>135|314=>136|n=>n,fun|9=>9|4=>4|59=>80|3=>3|5=>5|46=>107|146=>127|51=>72|n=>n,fun|1=>0|n=>n⟩
theorem Tryd.IP:Go.Proofs.Lays.n145 Tryd.prog Tryd.wj:= {
 mixed:=by kernel_rfl
 f145:=Tryd.func61.trans (congrArg some (by kernel_rfl))
 f217:=Tryd.func122.trans (congrArg some (by kernel_rfl))
 f219:=Tryd.func113.trans (congrArg some (by kernel_rfl))
 f220:=Tryd.func94.trans (congrArg some (by kernel_rfl))
 f224:=Tryd.func124.trans (congrArg some (by kernel_rfl))
 f225:=Tryd.func123.trans (congrArg some (by kernel_rfl))
 f266:=Tryd.func135.trans (congrArg some (by kernel_rfl))
 f267:=Tryd.func125.trans (congrArg some (by kernel_rfl))
 f314:=Tryd.func136.trans (congrArg some (by kernel_rfl))
 t3:=Tryd.underlying3
 a3:=Tryd.isAgg3
 z3:=Tryd.sizeOf3
 v3:=Tryd.zeroValue3
 t4:=Tryd.underlying4
 a4:=Tryd.isAgg4
 z4:=Tryd.sizeOf4
 v4:=Tryd.zeroValue4
 t5:=Tryd.underlying5
 a5:=Tryd.isAgg5
 z5:=Tryd.sizeOf5
 v5:=Tryd.zeroValue5
 t9:=Tryd.underlying9
 a9:=Tryd.isAgg9
 z9:=Tryd.sizeOf9
 v9:=Tryd.zeroValue9
 t46:=Tryd.underlying107
 a46:=Tryd.isAgg107
 z46:=Tryd.sizeOf107
 v46:=Tryd.zeroValue107
 t51:=Tryd.underlying72
 a51:=Tryd.isAgg72
 z51:=Tryd.sizeOf72
 v51:=Tryd.zeroValue72
 t59:=Tryd.underlying80
 a59:=Tryd.isAgg80
 z59:=Tryd.sizeOf80
 v59:=Tryd.zeroValue80
 t146:=Tryd.underlying127
 a146:=Tryd.isAgg127
 z146:=Tryd.sizeOf127
 v146:=Tryd.zeroValue127
 g1:=by kernel_rfl}
def Tryd.tI:Go.Shelf.Ren:=⟨fun|145=>61|220=>94|219=>113|217=>122|225=>123|224=>124|267=>125|266=>135|314=>136|n=>n,fun|9=>9|4=>4|59=>80|3=>3|5=>5|46=>107|146=>127|51=>72|n=>n,fun|1=>0|n=>n⟩
theorem Tryd.Fu:Go.Proofs.LaysM.n145 Tryd.prog Tryd.tI:= {
 mixed:=by kernel_rfl
 f145:=Tryd.func61.trans (congrArg some (by kernel_rfl))
 f217:=Tryd.func122.trans (congrArg some (by kernel_rfl))
 f219:=Tryd.func113.trans (congrArg some (by kernel_rfl))
 f220:=Tryd.func94.trans (congrArg some (by kernel_rfl))
 f224:=Tryd.func124.trans (congrArg some (by kernel_rfl))
 f225:=Tryd.func123.trans (congrArg some (by kernel_rfl))
 f266:=Tryd.func135.trans (congrArg some (by kernel_rfl))
 f267:=Tryd.func125.trans (congrArg some (by kernel_rfl))
 f314:=Tryd.func136.trans (congrArg some (by kernel_rfl))
 t3:=Tryd.underlying3
 a3:=Tryd.isAgg3
 z3:=Tryd.sizeOf3
 v3:=Tryd.zeroValue3
 t4:=Tryd.underlying4
 a4:=Tryd.isAgg4
 z4:=Tryd.sizeOf4
 v4:=Tryd.zeroValue4
 t5:=Tryd.underlying5
 a5:=Tryd.isAgg5
 z5:=Tryd.sizeOf5
 v5:=Tryd.zeroValue5
 t9:=Tryd.underlying9
 a9:=Tryd.isAgg9
 z9:=Tryd.sizeOf9
 v9:=Tryd.zeroValue9
 t46:=Tryd.underlying107
 a46:=Tryd.isAgg107
 z46:=Tryd.sizeOf107
 v46:=Tryd.zeroValue107
 t51:=Tryd.underlying72
 a51:=Tryd.isAgg72
 z51:=Tryd.sizeOf72
 v51:=Tryd.zeroValue72
 t59:=Tryd.underlying80
 a59:=Tryd.isAgg80
 z59:=Tryd.sizeOf80
 v59:=Tryd.zeroValue80
 t146:=Tryd.underlying127
 a146:=Tryd.isAgg127
 z146:=Tryd.sizeOf127
 v146:=Tryd.zeroValue127
 g1:=by kernel_rfl
 i3:=by kernel_rfl
 i4:=by kernel_rfl
 i5:=by kernel_rfl
 i9:=by kernel_rfl
 i46:=by kernel_rfl
 i51:=by kernel_rfl
 i59:=by kernel_rfl
 i146:=by kernel_rfl
 m1:=by kernel_rfl
 s1_3:=fun w h=>Go.Proofs.cell_of_shapedOpen_int (zero:= #[.int .i64 0]) (t:=3) h (of_decide_eq_true (by kernel_rfl)) (by kernel_rfl) rfl (by kernel_rfl) (by kernel_rfl) Tryd.underlying3}
def Tryd.wm:Go.Shelf.Ren:=⟨fun|146=>79|221=>110|268=>118|138=>119|143=>120|195=>128|197=>129|218=>130|219=>113|260=>142|217=>122|225=>123|224=>124|267=>125|266=>135|314=>136|n=>n,fun|9=>9|31=>62|3=>3|4=>4|0=>0|105=>119|21=>21|5=>5|46=>107|119=>144|139=>147|138=>146|146=>127|51=>72|n=>n,fun|1=>0|3=>4|4=>5|n=>n⟩
theorem Tryd.IQ:Go.Proofs.Lays.n146 Tryd.prog Tryd.wm:= {
 mixed:=by kernel_rfl
 f138:=Tryd.func119.trans (congrArg some (by kernel_rfl))
 f143:=Tryd.func120.trans (congrArg some (by kernel_rfl))
 f146:=Tryd.func79.trans (congrArg some (by kernel_rfl))
 f195:=Tryd.func128.trans (congrArg some (by kernel_rfl))
 f197:=Tryd.func129.trans (congrArg some (by kernel_rfl))
 f217:=Tryd.func122.trans (congrArg some (by kernel_rfl))
 f218:=Tryd.func130.trans (congrArg some (by kernel_rfl))
 f219:=Tryd.func113.trans (congrArg some (by kernel_rfl))
 f221:=Tryd.func110.trans (congrArg some (by kernel_rfl))
 f224:=Tryd.func124.trans (congrArg some (by kernel_rfl))
 f225:=Tryd.func123.trans (congrArg some (by kernel_rfl))
 f260:=Tryd.func142.trans (congrArg some (by kernel_rfl))
 f266:=Tryd.func135.trans (congrArg some (by kernel_rfl))
 f267:=Tryd.func125.trans (congrArg some (by kernel_rfl))
 f268:=Tryd.func118.trans (congrArg some (by kernel_rfl))
 f314:=Tryd.func136.trans (congrArg some (by kernel_rfl))
 t0:=Tryd.underlying0
 a0:=Tryd.isAgg0
 z0:=Tryd.sizeOf0
 v0:=Tryd.zeroValue0
 t3:=Tryd.underlying3
 a3:=Tryd.isAgg3
 z3:=Tryd.sizeOf3
 v3:=Tryd.zeroValue3
 t4:=Tryd.underlying4
 a4:=Tryd.isAgg4
 z4:=Tryd.sizeOf4
 v4:=Tryd.zeroValue4
 t5:=Tryd.underlying5
 a5:=Tryd.isAgg5
 z5:=Tryd.sizeOf5
 v5:=Tryd.zeroValue5
 t9:=Tryd.underlying9
 a9:=Tryd.isAgg9
 z9:=Tryd.sizeOf9
 v9:=Tryd.zeroValue9
 t21:=Tryd.underlying21
 a21:=Tryd.isAgg21
 z21:=Tryd.sizeOf21
 v21:=Tryd.zeroValue21
 t31:=Tryd.underlying62
 a31:=Tryd.isAgg62
 z31:=Tryd.sizeOf62
 v31:=Tryd.zeroValue62
 t46:=Tryd.underlying107
 a46:=Tryd.isAgg107
 z46:=Tryd.sizeOf107
 v46:=Tryd.zeroValue107
 t51:=Tryd.underlying72
 a51:=Tryd.isAgg72
 z51:=Tryd.sizeOf72
 v51:=Tryd.zeroValue72
 t105:=Tryd.underlying119
 a105:=Tryd.isAgg119
 z105:=Tryd.sizeOf119
 v105:=Tryd.zeroValue119
 t119:=Tryd.underlying144
 a119:=Tryd.isAgg144
 z119:=Tryd.sizeOf144
 t138:=Tryd.underlying146
 a138:=Tryd.isAgg146
 z138:=Tryd.sizeOf146
 v138:=Tryd.zeroValue146
 t139:=Tryd.underlying147
 a139:=Tryd.isAgg147
 z139:=Tryd.sizeOf147
 v139:=Tryd.zeroValue147
 t146:=Tryd.underlying127
 a146:=Tryd.isAgg127
 z146:=Tryd.sizeOf127
 v146:=Tryd.zeroValue127
 g1:=by kernel_rfl
 g3:=by kernel_rfl
 g4:=by kernel_rfl}
open Go.RowKit in
theorem Tryd.strings_IndexByte (s:ByteArray) (c:Int) (w:World):
 Calls Tryd.prog 114 #[.string s, .int .u8 c] w fun e w'=>e= .returned (.int .i64 (Lib.indexByte s.data.toList c.toNat.toUInt8))∧w'=w:=Any.strings_IndexByte Tryd.IN s c w
open Go.RowKit Go.Sort Go.Lib in
theorem Tryd.strconv_Itoa (n:Int) (h0: -9223372036854775808≤n) (h1:n≤9223372036854775807) (w:World) (htab:Lib.TabIs Tryd.prog w "internal/strconv.uint64pow10" .u64 Lib.pow10Tab):
 Calls Tryd.prog 91 #[.int .i64 n] w fun e w'=>e= .returned (.string ⟨(Lib.itoa n).toArray⟩)∧∃k os,w'=grow (w.drewN k) os:=Any.strconv_Itoa Tryd.Ft n h0 h1 w htab
open Go.RowKit in
theorem Tryd.strconv_Atoi_ok (s:ByteArray) (hmax:s.size≤9223372036854775806) (v:Int) (h:Lib.atoiAll s.data.toList= .ok v) (w:World):
 Calls Tryd.prog 116 #[.string s] w fun e w'=>e= .returned (.tuple #[.int .i64 v, .nilIface])∧(w'=w∨∃t,w'=Lib.bytesWorld w 5 t):=Any.strconv_Atoi_ok Tryd.pV s hmax v h w
open Go.RowKit in
theorem Tryd.strconv_Atoi_syntax (s:ByteArray) (hlim:s.size≤281474976710656) (h:Lib.atoiAll s.data.toList=Go.Lib.NumEnd.syntax) (ev:Value) (w:World) (hv:w.cell? ⟨2,0,none⟩=some ev) (hev:ev= .nilIface∨∃te pe,ev= .iface te pe):
 Calls Tryd.prog 116 #[.string s] w fun e w'=>∃N,e= .returned (.tuple #[.int .i64 (0), .iface 132 (.pointer (some ⟨N,0,none⟩))])∧w.heap.size≤N∧w'.heap[N]? =some (.cells #[.string ⟨#[65,116,111,105]⟩, .string s,ev] 142 (0,0))∧Below w.heap.size w w':=Any.strconv_Atoi_syntax Tryd.pV s hlim h ev w hv hev
open Go.RowKit in
theorem Tryd.strconv_Atoi_range (s:ByteArray) (hlim:s.size≤281474976710656) (h:Lib.atoiAll s.data.toList= .range) (ev:Value) (w:World) (hv:w.cell? ⟨3,0,none⟩=some ev) (hev:ev= .nilIface∨∃te pe,ev= .iface te pe):
 Calls Tryd.prog 116 #[.string s] w fun e w'=>∃N,e= .returned (.tuple #[.int .i64 (Lib.atoiSat s.data.toList), .iface 132 (.pointer (some ⟨N,0,none⟩))])∧w.heap.size≤N∧w'.heap[N]? =some (.cells #[.string ⟨#[65,116,111,105]⟩, .string s,ev] 142 (0,0))∧Below w.heap.size w w':=Any.strconv_Atoi_range Tryd.pV s hlim h ev w hv hev
open Go.RowKit Go.Lib in
theorem Tryd.strings_Cut (s sep:ByteArray) (m:Int) (w:World) (hs:s.size<4294967281) (hm:w.cell? ⟨0,0,none⟩=some (.int .i64 m)):
 Calls Tryd.prog 61 #[.string s, .string sep] w fun e w'=>e= .returned (.tuple #[.string ⟨(Lib.cut s.data.toList sep.data.toList).1.toArray⟩, .string ⟨(Lib.cut s.data.toList sep.data.toList).2.1.toArray⟩, .bool (Lib.cut s.data.toList sep.data.toList).2.2])∧∃n,w'=w.drewN n:=Any.strings_Cut Tryd.IP s sep m w hs hm
open Go.RowKit Go.Lib in
theorem Tryd.strings_Cut_shaped (s sep:ByteArray) (w:World) (h:w.ShapedOpen Tryd.prog) (hs:s.size<4294967281):
 Calls Tryd.prog 61 #[.string s, .string sep] w fun e w'=>e= .returned (.tuple #[.string ⟨(Lib.cut s.data.toList sep.data.toList).1.toArray⟩, .string ⟨(Lib.cut s.data.toList sep.data.toList).2.1.toArray⟩, .bool (Lib.cut s.data.toList sep.data.toList).2.2])∧∃n,w'=w.drewN n:=Any.strings_Cut_shaped Tryd.Fu s sep w h hs
open Go.RowKit Go.Lib in
theorem Tryd.strings_Split (s sep:ByteArray) (m:Int) (w:World) (hs:s.size<4294967281) (hm:w.cell? ⟨0,0,none⟩=some (.int .i64 m)) (h1:1≤sep.size):
 Calls Tryd.prog 79 #[.string s, .string sep] w fun e w'=>
  e= .returned (.slice (some ⟨w.heap.size,0,none⟩) (Lib.countB s sep+1) (Lib.countB s sep+1))∧w'=w.alloc (.cells ((Lib.splitB sep 0 (Lib.countB s sep) s).map Value.string).toArray 9):=Any.strings_Split Tryd.IQ (by kernel_rfl) s sep m w hs hm h1
end Go.Proofs
end
section
namespace Go.Proofs.cR
open Go Go.Am Go.Proofs
instance uE:Tabs:=⟨[(0,fun cs=>∃m,cs= #[.int .i64 m]),(1,fun cs=>cs=(Lib.pow10Tab.map fun z=>Value.int .u64 z).toArray)]⟩
theorem OI {F:Nat→Prop} {w:World} (hF:FL F w) {g:Nat} {p:Array Value→Prop} (hm:(g,p)∈Tabs.l) {v:Value} (hp:∀cs,p cs→cs[0]? =some v∨True):∃cs ty fr,w.heap[g]? =some (.cells cs ty fr)∧p cs:=(hF.zI _ hm).2
theorem cell_of {w:World} {g:Nat} {v:Value} {ty:TypeId} {fr:Nat×Nat} (h:w.heap[g]? =some (.cells #[v] ty fr)):w.cell? ⟨g,0,none⟩=some v:=by
 simp [World.cell?,h]
theorem Fv {F:Nat→Prop} {w:World} (hF:FL F w):∃m,w.cell? ⟨0,0,none⟩=some (.int .i64 m):=by
 obtain ⟨-,cs,ty,fr,h,m,rfl⟩:=hF.zI (0,fun cs=>∃m,cs= #[.int .i64 m]) (by simp [Tabs.l,uE])
 exact ⟨m,cell_of h⟩
theorem args1 {γ:List Nat} {C:Nat→List Value} {vs:Array Value} {a:AV} {v:Value} (hl:vs.size=[a].length) (h:vs.getD 0 undef=v):vs= #[v]:=by
 apply Array.ext
 · simpa using hl
 · intro i h1 h2
   simp at h2;subst h2
   simpa [Array.getD_eq_getD_getElem?,Array.getElem?_eq_getElem h1] using h
theorem args2 {vs:Array Value} {a b:AV} {v u:Value} (hl:vs.size=[a,b].length) (h:vs.getD 0 undef=v) (h':vs.getD 1 undef=u):vs= #[v,u]:=by
 apply Array.ext
 · simpa using hl
 · intro i h1 h2
   have:i=0∨i=1:=by simp at h2;omega
   rcases this with rfl|rfl
   · simpa [Array.getD_eq_getD_getElem?,Array.getElem?_eq_getElem h1] using h
   · simpa [Array.getD_eq_getD_getElem?,Array.getElem?_eq_getElem h1] using h'
def strconv_Itoa (n:Int):Option (List UInt8):=if -9223372036854775808≤n∧n≤9223372036854775807 then some (Lib.itoa n) else none
theorem j8 {i1:Int} {H0:AH} {r0:List UInt8} (h:strconv_Itoa i1=some r0):aC Tryd.prog 91 [(.int .i64 i1)] H0 fun v H'=>v=(.str r0)∧H'=H0:=by
 unfold strconv_Itoa at h
 obtain ⟨⟨h0,h1⟩,h⟩:=GV h
 injection h with h
 subst h
 exact yZ i1 (by kernel_rfl) (fun F w hF=>Fp hF (g:=1) (by simp [Tabs.l,uE]) (by kernel_rfl)) (fun w ht=>Tryd.strconv_Itoa i1 h0 h1 w ht)
end Go.Proofs.cR
end
section
namespace Go.Proofs
open Go.Shelf
def Tryd.jn:Go.Shelf.Ren:=⟨fun|4=>95|n=>n,fun|22=>26|25=>5|3=>3|4=>4|9=>9|20=>20|0=>0|n=>n,fun|n=>n⟩
theorem Tryd.CK:Go.Proofs.Lays8.n4 Tryd.prog Tryd.jn:= {
 mixed:=by kernel_rfl
 f4:=⟨Tryd.f95.name,by decide,Tryd.func95.trans (congrArg some (by kernel_rfl))⟩
 t0:=Tryd.underlying0
 a0:=Tryd.isAgg0
 z0:=Tryd.sizeOf0
 v0:=Tryd.zeroValue0
 t3:=Tryd.underlying3
 a3:=Tryd.isAgg3
 z3:=Tryd.sizeOf3
 v3:=Tryd.zeroValue3
 t4:=Tryd.underlying4
 a4:=Tryd.isAgg4
 z4:=Tryd.sizeOf4
 v4:=Tryd.zeroValue4
 t9:=Tryd.underlying9
 a9:=Tryd.isAgg9
 z9:=Tryd.sizeOf9
 v9:=Tryd.zeroValue9
 t20:=Tryd.underlying20
 a20:=Tryd.isAgg20
 z20:=Tryd.sizeOf20
 v20:=Tryd.zeroValue20
 t22:=Tryd.underlying26
 a22:=Tryd.isAgg26
 z22:=Tryd.sizeOf26
 v22:=Tryd.zeroValue26}
end Go.Proofs
end
section
namespace Go.Proofs.cR
open Go Go.Am Go.Proofs
def L2:Option TypeInfo→Bool
 |some i=>i.bytes==1&&i.size==1&&(match i.zero with|some z=>z.cells.size==1|none=>false)
 |none=>false
theorem Fw {o:Option TypeInfo} (h:L2 o=true):∃i0:TypeInfo,o=some i0∧i0.bytes=1∧i0.size=1∧∃z,i0.zero=some z∧z.cells.size=1:=by
 cases o with
 |none=>cases h
 |some i=>
  simp only [L2,Bool.and_eq_true,beq_iff_eq] at h
  obtain ⟨⟨h1,h2⟩,h3⟩:=h
  cases hz:i.zero with
  |none=>rw [hz] at h3;cases h3
  |some z=>rw [hz] at h3;exact ⟨i,rfl,h1,h2,z,hz,by simpa using h3⟩
def eM (n:Int):Option (List UInt8):=if n<0 then none else if n.toNat≤140737488355328 then some [] else none
theorem qG {i1:Int} {H0:AH} {r0:List UInt8} (h:eM i1=some r0):aC Tryd.prog 95 [(.sl .ex 1 []),(.int .i64 i1)] H0 fun v H'=>v=(.sl .own 1 (ml b8 r0))∧H'=H0:=by
 unfold eM at h
 have h0:0≤i1:=by
  rcases Int.lt_or_le i1 0 with h0|h0
  · rw [if_pos h0] at h;cases h
  · exact h0
 rw [if_neg (by omega)] at h
 obtain ⟨h1,h⟩:=GV h
 injection h with h
 subst h
 obtain ⟨i0,hi0,hb,hs0,z,hz0,hzs⟩:∃i0:TypeInfo,Tryd.prog.info? (Tryd.jn.t 25)=some i0∧i0.bytes=1∧i0.size=1∧∃z,i0.zero=some z∧z.cells.size=1:=Fw (by kernel_rfl)
 have hn:i1=(i1.toNat:Int):=by omega
 refine y8 (z:=z) (el:=Tryd.jn.t 25) (by kernel_rfl) hzs h0 (fun base w h=> ?_) (fun base w h=> ?_)
 · subst h
   exact Any8.slices_Grow_room Tryd.CK base 0 0 0 w (by omega) (by omega) (by omega) (by omega)
 · have:=Any8.slices_Grow_grow Tryd.CK i0 z hi0 hz0 (by omega) base 0 0 i1.toNat [] w (by omega) (by omega) (by rw [hb];omega) (by omega) (by rw [hs0];rfl) (fun _=>rfl) (fun a _ j v hj=>by simp at hj)
   rw [←hn] at this
   change Calls Tryd.prog (Tryd.jn.f 4) _ _ _
   simpa using this
def strings_Cut (s sep:List UInt8):Option (List UInt8×List UInt8×Bool):=if s.length<4294967281 then some (Lib.cut s sep) else none
theorem lz {s1 s2:List UInt8} {H0:AH} {r0 r1:List UInt8} {r2:Bool} (h:strings_Cut s1 s2=some (r0,r1,r2)):aC Tryd.prog 61 [(.str s1),(.str s2)] H0 fun v H'=>v=(.aK [(.str r0),(.str r1),(.bool r2)])∧H'=H0:=by
 unfold strings_Cut at h
 obtain ⟨hs,h⟩:=GV h
 injection h with h
 refine aC.Qx rfl (by simp) (by kernel_rfl) fun F C γ w vs hF hl hv=> ?_
 obtain rfl:=args2 hl (hv 0 _ rfl).cQ (hv 1 _ rfl).cQ
 obtain ⟨m,hm⟩:=Fv hF
 have hsz:(⟨s1.toArray⟩:ByteArray).size=s1.length:=by simp [ByteArray.size]
 refine (Tryd.strings_Cut ⟨s1.toArray⟩ ⟨s2.toArray⟩ m w (by omega) hm).mono ?_
 rintro e w' ⟨rfl,n,rfl⟩
 have hd1:(⟨s1.toArray⟩:ByteArray).data.toList=s1:=by simp
 have ny:(⟨s2.toArray⟩:ByteArray).data.toList=s2:=by simp
 rw [hd1,ny,h]
 refine ⟨_,rfl, ?_, ?_,fun _ _=>rfl,Nat.le_refl _,rfl,rfl,rfl⟩
 · refine .aK _ _ _ rfl fun i a hi=> ?_
   match i,hi with
   |0,hi=>injection hi with hi;subst hi;exact .str ..
   |1,hi=>injection hi with hi;subst hi;exact .str ..
   |2,hi=>injection hi with hi;subst hi;exact .bool ..
 · intro i a hi
   match i,hi with
   |0,hi=>injection hi with hi;subst hi;trivial
   |1,hi=>injection hi with hi;subst hi;trivial
   |2,hi=>injection hi with hi;subst hi;trivial
end Go.Proofs.cR
end
section
set_option maxRecDepth 100000
namespace Go.Proofs.cR
open Go Go.Am Go.Proofs
open Nat renaming reduceEqDiff→nA,reduceLT→nB,reduceLeDiff→nC,reduceAdd→nD,reduceSub→nE,reduceMul→nF,reduceBEq→nG
set_option maxHeartbeats 2000000
structure aj where
 name:List UInt8
 value:List UInt8
 deriving DecidableEq
abbrev gK (x:List UInt8):AV:= .sl .n 1 (ml b8 x)
abbrev ak (x:aj):AV:= .agg [(.str x.name),(.str x.value)]
abbrev su:az:=(.seq (.rg [(ai 4 (.bg (.c (.bool false))))]) (.seq (.rg [(ax 5 0),(ai 6 (.eZ .bs (.t 5))),(ax 7 1),(ai 8 (.eZ .bs (.t 7))),(ai 9 (.bin .eql (.t 6) (.t 8))),(aM 4 9)]) .ret))
theorem sw:bT Tryd.prog 112 10 [(.tmp 4)] (erase su):=⟨Tryd.f112,_,rfl,by decide,rfl,by kernel_rfl,rfl,rfl⟩
abbrev sx:List Nat:=[0,1,4]
def ij (a1:List UInt8) (b2:List UInt8):Option (Bool):=
 some (decide (a1=b2))
theorem qH {a1:List UInt8} {b2:List UInt8} {H0:AH} {bf:Bool} (h:ij a1 b2=some bf):
 aC Tryd.prog 112 [(.sl .n 1 (ml b8 a1)),(.sl .n 1 (ml b8 b2))] H0 fun v H'=>v=(.bool bf)∧H'=H0:=by
 refine gS sw sx fun hcl K0 br=> ?_
 rw [ij.eq_1] at h
 refine aD ?_
 obtain rfl:=aF h
 exact br _ _ _ cC (aJ hcl (bS cA (.bool (decide (a1=b2)))) cB bU ⟨rfl,rfl⟩)
abbrev gh:az:=(.rg [(ax 5 0),(ai 6 (.len (.t 5))),(ax 7 1),(ai 8 (.len (.t 7))),(ai 9 (.bin .geq (.t 6) (.t 8))),(ax 10 9),(aE 11 (.mv (.t 0)) 10 true),(aE 12 (.mv (.t 0)) 10 true),(aE 13 (.len (.t 12)) 10 true),(aE 14 (.mv (.t 1)) 10 true),(aE 15 (.len (.t 14)) 10 true),(aE 16 (.bin .sub (.t 13) (.t 15)) 10 true),(aE 17 (.slc 1 (.t 11) (some (.t 16)) none none) 10 true),(aE 18 (.mv (.t 1)) 10 true),(aE 19 (.call (.c (.fn 112 [])) [(.t 17),(.t 18)]) 10 true),(ai 20 (.pick (.t 10) (.t 19) (.c (.bool false)))),(aM 4 20)])
abbrev nJ:az:=(.seq (.rg [(ai 4 (.bg (.c (.bool false))))]) (.seq (.sem (erase gh)) .ret))
theorem nK:bT Tryd.prog 92 21 [(.tmp 4)] (erase nJ):=⟨Tryd.f92,_,rfl,by decide,rfl,by kernel_rfl,rfl,rfl⟩
abbrev iL:List Nat:=[0,1,4]
def dr (eC:List UInt8) (s1:List UInt8):Option (Bool):=
 (if (decide ((eC.length:Int)≤(s1.length:Int))) then
  (sub s1 (IntKind.wrap .i64 ((s1.length:Int) - (eC.length:Int))) (s1.length:Int)).bind fun x3=>(ij x3 eC).bind fun r4=>some r4
 else
  some false)
def dF (s1:List UInt8) (eC:List UInt8):Option (Bool):=
 (dr eC s1).bind fun t6=>
 some t6
theorem kT {eC:List UInt8} {s1:List UInt8} {H:AH} {K:Exit→Env→AH→Prop} {t5:Bool}
 (h:dr eC s1=some t5)
 (kn:K .normal [(4,(.bool t5))] H):
 AX Tryd.prog iL 21 H.length (erase gh) K [(0,(.sl .n 1 (ml b8 s1))),(1,(.sl .n 1 (ml b8 eC))),(4,(.bool false))] H:=by
 refine e6 fun K' hK=> ?_
 rw [dr.eq_1] at h
 refine aD ?_
 refine eu h (fun hy1 h=> ?_) fun hy1 h=> ?_
 · obtain ⟨x3,bL,h⟩:=ay h
   have bM:=v7 (f:=b8) bL
   refine bn (aX hy1 bL) ?_
   obtain ⟨r4,bF,h⟩:=ay h
   refine bP aB (qH bF) ?_
   refine aD ?_
   obtain rfl:=aF h
   exact hK _ _ _ _ _ aP aB kn
 · refine bn hy1 ?_
   obtain rfl:=aF h
   exact hK _ _ _ _ _ aP aB kn
theorem mS {s1:List UInt8} {eC:List UInt8} {H0:AH} {bf:Bool} (h:dF s1 eC=some bf):
 aC Tryd.prog 92 [(.sl .n 1 (ml b8 s1)),(.sl .n 1 (ml b8 eC))] H0 fun v H'=>v=(.bool bf)∧H'=H0:=by
 refine gS nK iL fun hcl K0 br=> ?_
 rw [dF.eq_1] at h
 refine aD ?_
 obtain ⟨t6,bE,h⟩:=ay h
 refine cy aB (kT bE ?_)
 refine aD ?_
 obtain rfl:=aF h
 exact br _ _ _ cC (aJ hcl (bS cA (.bool t6)) cB bU ⟨rfl,rfl⟩)
theorem qI:bT Tryd.prog 93 8 [(.tmp 2)] (oH 1 1):=⟨Tryd.f93,_,rfl,by decide,rfl,by kernel_rfl,rfl,rfl⟩
def jP (s1:List UInt8):Option (List UInt8):=cx 1 [] s1
theorem pW {s1:List UInt8} {H0:AH} {bf:List UInt8} (h:jP s1=some bf):aC Tryd.prog 93 [(.sl .n 1 (ml b8 s1))] H0 fun v H'=>v=(.sl .own 1 (ml b8 bf))∧H'=H0:=wg qI (fO (f:=b8) h)
abbrev gL:az:=(.seq (.rg [(ai 12 (.bin .lss (.t 11) (.t 10)))]) (.seq (.cond (.t 12) .skip (.exit 0)) (.seq (.blk 1 (.seq (.rg [(ai 13 (.dV 1 (.t 9) (.t 11))),(ai 14 (.ld (.t 13) none)),(aM 5 14)]) (.seq (.rg [(ax 15 3),(ax 16 5),(ai 17 (.len (.t 16))),(ai 18 (.bin .add (.t 15) (.t 17))),(aM 3 18)]) (.seq (.rg [(ax 19 3),(ai 20 (.bin .lss (.t 19) (.c (.int .i64 0))))]) (.cond (.t 20) (.rg [(ai 21 .bad),(sr .bad)]) .skip))))) (.rg [(ai 22 (.bin .add (.t 11) (.c (.int .i64 1)))),(ax 11 22)]))))
abbrev gM:az:=(.seq (.rg [(ai 28 (.bin .lss (.t 27) (.t 26)))]) (.seq (.cond (.t 28) .skip (.exit 2)) (.seq (.blk 3 (.seq (.rg [(ai 29 (.dV 1 (.t 25) (.t 27))),(ai 30 (.ld (.t 29) none)),(aM 8 30)]) (.rg [(ax 31 6),(ax 32 8),(ai 33 (.app 1 1 (.t 31) (.t 32))),(aM 6 33)]))) (.rg [(ai 34 (.bin .add (.t 27) (.c (.int .i64 1)))),(ax 27 34)]))))
abbrev pX:az:=(.seq (.rg [(ai 2 (.bg (.c (.sl .ex 1 []))))]) (.seq (.rg [(ai 3 (.bg (.c (.int .i64 0))))]) (.seq (.seq (.rg [(ax 9 0),(ai 10 (.len (.t 9))),(ai 11 (.mv (.c (.int .i64 0))))]) (.blk 0 (.loop (erase gL)))) (.seq (.rg [(ax 23 3),(ai 24 (.call (.c (.fn 95 [])) [(.c (.sl .ex 1 [])),(.t 23)])),(aM 6 24)]) (.seq (.seq (.rg [(ax 25 0),(ai 26 (.len (.t 25))),(ai 27 (.mv (.c (.int .i64 0))))]) (.blk 2 (.loop (erase gM)))) (.seq (.rg [(ax 35 6),(ai 2 (.kJ 1 (.t 35)))]) .ret))))))
theorem pY:bT Tryd.prog 64 36 [(.tmp 2)] (erase pX):=⟨Tryd.f64,_,rfl,by decide,rfl,by kernel_rfl,rfl,rfl⟩
abbrev gx:List Nat:=[0,2,3,5,6,8,9,10,11,12,20,25,26,27,28]
def aS (bD:List (List UInt8)):(Int×Int)→Option (St (List UInt8) Int (Int×Int))
 |(kU,t3)=>
  (if (decide (t3<(bD.length:Int))) then
   (idx bD t3).bind fun x4=>
   (if (decide ((IntKind.wrap .i64 (kU+(x4.length:Int)))<0)) then
    none
   else
    some (.b7 ((IntKind.wrap .i64 (kU+(x4.length:Int))),(IntKind.wrap .i64 (t3+1)))))
  else
   some (.fj kU))
def aT (bD:List (List UInt8)):((List UInt8)×Int)→Option (St (List UInt8) (List UInt8) ((List UInt8)×Int))
 |(dP,t9)=>
  (if (decide (t9<(bD.length:Int))) then
   (idx bD t9).bind fun oI=>
   (cx 1 dP oI).bind fun iM=>some (.b7 (iM,(IntKind.wrap .i64 (t9+1))))
  else
   some (.fj dP))
def cz (F:Nat) (bD:List (List UInt8)):Option ((List UInt8)):=
 ((iter (aS bD) F (0,0)).bind fun QJ=>
 match QJ with
 | .inr BU=>
   (eM BU).bind fun r7=>
   ((iter (aT bD) F (r7,0)).bind fun zb=>
   match zb with
   | .inr mg=>
     some mg
   | .inl _=>none)
 | .inl _=>none)
theorem mh {F:Nat} {t3:Int} {bD:List (List UInt8)} {kU:Int} {H:AH} {K:Exit→Env→AH→Prop} {o:((List UInt8))⊕(Int)}
 (h:iter (aS bD) F (kU,t3)=some o)
 (eD:∀o':Int,o= .inr o'→K (.exit 0) [(0,(.sl .n 1 (ml gK bD))),(3,(.int .i64 o'))] H):
 AX Tryd.prog gx 36 H.length (.loop (erase gL)) K [(0,(.sl .n 1 (ml gK bD))),(3,(.int .i64 kU)),(9,(.sl .n 1 (ml gK bD))),(10,(.int .i64 (bD.length:Int))),(11,(.int .i64 t3))] H:=by
 refine jO (fun s e H1=>match s with|(kU,t3)=>e=[(0,(.sl .n 1 (ml gK bD))),(3,(.int .i64 kU)),(9,(.sl .n 1 (ml gK bD))),(10,(.int .i64 (bD.length:Int))),(11,(.int .i64 t3))]∧H1=H) h ⟨rfl,rfl⟩ ?_
 rintro K' ⟨kU,t3⟩ st e H ⟨rfl,rfl⟩ h hN hB hR hX
 rw [aS.eq_1] at h
 refine aD ?_
 refine cc h (fun hy1 h=> ?_) fun hy1 h=> ?_
 · obtain ⟨x4,bL,h⟩:=ay h
   refine bn bL ?_
   refine cc h (fun bM h=> ?_) fun bM h=> ?_
   · cases h
   · refine aD ?_
     obtain rfl:=aF h
     exact hN _ rfl _ _ _ _ aP aB ⟨rfl,rfl⟩
 · refine aD ?_
   obtain rfl:=aF h
   exact hX _ _ _ _ _ fm aP aB (eD _ (hB _ rfl))
theorem mj {F:Nat} {t9:Int} {bD:List (List UInt8)} {dP:List UInt8} {H:AH} {K:Exit→Env→AH→Prop} {o:((List UInt8))⊕((List UInt8))}
 (h:iter (aT bD) F (dP,t9)=some o)
 (IT:∀o':(List UInt8),o= .inr o'→K (.exit 2) [(6,(.sl .own 1 (ml b8 o')))] H):
 AX Tryd.prog gx 36 H.length (.loop (erase gM)) K [(6,(.sl .own 1 (ml b8 dP))),(25,(.sl .n 1 (ml gK bD))),(26,(.int .i64 (bD.length:Int))),(27,(.int .i64 t9))] H:=by
 refine jO (fun s e H1=>match s with|(dP,t9)=>e=[(6,(.sl .own 1 (ml b8 dP))),(25,(.sl .n 1 (ml gK bD))),(26,(.int .i64 (bD.length:Int))),(27,(.int .i64 t9))]∧H1=H) h ⟨rfl,rfl⟩ ?_
 rintro K' ⟨dP,t9⟩ st e H ⟨rfl,rfl⟩ h hN hB hR hX
 rw [aT.eq_1] at h
 refine aD ?_
 refine cc h (fun bR h=> ?_) fun bR h=> ?_
 · obtain ⟨oI,cj,h⟩:=ay h
   obtain ⟨iM,cE,h⟩:=ay h
   have fJ:cx 1 (ml b8 dP) (ml b8 oI)=some (ml b8 iM):=fO (f:=b8) cE
   refine bn (aX cj fJ) ?_
   obtain rfl:=aF h
   exact hN _ rfl _ _ _ _ aP aB ⟨rfl,rfl⟩
 · refine aD ?_
   obtain rfl:=aF h
   exact hX _ _ _ _ _ fm aP aB (IT _ (hB _ rfl))
theorem jo {F:Nat} {bD:List (List UInt8)} {H0:AH} {bf:List UInt8} (h:cz F bD=some bf):
 aC Tryd.prog 64 [(.sl .n 1 (ml gK bD))] H0 fun v H'=>v=(.sl .own 1 (ml b8 bf))∧H'=H0:=by
 refine gS pY gx fun hcl K0 br=> ?_
 rw [cz.eq_1] at h
 refine aD ?_
 obtain ⟨QJ,bF,h⟩:=ay h
 refine cy aB (mh bF ?_)
 · rintro BU rfl
   try dsimp only at h
   refine aD ?_
   obtain ⟨r7,bE,h⟩:=ay h
   refine bP aB (qG (i1:=BU) bE) ?_
   refine aD ?_
   obtain ⟨zb,dm,h⟩:=ay h
   refine cy aB (mj dm ?_)
   · rintro mg rfl
     try dsimp only at h
     refine aD ?_
     obtain rfl:=aF h
     exact br _ _ _ cC (aJ hcl (bS cA (.sl .own 1 (ml b8 mg))) cB bU ⟨rfl,rfl⟩)
abbrev lA:az:=(.rg [(ax 3 0),(ai 4 (.len (.t 3))),(ai 5 (.bin .eql (.t 4) (.c (.int .i64 0)))),(ax 6 5),(aE 7 (.mv (.t 0)) 6 false),(aE 8 (.mv (.c .un)) 6 false),(aE 9 (.lit 8 [13,10]) 6 false),(aE 10 (.call (.c (.fn 92 [])) [(.t 7),(.t 9)]) 6 false),(ai 11 (.pick (.t 6) (.c (.bool true)) (.t 10)))])
abbrev wo:az:=(.seq (.rg [(ai 2 (.bg (.c (.sl .ex 1 []))))]) (.seq (.seq (.sem (erase lA)) (.cond (.t 11) (.seq (.rg [(ax 12 0),(ai 13 (.call (.c (.fn 93 [])) [(.t 12)])),(aM 2 13)]) .ret) .skip)) (.seq (.rg [(ax 14 0),(ai 16 (.lit 15 [13,10])),(ai 17 (.mP 1 [(.t 14),(.t 16)])),(ai 18 (.call (.c (.fn 64 [])) [(.t 17)])),(aM 2 18)]) .ret)))
theorem wq:bT Tryd.prog 60 19 [(.tmp 2)] (erase wo):=⟨Tryd.f60,_,rfl,by decide,rfl,by kernel_rfl,rfl,rfl⟩
abbrev oJ:List Nat:=[0,2,11]
def e7 (b1:List UInt8):Option (Bool):=
 (if (decide ((b1.length:Int)=0)) then
  some true
 else
  (dF b1 ([13,10]:List UInt8)).bind fun r2=>some r2)
def iN (F:Nat) (b1:List UInt8):Option ((List UInt8)):=
 (e7 b1).bind fun t4=>
 (if t4 then
  (jP b1).bind fun r5=>some r5
 else
  (cz F ([b1,([13,10]:List UInt8)]:List (List UInt8))).bind fun r6=>some r6)
theorem pZ {b1:List UInt8} {H:AH} {K:Exit→Env→AH→Prop} {t3:Bool}
 (h:e7 b1=some t3)
 (kn:K .normal [(0,(.sl .n 1 (ml b8 b1))),(11,(.bool t3))] H):
 AX Tryd.prog oJ 19 H.length (erase lA) K [(0,(.sl .n 1 (ml b8 b1)))] H:=by
 refine e6 fun K' hK=> ?_
 rw [e7.eq_1] at h
 refine aD ?_
 refine eu h (fun hy1 h=> ?_) fun hy1 h=> ?_
 · refine bn hy1 ?_
   obtain rfl:=aF h
   exact hK _ _ _ _ _ aP aB kn
 · refine bn hy1 ?_
   obtain ⟨r2,bL,h⟩:=ay h
   refine bP aB (mS bL) ?_
   refine aD ?_
   obtain rfl:=aF h
   exact hK _ _ _ _ _ aP aB kn
theorem tJ {F:Nat} {b1:List UInt8} {H0:AH} {bf:List UInt8} (h:iN F b1=some bf):
 aC Tryd.prog 60 [(.sl .n 1 (ml b8 b1))] H0 fun v H'=>v=(.sl .own 1 (ml b8 bf))∧H'=H0:=by
 refine gS wq oJ fun hcl K0 br=> ?_
 rw [iN.eq_1] at h
 refine aD ?_
 obtain ⟨t4,bM,h⟩:=ay h
 refine cy aB (pZ bM ?_)
 refine aD ?_
 refine cc h (fun bF h=> ?_) fun bF h=> ?_
 · refine aD ?_
   obtain ⟨r5,bE,h⟩:=ay h
   refine bP aB (pW bE) ?_
   refine aD ?_
   obtain rfl:=aF h
   exact br _ _ _ cC (aJ hcl (bS cA (.sl .own 1 (ml b8 r5))) cB bU ⟨rfl,rfl⟩)
 · refine aD ?_
   obtain ⟨r6,bR,h⟩:=ay h
   refine bP aB (jo bR) ?_
   refine aD ?_
   obtain rfl:=aF h
   exact br _ _ _ cC (aJ hcl (bS cA (.sl .own 1 (ml b8 r6))) cB bU ⟨rfl,rfl⟩)
abbrev lB:az:=(.rg [(ax 9 0),(ax 10 3),(ai 11 (.ixs (.t 9) (.t 10))),(ai 12 (.bin .lss (.t 11) (.c (b8 33)))),(ax 13 12),(aE 14 (.mv (.t 0)) 13 false),(aE 15 (.mv (.t 3)) 13 false),(aE 16 (.ixs (.t 14) (.t 15)) 13 false),(aE 17 (.bin .gtr (.t 16) (.c (b8 126))) 13 false),(ai 18 (.pick (.t 13) (.c (.bool true)) (.t 17))),(ax 19 18),(aE 20 (.mv (.t 0)) 19 false),(aE 21 (.mv (.t 3)) 19 false),(aE 22 (.ixs (.t 20) (.t 21)) 19 false),(aE 23 (.bin .eql (.t 22) (.c (b8 58))) 19 false),(ai 24 (.pick (.t 19) (.c (.bool true)) (.t 23)))])
abbrev j9:az:=(.seq (.rg [(ai 7 (.bin .lss (.t 6) (.t 5)))]) (.seq (.cond (.t 7) .skip (.exit 0)) (.seq (.blk 1 (.seq (.rg [(ax 8 6),(aM 3 8)]) (.seq (.sem (erase lB)) (.cond (.t 24) (.seq (.rg [(ai 2 (.bg (.c (.bool false))))]) .ret) .skip)))) (.rg [(ai 25 (.bin .add (.t 6) (.c (.int .i64 1)))),(ax 6 25)]))))
abbrev lC:az:=(.rg [(ax 26 0),(ai 27 (.bin .neq (.t 26) (.c (.str [])))),(ax 28 27),(aE 29 (.mv (.t 0)) 28 true),(aE 30 (.lens (.t 29)) 28 true),(aE 31 (.bin .leq (.t 30) (.c (.int .i64 76))) 28 true),(ai 32 (.pick (.t 28) (.t 31) (.c (.bool false)))),(aM 2 32)])
abbrev wu:az:=(.seq (.rg [(ai 2 (.bg (.c (.bool false))))]) (.seq (.seq (.rg [(ax 4 0),(ai 5 (.lens (.t 4))),(ai 6 (.mv (.c (.int .i64 0))))]) (.blk 0 (.loop (erase j9)))) (.seq (.sem (erase lC)) .ret)))
theorem wv:bT Tryd.prog 25 33 [(.tmp 2)] (erase wu):=⟨Tryd.f25,_,rfl,by decide,rfl,by kernel_rfl,rfl,rfl⟩
abbrev iu:List Nat:=[0,2,3,5,6,7,24]
def e8 (s1:List UInt8) (t2:Int):Option (Bool):=
 (idx s1 t2).bind fun x3=>
 (if (decide (x3<33)) then
  some true
 else
  (if (decide (126<x3)) then
   some true
  else
   some (decide (x3=58))))
def dc (s1:List UInt8):Int→Option (St Bool Unit Int)
 |t2=>
  (if (decide (t2<(s1.length:Int))) then
   (e8 s1 t2).bind fun t5=>
   (if t5 then
    some (.ret false)
   else
    some (.b7 (IntKind.wrap .i64 (t2+1))))
  else
   some (.fj ()))
def dQ (F:Nat) (s1:List UInt8):Option (Bool):=
 ((iter (dc s1) F 0).bind fun o8=>
 match o8 with
 | .inr ()=>
   some ((!decide (s1=([]:List UInt8)))&&(decide ((s1.length:Int)≤76)))
 | .inl r7=>
   some r7)
theorem p4 {s1:List UInt8} {t2:Int} {H:AH} {K:Exit→Env→AH→Prop} {t4:Bool}
 (h:e8 s1 t2=some t4)
 (kn:K .normal [(0,(.str s1)),(5,(.int .i64 (s1.length:Int))),(6,(.int .i64 t2)),(24,(.bool t4))] H):
 AX Tryd.prog iu 33 H.length (erase lB) K [(0,(.str s1)),(3,(.int .i64 t2)),(5,(.int .i64 (s1.length:Int))),(6,(.int .i64 t2))] H:=by
 refine e6 fun K' hK=> ?_
 rw [e8.eq_1] at h
 obtain ⟨x3,bL,h⟩:=ay h
 refine bn bL ?_
 refine eu h (fun bM h=> ?_) fun bM h=> ?_
 · refine bn bM ?_
   obtain rfl:=aF h
   exact hK _ _ _ _ _ aP aB kn
 · refine bn (aX bM bL) ?_
   refine eu h (fun bF h=> ?_) fun bF h=> ?_
   · refine bn bF ?_
     obtain rfl:=aF h
     exact hK _ _ _ _ _ aP aB kn
   · refine bn (aX bF bL) ?_
     obtain rfl:=aF h
     exact hK _ _ _ _ _ aP aB kn
theorem p5 {F:Nat} {t2:Int} {s1:List UInt8} {H:AH} {K:Exit→Env→AH→Prop} {o:(Bool)⊕(Unit)}
 (h:iter (dc s1) F t2=some o)
 (eD:∀o':Unit,o= .inr o'→K (.exit 0) [(0,(.str s1))] H)
 (kr:∀o':Bool,o= .inl o'→K .ret [(2,(.bool o'))] H):
 AX Tryd.prog iu 33 H.length (.loop (erase j9)) K [(0,(.str s1)),(5,(.int .i64 (s1.length:Int))),(6,(.int .i64 t2))] H:=by
 refine jO (fun s e H1=>match s with|t2=>e=[(0,(.str s1)),(5,(.int .i64 (s1.length:Int))),(6,(.int .i64 t2))]∧H1=H) h ⟨rfl,rfl⟩ ?_
 rintro K' t2 st e H ⟨rfl,rfl⟩ h hN hB hR hX
 rw [dc.eq_1] at h
 refine aD ?_
 refine cc h (fun hy1 h=> ?_) fun hy1 h=> ?_
 · refine aD ?_
   obtain ⟨t5,bE,h⟩:=ay h
   refine cy aB (p4 bE ?_)
   refine aD ?_
   refine cc h (fun bR h=> ?_) fun bR h=> ?_
   · refine aD ?_
     obtain rfl:=aF h
     exact hX _ _ _ _ _ fm aP aB (kr _ (hR _ rfl))
   · refine aD ?_
     obtain rfl:=aF h
     exact hN _ rfl _ _ _ _ aP aB ⟨rfl,rfl⟩
 · refine aD ?_
   obtain rfl:=aF h
   exact hX _ _ _ _ _ fm aP aB (eD _ (hB _ rfl))
theorem p6 {s1:List UInt8} {H:AH} {K:Exit→Env→AH→Prop}
 (kn:K .normal [(2,(.bool ((!decide (s1=([]:List UInt8)))&&(decide ((s1.length:Int)≤76)))))] H):
 AX Tryd.prog iu 33 H.length (erase lC) K [(0,(.str s1))] H:=by
 refine e6 fun K' hK=> ?_
 refine aD ?_
 refine Fq (fun cE=> ?_) fun cE=> ?_
 · refine bn cE ?_
   exact hK _ _ _ _ _ (jN cE) aB kn
 · refine bn cE ?_
   exact hK _ _ _ _ _ (jN cE) aB kn
theorem e9 {F:Nat} {s1:List UInt8} {H0:AH} {bf:Bool} (h:dQ F s1=some bf):
 aC Tryd.prog 25 [(.str s1)] H0 fun v H'=>v=(.bool bf)∧H'=H0:=by
 refine gS wv iu fun hcl K0 br=> ?_
 rw [dQ.eq_1] at h
 refine aD ?_
 obtain ⟨o8,cj,h⟩:=ay h
 refine cy aB (p5 cj ?_ ?_)
 · rintro ⟨⟩ rfl
   try dsimp only at h
   refine aD ?_
   refine cy aB (p6 (s1:=s1) ?_)
   refine aD ?_
   obtain rfl:=aF h
   exact br _ _ _ cC (aJ hcl (bS cA (.bool ((!decide (s1=([]:List UInt8)))&&(decide ((s1.length:Int)≤76))))) cB bU ⟨rfl,rfl⟩)
 · rintro r7 rfl
   try dsimp only at h
   refine aD ?_
   obtain rfl:=aF h
   exact br _ _ _ cC (aJ hcl (bS cA (.bool r7)) cB bU ⟨rfl,rfl⟩)
abbrev ke:az:=(.rg [(ax 33 4),(ai 34 (.len (.t 33))),(ai 35 (.bin .gtr (.t 34) (.c (.int .i64 0)))),(ax 36 35),(aE 37 (.mv (.t 6)) 36 true),(aE 38 (.bin .neq (.t 37) (.c (.str []))) 36 true),(ai 39 (.pick (.t 36) (.t 38) (.c (.bool false)))),(ax 40 39),(aE 41 (.mv (.t 6)) 40 true),(aE 42 (.ixs (.t 41) (.c (.int .i64 0))) 40 true),(aE 43 (.bin .eql (.t 42) (.c (b8 32))) 40 true),(aE 44 (.mv (.t 43)) 40 true),(aE 45 (.mv (.t 6)) 44 false),(aE 46 (.ixs (.t 45) (.c (.int .i64 0))) 44 false),(aE 47 (.bin .eql (.t 46) (.c (b8 9))) 44 false),(aE 48 (.pick (.t 44) (.c (.bool true)) (.t 47)) 40 true),(ai 49 (.pick (.t 40) (.t 48) (.c (.bool false)))),(aM 32 49)])
abbrev kf:az:=(.rg [(ax 63 11),(ax 64 63),(aE 65 (.mv (.t 9)) 64 true),(aE 66 (.call (.c (.fn 25 [])) [(.t 65)]) 64 true),(ai 67 (.pick (.t 64) (.t 66) (.c (.bool false)))),(aM 62 67)])
abbrev kg:az:=(.rg [(ax 77 4),(ax 78 7),(ai 79 (.eZ .sb (.t 78))),(aM 2 77),(aM 3 79)])
abbrev kj:az:=(.rg [(ax 29 4),(ax 30 5),(ai 31 (.eZ .sb (.t 30))),(aM 2 29),(aM 3 31)])
abbrev jq:az:=(.seq (.seq (.rg [(ax 15 5),(ai 16 (.bin .neq (.t 15) (.c (.str []))))]) (.cond (.t 16) .skip (.exit 0))) (.blk 1 (.seq (.rg [(ax 18 5),(ai 19 (.call (.c (.fn 61 [])) [(.t 18),(.c (.str [13,10]))])),(ax 17 19),(ai 20 (.ext (.t 17) 0)),(ai 21 (.ext (.t 17) 1)),(ai 22 (.ext (.t 17) 2)),(aM 6 20),(aM 7 21),(aM 8 22)]) (.seq (.rg [(ax 24 6),(ai 25 (.call (.c (.fn 61 [])) [(.t 24),(.c (.str [58]))])),(ax 23 25),(ai 26 (.ext (.t 23) 0)),(ai 27 (.ext (.t 23) 1)),(ai 28 (.ext (.t 23) 2)),(aM 9 26),(aM 10 27),(aM 11 28)]) (.seq (.blk 2 (.seq (.sem (erase ke)) (.cond (.t 32) (.rg [(ax 50 4),(ax 51 4),(ai 52 (.len (.t 51))),(ai 53 (.bin .sub (.t 52) (.c (.int .i64 1)))),(ai 54 (.dV 2 (.t 50) (.t 53))),(ai 55 (.gH (.t 54) 1)),(ai 56 (.ld (.t 55) none)),(ax 57 6),(ai 58 (.bin .add (.c (.str [13,10])) (.t 57))),(ai 59 (.bin .add (.t 56) (.t 58))),(ai 60 (.dV 2 (.t 50) (.t 53))),(ai 61 (.gH (.t 60) 1)),(sr (.st (.t 61) (.t 59) 1))]) (.seq (.sem (erase kf)) (.cond (.t 62) (.rg [(ax 68 4),(ax 69 9),(ax 70 10),(ai 71 (.build [(.str []),(.str [])] [(0,(1,(.t 69))),(1,(1,(.t 70)))])),(ai 72 (.mP 2 [(.t 71)])),(ai 73 (.fy 2 32 (.t 68) (.t 72))),(aM 4 73)]) (.seq (.rg [(ax 75 6),(ai 76 (.bin .eql (.t 75) (.c (.str [])))),(aM 74 76)]) (.cond (.t 74) (.seq (.sem (erase kg)) .ret) (.seq (.sem (erase kj)) .ret)))))))) (.rg [(ax 80 7),(aM 5 80)]))))))
abbrev ko:az:=(.rg [(ax 81 4),(aM 2 81),(ai 3 (.bg (.c (.sl .ex 1 []))))])
abbrev tK:az:=(.seq (.rg [(ai 2 (.bg (.c (.sl .ex 2 [])))),(ai 3 (.bg (.c (.sl .ex 1 []))))]) (.seq (.rg [(ai 4 (.kJ 2 (.c (.sl .ex 2 []))))]) (.seq (.rg [(ax 12 0),(ai 13 (.call (.c (.fn 60 [])) [(.t 12)])),(ai 14 (.eZ .bs (.t 13))),(aM 5 14)]) (.seq (.blk 0 (.loop (erase jq))) (.seq (.sem (erase ko)) .ret)))))
theorem tL:bT Tryd.prog 18 82 [(.tmp 2),(.tmp 3)] (erase tK):=⟨Tryd.f18,_,rfl,by decide,rfl,by kernel_rfl,rfl,rfl⟩
abbrev de:List Nat:=[0,2,3,4,5,6,7,9,10,11,16,32,62,74]
def eE (s6:List aj) (r7:List UInt8):Option (Bool):=
 (if (decide (0<(s6.length:Int))) then
  (if (!decide (r7=([]:List UInt8))) then
   (idx r7 0).bind fun lN=>
   (if (decide (lN=32)) then
    some true
   else
    some (decide (lN=9)))
  else
   some false)
 else
  some false)
def eF (F:Nat) (jQ:Bool) (iO:List UInt8):Option (Bool):=
 (if jQ then
  (dQ F iO).bind fun tM=>some tM
 else
  some false)
def cS (F:Nat):((List UInt8)×(List aj))→Option (St ((List aj)×(List UInt8)) (List aj) ((List UInt8)×(List aj)))
 |(cF,s6)=>
  (if (!decide (cF=([]:List UInt8))) then
   (strings_Cut cF ([13,10]:List UInt8)).bind fun (r7,r8,r9)=>
   (strings_Cut r7 ([58]:List UInt8)).bind fun (iO,gT,jQ)=>
   (eE s6 r7).bind fun t17=>
   (if t17 then
    (mR s6.length (IntKind.wrap .i64 ((s6.length:Int) - 1))).bind fun Fx=>
    (s6[Fx]?).bind fun BV=>
    (cat ([13,10]:List UInt8) r7).bind fun IU=>
    (cat BV.value IU).bind fun wz=>some (.b7 (r8,(List.set s6 Fx (aj.mk BV.name wz))))
   else
    (eF F jQ iO).bind fun t26=>
    (if t26 then
     (cx 32 s6 ([(aj.mk iO gT)]:List aj)).bind fun QK=>some (.b7 (r8,QK))
    else
     (if (decide (r7=([]:List UInt8))) then
      some (.ret (s6,r8))
     else
      some (.ret (s6,cF)))))
  else
   some (.fj s6))
def eG (F:Nat) (b1:List UInt8):Option ((List aj)×(List UInt8)):=
 (iN F b1).bind fun r2=>
 ((iter (cS F) F (r2,([]:List aj))).bind fun QL=>
 match QL with
 | .inr wA=>
   some (wA,([]:List UInt8))
 | .inl (Ob,Oc)=>
   some (Ob,Oc))
theorem oK {s6:List aj} {r7:List UInt8} {Li:Nat} {Lj:Nat} {cF:List UInt8} {r8:List UInt8} {iO:List UInt8} {gT:List UInt8} {jQ:Bool} {H0 H:AH} (hfr:Fr H0 H0.length [] H) (av:GF 2 H0.length Li (ml ak s6) Lj H) {K:Exit→Env→AH→Prop} {t16:Bool}
 (h:eE s6 r7=some t16)
 (kn:∀H':AH,Fr H0 H0.length [] H'→GF 2 H0.length Li (ml ak s6) Lj H'→K .normal [(4,(.aZ Li 2 s6.length Lj)),(5,(.str cF)),(6,(.str r7)),(7,(.str r8)),(9,(.str iO)),(10,(.str gT)),(11,(.bool jQ)),(32,(.bool t16))] H'):
 AX Tryd.prog de 82 H0.length (erase ke) K [(4,(.aZ Li 2 s6.length Lj)),(5,(.str cF)),(6,(.str r7)),(7,(.str r8)),(9,(.str iO)),(10,(.str gT)),(11,(.bool jQ))] H:=by
 refine e6 fun K' hK=> ?_
 have hle:=hfr.le
 rw [eE.eq_1] at h
 refine bJ ?_
 refine eu h (fun bE h=> ?_) fun bE h=> ?_
 · refine bO bE ?_
   refine eu h (fun bR h=> ?_) fun bR h=> ?_
   · obtain ⟨lN,cj,h⟩:=ay h
     refine bO (aX bR cj) ?_
     refine eu h (fun cE h=> ?_) fun cE h=> ?_
     · refine bO cE ?_
       obtain rfl:=aF h
       exact hK _ _ _ _ _ (jN (aX bE (aX bR cE))) aB (kn _ hfr av)
     · refine bO (aX cE cj) ?_
       obtain rfl:=aF h
       exact hK _ _ _ _ _ (jN (aX bE (aX bR cE))) aB (kn _ hfr av)
   · refine bO bR ?_
     obtain rfl:=aF h
     exact hK _ _ _ _ _ (jN (aX bE bR)) aB (kn _ hfr av)
 · refine bO bE ?_
   obtain rfl:=aF h
   exact hK _ _ _ _ _ (jN bE) aB (kn _ hfr av)
theorem oL {F:Nat} {jQ:Bool} {iO:List UInt8} {tN:Nat} {s6:List aj} {Ll:Nat} {cF:List UInt8} {r7:List UInt8} {r8:List UInt8} {gT:List UInt8} {H0 H:AH} (hfr:Fr H0 H0.length [] H) (av:GF 2 H0.length tN (ml ak s6) Ll H) {K:Exit→Env→AH→Prop} {t25:Bool}
 (h:eF F jQ iO=some t25)
 (kn:∀H':AH,Fr H0 H0.length [] H'→GF 2 H0.length tN (ml ak s6) Ll H'→K .normal [(4,(.aZ tN 2 s6.length Ll)),(5,(.str cF)),(6,(.str r7)),(7,(.str r8)),(9,(.str iO)),(10,(.str gT)),(62,(.bool t25))] H'):
 AX Tryd.prog de 82 H0.length (erase kf) K [(4,(.aZ tN 2 s6.length Ll)),(5,(.str cF)),(6,(.str r7)),(7,(.str r8)),(9,(.str iO)),(10,(.str gT)),(11,(.bool jQ))] H:=by
 refine e6 fun K' hK=> ?_
 have hle:=hfr.le
 rw [eF.eq_1] at h
 refine bJ ?_
 refine eu h (fun mo h=> ?_) fun mo h=> ?_
 · refine bO mo ?_
   obtain ⟨tM,sy,h⟩:=ay h
   refine bP aB (e9 sy) ?_
   refine bJ ?_
   obtain rfl:=aF h
   exact hK _ _ _ _ _ (jN mo) aB (kn _ hfr av)
 · refine bO mo ?_
   obtain rfl:=aF h
   exact hK _ _ _ _ _ (jN mo) aB (kn _ hfr av)
theorem oM {s6:List aj} {r8:List UInt8} {H0 H:AH} (hfr:Fr H0 H0.length [] H) {K:Exit→Env→AH→Prop}
 (kn:∀H':AH,Fr H0 H0.length [] H'→K .normal [(2,(.sl .n 2 (ml ak s6))),(3,(.sl .own 1 (ml b8 r8)))] H'):
 AX Tryd.prog de 82 H0.length (erase kg) K [(4,(.sl .n 2 (ml ak s6))),(7,(.str r8))] H:=by
 refine e6 fun K' hK=> ?_
 have hle:=hfr.le
 refine bJ ?_
 exact hK _ _ _ _ _ aP aB (kn _ hfr)
theorem oN {s6:List aj} {cF:List UInt8} {H0 H:AH} (hfr:Fr H0 H0.length [] H) {K:Exit→Env→AH→Prop}
 (kn:∀H':AH,Fr H0 H0.length [] H'→K .normal [(2,(.sl .n 2 (ml ak s6))),(3,(.sl .own 1 (ml b8 cF)))] H'):
 AX Tryd.prog de 82 H0.length (erase kj) K [(4,(.sl .n 2 (ml ak s6))),(5,(.str cF))] H:=by
 refine e6 fun K' hK=> ?_
 have hle:=hfr.le
 refine bJ ?_
 exact hK _ _ _ _ _ aP aB (kn _ hfr)
theorem oO {F:Nat} {cF:List UInt8} {s6:List aj} {q3:Nat} {q4:Nat} {H0 H:AH} (hfr:Fr H0 H0.length [] H) (av:GF 2 H0.length q3 (ml ak s6) q4 H) {K:Exit→Env→AH→Prop} {o:((List aj)×(List UInt8))⊕((List aj))}
 (h:iter (cS F) F (cF,s6)=some o)
 (eD:∀o':(List aj),o= .inr o'→∀H':AH,∀Lm Ln:Nat,Fr H0 H0.length [] H'→GF 2 H0.length Lm (ml ak o') Ln H'→K (.exit 0) [(4,(.aZ Lm 2 o'.length Ln))] H')
 (kr:∀o':(List aj)×(List UInt8),o= .inl o'→∀H':AH,Fr H0 H0.length [] H'→K .ret [(2,(.sl .n 2 (ml ak o'.1))),(3,(.sl .n 1 (ml b8 o'.2)))] H'):
 AX Tryd.prog de 82 H0.length (.loop (erase jq)) K [(4,(.aZ q3 2 s6.length q4)),(5,(.str cF))] H:=by
 refine jO (fun s e H1=>match s with|(cF,s6)=>∃q3 q4:Nat,e=[(4,(.aZ q3 2 s6.length q4)),(5,(.str cF))]∧Fr H0 H0.length [] H1∧GF 2 H0.length q3 (ml ak s6) q4 H1) h ⟨q3,q4,rfl,hfr,av⟩ ?_
 rintro K' ⟨cF,s6⟩ st e H ⟨q3,q4,rfl,hfr,av⟩ h hN hB hR hX
 have hle:=hfr.le
 rw [cS.eq_1] at h
 refine bJ ?_
 refine cc h (fun bL h=> ?_) fun bL h=> ?_
 · refine bJ ?_
   obtain ⟨⟨r7,r8,r9⟩,bM,h⟩:=ay h
   dsimp only at h
   refine bP aB (lz (s1:=cF) (s2:=([13,10]:List UInt8)) bM) ?_
   refine bJ ?_
   obtain ⟨⟨iO,gT,jQ⟩,bF,h⟩:=ay h
   dsimp only at h
   refine bP aB (lz (s1:=r7) (s2:=([58]:List UInt8)) bF) ?_
   refine bJ ?_
   obtain ⟨t17,fJ,h⟩:=ay h
   refine cy aB (oK (cF:=cF) (r8:=r8) (iO:=iO) (gT:=gT) (jQ:=jQ) hfr av fJ ?_)
   intro H hfr av
   have hle:=hfr.le
   refine bJ ?_
   refine cc h (fun dm h=> ?_) fun dm h=> ?_
   · obtain ⟨Fx,eH,h⟩:=ay h
     obtain ⟨BV,c6,h⟩:=ay h
     have iP:=GF.Le (f:=ak) (av) c6
     have mq:(eo 2 (ml ak s6) q4)[Fx*2+1]? =some (.str BV.value):=pU (f:=ak) (fun _=>⟨rfl,rfl,rfl,rfl⟩) c6 (by decide)
     obtain ⟨IU,oP,h⟩:=ay h
     obtain ⟨wz,mu,h⟩:=ay h
     have mZ:=GF.Le (f:=ak) (av) c6
     have mw:=GF.Ql (f:=ak) (av) c6
     have nc:over (eo 2 (ml ak s6) q4) (Fx*2+1) [(.str wz)]=some (eo 2 (ml ak (List.set s6 Fx (aj.mk BV.name wz))) q4):=nI (f:=ak) (x':=(aj.mk BV.name wz)) (fun _=>⟨rfl,rfl,rfl,rfl⟩) c6 (by decide) rfl
     have sA:=GF.LY (f:=ak) (x':=(aj.mk BV.name wz)) (av) c6
     refine bO (aX eH (aX iP (aX mq (aX oP (aX mu (aX eH (aX mZ nc))))))) ?_
     obtain rfl:=aF h
     exact hN _ rfl _ _ _ _ aP aB ⟨q3,q4,rfl,(Fr.set (s:=q3) hfr (.inr mw)),sA⟩
   · refine bJ ?_
     obtain ⟨t26,sB,h⟩:=ay h
     refine cy aB (oL (s6:=s6) (cF:=cF) (r7:=r7) (r8:=r8) (gT:=gT) hfr av sB ?_)
     intro H hfr av
     have hle:=hfr.le
     refine bJ ?_
     refine cc h (fun sC h=> ?_) fun sC h=> ?_
     · obtain ⟨QK,qx,h⟩:=ay h
       refine bJ ?_
       refine QG (f:=ak) (X:=s6) (Y:=([(aj.mk iO gT)]:List aj)) (n1:=H0.length) (fun _=>⟨rfl,rfl,rfl,rfl⟩) (by decide) rfl rfl rfl (by simp) qx (av) (by first|assumption|omega|(simp only [j3,j4]<;>omega)|fail) fun SW SX H Od kQ p7 Gu=> ?_
       have hfr:=Fr.grow hfr kQ p7
       have av:=Od
       have hle:=hfr.le
       refine bJ ?_
       obtain rfl:=aF h
       exact hN _ rfl _ _ _ _ aP aB ⟨SW,SX,rfl,hfr,av⟩
     · refine bJ ?_
       refine cc h (fun uF h=> ?_) fun uF h=> ?_
       · refine bJ ?_
         refine Fs ?_
         apply AX.sn (n1:=H0.length) (by decide) (EK.ml (f:=ak) (fun _=>⟨rfl,rfl,rfl,rfl⟩) s6) (av)
         · repeat (first|exact FG.nil|apply FG.lay _ _ _ _ (jm _ _).symm|apply FG.same)
         intro H kQ p7
         have hfr:=Fr.lay hfr kQ p7
         have hle:=hfr.le
         refine IM ?_
         refine cy aB (oM (s6:=s6) (r8:=r8) hfr ?_)
         intro H hfr
         have hle:=hfr.le
         refine bJ ?_
         obtain rfl:=aF h
         exact hX _ _ _ _ _ fm aP aB (kr _ (hR _ rfl) _ hfr)
       · refine bJ ?_
         refine Fs ?_
         apply AX.sn (n1:=H0.length) (by decide) (EK.ml (f:=ak) (fun _=>⟨rfl,rfl,rfl,rfl⟩) s6) (av)
         · repeat (first|exact FG.nil|apply FG.lay _ _ _ _ (jm _ _).symm|apply FG.same)
         intro H kQ p7
         have hfr:=Fr.lay hfr kQ p7
         have hle:=hfr.le
         refine IM ?_
         refine cy aB (oN (s6:=s6) (cF:=cF) hfr ?_)
         intro H hfr
         have hle:=hfr.le
         refine bJ ?_
         obtain rfl:=aF h
         exact hX _ _ _ _ _ fm aP aB (kr _ (hR _ rfl) _ hfr)
 · refine bJ ?_
   obtain rfl:=aF h
   exact hX _ _ _ _ _ fm aP aB (eD _ (hB _ rfl) _ q3 q4 hfr av)
theorem oQ {wA:List aj} {H0 H:AH} (hfr:Fr H0 H0.length [] H) {K:Exit→Env→AH→Prop}
 (kn:∀H':AH,Fr H0 H0.length [] H'→K .normal [(2,(.sl .n 2 (ml ak wA))),(3,(.sl .ex 1 []))] H'):
 AX Tryd.prog de 82 H0.length (erase ko) K [(4,(.sl .n 2 (ml ak wA)))] H:=by
 refine e6 fun K' hK=> ?_
 have hle:=hfr.le
 refine bJ ?_
 exact hK _ _ _ _ _ aP aB (kn _ hfr)
theorem iQ {F:Nat} {b1:List UInt8} {H0:AH} {bf:List aj} {mz:List UInt8} (h:eG F b1=some (bf,mz)):
 aC Tryd.prog 18 [(.sl .n 1 (ml b8 b1))] H0 fun v H'=>v=(.aK [(.sl .n 2 (ml ak bf)),(.sl .n 1 (ml b8 mz))])∧H'=H0:=by
 refine za tL de [] (F0:=fun _=>True) trivial fun hcl K0 br H hfr hs=> ?_
 have hle:=hfr.le
 rw [eG.eq_1] at h
 refine bJ ?_
 obtain ⟨r2,hy1,h⟩:=ay h
 refine bP aB (tJ hy1) ?_
 refine bJ ?_
 obtain ⟨QL,oR,h⟩:=ay h
 refine cy aB (oO hfr GF.nil oR ?_ ?_)
 · rintro wA rfl H Oe TV hfr av
   try dsimp only at h av
   have hle:=hfr.le
   refine bJ ?_
   refine Fs ?_
   apply AX.sn (n1:=H0.length) (by decide) (EK.ml (f:=ak) (fun _=>⟨rfl,rfl,rfl,rfl⟩) wA) (av)
   · repeat (first|exact FG.nil|apply FG.lay _ _ _ _ (jm _ _).symm|apply FG.same)
   intro H kQ p7
   have hfr:=Fr.lay hfr kQ p7
   have hle:=hfr.le
   refine IM ?_
   refine cy aB (oQ (wA:=wA) hfr ?_)
   intro H hfr
   have hle:=hfr.le
   refine bJ ?_
   obtain ⟨rfl,rfl⟩:=mY h
   exact br _ _ _ cC (dX hfr hcl (bS (bS cA (.sl .ex 1 [])) (.sl .n 2 (ml ak wA))) cB bU ⟨rfl,rfl⟩)
 · rintro ⟨Ob,Oc⟩ rfl H hfr
   try dsimp only at h
   have hle:=hfr.le
   refine bJ ?_
   obtain ⟨rfl,rfl⟩:=mY h
   exact br _ _ _ cC (dX hfr hcl (bS (bS cA (.sl .n 1 (ml b8 Oc))) (.sl .n 2 (ml ak Ob))) cB bU ⟨rfl,rfl⟩)
abbrev ku:az:=(.rg [(ax 15 5),(ai 16 (.bin .geq (.t 15) (.c (b8 65)))),(ax 17 16),(aE 18 (.mv (.t 5)) 17 true),(aE 19 (.bin .leq (.t 18) (.c (b8 90))) 17 true),(ai 20 (.pick (.t 17) (.t 19) (.c (.bool false))))])
abbrev jr:az:=(.seq (.rg [(ai 11 (.bin .lss (.t 10) (.t 9)))]) (.seq (.cond (.t 11) .skip (.exit 0)) (.seq (.blk 1 (.seq (.rg [(ax 12 10),(ai 13 (.dV 1 (.t 8) (.t 10))),(ai 14 (.ld (.t 13) none)),(aM 4 12),(aM 5 14)]) (.seq (.sem (erase ku)) (.cond (.t 20) (.rg [(ax 21 3),(ax 22 4),(ai 23 (.dV 1 (.t 21) (.t 22))),(ai 24 (.ld (.t 23) none)),(ai 25 (.bin .or (.t 24) (.c (b8 32)))),(ai 26 (.dV 1 (.t 21) (.t 22))),(sr (.st (.t 26) (.t 25) 1))]) .skip)))) (.rg [(ai 27 (.bin .add (.t 10) (.c (.int .i64 1)))),(ax 10 27)]))))
abbrev tO:az:=(.seq (.rg [(ai 2 (.bg (.c (.str []))))]) (.seq (.rg [(ax 6 0),(ai 7 (.jh (.t 6))),(aM 3 7)]) (.seq (.seq (.rg [(ax 8 3),(ai 9 (.len (.t 8))),(ai 10 (.mv (.c (.int .i64 0))))]) (.blk 0 (.loop (erase jr)))) (.seq (.rg [(ax 28 3),(ai 29 (.eZ .bs (.t 28))),(aM 2 29)]) .ret))))
theorem tP:bT Tryd.prog 41 30 [(.tmp 2)] (erase tO):=⟨Tryd.f41,_,rfl,by decide,rfl,by kernel_rfl,rfl,rfl⟩
abbrev jR:List Nat:=[0,2,3,4,5,8,9,10,11,20]
def cT (s1:List UInt8):(Int×(List UInt8))→Option (St (List UInt8) (List UInt8) (Int×(List UInt8)))
 |(t3,s4)=>
  (if (decide (t3<(s1.length:Int))) then
   (mR s1.length t3).bind fun j5=>
   (s4[j5]?).bind fun x6=>
   (if ((decide (65≤x6))&&(decide (x6≤90))) then
    (uD s4 j5 (x6 ||| 32)).bind fun s8=>some (.b7 ((IntKind.wrap .i64 (t3+1)),s8))
   else
    some (.b7 ((IntKind.wrap .i64 (t3+1)),s4)))
  else
   some (.fj s4))
def fB (F:Nat) (s1:List UInt8):Option ((List UInt8)):=
 ((iter (cT s1) F (0,s1)).bind fun zd=>
 match zd with
 | .inr QM=>
   (sub QM 0 (s1.length:Int)).bind fun iM=>some iM
 | .inl _=>none)
theorem oS {q7:Nat} {s1:List UInt8} {t3:Int} {x6:UInt8} {s4:List UInt8} {H0 H:AH} (hfr:Fr H0 H0.length [] H) (av:H[q7]? =some (ml b8 s4)) (hi0:H0.length≤q7) {K:Exit→Env→AH→Prop}
 (kn:∀H':AH,Fr H0 H0.length [] H'→H'[q7]? =some (ml b8 s4)→K .normal [(3,(.bu q7 1 0 s1.length)),(4,(.int .i64 t3)),(8,(.bu q7 1 0 s1.length)),(9,(.int .i64 (s1.length:Int))),(10,(.int .i64 t3)),(20,(.bool ((decide (65≤x6))&&(decide (x6≤90)))))] H'):
 AX Tryd.prog jR 30 H0.length (erase ku) K [(3,(.bu q7 1 0 s1.length)),(4,(.int .i64 t3)),(5,(b8 x6)),(8,(.bu q7 1 0 s1.length)),(9,(.int .i64 (s1.length:Int))),(10,(.int .i64 t3))] H:=by
 refine e6 fun K' hK=> ?_
 have hle:=hfr.le
 have fo:=gf av
 refine bO av ?_
 refine Fq (fun bF=> ?_) fun bF=> ?_
 · refine bO (aX bF av) ?_
   exact hK _ _ _ _ _ (jN bF) aB (kn _ hfr (av.trans rfl))
 · refine bO (aX bF av) ?_
   exact hK _ _ _ _ _ (jN bF) aB (kn _ hfr (av.trans rfl))
theorem oT {F:Nat} {t3:Int} {s1:List UInt8} {s4:List UInt8} {q2:Nat} {H0 H:AH} (hfr:Fr H0 H0.length [] H) (av:H[q2]? =some (ml b8 s4)) (hi0:H0.length≤q2) {K:Exit→Env→AH→Prop} {o:((List UInt8))⊕((List UInt8))}
 (h:iter (cT s1) F (t3,s4)=some o)
 (eD:∀o':(List UInt8),o= .inr o'→∀H':AH,Fr H0 H0.length [] H'→H'[q2]? =some (ml b8 o')→K (.exit 0) [(3,(.bu q2 1 0 s1.length))] H'):
 AX Tryd.prog jR 30 H0.length (.loop (erase jr)) K [(3,(.bu q2 1 0 s1.length)),(8,(.bu q2 1 0 s1.length)),(9,(.int .i64 (s1.length:Int))),(10,(.int .i64 t3))] H:=by
 refine jO (fun s e H1=>match s with|(t3,s4)=>e=[(3,(.bu q2 1 0 s1.length)),(8,(.bu q2 1 0 s1.length)),(9,(.int .i64 (s1.length:Int))),(10,(.int .i64 t3))]∧Fr H0 H0.length [] H1∧H1[q2]? =some (ml b8 s4)) h ⟨rfl,hfr,av⟩ ?_
 rintro K' ⟨t3,s4⟩ st e H ⟨rfl,hfr,av⟩ h hN hB hR hX
 have hle:=hfr.le
 have fo:=gf av
 rw [cT.eq_1] at h
 refine bO av ?_
 refine cc h (fun hy1 h=> ?_) fun hy1 h=> ?_
 · obtain ⟨j5,bL,h⟩:=ay h
   obtain ⟨x6,bM,h⟩:=ay h
   refine bO (aX bL (aX bM av)) ?_
   refine cy aB (oS (q7:=q2) (s1:=s1) (t3:=t3) (x6:=x6) (s4:=s4) hfr (av.trans rfl) y9 ?_)
   intro H hfr av
   have hle:=hfr.le
   have fo:=gf av
   refine bO av ?_
   refine cc h (fun bE h=> ?_) fun bE h=> ?_
   · obtain ⟨s8,bR,h⟩:=ay h
     refine bO (aX bL (aX bM (aX bL (aX bR av)))) ?_
     obtain rfl:=aF h
     exact hN _ rfl _ _ _ _ aP aB ⟨rfl,(qF q2 hfr),BT⟩
   · refine bO av ?_
     obtain rfl:=aF h
     exact hN _ rfl _ _ _ _ aP aB ⟨rfl,hfr,(av.trans rfl)⟩
 · refine bO av ?_
   obtain rfl:=aF h
   exact hX _ _ _ _ _ fm aP aB (eD _ (hB _ rfl) _ hfr (av.trans rfl))
theorem mA {F:Nat} {s1:List UInt8} {H0:AH} {bf:List UInt8} (h:fB F s1=some bf):
 aC Tryd.prog 41 [(.str s1)] H0 fun v H'=>v=(.str bf)∧H'=H0:=by
 refine za tP jR [] (F0:=fun _=>True) trivial fun hcl K0 br H hfr hs=> ?_
 have hle:=hfr.le
 rw [fB.eq_1] at h
 refine bJ ?_
 obtain ⟨q2,sD⟩:∃q:Nat,H.length=q:=⟨_,rfl⟩
 try rw [sD]
 obtain ⟨zd,cj,h⟩:=ay h
 refine cy aB (oT (q2:=q2) (Fr.app hfr) N9 y9 cj ?_)
 · rintro QM rfl H hfr av
   try dsimp only at h av
   have hle:=hfr.le
   have fo:=gf av
   refine bJ ?_
   obtain ⟨iM,cE,h⟩:=ay h
   refine bO (aX cE av) ?_
   obtain rfl:=aF h
   exact br _ _ _ cC (dX hfr hcl (bS cA (.str iM)) cB bU ⟨rfl,rfl⟩)
abbrev lD:az:=(.seq (.rg [(ai 13 (.bin .lss (.t 12) (.t 11)))]) (.seq (.cond (.t 13) .skip (.exit 0)) (.seq (.blk 1 (.seq (.rg [(ai 14 (.dV 2 (.t 10) (.t 12))),(ai 15 (.ld (.t 14) (some 2))),(ai 9 (.alloc [(.str []),(.str [])])),(sr (.st (.t 9) (.t 15) 2))]) (.seq (.seq (.rg [(ai 16 (.gH (.t 9) 0)),(ai 17 (.ld (.t 16) none)),(ai 18 (.call (.c (.fn 41 [])) [(.t 17)])),(ax 19 1),(ai 20 (.call (.c (.fn 41 [])) [(.t 19)])),(ai 21 (.bin .neq (.t 18) (.t 20)))]) (.cond (.t 21) (.exit 1) .skip)) (.seq (.rg [(ax 22 7),(ai 23 (.bin .add (.t 22) (.c (.int .i64 1)))),(aM 7 23)]) (.seq (.rg [(ax 24 7),(ai 25 (.bin .eql (.t 24) (.c (.int .i64 1))))]) (.cond (.t 25) (.rg [(ai 26 (.gH (.t 9) 1)),(ai 27 (.ld (.t 26) none)),(aM 6 27)]) .skip)))))) (.rg [(ai 28 (.bin .add (.t 12) (.c (.int .i64 1)))),(ax 12 28)]))))
abbrev ze:az:=(.seq (.rg [(ai 4 (.bg (.c (.str [])))),(ai 5 (.bg (.c (.int .i64 0))))]) (.seq (.rg [(ai 6 (.bg (.c (.str [])))),(ai 7 (.bg (.c (.int .i64 0))))]) (.seq (.seq (.rg [(ax 10 0),(ai 11 (.len (.t 10))),(ai 12 (.mv (.c (.int .i64 0))))]) (.blk 0 (.loop (erase lD)))) (.seq (.rg [(ax 29 6),(ax 30 7),(aM 4 29),(aM 5 30)]) .ret))))
theorem zf:bT Tryd.prog 19 31 [(.tmp 4),(.tmp 5)] (erase ze):=⟨Tryd.f19,_,rfl,by decide,rfl,by kernel_rfl,rfl,rfl⟩
abbrev qy:List Nat:=[0,1,4,5,6,7,9,10,11,12,13,21,25]
def dR (F:Nat) (l1:List aj) (bA:List UInt8):((List UInt8)×Int×Int)→Option (St ((List UInt8)×Int) ((List UInt8)×Int) ((List UInt8)×Int×Int))
 |(cu,iR,t5)=>
  (if (decide (t5<(l1.length:Int))) then
   (idx l1 t5).bind fun x6=>
   (fB F x6.name).bind fun r7=>
   (fB F bA).bind fun r8=>
   (if (!decide (r7=r8)) then
    some (.b7 (cu,iR,(IntKind.wrap .i64 (t5+1))))
   else
    (if (decide ((IntKind.wrap .i64 (iR+1))=1)) then
     some (.b7 (x6.value,(IntKind.wrap .i64 (iR+1)),(IntKind.wrap .i64 (t5+1))))
    else
     some (.b7 (cu,(IntKind.wrap .i64 (iR+1)),(IntKind.wrap .i64 (t5+1))))))
  else
   some (.fj (cu,iR)))
def gy (F:Nat) (l1:List aj) (bA:List UInt8):Option ((List UInt8)×Int):=
 ((iter (dR F l1 bA) F (([]:List UInt8),0,0)).bind fun IV=>
 match IV with
 | .inr (nL,sE)=>
   some (nL,sE)
 | .inl _=>none)
theorem qJ {F:Nat} {t5:Int} {l1:List aj} {bA:List UInt8} {cu:List UInt8} {iR:Int} {H0 H:AH} (hfr:Fr H0 H0.length [] H) {K:Exit→Env→AH→Prop} {o:((List UInt8)×Int)⊕((List UInt8)×Int)}
 (h:iter (dR F l1 bA) F (cu,iR,t5)=some o)
 (eD:∀o':(List UInt8)×Int,o= .inr o'→∀H':AH,Fr H0 H0.length [] H'→K (.exit 0) [(6,(.str o'.1)),(7,(.int .i64 o'.2))] H'):
 AX Tryd.prog qy 31 H0.length (.loop (erase lD)) K [(1,(.str bA)),(6,(.str cu)),(7,(.int .i64 iR)),(10,(.sl .n 2 (ml ak l1))),(11,(.int .i64 (l1.length:Int))),(12,(.int .i64 t5))] H:=by
 refine jO (fun s e H1=>match s with|(cu,iR,t5)=>e=[(1,(.str bA)),(6,(.str cu)),(7,(.int .i64 iR)),(10,(.sl .n 2 (ml ak l1))),(11,(.int .i64 (l1.length:Int))),(12,(.int .i64 t5))]∧Fr H0 H0.length [] H1) h ⟨rfl,hfr⟩ ?_
 rintro K' ⟨cu,iR,t5⟩ st e H ⟨rfl,hfr⟩ h hN hB hR hX
 have hle:=hfr.le
 rw [dR.eq_1] at h
 refine bJ ?_
 refine cc h (fun hy1 h=> ?_) fun hy1 h=> ?_
 · obtain ⟨x6,bL,h⟩:=ay h
   refine bO bL ?_
   obtain ⟨r7,bM,h⟩:=ay h
   refine bP aB (mA bM) ?_
   refine bJ ?_
   obtain ⟨r8,bF,h⟩:=ay h
   refine bP aB (mA bF) ?_
   refine bJ ?_
   refine cc h (fun bE h=> ?_) fun bE h=> ?_
   · refine bJ ?_
     obtain rfl:=aF h
     exact hN _ rfl _ _ _ _ aP aB ⟨rfl,(qF H.length (Fr.app hfr))⟩
   · refine bJ ?_
     refine cc h (fun bR h=> ?_) fun bR h=> ?_
     · refine bJ ?_
       obtain rfl:=aF h
       exact hN _ rfl _ _ _ _ aP aB ⟨rfl,(qF H.length (Fr.app hfr))⟩
     · refine bJ ?_
       obtain rfl:=aF h
       exact hN _ rfl _ _ _ _ aP aB ⟨rfl,(qF H.length (Fr.app hfr))⟩
 · refine bJ ?_
   obtain rfl:=aF h
   exact hX _ _ _ _ _ fm aP aB (eD _ (hB _ rfl) _ hfr)
theorem kV {F:Nat} {l1:List aj} {bA:List UInt8} {H0:AH} {bf:List UInt8} {mz:Int} (h:gy F l1 bA=some (bf,mz)):
 aC Tryd.prog 19 [(.sl .n 2 (ml ak l1)),(.str bA)] H0 fun v H'=>v=(.aK [(.str bf),(.int .i64 mz)])∧H'=H0:=by
 refine za zf qy [] (F0:=fun _=>True) trivial fun hcl K0 br H hfr hs=> ?_
 have hle:=hfr.le
 rw [gy.eq_1] at h
 refine bJ ?_
 obtain ⟨IV,cj,h⟩:=ay h
 refine cy aB (qJ hfr cj ?_)
 · rintro ⟨nL,sE⟩ rfl H hfr
   try dsimp only at h
   have hle:=hfr.le
   refine bJ ?_
   obtain ⟨rfl,rfl⟩:=mY h
   exact br _ _ _ cC (dX hfr hcl (bS (bS cA (.int .i64 sE)) (.str nL)) cB bU ⟨rfl,rfl⟩)
abbrev lE:az:=(.rg [(ax 3 0),(ai 4 (.bin .rem (.t 3) (.c (.int .i64 4)))),(ai 5 (.bin .eql (.t 4) (.c (.int .i64 0)))),(ax 6 5),(aE 7 (.mv (.t 0)) 6 true),(aE 8 (.bin .rem (.t 7) (.c (.int .i64 100))) 6 true),(aE 9 (.bin .neq (.t 8) (.c (.int .i64 0))) 6 true),(aE 10 (.mv (.t 9)) 6 true),(aE 11 (.mv (.t 0)) 10 false),(aE 12 (.bin .rem (.t 11) (.c (.int .i64 400))) 10 false),(aE 13 (.bin .eql (.t 12) (.c (.int .i64 0))) 10 false),(aE 14 (.pick (.t 10) (.c (.bool true)) (.t 13)) 6 true),(ai 15 (.pick (.t 6) (.t 14) (.c (.bool false)))),(aM 2 15)])
abbrev wB:az:=(.seq (.rg [(ai 2 (.bg (.c (.bool false))))]) (.seq (.sem (erase lE)) .ret))
theorem wC:bT Tryd.prog 89 16 [(.tmp 2)] (erase wB):=⟨Tryd.f89,_,rfl,by decide,rfl,by kernel_rfl,rfl,rfl⟩
abbrev oU:List Nat:=[0,2]
def kW (y1:Int):Option (Bool):=
 some ((decide ((Int.tmod y1 4)=0))&&((!decide ((Int.tmod y1 100)=0))||(decide ((Int.tmod y1 400)=0))))
theorem p8 {y1:Int} {H:AH} {K:Exit→Env→AH→Prop}
 (kn:K .normal [(2,(.bool ((decide ((Int.tmod y1 4)=0))&&((!decide ((Int.tmod y1 100)=0))||(decide ((Int.tmod y1 400)=0))))))] H):
 AX Tryd.prog oU 16 H.length (erase lE) K [(0,(.int .i64 y1)),(2,(.bool false))] H:=by
 refine e6 fun K' hK=> ?_
 have bF:rm .i64 y1 4=some (Int.tmod y1 4):=rfl
 refine bn bF ?_
 refine Fq (fun bE=> ?_) fun bE=> ?_
 · have bR:rm .i64 y1 100=some (Int.tmod y1 100):=rfl
   refine bn (aX bE bR) ?_
   refine Fq (fun cj=> ?_) fun cj=> ?_
   · refine bn cj ?_
     exact hK _ _ _ _ _ (jN (aX bE cj)) aB kn
   · have cE:rm .i64 y1 400=some (Int.tmod y1 400):=rfl
     refine bn (aX cj cE) ?_
     exact hK _ _ _ _ _ (jN (aX bE cj)) aB kn
 · refine bn bE ?_
   exact hK _ _ _ _ _ (jN bE) aB kn
theorem ng {y1:Int} {H0:AH} {bf:Bool} (h:kW y1=some bf):
 aC Tryd.prog 89 [(.int .i64 y1)] H0 fun v H'=>v=(.bool bf)∧H'=H0:=by
 refine gS wC oU fun hcl K0 br=> ?_
 rw [kW.eq_1] at h
 refine aD ?_
 refine cy aB (p8 (y1:=y1) ?_)
 refine aD ?_
 obtain rfl:=aF h
 exact br _ _ _ cC (aJ hcl (bS cA (.bool ((decide ((Int.tmod y1 4)=0))&&((!decide ((Int.tmod y1 100)=0))||(decide ((Int.tmod y1 400)=0)))))) cB bU ⟨rfl,rfl⟩)
abbrev lF:az:=(.rg [(ax 7 1),(ai 8 (.bin .eql (.t 7) (.c (.int .i64 1)))),(ax 9 8),(aE 10 (.mv (.t 0)) 9 true),(aE 11 (.call (.c (.fn 89 [])) [(.t 10)]) 9 true),(ai 12 (.pick (.t 9) (.t 11) (.c (.bool false))))])
abbrev wD:az:=(.seq (.rg [(ai 4 (.bg (.c (.int .i64 0))))]) (.seq (.rg [(ai 6 (.build [(.int .i64 31),(.int .i64 28),(.int .i64 31),(.int .i64 30),(.int .i64 31),(.int .i64 30),(.int .i64 31),(.int .i64 31),(.int .i64 30),(.int .i64 31),(.int .i64 30),(.int .i64 31)] [])),(ai 5 (.alloc [(.int .i64 0),(.int .i64 0),(.int .i64 0),(.int .i64 0),(.int .i64 0),(.int .i64 0),(.int .i64 0),(.int .i64 0),(.int .i64 0),(.int .i64 0),(.int .i64 0),(.int .i64 0)])),(sr (.st (.t 5) (.t 6) 12))]) (.seq (.seq (.sem (erase lF)) (.cond (.t 12) (.seq (.rg [(ai 4 (.bg (.c (.int .i64 29))))]) .ret) .skip)) (.seq (.rg [(ax 13 1),(ai 14 (.FH 1 12 (.t 5) (.t 13))),(ai 15 (.ld (.t 14) none)),(aM 4 15)]) .ret))))
theorem wE:bT Tryd.prog 90 16 [(.tmp 4)] (erase wD):=⟨Tryd.f90,_,rfl,by decide,rfl,by kernel_rfl,rfl,rfl⟩
abbrev oV:List Nat:=[0,1,4,5,12]
def gA:List Int:=[31,28,31,30,31,30,31,31,30,31,30,31]
def jS (m2:Int) (y1:Int):Option (Bool):=
 (if (decide (m2=1)) then
  (kW y1).bind fun r4=>some r4
 else
  some false)
def kX (y1:Int) (m2:Int):Option (Int):=
 (jS m2 y1).bind fun t6=>
 (if t6 then
  some 29
 else
  (mR 12 m2).bind fun j7=>(gA[j7]?).bind fun x8=>some x8)
theorem p9 {m2:Int} {y1:Int} {q3:Nat} {H0 H:AH} (hfr:Fr H0 H0.length [] H) (av:H[q3]? =some (ml (xR .i64) gA)) (hi0:H0.length≤q3) {K:Exit→Env→AH→Prop} {t5:Bool}
 (h:jS m2 y1=some t5)
 (kn:∀H':AH,Fr H0 H0.length [] H'→H'[q3]? =some (ml (xR .i64) gA)→K .normal [(1,(.int .i64 m2)),(5,(.ptr q3 0)),(12,(.bool t5))] H'):
 AX Tryd.prog oV 16 H0.length (erase lF) K [(0,(.int .i64 y1)),(1,(.int .i64 m2)),(5,(.ptr q3 0))] H:=by
 refine e6 fun K' hK=> ?_
 have hle:=hfr.le
 have fo:=gf av
 rw [jS.eq_1] at h
 refine bO av ?_
 refine eu h (fun hy1 h=> ?_) fun hy1 h=> ?_
 · refine bO (aX hy1 av) ?_
   obtain ⟨r4,bL,h⟩:=ay h
   refine bP aB (ng bL) ?_
   refine bO av ?_
   obtain rfl:=aF h
   exact hK _ _ _ _ _ aP aB (kn _ hfr (av.trans rfl))
 · refine bO (aX hy1 av) ?_
   obtain rfl:=aF h
   exact hK _ _ _ _ _ aP aB (kn _ hfr (av.trans rfl))
theorem nh {y1:Int} {m2:Int} {H0:AH} {bf:Int} (h:kX y1 m2=some bf):
 aC Tryd.prog 90 [(.int .i64 y1),(.int .i64 m2)] H0 fun v H'=>v=(.int .i64 bf)∧H'=H0:=by
 refine za wE oV [] (F0:=fun _=>True) trivial fun hcl K0 br H hfr hs=> ?_
 have hle:=hfr.le
 rw [kX.eq_1] at h
 refine bJ ?_
 obtain ⟨q3,Og⟩:∃q:Nat,H.length=q:=⟨_,rfl⟩
 try rw [Og]
 obtain ⟨t6,bM,h⟩:=ay h
 refine cy aB (p9 (q3:=q3) (qF q3 (Fr.app hfr)) BT y9 bM ?_)
 intro H hfr av
 have hle:=hfr.le
 have fo:=gf av
 refine bO av ?_
 refine cc h (fun bF h=> ?_) fun bF h=> ?_
 · refine bO av ?_
   obtain rfl:=aF h
   exact br _ _ _ cC (dX hfr hcl (bS cA (.int .i64 29)) cB bU ⟨rfl,rfl⟩)
 · obtain ⟨j7,bE,h⟩:=ay h
   obtain ⟨x8,bR,h⟩:=ay h
   have cj:=mM (f:=(xR .i64)) bR
   refine bO (aX bE (aX cj av)) ?_
   obtain rfl:=aF h
   exact br _ _ _ cC (dX hfr hcl (bS cA (.int .i64 x8)) cB bU ⟨rfl,rfl⟩)
abbrev lG:az:=(.cond (.t 7) (.rg [(ax 8 5),(ai 9 (.bin .add (.t 8) (.c (.int .i64 1)))),(aM 5 9)]) .skip)
abbrev kz:az:=(.blk 1 (.seq (.rg [(ai 5 (.bg (.c (.int .i64 365))))]) (.seq (.seq (.rg [(ax 6 2),(ai 7 (.call (.c (.fn 89 [])) [(.t 6)]))]) (.sem (erase lG))) (.seq (.seq (.rg [(ax 10 0),(ax 11 5),(ai 12 (.bin .lss (.t 10) (.t 11)))]) (.cond (.t 12) (.exit 0) .skip)) (.seq (.rg [(ax 13 0),(ax 14 5),(ai 15 (.bin .sub (.t 13) (.t 14))),(aM 0 15)]) (.rg [(ax 16 2),(ai 17 (.bin .add (.t 16) (.c (.int .i64 1)))),(aM 2 17)]))))))
abbrev kA:az:=(.seq (.seq (.rg [(ax 18 0),(ax 19 2),(ax 20 3),(ai 21 (.call (.c (.fn 90 [])) [(.t 19),(.t 20)])),(ai 22 (.bin .geq (.t 18) (.t 21)))]) (.cond (.t 22) .skip (.exit 2))) (.blk 3 (.seq (.rg [(ax 23 0),(ax 24 2),(ax 25 3),(ai 26 (.call (.c (.fn 90 [])) [(.t 24),(.t 25)])),(ai 27 (.bin .sub (.t 23) (.t 26))),(aM 0 27)]) (.rg [(ax 28 3),(ai 29 (.bin .add (.t 28) (.c (.int .i64 1)))),(aM 3 29)]))))
abbrev wF:az:=(.seq (.rg [(ai 2 (.bg (.c (.int .i64 0)))),(ai 3 (.bg (.c (.int .i64 0)))),(ai 4 (.bg (.c (.int .i64 0))))]) (.seq (.rg [(ai 2 (.bg (.c (.int .i64 1970))))]) (.seq .skip (.seq (.blk 0 (.loop (erase kz))) (.seq (.blk 2 (.loop (erase kA))) (.seq (.rg [(ax 30 2),(ax 31 3),(ax 32 0),(ai 33 (.bin .add (.t 32) (.c (.int .i64 1)))),(aM 2 30),(aM 3 31),(aM 4 33)]) .ret))))))
theorem wG:bT Tryd.prog 54 34 [(.tmp 2),(.tmp 3),(.tmp 4)] (erase wF):=⟨Tryd.f54,_,rfl,by decide,rfl,by kernel_rfl,rfl,rfl⟩
abbrev iw:List Nat:=[0,2,3,4,5,7,12,22]
def jT (r4:Bool):Option (Int):=
 (if r4 then
  some (IntKind.wrap .i64 (365+1))
 else
  some 365)
def jU:(Int×Int)→Option (St (Int×Int×Int) (Int×Int) (Int×Int))
 |(gb,y3)=>
  (kW y3).bind fun r4=>
  (jT r4).bind fun IW=>
  (if (decide (gb<IW)) then
   some (.fj (gb,y3))
  else
   some (.b7 ((IntKind.wrap .i64 (gb - IW)),(IntKind.wrap .i64 (y3+1)))))
def jV (qK:Int):(Int×Int)→Option (St (Int×Int×Int) (Int×Int) (Int×Int))
 |(oW,m12)=>
  (kX qK m12).bind fun qL=>
  (if (decide (qL≤oW)) then
   (kX qK m12).bind fun IX=>
   some (.b7 ((IntKind.wrap .i64 (oW - IX)),(IntKind.wrap .i64 (m12+1))))
  else
   some (.fj (oW,m12)))
def nM (F:Nat) (gN:Int):Option (Int×Int×Int):=
 ((iter jU F (gN,1970)).bind fun QN=>
 match QN with
 | .inr (QO,qK)=>
   ((iter (jV qK) F (QO,0)).bind fun QS=>
   match QS with
   | .inr (IY,m18)=>
     some (qK,m18,(IntKind.wrap .i64 (IY+1)))
   | .inl _=>none)
 | .inl _=>none)
theorem qa {r4:Bool} {gb:Int} {y3:Int} {H:AH} {K:Exit→Env→AH→Prop} {L3:Int}
 (h:jT r4=some L3)
 (kn:K .normal [(0,(.int .i64 gb)),(2,(.int .i64 y3)),(3,(.int .i64 0)),(5,(.int .i64 L3))] H):
 AX Tryd.prog iw 34 H.length (erase lG) K [(0,(.int .i64 gb)),(2,(.int .i64 y3)),(3,(.int .i64 0)),(5,(.int .i64 365)),(7,(.bool r4))] H:=by
 refine e6 fun K' hK=> ?_
 rw [jT.eq_1] at h
 refine aD ?_
 refine cc h (fun bL h=> ?_) fun bL h=> ?_
 · refine aD ?_
   obtain rfl:=aF h
   exact hK _ _ _ _ _ aP aB kn
 · refine aD ?_
   obtain rfl:=aF h
   exact hK _ _ _ _ _ aP aB kn
theorem qb {F:Nat} {y3:Int} {gb:Int} {H:AH} {K:Exit→Env→AH→Prop} {o:(Int×Int×Int)⊕(Int×Int)}
 (h:iter jU F (gb,y3)=some o)
 (eD:∀o':Int×Int,o= .inr o'→K (.exit 0) [(0,(.int .i64 o'.1)),(2,(.int .i64 o'.2)),(3,(.int .i64 0))] H):
 AX Tryd.prog iw 34 H.length (.loop (erase kz)) K [(0,(.int .i64 gb)),(2,(.int .i64 y3)),(3,(.int .i64 0))] H:=by
 refine jO (fun s e H1=>match s with|(gb,y3)=>e=[(0,(.int .i64 gb)),(2,(.int .i64 y3)),(3,(.int .i64 0))]∧H1=H) h ⟨rfl,rfl⟩ ?_
 rintro K' ⟨gb,y3⟩ st e H ⟨rfl,rfl⟩ h hN hB hR hX
 rw [jU.eq_1] at h
 refine aD ?_
 obtain ⟨r4,hy1,h⟩:=ay h
 refine bP aB (ng hy1) ?_
 refine aD ?_
 obtain ⟨IW,bM,h⟩:=ay h
 refine cy aB (qa (gb:=gb) (y3:=y3) bM ?_)
 refine aD ?_
 refine cc h (fun bF h=> ?_) fun bF h=> ?_
 · refine aD ?_
   obtain rfl:=aF h
   exact hX _ _ _ _ _ fm aP aB (eD _ (hB _ rfl))
 · refine aD ?_
   obtain rfl:=aF h
   exact hN _ rfl _ _ _ _ aP aB ⟨rfl,rfl⟩
theorem qc {F:Nat} {qK:Int} {m12:Int} {oW:Int} {H:AH} {K:Exit→Env→AH→Prop} {o:(Int×Int×Int)⊕(Int×Int)}
 (h:iter (jV qK) F (oW,m12)=some o)
 (IT:∀o':Int×Int,o= .inr o'→K (.exit 2) [(0,(.int .i64 o'.1)),(2,(.int .i64 qK)),(3,(.int .i64 o'.2))] H):
 AX Tryd.prog iw 34 H.length (.loop (erase kA)) K [(0,(.int .i64 oW)),(2,(.int .i64 qK)),(3,(.int .i64 m12))] H:=by
 refine jO (fun s e H1=>match s with|(oW,m12)=>e=[(0,(.int .i64 oW)),(2,(.int .i64 qK)),(3,(.int .i64 m12))]∧H1=H) h ⟨rfl,rfl⟩ ?_
 rintro K' ⟨oW,m12⟩ st e H ⟨rfl,rfl⟩ h hN hB hR hX
 rw [jV.eq_1] at h
 refine aD ?_
 obtain ⟨qL,bR,h⟩:=ay h
 refine bP aB (nh bR) ?_
 refine aD ?_
 refine cc h (fun cj h=> ?_) fun cj h=> ?_
 · refine aD ?_
   obtain ⟨IX,cE,h⟩:=ay h
   refine bP aB (nh cE) ?_
   refine aD ?_
   obtain rfl:=aF h
   exact hN _ rfl _ _ _ _ aP aB ⟨rfl,rfl⟩
 · refine aD ?_
   obtain rfl:=aF h
   exact hX _ _ _ _ _ fm aP aB (IT _ (hB _ rfl))
theorem tQ {F:Nat} {gN:Int} {H0:AH} {bf:Int} {mz:Int} {QT:Int} (h:nM F gN=some (bf,mz,QT)):
 aC Tryd.prog 54 [(.int .i64 gN)] H0 fun v H'=>v=(.aK [(.int .i64 bf),(.int .i64 mz),(.int .i64 QT)])∧H'=H0:=by
 refine gS wG iw fun hcl K0 br=> ?_
 rw [nM.eq_1] at h
 refine aD ?_
 obtain ⟨QN,bE,h⟩:=ay h
 refine cy aB (qb bE ?_)
 · rintro ⟨QO,qK⟩ rfl
   try dsimp only at h
   refine aD ?_
   obtain ⟨QS,fJ,h⟩:=ay h
   refine cy aB (qc fJ ?_)
   · rintro ⟨IY,m18⟩ rfl
     try dsimp only at h
     refine aD ?_
     obtain ⟨rfl,rfl,rfl⟩:=L1 h
     exact br _ _ _ cC (aJ hcl (bS (bS (bS cA (.int .i64 (IntKind.wrap .i64 (IY+1)))) (.int .i64 m18)) (.int .i64 qK)) cB bU ⟨rfl,rfl⟩)
abbrev zg:az:=(.seq (.rg [(ai 2 (.bg (.c (.str []))))]) (.seq (.rg [(ax 3 0),(ai 4 (.bin .quo (.t 3) (.c (.int .i64 10)))),(ai 5 (.call (.c (.fn 91 [])) [(.t 4)])),(ax 6 0),(ai 7 (.bin .rem (.t 6) (.c (.int .i64 10)))),(ai 8 (.call (.c (.fn 91 [])) [(.t 7)])),(ai 9 (.bin .add (.t 5) (.t 8))),(aM 2 9)]) .ret))
theorem zh:bT Tryd.prog 55 10 [(.tmp 2)] (erase zg):=⟨Tryd.f55,_,rfl,by decide,rfl,by kernel_rfl,rfl,rfl⟩
abbrev zi:List Nat:=[0,2]
def fC (gN:Int):Option ((List UInt8)):=
 (strconv_Itoa (IntKind.wrap .i64 (Int.tdiv gN 10))).bind fun r2=>
 (strconv_Itoa (Int.tmod gN 10)).bind fun r3=>(cat r2 r3).bind fun x4=>some x4
theorem eN {gN:Int} {H0:AH} {bf:List UInt8} (h:fC gN=some bf):
 aC Tryd.prog 55 [(.int .i64 gN)] H0 fun v H'=>v=(.str bf)∧H'=H0:=by
 refine gS zh zi fun hcl K0 br=> ?_
 rw [fC.eq_1] at h
 have hy1:dv .i64 gN 10=some (IntKind.wrap .i64 (Int.tdiv gN 10)):=rfl
 refine bn hy1 ?_
 obtain ⟨r2,bL,h⟩:=ay h
 refine bP aB (j8 (i1:=(IntKind.wrap .i64 (Int.tdiv gN 10))) bL) ?_
 refine aD ?_
 have bM:rm .i64 gN 10=some (Int.tmod gN 10):=rfl
 refine bn bM ?_
 obtain ⟨r3,bF,h⟩:=ay h
 refine bP aB (j8 (i1:=(Int.tmod gN 10)) bF) ?_
 refine aD ?_
 obtain ⟨x4,bE,h⟩:=ay h
 refine bn bE ?_
 obtain rfl:=aF h
 exact br _ _ _ cC (aJ hcl (bS cA (.str x4)) cB bU ⟨rfl,rfl⟩)
abbrev wH:az:=(.seq (.rg [(ai 2 (.bg (.c (.str []))))]) (.seq (.rg [(ax 3 0),(ai 4 (.bin .quo (.t 3) (.c (.int .i64 100)))),(ai 5 (.call (.c (.fn 55 [])) [(.t 4)])),(ax 6 0),(ai 7 (.bin .rem (.t 6) (.c (.int .i64 100)))),(ai 8 (.call (.c (.fn 55 [])) [(.t 7)])),(ai 9 (.bin .add (.t 5) (.t 8))),(aM 2 9)]) .ret))
theorem wI:bT Tryd.prog 56 10 [(.tmp 2)] (erase wH):=⟨Tryd.f56,_,rfl,by decide,rfl,by kernel_rfl,rfl,rfl⟩
abbrev wJ:List Nat:=[0,2]
def nN (gN:Int):Option ((List UInt8)):=
 (fC (IntKind.wrap .i64 (Int.tdiv gN 100))).bind fun r2=>
 (fC (Int.tmod gN 100)).bind fun r3=>(cat r2 r3).bind fun x4=>some x4
theorem tR {gN:Int} {H0:AH} {bf:List UInt8} (h:nN gN=some bf):
 aC Tryd.prog 56 [(.int .i64 gN)] H0 fun v H'=>v=(.str bf)∧H'=H0:=by
 refine gS wI wJ fun hcl K0 br=> ?_
 rw [nN.eq_1] at h
 have hy1:dv .i64 gN 100=some (IntKind.wrap .i64 (Int.tdiv gN 100)):=rfl
 refine bn hy1 ?_
 obtain ⟨r2,bL,h⟩:=ay h
 refine bP aB (eN bL) ?_
 refine aD ?_
 have bM:rm .i64 gN 100=some (Int.tmod gN 100):=rfl
 refine bn bM ?_
 obtain ⟨r3,bF,h⟩:=ay h
 refine bP aB (eN bF) ?_
 refine aD ?_
 obtain ⟨x4,bE,h⟩:=ay h
 refine bn bE ?_
 obtain rfl:=aF h
 exact br _ _ _ cC (aJ hcl (bS cA (.str x4)) cB bU ⟨rfl,rfl⟩)
abbrev wK:az:=(.seq (.rg [(ai 2 (.bg (.c (.str []))))]) (.seq (.rg [(ax 9 0),(ai 10 (.mm true (.t 9) (.c (.int .i64 0)))),(ai 11 (.mm false (.t 10) (.c (.int .i64 253402300799)))),(aM 0 11)]) (.seq (.rg [(ax 12 0),(ai 13 (.bin .quo (.t 12) (.c (.int .i64 86400)))),(ax 14 0),(ai 15 (.bin .rem (.t 14) (.c (.int .i64 86400)))),(aM 3 13),(aM 4 15)]) (.seq (.rg [(ax 17 3),(ai 18 (.call (.c (.fn 54 [])) [(.t 17)])),(ax 16 18),(ai 19 (.ext (.t 16) 0)),(ai 20 (.ext (.t 16) 1)),(ai 21 (.ext (.t 16) 2)),(aM 5 19),(aM 6 20),(aM 7 21)]) (.seq (.rg [(ax 22 3),(ai 23 (.bin .rem (.t 22) (.c (.int .i64 7)))),(aM 8 23)]) (.seq (.rg ((ax 24 8)::(ai 25 (.bin .mul (.c (.int .i64 3)) (.t 24)))::(ax 26 8)::(ai 27 (.bin .mul (.c (.int .i64 3)) (.t 26)))::(ai 28 (.bin .add (.t 27) (.c (.int .i64 3))))::(ai 29 (.uI (.c (.str [84,104,117,70,114,105,83,97,116,83,117,110,77,111,110,84,117,101,87,101,100])) (some (.t 25)) (some (.t 28))))::(ai 30 (.bin .add (.t 29) (.c (.str [44,32]))))::(ax 31 7)::(ax 35 6)::(ai 36 (.bin .mul (.c (.int .i64 3)) (.t 35)))::(ax 37 6)::(ai 38 (.bin .mul (.c (.int .i64 3)) (.t 37)))::(ai 39 (.bin .add (.t 38) (.c (.int .i64 3))))::(ai 40 (.uI (.c (.str (74::97::110::70::101::98::77::97::114::65::112::114::77::97::121::74::117::110::74::117::108::65::117::103::83::101::112::79::99::116::78::111::118::68::101::99::[]))) (some (.t 36)) (some (.t 39))))::(ax 43 5)::(ax 47 4)::(ai 48 (.bin .quo (.t 47) (.c (.int .i64 3600))))::(ax 52 4)::(ai 53 (.bin .quo (.t 52) (.c (.int .i64 60))))::(ai 54 (.bin .rem (.t 53) (.c (.int .i64 60))))::(ax 58 4)::(ai 59 (.bin .rem (.t 58) (.c (.int .i64 60))))::(ai 32 (.call (.c (.fn 55 [])) [(.t 31)]))::(ai 33 (.bin .add (.t 30) (.t 32)))::(ai 34 (.bin .add (.t 33) (.c (.str [32]))))::(ai 41 (.bin .add (.t 34) (.t 40)))::(ai 42 (.bin .add (.t 41) (.c (.str [32]))))::(ai 44 (.call (.c (.fn 56 [])) [(.t 43)]))::(ai 45 (.bin .add (.t 42) (.t 44)))::(ai 46 (.bin .add (.t 45) (.c (.str [32]))))::(ai 49 (.call (.c (.fn 55 [])) [(.t 48)]))::(ai 50 (.bin .add (.t 46) (.t 49)))::(ai 51 (.bin .add (.t 50) (.c (.str [58]))))::(ai 55 (.call (.c (.fn 55 [])) [(.t 54)]))::(ai 56 (.bin .add (.t 51) (.t 55)))::(ai 57 (.bin .add (.t 56) (.c (.str [58]))))::(ai 60 (.call (.c (.fn 55 [])) [(.t 59)]))::(ai 61 (.bin .add (.t 57) (.t 60)))::(ai 62 (.bin .add (.t 61) (.c (.str [32,43,48,48,48,48]))))::(aM 2 62)::[])) .ret))))))
theorem wL:bT Tryd.prog 15 63 [(.tmp 2)] (erase wK):=⟨Tryd.f15,_,rfl,by decide,rfl,by kernel_rfl,rfl,rfl⟩
abbrev wM:List Nat:=[0,2,3,4,5,6,7,8]
def nO (F:Nat) (t1:Int):Option ((List UInt8)):=
 (nM F (IntKind.wrap .i64 (Int.tdiv (min (max t1 0) 253402300799) 86400))).bind fun (r2,r3,r4)=>
 (sub ([84,104,117,70,114,105,83,97,116,83,117,110,77,111,110,84,117,101,87,101,100]:List UInt8) (IntKind.wrap .i64 (3*(Int.tmod (IntKind.wrap .i64 (Int.tdiv (min (max t1 0) 253402300799) 86400)) 7))) (IntKind.wrap .i64 ((IntKind.wrap .i64 (3*(Int.tmod (IntKind.wrap .i64 (Int.tdiv (min (max t1 0) 253402300799) 86400)) 7)))+3))).bind fun x5=>
 (cat x5 ([44,32]:List UInt8)).bind fun x6=>
 (sub ((74::97::110::70::101::98::77::97::114::65::112::114::77::97::121::74::117::110::74::117::108::65::117::103::83::101::112::79::99::116::78::111::118::68::101::99::[]):List UInt8) (IntKind.wrap .i64 (3*r3)) (IntKind.wrap .i64 ((IntKind.wrap .i64 (3*r3))+3))).bind fun x7=>
 (fC r4).bind fun r8=>
 (cat x6 r8).bind fun x9=>
 (cat x9 ([32]:List UInt8)).bind fun oI=>
 (cat oI x7).bind fun iM=>
 (cat iM ([32]:List UInt8)).bind fun Fy=>
 (nN r2).bind fun qL=>
 (cat Fy qL).bind fun IZ=>
 (cat IZ ([32]:List UInt8)).bind fun lN=>
 (fC (IntKind.wrap .i64 (Int.tdiv (Int.tmod (min (max t1 0) 253402300799) 86400) 3600))).bind fun r16=>
 (cat lN r16).bind fun I0=>
 (cat I0 ([58]:List UInt8)).bind fun wN=>
 (fC (Int.tmod (IntKind.wrap .i64 (Int.tdiv (Int.tmod (min (max t1 0) 253402300799) 86400) 60)) 60)).bind fun zj=>
 (cat wN zj).bind fun IU=>
 (cat IU ([58]:List UInt8)).bind fun wz=>
 (fC (Int.tmod (Int.tmod (min (max t1 0) 253402300799) 86400) 60)).bind fun QU=>
 (cat wz QU).bind fun QV=>
 (cat QV ([32,43,48,48,48,48]:List UInt8)).bind fun Oh=>some Oh
theorem tS {F:Nat} {t1:Int} {H0:AH} {bf:List UInt8} (h:nO F t1=some bf):
 aC Tryd.prog 15 [(.int .i64 t1)] H0 fun v H'=>v=(.str bf)∧H'=H0:=by
 refine gS wL wM fun hcl K0 br=> ?_
 rw [nO.eq_1] at h
 have hy1:dv .i64 (min (max t1 0) 253402300799) 86400=some (IntKind.wrap .i64 (Int.tdiv (min (max t1 0) 253402300799) 86400)):=rfl
 have bL:rm .i64 (min (max t1 0) 253402300799) 86400=some (Int.tmod (min (max t1 0) 253402300799) 86400):=rfl
 refine bn (aX hy1 bL) ?_
 obtain ⟨⟨r2,r3,r4⟩,bM,h⟩:=ay h
 dsimp only at h
 refine bP aB (tQ bM) ?_
 refine aD ?_
 have bF:rm .i64 (IntKind.wrap .i64 (Int.tdiv (min (max t1 0) 253402300799) 86400)) 7=some (Int.tmod (IntKind.wrap .i64 (Int.tdiv (min (max t1 0) 253402300799) 86400)) 7):=rfl
 obtain ⟨x5,bE,h⟩:=ay h
 obtain ⟨x6,bR,h⟩:=ay h
 obtain ⟨x7,cj,h⟩:=ay h
 have cE:dv .i64 (Int.tmod (min (max t1 0) 253402300799) 86400) 3600=some (IntKind.wrap .i64 (Int.tdiv (Int.tmod (min (max t1 0) 253402300799) 86400) 3600)):=rfl
 have fJ:dv .i64 (Int.tmod (min (max t1 0) 253402300799) 86400) 60=some (IntKind.wrap .i64 (Int.tdiv (Int.tmod (min (max t1 0) 253402300799) 86400) 60)):=rfl
 have dm:rm .i64 (IntKind.wrap .i64 (Int.tdiv (Int.tmod (min (max t1 0) 253402300799) 86400) 60)) 60=some (Int.tmod (IntKind.wrap .i64 (Int.tdiv (Int.tmod (min (max t1 0) 253402300799) 86400) 60)) 60):=rfl
 have eH:rm .i64 (Int.tmod (min (max t1 0) 253402300799) 86400) 60=some (Int.tmod (Int.tmod (min (max t1 0) 253402300799) 86400) 60):=rfl
 refine bn (aX bF (aX bE (aX bR (aX cj (aX cE (aX fJ (aX dm eH))))))) ?_
 obtain ⟨r8,c6,h⟩:=ay h
 refine bP aB (eN c6) ?_
 refine aD ?_
 obtain ⟨x9,iP,h⟩:=ay h
 obtain ⟨oI,mq,h⟩:=ay h
 obtain ⟨iM,oP,h⟩:=ay h
 obtain ⟨Fy,mu,h⟩:=ay h
 refine bn (aX iP (aX mq (aX oP mu))) ?_
 obtain ⟨qL,mZ,h⟩:=ay h
 refine bP aB (tR mZ) ?_
 refine aD ?_
 obtain ⟨IZ,nc,h⟩:=ay h
 obtain ⟨lN,mw,h⟩:=ay h
 refine bn (aX nc mw) ?_
 obtain ⟨r16,sA,h⟩:=ay h
 refine bP aB (eN sA) ?_
 refine aD ?_
 obtain ⟨I0,mo,h⟩:=ay h
 obtain ⟨wN,sy,h⟩:=ay h
 refine bn (aX mo sy) ?_
 obtain ⟨zj,sB,h⟩:=ay h
 refine bP aB (eN sB) ?_
 refine aD ?_
 obtain ⟨IU,sC,h⟩:=ay h
 obtain ⟨wz,qx,h⟩:=ay h
 refine bn (aX sC qx) ?_
 obtain ⟨QU,uF,h⟩:=ay h
 refine bP aB (eN uF) ?_
 refine aD ?_
 obtain ⟨QV,oR,h⟩:=ay h
 obtain ⟨Oh,zk,h⟩:=ay h
 refine bn (aX oR zk) ?_
 obtain rfl:=aF h
 exact br _ _ _ cC (aJ hcl (bS cA (.str Oh)) cB bU ⟨rfl,rfl⟩)
abbrev js:az:=(.rg ((ax 16 1)::(ai 17 (.len (.t 16)))::(ai 18 (.bin .eql (.t 17) (.c (.int .i64 2))))::(ax 19 18)::(aE 20 (.mv (.t 1)) 19 true)::(aE 21 (.dV 2 (.t 20) (.c (.int .i64 0))) 19 true)::(aE 22 (.gH (.t 21) 1) 19 true)::(aE 23 (.ld (.t 22) none) 19 true)::(aE 24 (.bin .eql (.t 23) (.c (.str [32,49,13,10,32,109,111,114,101]))) 19 true)::(ai 25 (.pick (.t 19) (.t 24) (.c (.bool false))))::(ax 26 25)::(aE 27 (.mv (.t 2)) 26 true)::(aE 28 (.eZ .bs (.t 27)) 26 true)::(aE 29 (.bin .eql (.t 28) (.c (.str [98,111,100,121,13,10]))) 26 true)::(ai 30 (.pick (.t 26) (.t 29) (.c (.bool false))))::(ax 31 30)::(aE 32 (.mv (.t 3)) 31 true)::(aE 33 (.bin .eql (.t 32) (.c (.str [50]))) 31 true)::(ai 34 (.pick (.t 31) (.t 33) (.c (.bool false))))::(ax 35 34)::(aE 36 (.mv (.t 4)) 35 true)::(aE 37 (.bin .eql (.t 36) (.c (.int .i64 1))) 35 true)::(ai 38 (.pick (.t 35) (.t 37) (.c (.bool false))))::(ax 39 38)::(aE 40 (.call (.c (.fn 15 [])) [(.c (.int .i64 951782400))]) 39 true)::(aE 41 (.bin .eql (.t 40) (.c (.str (84::117::101::44::32::50::57::32::70::101::98::32::50::48::48::48::32::48::48::58::48::48::58::48::48::32::43::48::48::48::48::[])))) 39 true)::(ai 42 (.pick (.t 39) (.t 41) (.c (.bool false))))::(ax 43 42)::(aE 44 (.call (.c (.fn 25 [])) [(.c (.str [88,45,121]))]) 43 true)::(ai 45 (.pick (.t 43) (.t 44) (.c (.bool false))))::(ax 46 45)::(aE 47 (.call (.c (.fn 25 [])) [(.c (.str [97,32,98]))]) 46 true)::(aE 48 (.un .not (.t 47)) 46 true)::(ai 49 (.pick (.t 46) (.t 48) (.c (.bool false))))::(aM 0 49)::[]))
abbrev sF:az:=(.seq (.rg [(ai 0 (.bg (.c (.bool false))))]) (.seq (.rg [(ai 7 (.lit 6 [65,58,32,49,13,10,32,109,111,114,101,13,10,66,58,50,13,10,13,10,98,111,100,121])),(ai 8 (.call (.c (.fn 18 [])) [(.t 7)])),(ax 5 8),(ai 9 (.ext (.t 5) 0)),(ai 10 (.ext (.t 5) 1)),(aM 1 9),(aM 2 10)]) (.seq (.rg [(ax 12 1),(ai 13 (.call (.c (.fn 19 [])) [(.t 12),(.c (.str [98]))])),(ax 11 13),(ai 14 (.ext (.t 11) 0)),(ai 15 (.ext (.t 11) 1)),(aM 3 14),(aM 4 15)]) (.seq (.sem (erase js)) .ret))))
theorem sG:bT Tryd.prog 14 50 [(.tmp 0)] (erase sF):=⟨Tryd.f14,_,rfl,by decide,rfl,by kernel_rfl,rfl,rfl⟩
abbrev mB:List Nat:=[0,1,2,3,4]
def gU (F:Nat) (r1:List aj) (r2:List UInt8) (r3:List UInt8) (r4:Int):Option (Bool):=
 (if (decide ((r1.length:Int)=2)) then
  (idx r1 0).bind fun x5=>
  (if (decide (x5.value=([32,49,13,10,32,109,111,114,101]:List UInt8))) then
   (if (decide (r2=([98,111,100,121,13,10]:List UInt8))) then
    (if (decide (r3=([50]:List UInt8))) then
     (if (decide (r4=1)) then
      (nO F 951782400).bind fun r6=>
      (if (decide (r6=((84::117::101::44::32::50::57::32::70::101::98::32::50::48::48::48::32::48::48::58::48::48::58::48::48::32::43::48::48::48::48::[]):List UInt8))) then
       (dQ F ([88,45,121]:List UInt8)).bind fun r7=>
       (if r7 then
        (dQ F ([97,32,98]:List UInt8)).bind fun r8=>some (!r8)
       else
        some false)
      else
       some false)
     else
      some false)
    else
     some false)
   else
    some false)
  else
   some false)
 else
  some false)
def fQ (F:Nat):Option (Bool):=
 (eG F ([65,58,32,49,13,10,32,109,111,114,101,13,10,66,58,50,13,10,13,10,98,111,100,121]:List UInt8)).bind fun (r1,r2)=>
 (gy F r1 ([98]:List UInt8)).bind fun (r3,r4)=>(gU F r1 r2 r3 r4).bind fun t10=>
 some t10
theorem nP {F:Nat} {r1:List aj} {r2:List UInt8} {r3:List UInt8} {r4:Int} {H:AH} {K:Exit→Env→AH→Prop} {t9:Bool}
 (h:gU F r1 r2 r3 r4=some t9)
 (kn:K .normal [(0,(.bool t9))] H):
 AX Tryd.prog mB 50 H.length (erase js) K [(0,(.bool false)),(1,(.sl .n 2 (ml ak r1))),(2,(.sl .n 1 (ml b8 r2))),(3,(.str r3)),(4,(.int .i64 r4))] H:=by
 refine e6 fun K' hK=> ?_
 rw [gU.eq_1] at h
 refine aD ?_
 refine eu h (fun bM h=> ?_) fun bM h=> ?_
 · obtain ⟨x5,bF,h⟩:=ay h
   refine bn (aX bM bF) ?_
   refine eu h (fun bE h=> ?_) fun bE h=> ?_
   · refine bn bE ?_
     refine eu h (fun bR h=> ?_) fun bR h=> ?_
     · refine bn bR ?_
       refine eu h (fun cj h=> ?_) fun cj h=> ?_
       · refine bn cj ?_
         refine eu h (fun cE h=> ?_) fun cE h=> ?_
         · refine bn cE ?_
           obtain ⟨r6,fJ,h⟩:=ay h
           refine bP aB (tS fJ) ?_
           refine aD ?_
           refine eu h (fun dm h=> ?_) fun dm h=> ?_
           · refine bn dm ?_
             obtain ⟨r7,eH,h⟩:=ay h
             refine bP aB (e9 eH) ?_
             refine aD ?_
             refine eu h (fun c6 h=> ?_) fun c6 h=> ?_
             · refine bn c6 ?_
               obtain ⟨r8,iP,h⟩:=ay h
               refine bP aB (e9 iP) ?_
               refine aD ?_
               obtain rfl:=aF h
               exact hK _ _ _ _ _ aP aB kn
             · refine bn c6 ?_
               obtain rfl:=aF h
               exact hK _ _ _ _ _ aP aB kn
           · refine bn dm ?_
             obtain rfl:=aF h
             exact hK _ _ _ _ _ aP aB kn
         · refine bn cE ?_
           obtain rfl:=aF h
           exact hK _ _ _ _ _ aP aB kn
       · refine bn cj ?_
         obtain rfl:=aF h
         exact hK _ _ _ _ _ aP aB kn
     · refine bn bR ?_
       obtain rfl:=aF h
       exact hK _ _ _ _ _ aP aB kn
   · refine bn bE ?_
     obtain rfl:=aF h
     exact hK _ _ _ _ _ aP aB kn
 · refine bn bM ?_
   obtain rfl:=aF h
   exact hK _ _ _ _ _ aP aB kn
theorem lH {F:Nat} {H0:AH} {bf:Bool} (h:fQ F=some bf):
 aC Tryd.prog 14 [] H0 fun v H'=>v=(.bool bf)∧H'=H0:=by
 refine gS sG mB fun hcl K0 br=> ?_
 rw [fQ.eq_1] at h
 refine aD ?_
 obtain ⟨⟨r1,r2⟩,hy1,h⟩:=ay h
 dsimp only at h
 refine bP aB (iQ hy1) ?_
 refine aD ?_
 obtain ⟨⟨r3,r4⟩,bL,h⟩:=ay h
 dsimp only at h
 refine bP aB (kV bL) ?_
 refine aD ?_
 obtain ⟨t10,mq,h⟩:=ay h
 refine cy aB (nP mq ?_)
 refine aD ?_
 obtain rfl:=aF h
 exact br _ _ _ cC (aJ hcl (bS cA (.bool t10)) cB bU ⟨rfl,rfl⟩)
abbrev kB:az:=(.rg [(ax 5 0),(ai 6 (.len (.t 5))),(ax 7 1),(ai 8 (.lens (.t 7))),(ai 9 (.bin .geq (.t 6) (.t 8))),(ax 10 9),(aE 11 (.mv (.t 0)) 10 true),(aE 12 (.mv (.t 0)) 10 true),(aE 13 (.len (.t 12)) 10 true),(aE 14 (.mv (.t 1)) 10 true),(aE 15 (.lens (.t 14)) 10 true),(aE 16 (.bin .sub (.t 13) (.t 15)) 10 true),(aE 17 (.slc 1 (.t 11) (some (.t 16)) none none) 10 true),(aE 18 (.eZ .bs (.t 17)) 10 true),(aE 19 (.mv (.t 1)) 10 true),(aE 20 (.bin .eql (.t 18) (.t 19)) 10 true),(ai 21 (.pick (.t 10) (.t 20) (.c (.bool false)))),(aM 4 21)])
abbrev tT:az:=(.seq (.rg [(ai 4 (.bg (.c (.bool false))))]) (.seq (.sem (erase kB)) .ret))
theorem tU:bT Tryd.prog 66 22 [(.tmp 4)] (erase tT):=⟨Tryd.f66,_,rfl,by decide,rfl,by kernel_rfl,rfl,rfl⟩
abbrev ni:List Nat:=[0,1,4]
def fR (iS:List UInt8) (b1:List UInt8):Option (Bool):=
 (if (decide ((iS.length:Int)≤(b1.length:Int))) then
  (sub b1 (IntKind.wrap .i64 ((b1.length:Int) - (iS.length:Int))) (b1.length:Int)).bind fun x3=>some (decide (x3=iS))
 else
  some false)
def gO (b1:List UInt8) (iS:List UInt8):Option (Bool):=
 (fR iS b1).bind fun t5=>
 some t5
theorem oX {iS:List UInt8} {b1:List UInt8} {H:AH} {K:Exit→Env→AH→Prop} {t4:Bool}
 (h:fR iS b1=some t4)
 (kn:K .normal [(4,(.bool t4))] H):
 AX Tryd.prog ni 22 H.length (erase kB) K [(0,(.sl .n 1 (ml b8 b1))),(1,(.str iS)),(4,(.bool false))] H:=by
 refine e6 fun K' hK=> ?_
 rw [fR.eq_1] at h
 refine aD ?_
 refine eu h (fun hy1 h=> ?_) fun hy1 h=> ?_
 · obtain ⟨x3,bL,h⟩:=ay h
   have bM:=v7 (f:=b8) bL
   refine bn (aX hy1 bL) ?_
   obtain rfl:=aF h
   exact hK _ _ _ _ _ aP aB kn
 · refine bn hy1 ?_
   obtain rfl:=aF h
   exact hK _ _ _ _ _ aP aB kn
theorem sH {b1:List UInt8} {iS:List UInt8} {H0:AH} {bf:Bool} (h:gO b1 iS=some bf):
 aC Tryd.prog 66 [(.sl .n 1 (ml b8 b1)),(.str iS)] H0 fun v H'=>v=(.bool bf)∧H'=H0:=by
 refine gS tU ni fun hcl K0 br=> ?_
 rw [gO.eq_1] at h
 refine aD ?_
 obtain ⟨t5,bF,h⟩:=ay h
 refine cy aB (oX bF ?_)
 refine aD ?_
 obtain rfl:=aF h
 exact br _ _ _ cC (aJ hcl (bS cA (.bool t5)) cB bU ⟨rfl,rfl⟩)
abbrev jt:az:=(.rg [(ax 3 0),(ai 4 (.len (.t 3))),(ai 5 (.bin .eql (.t 4) (.c (.int .i64 0)))),(ax 6 5),(aE 7 (.mv (.t 0)) 6 false),(aE 8 (.call (.c (.fn 66 [])) [(.t 7),(.c (.str [13,10]))]) 6 false),(ai 9 (.pick (.t 6) (.c (.bool true)) (.t 8)))])
abbrev sI:az:=(.seq (.rg [(ai 2 (.bg (.c (.sl .ex 1 []))))]) (.seq (.seq (.sem (erase jt)) (.cond (.t 9) (.seq (.rg [(ai 10 (.mP 1 [])),(ax 11 0),(ai 12 (.app 1 1 (.t 10) (.t 11))),(aM 2 12)]) .ret) .skip)) (.seq (.rg [(ai 13 (.mP 1 [])),(ax 14 0),(ai 15 (.app 1 1 (.t 13) (.t 14))),(ai 16 (.mP 1 [(.c (b8 13)),(.c (b8 10))])),(ai 17 (.app 1 1 (.t 15) (.t 16))),(aM 2 17)]) .ret)))
theorem sJ:bT Tryd.prog 31 18 [(.tmp 2)] (erase sI):=⟨Tryd.f31,_,rfl,by decide,rfl,by kernel_rfl,rfl,rfl⟩
abbrev mC:List Nat:=[0,2,9]
def dY (b1:List UInt8):Option (Bool):=
 (if (decide ((b1.length:Int)=0)) then
  some true
 else
  (gO b1 ([13,10]:List UInt8)).bind fun r2=>some r2)
def dS (b1:List UInt8):Option ((List UInt8)):=
 (dY b1).bind fun t4=>
 (if t4 then
  (cx 1 ([]:List UInt8) b1).bind fun x5=>some x5
 else
  (cx 1 ([]:List UInt8) b1).bind fun x6=>(cx 1 x6 ([13,10]:List UInt8)).bind fun x7=>some x7)
theorem nQ {b1:List UInt8} {H:AH} {K:Exit→Env→AH→Prop} {t3:Bool}
 (h:dY b1=some t3)
 (kn:K .normal [(0,(.sl .n 1 (ml b8 b1))),(9,(.bool t3))] H):
 AX Tryd.prog mC 18 H.length (erase jt) K [(0,(.sl .n 1 (ml b8 b1)))] H:=by
 refine e6 fun K' hK=> ?_
 rw [dY.eq_1] at h
 refine aD ?_
 refine eu h (fun hy1 h=> ?_) fun hy1 h=> ?_
 · refine bn hy1 ?_
   obtain rfl:=aF h
   exact hK _ _ _ _ _ aP aB kn
 · refine bn hy1 ?_
   obtain ⟨r2,bL,h⟩:=ay h
   refine bP aB (sH bL) ?_
   refine aD ?_
   obtain rfl:=aF h
   exact hK _ _ _ _ _ aP aB kn
theorem gV {b1:List UInt8} {H0:AH} {bf:List UInt8} (h:dS b1=some bf):
 aC Tryd.prog 31 [(.sl .n 1 (ml b8 b1))] H0 fun v H'=>v=(.sl .own 1 (ml b8 bf))∧H'=H0:=by
 refine gS sJ mC fun hcl K0 br=> ?_
 rw [dS.eq_1] at h
 refine aD ?_
 obtain ⟨t4,bM,h⟩:=ay h
 refine cy aB (nQ bM ?_)
 refine aD ?_
 refine cc h (fun bF h=> ?_) fun bF h=> ?_
 · obtain ⟨x5,bE,h⟩:=ay h
   have bR:cx 1 [] (ml b8 b1)=some (ml b8 x5):=fO (f:=b8) bE
   refine bn bR ?_
   obtain rfl:=aF h
   exact br _ _ _ cC (aJ hcl (bS cA (.sl .own 1 (ml b8 x5))) cB bU ⟨rfl,rfl⟩)
 · obtain ⟨x6,cj,h⟩:=ay h
   have cE:cx 1 [] (ml b8 b1)=some (ml b8 x6):=fO (f:=b8) cj
   obtain ⟨x7,fJ,h⟩:=ay h
   have dm:cx 1 (ml b8 x6) [(b8 13),(b8 10)]=some (ml b8 x7):=fO (f:=b8) fJ
   refine bn (aX cE dm) ?_
   obtain rfl:=aF h
   exact br _ _ _ cC (aJ hcl (bS cA (.sl .own 1 (ml b8 x7))) cB bU ⟨rfl,rfl⟩)
abbrev kC:az:=(.rg [(ax 4 0),(ai 5 (.bin .eql (.t 4) (.c (.str [])))),(ax 6 5),(aE 7 (.mv (.t 0)) 6 false),(aE 8 (.lens (.t 7)) 6 false),(aE 9 (.bin .gtr (.t 8) (.c (.int .i64 76))) 6 false),(ai 10 (.pick (.t 6) (.c (.bool true)) (.t 9)))])
abbrev kD:az:=(.rg [(ax 17 0),(ax 18 3),(ai 19 (.ixs (.t 17) (.t 18))),(ai 20 (.bin .lss (.t 19) (.c (b8 33)))),(ax 21 20),(aE 22 (.mv (.t 0)) 21 false),(aE 23 (.mv (.t 3)) 21 false),(aE 24 (.ixs (.t 22) (.t 23)) 21 false),(aE 25 (.bin .gtr (.t 24) (.c (b8 126))) 21 false),(ai 26 (.pick (.t 21) (.c (.bool true)) (.t 25))),(ax 27 26),(aE 28 (.mv (.t 0)) 27 false),(aE 29 (.mv (.t 3)) 27 false),(aE 30 (.ixs (.t 28) (.t 29)) 27 false),(aE 31 (.bin .eql (.t 30) (.c (b8 58))) 27 false),(ai 32 (.pick (.t 27) (.c (.bool true)) (.t 31)))])
abbrev ju:az:=(.seq (.seq (.rg [(ax 11 3),(ax 12 0),(ai 13 (.lens (.t 12))),(ai 14 (.bin .lss (.t 11) (.t 13)))]) (.cond (.t 14) .skip (.exit 0))) (.seq (.blk 1 (.seq (.sem (erase kD)) (.cond (.t 32) (.seq (.rg [(ai 2 (.bg (.c (.bool false))))]) .ret) .skip))) (.rg [(ax 15 3),(ai 16 (.bin .add (.t 15) (.c (.int .i64 1)))),(aM 3 16)])))
abbrev tV:az:=(.seq (.rg [(ai 2 (.bg (.c (.bool false))))]) (.seq (.seq (.sem (erase kC)) (.cond (.t 10) (.seq (.rg [(ai 2 (.bg (.c (.bool false))))]) .ret) .skip)) (.seq (.seq (.rg [(ai 3 (.bg (.c (.int .i64 0))))]) (.blk 0 (.loop (erase ju)))) (.seq (.rg [(ai 2 (.bg (.c (.bool true))))]) .ret))))
theorem tW:bT Tryd.prog 26 33 [(.tmp 2)] (erase tV):=⟨Tryd.f26,_,rfl,by decide,rfl,by kernel_rfl,rfl,rfl⟩
abbrev gE:List Nat:=[0,2,3,10,14,32]
def eI (s1:List UInt8) (i2:Int):Option (Bool):=
 (idx s1 i2).bind fun x3=>
 (if (decide (x3<33)) then
  some true
 else
  (if (decide (126<x3)) then
   some true
  else
   some (decide (x3=58))))
def cU (s1:List UInt8):Int→Option (St Bool Unit Int)
 |i2=>
  (if (decide (i2<(s1.length:Int))) then
   (eI s1 i2).bind fun t5=>
   (if t5 then
    some (.ret false)
   else
    some (.b7 (IntKind.wrap .i64 (i2+1))))
  else
   some (.fj ()))
def dJ (F:Nat) (s1:List UInt8):Option (Bool):=
 (if ((decide (s1=([]:List UInt8)))||(decide (76<(s1.length:Int)))) then
  some false
 else
  ((iter (cU s1) F 0).bind fun o8=>
  match o8 with
  | .inr ()=>
    some true
  | .inl r7=>
    some r7))
theorem oY {s1:List UInt8} {H:AH} {K:Exit→Env→AH→Prop}
 (kn:K .normal [(0,(.str s1)),(10,(.bool ((decide (s1=([]:List UInt8)))||(decide (76<(s1.length:Int))))))] H):
 AX Tryd.prog gE 33 H.length (erase kC) K [(0,(.str s1))] H:=by
 refine e6 fun K' hK=> ?_
 refine aD ?_
 refine Fq (fun hy1=> ?_) fun hy1=> ?_
 · refine bn hy1 ?_
   exact hK _ _ _ _ _ (jN hy1) aB kn
 · refine bn hy1 ?_
   exact hK _ _ _ _ _ (jN hy1) aB kn
theorem oZ {s1:List UInt8} {i2:Int} {H:AH} {K:Exit→Env→AH→Prop} {t4:Bool}
 (h:eI s1 i2=some t4)
 (kn:K .normal [(0,(.str s1)),(3,(.int .i64 i2)),(32,(.bool t4))] H):
 AX Tryd.prog gE 33 H.length (erase kD) K [(0,(.str s1)),(3,(.int .i64 i2))] H:=by
 refine e6 fun K' hK=> ?_
 rw [eI.eq_1] at h
 obtain ⟨x3,bF,h⟩:=ay h
 refine bn bF ?_
 refine eu h (fun bE h=> ?_) fun bE h=> ?_
 · refine bn bE ?_
   obtain rfl:=aF h
   exact hK _ _ _ _ _ aP aB kn
 · refine bn (aX bE bF) ?_
   refine eu h (fun bR h=> ?_) fun bR h=> ?_
   · refine bn bR ?_
     obtain rfl:=aF h
     exact hK _ _ _ _ _ aP aB kn
   · refine bn (aX bR bF) ?_
     obtain rfl:=aF h
     exact hK _ _ _ _ _ aP aB kn
theorem o5 {F:Nat} {i2:Int} {s1:List UInt8} {H:AH} {K:Exit→Env→AH→Prop} {o:(Bool)⊕(Unit)}
 (h:iter (cU s1) F i2=some o)
 (eD:∀o':Unit,o= .inr o'→K (.exit 0) [] H)
 (kr:∀o':Bool,o= .inl o'→K .ret [(2,(.bool o'))] H):
 AX Tryd.prog gE 33 H.length (.loop (erase ju)) K [(0,(.str s1)),(3,(.int .i64 i2))] H:=by
 refine jO (fun s e H1=>match s with|i2=>e=[(0,(.str s1)),(3,(.int .i64 i2))]∧H1=H) h ⟨rfl,rfl⟩ ?_
 rintro K' i2 st e H ⟨rfl,rfl⟩ h hN hB hR hX
 rw [cU.eq_1] at h
 refine aD ?_
 refine cc h (fun bM h=> ?_) fun bM h=> ?_
 · refine aD ?_
   obtain ⟨t5,cj,h⟩:=ay h
   refine cy aB (oZ cj ?_)
   refine aD ?_
   refine cc h (fun cE h=> ?_) fun cE h=> ?_
   · refine aD ?_
     obtain rfl:=aF h
     exact hX _ _ _ _ _ fm aP aB (kr _ (hR _ rfl))
   · refine aD ?_
     obtain rfl:=aF h
     exact hN _ rfl _ _ _ _ aP aB ⟨rfl,rfl⟩
 · refine aD ?_
   obtain rfl:=aF h
   exact hX _ _ _ _ _ fm WE.nil aB (eD _ (hB _ rfl))
theorem fS {F:Nat} {s1:List UInt8} {H0:AH} {bf:Bool} (h:dJ F s1=some bf):
 aC Tryd.prog 26 [(.str s1)] H0 fun v H'=>v=(.bool bf)∧H'=H0:=by
 refine gS tW gE fun hcl K0 br=> ?_
 rw [dJ.eq_1] at h
 refine aD ?_
 refine cy aB (oY (s1:=s1) ?_)
 refine aD ?_
 refine cc h (fun bL h=> ?_) fun bL h=> ?_
 · refine aD ?_
   obtain rfl:=aF h
   exact br _ _ _ cC (aJ hcl (bS cA (.bool false)) cB bU ⟨rfl,rfl⟩)
 · refine aD ?_
   obtain ⟨o8,fJ,h⟩:=ay h
   refine cy aB (o5 fJ ?_ ?_)
   · rintro ⟨⟩ rfl
     try dsimp only at h
     refine aD ?_
     obtain rfl:=aF h
     exact br _ _ _ cC (aJ hcl (bS cA (.bool true)) cB bU ⟨rfl,rfl⟩)
   · rintro r7 rfl
     try dsimp only at h
     refine aD ?_
     obtain rfl:=aF h
     exact br _ _ _ cC (aJ hcl (bS cA (.bool r7)) cB bU ⟨rfl,rfl⟩)
abbrev jv:az:=(.seq (.seq (.rg [(ax 11 5),(ax 12 0),(ai 13 (.len (.t 12))),(ai 14 (.bin .lss (.t 11) (.t 13)))]) (.cond (.t 14) .skip (.exit 0))) (.seq (.blk 1 (.seq (.rg [(ax 17 0),(ax 18 5),(ai 19 (.dV 2 (.t 17) (.t 18))),(ai 20 (.ld (.t 19) (some 2))),(ax 21 1),(ax 22 5),(ai 23 (.dV 2 (.t 21) (.t 22))),(ai 24 (.ld (.t 23) (some 2))),(ai 25 (.seq [.s, .s] true (.t 20) (.t 24)))]) (.cond (.t 25) (.seq (.rg [(ai 4 (.bg (.c (.bool false))))]) .ret) .skip))) (.rg [(ax 15 5),(ai 16 (.bin .add (.t 15) (.c (.int .i64 1)))),(aM 5 16)])))
abbrev tX:az:=(.seq (.rg [(ai 4 (.bg (.c (.bool false))))]) (.seq (.seq (.rg [(ax 6 0),(ai 7 (.len (.t 6))),(ax 8 1),(ai 9 (.len (.t 8))),(ai 10 (.bin .neq (.t 7) (.t 9)))]) (.cond (.t 10) (.seq (.rg [(ai 4 (.bg (.c (.bool false))))]) .ret) .skip)) (.seq (.seq (.rg [(ai 5 (.bg (.c (.int .i64 0))))]) (.blk 0 (.loop (erase jv)))) (.seq (.rg [(ai 4 (.bg (.c (.bool true))))]) .ret))))
theorem tY:bT Tryd.prog 22 26 [(.tmp 4)] (erase tX):=⟨Tryd.f22,_,rfl,by decide,rfl,by kernel_rfl,rfl,rfl⟩
abbrev nj:List Nat:=[0,1,4,5,10,14,25]
def dG (a1:List aj) (b2:List aj):(Bool×Int)→Option (St Bool Unit (Bool×Int))
 |(t3,i4)=>
  (if (decide (i4<(a1.length:Int))) then
   (idx a1 i4).bind fun x5=>
   (idx b2 i4).bind fun x6=>
   (if (!(decide (x5.name=x6.name)&&decide (x5.value=x6.value))) then
    some (.ret false)
   else
    some (.b7 (t3,(IntKind.wrap .i64 (i4+1)))))
  else
   some (.fj ()))
def fD (F:Nat) (a1:List aj) (b2:List aj):Option (Bool):=
 (if (!decide ((a1.length:Int)=(b2.length:Int))) then
  some false
 else
  ((iter (dG a1 b2) F (false,0)).bind fun o9=>
  match o9 with
  | .inr ()=>
    some true
  | .inl r8=>
    some r8))
theorem o6 {F:Nat} {i4:Int} {a1:List aj} {b2:List aj} {t3:Bool} {H:AH} {K:Exit→Env→AH→Prop} {o:(Bool)⊕(Unit)}
 (h:iter (dG a1 b2) F (t3,i4)=some o)
 (eD:∀o':Unit,o= .inr o'→K (.exit 0) [] H)
 (kr:∀o':Bool,o= .inl o'→K .ret [(4,(.bool o'))] H):
 AX Tryd.prog nj 26 H.length (.loop (erase jv)) K [(0,(.sl .n 2 (ml ak a1))),(1,(.sl .n 2 (ml ak b2))),(4,(.bool t3)),(5,(.int .i64 i4))] H:=by
 refine jO (fun s e H1=>match s with|(t3,i4)=>e=[(0,(.sl .n 2 (ml ak a1))),(1,(.sl .n 2 (ml ak b2))),(4,(.bool t3)),(5,(.int .i64 i4))]∧H1=H) h ⟨rfl,rfl⟩ ?_
 rintro K' ⟨t3,i4⟩ st e H ⟨rfl,rfl⟩ h hN hB hR hX
 rw [dG.eq_1] at h
 refine aD ?_
 refine cc h (fun bL h=> ?_) fun bL h=> ?_
 · obtain ⟨x5,bM,h⟩:=ay h
   obtain ⟨x6,bF,h⟩:=ay h
   refine bn (aX bM bF) ?_
   refine cc h (fun bE h=> ?_) fun bE h=> ?_
   · refine aD ?_
     obtain rfl:=aF h
     exact hX _ _ _ _ _ fm aP aB (kr _ (hR _ rfl))
   · refine aD ?_
     obtain rfl:=aF h
     exact hN _ rfl _ _ _ _ aP aB ⟨rfl,rfl⟩
 · refine aD ?_
   obtain rfl:=aF h
   exact hX _ _ _ _ _ fm WE.nil aB (eD _ (hB _ rfl))
theorem mD {F:Nat} {a1:List aj} {b2:List aj} {H0:AH} {bf:Bool} (h:fD F a1 b2=some bf):
 aC Tryd.prog 22 [(.sl .n 2 (ml ak a1)),(.sl .n 2 (ml ak b2))] H0 fun v H'=>v=(.bool bf)∧H'=H0:=by
 refine gS tY nj fun hcl K0 br=> ?_
 rw [fD.eq_1] at h
 refine aD ?_
 refine cc h (fun hy1 h=> ?_) fun hy1 h=> ?_
 · refine aD ?_
   obtain rfl:=aF h
   exact br _ _ _ cC (aJ hcl (bS cA (.bool false)) cB bU ⟨rfl,rfl⟩)
 · refine aD ?_
   obtain ⟨o9,bR,h⟩:=ay h
   refine cy aB (o6 bR ?_ ?_)
   · rintro ⟨⟩ rfl
     try dsimp only at h
     refine aD ?_
     obtain rfl:=aF h
     exact br _ _ _ cC (aJ hcl (bS cA (.bool true)) cB bU ⟨rfl,rfl⟩)
   · rintro r8 rfl
     try dsimp only at h
     refine aD ?_
     obtain rfl:=aF h
     exact br _ _ _ cC (aJ hcl (bS cA (.bool r8)) cB bU ⟨rfl,rfl⟩)
end Go.Proofs.cR
end
section
namespace Go.Am
open Go
theorem wr {n:Int} (h1: -9223372036854775808≤n) (h2:n≤9223372036854775807):IntKind.wrap .i64 n=n:=by
 simp only [IntKind.wrap,IntKind.bits,IntKind.signed,Bool.true_and,decide_eq_true_eq,Int.reducePow,Nat.reduceSub,ge_iff_le]
 split<;>omega
theorem zm {α:Type} (l:List α) (n:Nat):idx l (n:Int)=l[n]? :=by simp [idx]
theorem bt {α:Type} {l:List α} {n:Nat} {x:α} (h:l[n]? =some x):idx l (n:Int)=some x:=by rw [zm,h]
theorem Lo {α:Type} {l:List α} {n:Nat} (h:n<l.length):idx l (n:Int)=some l[n]:=by rw [zm,List.getElem?_eq_getElem h]
theorem Rx {α:Type} {l:List α} {i:Int} (h0:0≤i) (h1:i<l.length):∃x,idx l i=some x∧l[i.toNat]? =some x:=by
 obtain ⟨n,rfl⟩:=Int.eq_ofNat_of_zero_le h0
 have hn:n<l.length:=by omega
 exact ⟨l[n],Lo hn,by simp [List.getElem?_eq_getElem hn]⟩
theorem wO {α:Type} {l:List α} {i j:Nat} (h:i≤j) (h2:j≤l.length):sub l (i:Int) (j:Int)=some ((l.take j).drop i):=by
 unfold sub;rw [if_pos (by omega)];simp
theorem iT {α:Type} {l:List α} {i:Nat} (h:i≤l.length):sub l (i:Int) (l.length:Int)=some (l.drop i):=by
 rw [wO h (Nat.le_refl _),List.take_length]
theorem qZ {α:Type} {l:List α} {j:Nat} (h:j≤l.length):sub l 0 (j:Int)=some (l.take j):=by
 have:=wO (l:=l) (i:=0) (Nat.zero_le j) h
 simpa using this
theorem QW {α:Type} {l:List α} {i:Int} (h0:0≤i) (h:i≤l.length):sub l i (l.length:Int)=some (l.drop i.toNat):=by
 obtain ⟨n,rfl⟩:=Int.eq_ofNat_of_zero_le h0
 rw [iT (by omega)];simp
theorem sub_one {α:Type} {l:List α} {c:α} {r:List α} (h:l=c::r):sub l 1 (l.length:Int)=some r:=by
 have:=iT (l:=l) (i:=1) (by rw [h];simp)
 rw [h] at this ⊢;simpa using this
theorem cV {α:Type} {b:Nat} {xs ys:List α} (h:xs.length+ys.length≤1000000000) (hb:b≤1000):cx b xs ys=some (xs++ys):=by
 unfold cx
 rw [if_pos]
 refine ⟨?_,by omega⟩
 calc (xs.length+ys.length)*b≤1000000000*1000:=Nat.mul_le_mul h hb
  _≤_:=by omega
theorem gF {l m:List UInt8} (h:l.length+m.length≤1000000000):cat l m=some (l++m):=by
 unfold cat;rw [if_pos (by omega)]
theorem bK {ρ τ σ:Type} {body:σ→Option (St ρ τ σ)} {F:Nat} {s s':σ} (h:body s=some (.b7 s')):iter body (F+1) s=iter body F s':=by simp only [iter,h]
theorem cq {ρ τ σ:Type} {body:σ→Option (St ρ τ σ)} {F:Nat} {s:σ} {t:τ} (h:body s=some (.fj t)):iter body (F+1) s=some (.inr t):=by simp only [iter,h]
theorem gB {ρ τ σ:Type} {body:σ→Option (St ρ τ σ)} {F:Nat} {s:σ} {r:ρ} (h:body s=some (.ret r)):iter body (F+1) s=some (.inl r):=by simp only [iter,h]
theorem OJ {ρ τ σ:Type} {body:σ→Option (St ρ τ σ)} (I:σ→Prop) (m:σ→Nat) (post:ρ⊕τ→Prop)
 (step:∀s,I s→(∃r,body s=some (.ret r)∧post (.inl r))∨(∃t,body s=some (.fj t)∧post (.inr t))∨∃s',body s=some (.b7 s')∧I s'∧m s'<m s):
 ∀(F:Nat) (s:σ),I s→m s<F→∃o,iter body F s=some o∧post o:=by
 intro F
 induction F with
 |zero=>intro s _ h;omega
 |succ F ih=>
  intro s hI hm
  rcases step s hI with ⟨r,h,hp⟩|⟨t,h,hp⟩|⟨s',h,SY,hlt⟩
  · exact ⟨_,gB h,hp⟩
  · exact ⟨_,cq h,hp⟩
  · obtain ⟨o,ho,hp⟩:=ih s' SY (by omega)
    exact ⟨o,by rw [bK h];exact ho,hp⟩
theorem drop_cons {α:Type} {l r:List α} {i:Nat} {c:α} (h:l.drop i=c::r):i<l.length∧l[i]? =some c∧l.drop (i+1)=r:=by
 have hlt:i<l.length:=by
  rcases Nat.lt_or_ge i l.length with h1|h1
  · exact h1
  · rw [List.drop_eq_nil_of_le h1] at h;cases h
 rw [List.drop_eq_getElem_cons hlt] at h
 injection h with h1 h2
 exact ⟨hlt,by rw [List.getElem?_eq_getElem hlt,h1],h2⟩
theorem Lp {α:Type} {l:List α} {i:Nat} (h:l.drop i=[]):l.length≤i:=List.drop_eq_nil_iff.1 h
theorem cv {n F:Nat} (h:n<F):∃G,F=G+1:=⟨F - 1,by omega⟩
end Go.Am
end
section
set_option maxRecDepth 100000
namespace Go.Proofs.cR
open Go Go.Am Go.Proofs
theorem Lq {p:UInt8→Bool} (h:(List.range 256).all (fun n=>p (UInt8.ofNat n))=true) (c:UInt8):p c=true:=by
 have:=List.all_eq_true.1 h c.toNat (by simpa using c.toNat_lt)
 simpa using this
theorem scan {α ρ τ σ:Type} {s:List α} {body:σ→Option (St ρ τ σ)} {mk:Nat→σ} {p:α→Bool} {rr:Nat→ρ} {tt:τ}
 (h1:∀i x,s[i]? =some x→p x=true→body (mk i)=some (.b7 (mk (i+1)))) (h2:∀i x,s[i]? =some x→p x=false→body (mk i)=some (.ret (rr i)))
 (h3:body (mk s.length)=some (.fj tt)) {F:Nat} (hF:s.length<F):
 (s.all p=true→iter body F (mk 0)=some (.inr tt))∧(s.all p=false→∃j,iter body F (mk 0)=some (.inl (rr j))):=by
 suffices h:∀(r:List α) (i F:Nat),s.drop i=r→i+r.length=s.length→r.length<F→
  (r.all p=true→iter body F (mk i)=some (.inr tt))∧(r.all p=false→∃j,iter body F (mk i)=some (.inl (rr j))) from h s 0 F rfl (by simp) hF
 intro r
 induction r with
 |nil=>
  intro i F hd hl hF
  obtain ⟨G,rfl⟩:=cv hF
  have:i=s.length:=by simpa using hl
  subst this
  exact ⟨fun _=>cq h3,fun h=>by simp at h⟩
 |cons x r ih=>
  intro i F hd hl hF
  obtain ⟨G,rfl⟩:=cv hF
  obtain ⟨hi,hx,hr⟩:=drop_cons hd
  simp only [List.length_cons] at hl hF
  cases hp:p x with
  |true=>
   rw [bK (h1 i x hx hp)]
   simp only [List.all_cons,hp,Bool.true_and]
   exact ih (i+1) G hr (by omega) (by omega)
  |false=>
   rw [gB (h2 i x hx hp)]
   simp only [List.all_cons,hp,Bool.false_and]
   exact ⟨fun h=>by simp at h,fun _=>⟨i,rfl⟩⟩
theorem wi {n:Nat} (h:n≤1000000000):IntKind.wrap .i64 ((n:Int)+1)=((n+1:Nat):Int):=by rw [wr (by omega) (by omega)];simp
def low (c:UInt8):UInt8:=if (decide (65≤c)&&decide (c≤90))=true then c+32 else c
def Bf (s:List UInt8) (i:Nat):List UInt8:=(s.map low).take i++s.drop i
theorem mN {s:List UInt8} {i:Nat} (hi:i≤s.length) (j:Nat):(Bf s i)[j]? =if j<i then (s.map low)[j]? else s[j]? :=by
 unfold Bf
 have hl:((s.map low).take i).length=i:=by simp;omega
 by_cases h:j<i
 · rw [if_pos h,List.getElem?_append_left (by omega),List.getElem?_take_of_lt h]
 · rw [if_neg h,List.getElem?_append_right (by omega),hl,List.getElem?_drop]
   congr 1;omega
theorem q8 {s:List UInt8} {i:Nat} (hi:i≤s.length):(Bf s i).length=s.length:=by
 unfold Bf;simp;omega
theorem wP {s:List UInt8} {i:Nat} (hi:i<s.length) {c:UInt8} (hc:s[i]? =some c):(Bf s i).set i (low c)=Bf s (i+1):=by
 apply List.ext_getElem?
 intro j
 rw [List.getElem?_set,mN (by omega),mN (by omega),q8 (by omega)]
 by_cases h:i=j
 · subst h
   rw [if_pos rfl,if_pos hi,if_pos (by omega),List.getElem?_map,hc];rfl
 · rw [if_neg h]
   by_cases h2:j<i
   · rw [if_pos h2,if_pos (by omega)]
   · rw [if_neg h2,if_neg (by omega)]
theorem CL (s:List UInt8):Bf s s.length=s.map low:=by
 unfold Bf;rw [List.drop_length,List.append_nil,List.take_of_length_le (by simp)]
theorem Lr (c:UInt8) (h:(decide (65≤c)&&decide (c≤90))=true):c ||| 32=low c:=by
 have:=Lq (p:=fun c=> !(decide (65≤c)&&decide (c≤90))||(c ||| 32==low c)) (by kernel_rfl) c
 rw [h] at this
 simpa using this
theorem o7 {n i:Nat} (h:i<n):mR n (i:Int)=some i:=by unfold mR;rw [if_pos (by omega)];simp
theorem zn {xs:List UInt8} {j:Nat} {c:UInt8} (h:j<xs.length):uD xs j c=some (xs.set j c):=by unfold uD;rw [if_pos h]
theorem CM {s:List UInt8} {i:Nat} {c:UInt8} (hi:i<s.length) (hc:s[i]? =some c) (h:¬(decide (65≤c)&&decide (c≤90))=true):Bf s i=Bf s (i+1):=by
 rw [←wP hi hc]
 have hl:low c=c:=by unfold low;rw [if_neg h]
 rw [hl]
 apply List.ext_getElem?
 intro j
 rw [List.getElem?_set,mN (by omega),q8 (by omega)]
 by_cases h:i=j
 · subst h;rw [if_pos rfl,if_pos hi,if_neg (by omega),hc]
 · rw [if_neg h]
theorem I1 {s:List UInt8} {F:Nat} (hs:s.length≤2100) (hF:s.length<F):fB F s=some (s.map low):=by
 have nR:∀(m i G:Nat),i+m=s.length→m<G→iter (cT s) G ((i:Int),Bf s i)=some (.inr (s.map low)):=by
  intro m
  induction m with
  |zero=>
   intro i G hi hG
   obtain ⟨G,rfl⟩:=cv hG
   have:i=s.length:=by omega
   subst this
   rw [←CL s]
   exact cq (by simp only [cT];rw [if_neg (by simp)])
  |succ m ih=>
   intro i G hi hG
   obtain ⟨G,rfl⟩:=cv (show 0<G by omega)
   have hil:i<s.length:=by omega
   have hc:s[i]? =some s[i]:=List.getElem?_eq_getElem hil
   have hst:cT s ((i:Int),Bf s i)=some (.b7 (((i+1:Nat):Int),Bf s (i+1))):=by
    simp only [cT]
    rw [if_pos (by simpa using hil),o7 hil,Option.bind_some,mN (by omega),if_neg (by omega),hc,Option.bind_some,wi (by omega)]
    by_cases h:(decide (65≤s[i])&&decide (s[i]≤90))=true
    · rw [if_pos h,zn (by rw [q8 (by omega)];exact hil),Lr _ h,wP hil hc];rfl
    · rw [if_neg h,CM hil hc h]
   rw [bK hst]
   exact ih (i+1) G (by omega) (by omega)
 unfold fB
 rw [show ((0:Int),s)=(((0:Nat):Int),Bf s 0) by simp [Bf],nR s.length 0 F (by omega) hF]
 simp only [Option.bind_some]
 rw [qZ (j:=s.length) (by simp),List.take_of_length_le (by simp)]
 rfl
def cg (sep:List UInt8):List UInt8→Option (List UInt8×List UInt8)
 |[]=>none
 |c::r=>if sep.isPrefixOf (c::r) then some ([],(c::r).drop sep.length) else (cg sep r).map fun p=>(c::p.1,p.2)
theorem Fz {sep:List UInt8} (hs:sep≠[]):∀s:List UInt8,(cg sep s=none∧Lib.index s sep= -1)∨∃i:Nat,Lib.index s sep=(i:Int)∧cg sep s=some (s.take i,s.drop (i+sep.length)):=by
 intro s
 induction s with
 |nil=>left;exact ⟨rfl,by unfold Lib.index;cases sep with|nil=>exact absurd rfl hs|cons=>rfl⟩
 |cons c r ih=>
  unfold Lib.index cg
  by_cases hp:sep.isPrefixOf (c::r)=true
  · right;exact ⟨0,by rw [if_pos hp];rfl,by rw [if_pos hp];simp⟩
  · rw [if_neg hp,if_neg hp]
    rcases ih with ⟨h1,h2⟩|⟨i,h1,h2⟩
    · left;rw [h1,h2];simp
    · right
      refine ⟨i+1, ?_, ?_⟩
      · rw [h1,if_neg (by simp<;>omega)];simp
      · rw [h2];simp [List.take_succ_cons,Nat.add_right_comm]
theorem Ls {sep:List UInt8} (hs:sep≠[]) (s:List UInt8):Lib.cut s sep=match cg sep s with|some (a,b)=>(a,b,true)|none=>(s,[],false):=by
 unfold Lib.cut
 rcases Fz hs s with ⟨h1,h2⟩|⟨i,h1,h2⟩
 · rw [h1,h2,if_neg (by omega)]
 · rw [h2,h1,if_pos (by omega)];simp
theorem CN {s sep:List UInt8} (hs:sep≠[]) (hl:s.length≤1000000000):strings_Cut s sep=some (match cg sep s with|some (a,b)=>(a,b,true)|none=>(s,[],false)):=by
 unfold strings_Cut
 rw [if_pos (by omega),Ls hs]
theorem wQ {sep:List UInt8}:∀ {s a b:List UInt8},cg sep s=some (a,b)→s=a++sep++b:=by
 intro s
 induction s with
 |nil=>intro a b h;cases h
 |cons c r ih=>
  intro a b h
  unfold cg at h
  split at h
  · rename_i hp
    injection h with h;injection h with h1 h2;subst h1;subst h2
    obtain ⟨t,ht⟩:=List.isPrefixOf_iff_prefix.1 hp
    rw [←ht];simp
  · rw [Option.map_eq_some_iff] at h
    obtain ⟨⟨a',b'⟩,h1,h2⟩:=h
    injection h2 with h2 h3;subst h2;subst h3
    rw [ih h1];simp
abbrev nl:List UInt8:=[13,10]
def Ends (w:List UInt8):Prop:=w=[]∨∃u,w=u++nl
theorem pg:∀ {w:List UInt8},Ends w→w≠[]→∃a b,cg nl w=some (a,b)∧w=a++nl++b∧Ends b:=by
 intro w
 induction w with
 |nil=>intro _ h;exact absurd rfl h
 |cons c r ih=>
  intro he _
  obtain ⟨u,hu⟩:=he.resolve_left (by simp)
  unfold cg
  by_cases hp:nl.isPrefixOf (c::r)=true
  · rw [if_pos hp]
    obtain ⟨t,ht⟩:=List.isPrefixOf_iff_prefix.1 hp
    refine ⟨[],t,by rw [←ht];simp,by rw [←ht];simp, ?_⟩
    rw [←ht] at hu
    rcases u with _|⟨x,u⟩
    · left;simpa using hu
    · rcases u with _|⟨y,u⟩
      · simp at hu
      · right
        simp only [List.cons_append,List.nil_append,List.cons.injEq] at hu
        exact ⟨u,hu.2.2⟩
  · rw [if_neg hp]
    cases u with
    |nil=>rw [hu] at hp;exact absurd rfl hp
    |cons x u=>
     simp only [List.cons_append,List.cons.injEq] at hu
     obtain ⟨rfl,hr⟩:=hu
     obtain ⟨a,b,h1,h2,h3⟩:=ih (.inr ⟨u,hr⟩) (by rw [hr];simp)
     exact ⟨c::a,b,by rw [h1];rfl,by rw [h2];simp,h3⟩
def whole (b:List UInt8):List UInt8:=if b=[]∨nl.isSuffixOf b=true then b else b++nl
theorem jx (b:List UInt8):Ends (whole b):=by
 unfold whole
 split
 · rename_i h
   rcases h with h|h
   · exact .inl h
   · obtain ⟨u,hu⟩:=List.isSuffixOf_iff_suffix.1 h
     exact .inr ⟨u,hu.symm⟩
 · exact .inr ⟨b,rfl⟩
theorem kY (b:List UInt8):(whole b).length≤b.length+2:=by unfold whole;split<;>simp
theorem fE {b:List UInt8} (h:2≤b.length):(b.drop (b.length - 2)=nl)↔nl.isSuffixOf b=true:=by
 rw [List.isSuffixOf_iff_suffix]
 constructor
 · intro h1;exact ⟨b.take (b.length - 2),by rw [←h1,List.take_append_drop]⟩
 · rintro ⟨u,rfl⟩;simp
theorem not_suffix {b:List UInt8} (h:b.length<2):nl.isSuffixOf b=false:=by
 rw [Bool.eq_false_iff]
 intro h1
 obtain ⟨u,rfl⟩:=List.isSuffixOf_iff_suffix.1 h1
 simp at h;omega
theorem Lt {b:List UInt8} (hb:b.length≤20000):dF b nl=some (nl.isSuffixOf b):=by
 unfold dF dr
 by_cases h:2≤b.length
 · rw [if_pos (by simp;omega)]
   have e:IntKind.wrap .i64 ((b.length:Int) - ((nl:List UInt8).length:Int))=((b.length - 2:Nat):Int):=by rw [wr (by simp;omega) (by simp;omega)];simp;omega
   rw [e,iT (by omega)]
   simp only [Option.bind_some,ij]
   congr 1
   by_cases h2:b.drop (b.length - 2)=nl
   · rw [(fE h).1 h2];simpa using h2
   · have:nl.isSuffixOf b=false:=by rw [Bool.eq_false_iff];exact fun h3=>h2 ((fE h).2 h3)
     rw [this];simpa using h2
 · rw [if_neg (by simp;omega),not_suffix (by omega)];rfl
theorem Oi {b:List UInt8} {G:Nat} (hb:b.length≤20000):iter (aS [b,nl]) (G+3) (0,0)=some (.inr ((b.length:Int)+2)):=by
 have s1:aS [b,nl] (0,0)=some (.b7 ((b.length:Int),1)):=by
  simp only [aS]
  rw [if_pos (by simp),show idx [b,nl] 0=some b by simp [idx]]
  simp only [Option.bind_some]
  rw [wr (by omega) (by omega),if_neg (by simp<;>omega)]
  simp [wr]
 have s2:aS [b,nl] ((b.length:Int),1)=some (.b7 ((b.length:Int)+2,2)):=by
  simp only [aS]
  rw [if_pos (by simp),show idx [b,nl] 1=some nl by simp [idx]]
  simp only [Option.bind_some]
  rw [wr (by simp;omega) (by simp;omega),if_neg (by simp<;>omega)]
  simp [wr]
 have s3:aS [b,nl] ((b.length:Int)+2,2)=some (.fj ((b.length:Int)+2)):=by
  simp only [aS];rw [if_neg (by simp)]
 rw [bK s1,bK s2,cq s3]
theorem Oj {b:List UInt8} {G:Nat} (hb:b.length≤20000):iter (aT [b,nl]) (G+3) ([],0)=some (.inr (b++nl)):=by
 have s1:aT [b,nl] ([],0)=some (.b7 (b,1)):=by
  simp only [aT]
  rw [if_pos (by simp),show idx [b,nl] 0=some b by simp [idx]]
  simp only [Option.bind_some]
  rw [cV (by simp;omega) (by omega)]
  simp [wr]
 have s2:aT [b,nl] (b,1)=some (.b7 (b++nl,2)):=by
  simp only [aT]
  rw [if_pos (by simp),show idx [b,nl] 1=some nl by simp [idx]]
  simp only [Option.bind_some]
  rw [cV (by simp;omega) (by omega)]
  simp [wr]
 have s3:aT [b,nl] (b++nl,2)=some (.fj (b++nl)):=by
  simp only [aT];rw [if_neg (by simp)]
 rw [bK s1,bK s2,cq s3]
theorem I2 {b:List UInt8} (hb:b.length≤20000):e7 b=some (decide (b=[]∨nl.isSuffixOf b=true)):=by
 unfold e7
 cases b with
 |nil=>rfl
 |cons c r=>
  rw [if_neg (by simp<;>omega),Lt hb]
  rw [Option.bind_some,Option.some.injEq,Bool.eq_iff_iff]
  simp
theorem zo {n:Int} (h0:0≤n) (h1:n≤1000000000):eM n=some []:=by
 unfold eM
 rw [if_neg (by omega),if_pos (by omega)]
theorem I3 {b:List UInt8} {F:Nat} (h1:iter (aS [b,nl]) F (0,0)=some (.inr ((b.length:Int)+2))) (h2:iter (aT [b,nl]) F ([],0)=some (.inr (b++nl)))
 (h3:eM ((b.length:Int)+2)=some []):cz F [b,nl]=some (b++nl):=by
 unfold cz
 rw [h1]
 simp only [Option.bind_some]
 rw [h3]
 simp only [Option.bind_some]
 rw [h2]
 simp only [Option.bind_some]
theorem I4 {b:List UInt8} {F:Nat} (hb:b.length≤20000) (hF:3≤F):iN F b=some (whole b):=by
 have hp:=I2 hb
 unfold iN whole
 rw [hp]
 simp only [Option.bind_some,decide_eq_true_eq]
 by_cases h:b=[]∨nl.isSuffixOf b=true
 · rw [if_pos h,if_pos h]
   unfold jP
   rw [cV (by simp;omega) (by omega)];simp
 · rw [if_neg h,if_neg h]
   obtain ⟨G,rfl⟩:∃G,F=G+3:=⟨F - 3,by omega⟩
   rw [I3 (Oi hb) (Oj hb) (zo (by omega) (by omega))]
   simp only [Option.bind_some]
end Go.Proofs.cR
end
section
set_option maxRecDepth 100000
namespace Go.Proofs.cR
open Go Go.Am Go.Proofs
def good (c:UInt8):Bool:= !(decide (c<33)||decide (126<c)||decide (c=58))
def gi (s:List UInt8):Bool:= !decide (s=[])&&decide (s.length≤76)&&s.all good
theorem wR {s:List UInt8} {F:Nat} (hs:s.length≤20000) (hF:s.length<F):dQ F s=some (gi s):=by
 have hp:∀(i:Nat) (x:UInt8),s[i]? =some x→e8 s (i:Int)=some (!good x):=by
  intro i x hx
  unfold e8
  rw [bt hx]
  simp only [Option.bind_some,good]
  by_cases h1:x<33
  · simp [h1]
  · by_cases h2:126<x
    · simp [h1,h2]
    · simp [h1,h2]
 have hh:=scan (s:=s) (body:=dc s) (mk:=fun i=>(i:Int)) (p:=good) (rr:=fun _=>false) (tt:=()) ?_ ?_ ?_ hF
 · unfold dQ gi
   cases ha:s.all good with
   |true=>
    have:=hh.1 ha
    rw [show ((0:Nat):Int)=0 from rfl] at this
    rw [this]
    simp only [Bool.and_true]
    by_cases h0:s=[]
    · simp [h0]
    · simp only [h0,decide_false,Bool.not_false,Bool.true_and]
      rw [show decide ((s.length:Int)≤76)=decide (s.length≤76) from by rw [decide_eq_decide];omega]
      simp [h0]
   |false=>
    obtain ⟨j,hj⟩:=hh.2 ha
    rw [show ((0:Nat):Int)=0 from rfl] at hj
    rw [hj]
    simp
 · intro i x hx hg
   have hi:i<s.length:=(List.getElem?_eq_some_iff.1 hx).1
   simp only [dc]
   rw [if_pos (by simpa using hi),hp i x hx,hg]
   simp only [Option.bind_some,Bool.not_true,Bool.false_eq_true,if_false]
   rw [wi (by omega)]
 · intro i x hx hg
   have hi:i<s.length:=(List.getElem?_eq_some_iff.1 hx).1
   simp only [dc]
   rw [if_pos (by simpa using hi),hp i x hx,hg]
   simp
 · simp only [dc]
   rw [if_neg (by simp)]
def mE (name:List UInt8) (p:List UInt8×Nat) (f:aj):List UInt8×Nat:=
 if f.name.map low=name.map low then (if p.2=0 then f.value else p.1,p.2+1) else p
def pn (l:List aj) (name:List UInt8):List UInt8×Nat:=l.foldl (mE name) ([],0)
theorem I5 {l:List aj} {name:List UInt8} {F:Nat} (hl:l.length≤20000) (hn:name.length≤2100) (hf:∀f∈l,f.name.length≤2100) (hF:2200<F) (Ok:l.length<F):
 gy F l name=some ((pn l name).1,((pn l name).2:Int)):=by
 have nR:∀(r:List aj) (i G:Nat) (o:List UInt8) (n:Nat),l.drop i=r→i+r.length=l.length→r.length<G→n≤i→
  iter (dR F l name) G (o,(n:Int),(i:Int))=some (.inr ((r.foldl (mE name) (o,n)).1,((r.foldl (mE name) (o,n)).2:Int))):=by
  intro r
  induction r with
  |nil=>
   intro i G o n hd hi hG hni
   obtain ⟨G,rfl⟩:=cv hG
   have:i=l.length:=by simpa using hi
   subst this
   exact cq (by simp only [dR];rw [if_neg (by simp)];rfl)
  |cons f r ih=>
   intro i G o n hd hi hG hni
   obtain ⟨G,rfl⟩:=cv (show 0<G by omega)
   obtain ⟨hil,hx,hr⟩:=drop_cons hd
   simp only [List.length_cons] at hi hG
   have hfl:f.name.length≤2100:=hf f (List.mem_of_getElem? hx)
   have hst:dR F l name (o,(n:Int),(i:Int))=some (.b7 ((mE name (o,n) f).1,((mE name (o,n) f).2:Int),((i+1:Nat):Int))):=by
    simp only [dR]
    rw [if_pos (by simpa using hil),bt hx]
    simp only [Option.bind_some]
    rw [I1 hfl (by omega),I1 hn (by omega)]
    simp only [Option.bind_some]
    rw [wi (n:=i) (by omega),wi (n:=n) (by omega)]
    unfold mE
    by_cases h:f.name.map low=name.map low
    · rw [if_neg (by simp [h]),if_pos h]
      by_cases h0:n=0
      · subst h0;simp
      · rw [if_neg (by simp;omega),if_neg h0]
    · rw [if_pos (by simpa using h),if_neg h]
   rw [bK hst]
   have:=ih (i+1) G (mE name (o,n) f).1 (mE name (o,n) f).2 hr (by omega) (by omega) (by unfold mE;split<;>simp<;>omega)
   rw [this]
   rfl
 unfold gy pn
 have:=nR l 0 F [] 0 rfl (by simp) Ok (Nat.le_refl _)
 rw [show ((0:Nat):Int)=0 from rfl] at this
 rw [this]
 rfl
def gP (s:List UInt8):Option aj:=match cg [58] s with
 |some (a,b)=>if gi a then some ⟨a,b⟩ else none
 |none=>none
def dU (s:List aj) (x:List UInt8):Bool:=decide (0<s.length)&&(x.head?==some 32||x.head?==some 9)
def ext (s:List aj) (x:List UInt8):List aj:=match s[s.length - 1]? with
 |some f=>s.set (s.length - 1) (aj.mk f.name (f.value++(nl++x)))
 |none=>s
def jW:Nat→List UInt8→List aj→List aj×List UInt8
 |0,_,s=>(s,[])
 |n+1,rest,s=>match cg nl rest with
  |none=>(s,[])
  |some (x,more)=>if dU s x then jW n more (ext s x) else match gP x with
   |some f=>jW n more (s++[f])
   |none=>if x=[] then (s,more) else (s,rest)
def QX:(List aj×List UInt8)⊕List aj→List aj×List UInt8
 | .inl p=>p
 | .inr s=>(s,[])
theorem Lu (s:List aj) (x:List UInt8):eE s x=some (dU s x):=by
 unfold eE dU
 by_cases h:0<s.length
 · rw [if_pos (by simpa using h)]
   cases x with
   |nil=>simp
   |cons c r=>
    rw [if_pos (by simp),show idx (c::r) 0=some c by simp [idx]]
    simp only [Option.bind_some,List.head?_cons]
    by_cases h1:c=32
    · simp [h1,h]
    · simp only [h,h1,decide_true,Bool.true_and,if_false]
      by_cases h2:c=9
      · simp [h2]
      · simp [h1,h2]
 · rw [if_neg (by simpa using h)];simp [h]
def Bd (rest:List UInt8) (s:List aj):Prop:=rest.length+s.length≤20000∧∀f∈s,f.value.length+rest.length≤20000∧f.name.length≤76
theorem Bd.ext {x more rest:List UInt8} {s:List aj} (h:Bd rest s) (hr:rest=x++nl++more):Bd more (ext s x):=by
 obtain ⟨h1,h2⟩:=h
 have hl:rest.length=x.length+2+more.length:=by rw [hr];simp [nl];omega
 unfold cR.ext
 split
 · rename_i f hf
   refine ⟨by simp;omega,fun g hg=> ?_⟩
   rcases List.mem_or_eq_of_mem_set hg with hg|rfl
   · have:=h2 g hg;omega
   · have:=h2 f (List.mem_of_getElem? hf)
     simp;omega
 · exact ⟨by omega,fun g hg=>by have:=h2 g hg;omega⟩
theorem Bd.app {x more rest:List UInt8} {s:List aj} {f:aj} (h:Bd rest s) (hr:rest=x++nl++more) (hf:gP x=some f):Bd more (s++[f]):=by
 obtain ⟨h1,h2⟩:=h
 have hl:rest.length=x.length+2+more.length:=by rw [hr];simp [nl];omega
 unfold gP at hf
 split at hf
 · rename_i a b hc
   split at hf
   · rename_i hn
     injection hf with hf;subst hf
     have hx:=wQ hc
     have hxl:x.length=a.length+1+b.length:=by rw [hx];simp [nl];omega
     refine ⟨by simp;omega,fun g hg=> ?_⟩
     rcases List.mem_append.1 hg with hg|hg
     · have:=h2 g hg;omega
     · simp at hg;subst hg
       unfold gi at hn
       simp at hn
       simp;omega
   · cases hf
 · cases hf
theorem I6 {F:Nat} (hF:20001<F):∀(n:Nat) (rest:List UInt8) (s:List aj) (G:Nat),rest.length<n→n≤G→Ends rest→Bd rest s→
 ∃o,iter (cS F) G (rest,s)=some o∧QX o=jW n rest s:=by
 intro n
 induction n with
 |zero=>intro rest s G h;omega
 |succ n ih=>
  intro rest s G hn hG he hb
  obtain ⟨G,rfl⟩:=cv (show 0<G by omega)
  by_cases hr:rest=[]
  · subst hr
    exact ⟨.inr s,cq (by simp only [cS];rw [if_neg (by simp)]),rfl⟩
  · obtain ⟨x,more,hc,hx,hm⟩:=pg he hr
    have hl:rest.length=x.length+2+more.length:=by rw [hx];simp [nl];omega
    have th:=hb.1
    have hbody:cS F (rest,s)=(if dU s x then some (.b7 (more,ext s x)) else match gP x with
     |some f=>some (.b7 (more,s++[f]))
     |none=>if x=[] then some (.ret (s,more)) else some (.ret (s,rest))):=by
     simp only [cS]
     rw [if_pos (by simpa using hr),CN (by simp) (by omega),hc]
     simp only [Option.bind_some]
     rw [CN (by simp) (by omega)]
     simp only [Option.bind_some,Lu]
     by_cases h1:dU s x=true
     · rw [if_pos h1,if_pos h1]
       have hs0:0<s.length:=by unfold dU at h1;simp at h1;exact h1.1
       obtain ⟨f,hf⟩:∃f,s[s.length - 1]? =some f:=⟨_,List.getElem?_eq_getElem (by omega)⟩
       have SZ:=hb.2 f (List.mem_of_getElem? hf)
       have e:IntKind.wrap .i64 ((s.length:Int) - 1)=((s.length - 1:Nat):Int):=by rw [wr (by omega) (by omega)];omega
       rw [e,o7 (by omega)]
       simp only [Option.bind_some]
       rw [hf]
       simp only [Option.bind_some]
       rw [gF (by simp;omega)]
       simp only [Option.bind_some]
       rw [gF (by simp;omega)]
       simp only [Option.bind_some,cR.ext,hf]
     · rw [if_neg h1,if_neg h1]
       unfold gP
       cases h2:cg [58] x with
       |none=>
        simp only [eF,Bool.false_eq_true,if_false,Option.bind_some,decide_eq_true_eq]
       |some p=>
        obtain ⟨a,b⟩:=p
        have hx2:=wQ h2
        have hxl:x.length=a.length+1+b.length:=by rw [hx2];simp;omega
        simp only [eF,if_true]
        rw [wR (by omega) (by omega)]
        simp only [Option.bind_some]
        by_cases h3:gi a=true
        · rw [if_pos h3,if_pos h3,cV (by simp;omega) (by omega)];rfl
        · rw [if_neg h3,if_neg h3]
          simp only [decide_eq_true_eq]
    have I7:jW (n+1) rest s=(if dU s x then jW n more (ext s x) else match gP x with
     |some f=>jW n more (s++[f])
     |none=>if x=[] then (s,more) else (s,rest)):=by
     simp only [jW,hc]
    rw [I7]
    by_cases h1:dU s x=true
    · rw [if_pos h1] at hbody ⊢
      rw [bK hbody]
      exact ih more _ G (by omega) (by omega) hm (hb.ext hx)
    · rw [if_neg h1] at hbody ⊢
      cases h2:gP x with
      |some f=>
       rw [h2] at hbody
       simp only at hbody ⊢
       rw [bK hbody]
       exact ih more _ G (by omega) (by omega) hm (hb.app hx h2)
      |none=>
       rw [h2] at hbody
       simp only at hbody ⊢
       by_cases h3:x=[]
       · rw [if_pos h3] at hbody ⊢
         exact ⟨_,gB hbody,rfl⟩
       · rw [if_neg h3] at hbody ⊢
         exact ⟨_,gB hbody,rfl⟩
def mF (b:List UInt8):List aj×List UInt8:=jW ((whole b).length+1) (whole b) []
theorem zp {b:List UInt8} {F:Nat} (hb:b.length≤19000) (hF:20001<F):eG F b=some (mF b):=by
 have hw:=kY b
 obtain ⟨o,h1,h2⟩:=I6 hF ((whole b).length+1) (whole b) [] F (by omega) (by omega) (jx b) ⟨by simp;omega,by simp⟩
 unfold eG mF
 rw [I4 (by omega) (by omega)]
 simp only [Option.bind_some]
 rw [h1, ←h2]
 cases o with
 |inl p=>rfl
 |inr s=>rfl
end Go.Proofs.cR
end
section
set_option maxRecDepth 100000
namespace Go.Proofs.cR
open Go Go.Am Go.Proofs
open Nat renaming reduceEqDiff→nA,reduceLT→nB,reduceLeDiff→nC,reduceAdd→nD,reduceSub→nE,reduceMul→nF,reduceBEq→nG
set_option maxHeartbeats 2000000
abbrev jy:az:=(.rg [(ax 15 3),(ax 16 6),(ai 17 (.dV 1 (.t 15) (.t 16))),(ai 18 (.ld (.t 17) none)),(ai 19 (.bin .eql (.t 18) (.c (b8 10)))),(ax 20 19),(aE 21 (.mv (.t 3)) 20 true),(aE 22 (.mv (.t 6)) 20 true),(aE 23 (.bin .sub (.t 22) (.c (.int .i64 1))) 20 true),(aE 24 (.dV 1 (.t 21) (.t 23)) 20 true),(aE 25 (.ld (.t 24) none) 20 true),(aE 26 (.bin .eql (.t 25) (.c (b8 13))) 20 true),(ai 27 (.pick (.t 20) (.t 26) (.c (.bool false)))),(ax 28 27),(aE 29 (.mv (.t 6)) 28 true),(aE 30 (.mv (.t 5)) 28 true),(aE 31 (.bin .gtr (.t 29) (.t 30)) 28 true),(ai 32 (.pick (.t 28) (.t 31) (.c (.bool false))))])
abbrev iU:az:=(.seq (.seq (.rg [(ax 9 6),(ax 10 3),(ai 11 (.len (.t 10))),(ai 12 (.bin .lss (.t 9) (.t 11)))]) (.cond (.t 12) .skip (.exit 0))) (.seq (.blk 1 (.seq (.sem (erase jy)) (.cond (.t 32) (.seq (.rg [(ax 33 4),(ax 34 3),(ax 35 5),(ax 36 6),(ai 37 (.bin .sub (.t 36) (.c (.int .i64 1)))),(ai 38 (.slc 1 (.t 34) (some (.t 35)) (some (.t 37)) none)),(ai 39 (.eZ .bs (.t 38))),(ai 40 (.mP 1 [(.t 39)])),(ai 41 (.app 1 16 (.t 33) (.t 40))),(aM 4 41)]) (.rg [(ax 42 6),(ai 43 (.bin .add (.t 42) (.c (.int .i64 1)))),(aM 5 43)])) .skip))) (.rg [(ax 13 6),(ai 14 (.bin .add (.t 13) (.c (.int .i64 1)))),(aM 6 14)])))
abbrev sK:az:=(.seq (.rg [(ai 2 (.bg (.c (.sl .ex 1 []))))]) (.seq (.rg [(ax 7 0),(ai 8 (.call (.c (.fn 31 [])) [(.t 7)])),(aM 3 8)]) (.seq (.rg [(ai 4 (.bg (.c (.sl .ex 1 []))))]) (.seq (.rg [(ai 5 (.bg (.c (.int .i64 0))))]) (.seq (.seq (.rg [(ai 6 (.bg (.c (.int .i64 1))))]) (.blk 0 (.loop (erase iU)))) (.seq (.rg [(ax 44 4),(ai 2 (.kJ 1 (.t 44)))]) .ret))))))
theorem sL:bT Tryd.prog 62 45 [(.tmp 2)] (erase sK):=⟨Tryd.f62,_,rfl,by decide,rfl,by kernel_rfl,rfl,rfl⟩
abbrev iV:List Nat:=[0,2,3,4,5,6,12,32]
def cY (r2:List UInt8) (i5:Int) (nS:Int):Option (Bool):=
 (idx r2 i5).bind fun x6=>
 (if (decide (x6=10)) then
  (idx r2 (IntKind.wrap .i64 (i5 - 1))).bind fun x7=>
  (if (decide (x7=13)) then
   some (decide (nS<i5))
  else
   some false)
 else
  some false)
def bl (r2:List UInt8):((List (List UInt8))×Int×Int)→Option (St (List (List UInt8)) (List (List UInt8)) ((List (List UInt8))×Int×Int))
 |(cu,nS,i5)=>
  (if (decide (i5<(r2.length:Int))) then
   (cY r2 i5 nS).bind fun t9=>
   (if t9 then
    (sub r2 nS (IntKind.wrap .i64 (i5 - 1))).bind fun oI=>
    (cx 16 cu ([oI]:List (List UInt8))).bind fun iM=>
    some (.b7 (iM,(IntKind.wrap .i64 (i5+1)),(IntKind.wrap .i64 (i5+1))))
   else
    some (.b7 (cu,nS,(IntKind.wrap .i64 (i5+1)))))
  else
   some (.fj cu))
def fT (F:Nat) (b1:List UInt8):Option ((List (List UInt8))):=
 (dS b1).bind fun r2=>
 ((iter (bl r2) F (([]:List (List UInt8)),0,1)).bind fun zb=>
 match zb with
 | .inr BW=>
   some BW
 | .inl _=>none)
theorem nT {r2:List UInt8} {i5:Int} {nS:Int} {cu:List (List UInt8)} {H:AH} {K:Exit→Env→AH→Prop} {t8:Bool}
 (h:cY r2 i5 nS=some t8)
 (kn:K .normal [(3,(.sl .own 1 (ml b8 r2))),(4,(.sl .own 1 (ml AV.str cu))),(5,(.int .i64 nS)),(6,(.int .i64 i5)),(32,(.bool t8))] H):
 AX Tryd.prog iV 45 H.length (erase jy) K [(3,(.sl .own 1 (ml b8 r2))),(4,(.sl .own 1 (ml AV.str cu))),(5,(.int .i64 nS)),(6,(.int .i64 i5))] H:=by
 refine e6 fun K' hK=> ?_
 rw [cY.eq_1] at h
 obtain ⟨x6,bM,h⟩:=ay h
 refine bn bM ?_
 refine eu h (fun bF h=> ?_) fun bF h=> ?_
 · obtain ⟨x7,bE,h⟩:=ay h
   refine bn (aX bF bE) ?_
   refine eu h (fun bR h=> ?_) fun bR h=> ?_
   · refine bn bR ?_
     obtain rfl:=aF h
     exact hK _ _ _ _ _ aP aB kn
   · refine bn bR ?_
     obtain rfl:=aF h
     exact hK _ _ _ _ _ aP aB kn
 · refine bn bF ?_
   obtain rfl:=aF h
   exact hK _ _ _ _ _ aP aB kn
theorem nU {F:Nat} {i5:Int} {r2:List UInt8} {nS:Int} {cu:List (List UInt8)} {H:AH} {K:Exit→Env→AH→Prop} {o:((List (List UInt8)))⊕((List (List UInt8)))}
 (h:iter (bl r2) F (cu,nS,i5)=some o)
 (eD:∀o':(List (List UInt8)),o= .inr o'→K (.exit 0) [(4,(.sl .own 1 (ml AV.str o')))] H):
 AX Tryd.prog iV 45 H.length (.loop (erase iU)) K [(3,(.sl .own 1 (ml b8 r2))),(4,(.sl .own 1 (ml AV.str cu))),(5,(.int .i64 nS)),(6,(.int .i64 i5))] H:=by
 refine jO (fun s e H1=>match s with|(cu,nS,i5)=>e=[(3,(.sl .own 1 (ml b8 r2))),(4,(.sl .own 1 (ml AV.str cu))),(5,(.int .i64 nS)),(6,(.int .i64 i5))]∧H1=H) h ⟨rfl,rfl⟩ ?_
 rintro K' ⟨cu,nS,i5⟩ st e H ⟨rfl,rfl⟩ h hN hB hR hX
 rw [bl.eq_1] at h
 refine aD ?_
 refine cc h (fun bL h=> ?_) fun bL h=> ?_
 · refine aD ?_
   obtain ⟨t9,cj,h⟩:=ay h
   refine cy aB (nT (cu:=cu) cj ?_)
   refine aD ?_
   refine cc h (fun cE h=> ?_) fun cE h=> ?_
   · obtain ⟨oI,fJ,h⟩:=ay h
     have dm:=v7 (f:=b8) fJ
     obtain ⟨iM,eH,h⟩:=ay h
     have c6:cx 16 (ml AV.str cu) [(.str oI)]=some (ml AV.str iM):=fO (f:=AV.str) eH
     refine bn (aX fJ c6) ?_
     obtain rfl:=aF h
     exact hN _ rfl _ _ _ _ aP aB ⟨rfl,rfl⟩
   · refine aD ?_
     obtain rfl:=aF h
     exact hN _ rfl _ _ _ _ aP aB ⟨rfl,rfl⟩
 · refine aD ?_
   obtain rfl:=aF h
   exact hX _ _ _ _ _ fm aP aB (eD _ (hB _ rfl))
theorem qM {F:Nat} {b1:List UInt8} {H0:AH} {bf:List (List UInt8)} (h:fT F b1=some bf):
 aC Tryd.prog 62 [(.sl .n 1 (ml b8 b1))] H0 fun v H'=>v=(.sl .own 1 (ml AV.str bf))∧H'=H0:=by
 refine gS sL iV fun hcl K0 br=> ?_
 rw [fT.eq_1] at h
 refine aD ?_
 obtain ⟨r2,hy1,h⟩:=ay h
 refine bP aB (gV hy1) ?_
 refine aD ?_
 obtain ⟨zb,iP,h⟩:=ay h
 refine cy aB (nU iP ?_)
 · rintro BW rfl
   try dsimp only at h
   refine aD ?_
   obtain rfl:=aF h
   exact br _ _ _ cC (aJ hcl (bS cA (.sl .own 1 (ml AV.str BW))) cB bU ⟨rfl,rfl⟩)
abbrev jz:az:=(.rg [(ax 5 4),(ax 6 0),(ai 7 (.lens (.t 6))),(ai 8 (.bin .lss (.t 5) (.t 7))),(ax 9 8),(aE 10 (.mv (.t 0)) 9 true),(aE 11 (.mv (.t 4)) 9 true),(aE 12 (.ixs (.t 10) (.t 11)) 9 true),(aE 13 (.bin .neq (.t 12) (.c (b8 58))) 9 true),(ai 14 (.pick (.t 9) (.t 13) (.c (.bool false))))])
abbrev iW:az:=(.seq (.seq (.sem (erase jz)) (.cond (.t 14) .skip (.exit 0))) (.blk 1 (.rg [(ax 15 4),(ai 16 (.bin .add (.t 15) (.c (.int .i64 1)))),(aM 4 16)])))
abbrev jA:az:=(.rg [(ax 17 4),(ax 18 0),(ai 19 (.lens (.t 18))),(ai 20 (.bin .eql (.t 17) (.t 19))),(ax 21 20),(aE 22 (.mv (.t 0)) 21 false),(aE 23 (.mv (.t 4)) 21 false),(aE 24 (.uI (.t 22) none (some (.t 23))) 21 false),(aE 25 (.call (.c (.fn 26 [])) [(.t 24)]) 21 false),(aE 26 (.un .not (.t 25)) 21 false),(ai 27 (.pick (.t 21) (.c (.bool true)) (.t 26)))])
abbrev sM:az:=(.seq (.rg [(ai 2 (.alloc [(.str []),(.str [])])),(ai 3 (.bg (.c (.bool false))))]) (.seq (.rg [(ai 4 (.bg (.c (.int .i64 0))))]) (.seq (.blk 0 (.loop (erase iW))) (.seq (.seq (.sem (erase jA)) (.cond (.t 27) (.seq (.rg [(ai 28 (.build [(.str []),(.str [])] [])),(sr (.st (.t 2) (.t 28) 2)),(ai 3 (.bg (.c (.bool false))))]) .ret) .skip)) (.seq (.rg [(ax 29 0),(ax 30 4),(ai 31 (.uI (.t 29) none (some (.t 30)))),(ax 32 0),(ax 33 4),(ai 34 (.bin .add (.t 33) (.c (.int .i64 1)))),(ai 35 (.uI (.t 32) (some (.t 34)) none)),(ai 36 (.build [(.str []),(.str [])] [(0,(1,(.t 31))),(1,(1,(.t 35)))])),(sr (.st (.t 2) (.t 36) 2)),(ai 3 (.bg (.c (.bool true))))]) .ret)))))
theorem sN:bT Tryd.prog 63 37 [(.cell 2 83),(.tmp 3)] (erase sM):=⟨Tryd.f63,_,rfl,by decide,rfl,by kernel_rfl,rfl,rfl⟩
abbrev fU:List Nat:=[0,2,3,4,14,27]
def cZ (i3:Int) (s1:List UInt8):Option (Bool):=
 (if (decide (i3<(s1.length:Int))) then
  (idx s1 i3).bind fun x5=>some (!decide (x5=58))
 else
  some false)
def bV (s1:List UInt8):Int→Option (St (aj×Bool) Int Int)
 |i3=>
  (cZ i3 s1).bind fun t7=>
  (if t7 then
   some (.b7 (IntKind.wrap .i64 (i3+1)))
  else
   some (.fj i3))
def cG (F:Nat) (i9:Int) (s1:List UInt8):Option (Bool):=
 (if (decide (i9=(s1.length:Int))) then
  some true
 else
  (sub s1 0 i9).bind fun iM=>(dJ F iM).bind fun jQ=>some (!jQ))
def fV (F:Nat) (s1:List UInt8):Option (aj×Bool):=
 ((iter (bV s1) F 0).bind fun QY=>
 match QY with
 | .inr i9=>
   (cG F i9 s1).bind fun t14=>
   (if t14 then
    some ((aj.mk ([]:List UInt8) ([]:List UInt8)),false)
   else
    (sub s1 0 i9).bind fun lN=>
    (sub s1 (IntKind.wrap .i64 (i9+1)) (s1.length:Int)).bind fun mT=>some ((aj.mk lN mT),true))
 | .inl _=>none)
theorem nV {i3:Int} {s1:List UInt8} {q4:Nat} {H0 H:AH} (hfr:Fr H0 H0.length [] H) (av:H[q4]? =some [(.str ([]:List UInt8)),(.str ([]:List UInt8))]) (hi0:H0.length≤q4) {K:Exit→Env→AH→Prop} {t6:Bool}
 (h:cZ i3 s1=some t6)
 (kn:∀H':AH,Fr H0 H0.length [] H'→H'[q4]? =some [(.str ([]:List UInt8)),(.str ([]:List UInt8))]→K .normal [(0,(.str s1)),(2,(.ptr q4 0)),(4,(.int .i64 i3)),(14,(.bool t6))] H'):
 AX Tryd.prog fU 37 H0.length (erase jz) K [(0,(.str s1)),(2,(.ptr q4 0)),(4,(.int .i64 i3))] H:=by
 refine e6 fun K' hK=> ?_
 have hle:=hfr.le
 have fo:=gf av
 rw [cZ.eq_1] at h
 refine bO av ?_
 refine eu h (fun hy1 h=> ?_) fun hy1 h=> ?_
 · obtain ⟨x5,bL,h⟩:=ay h
   refine bO (aX hy1 (aX bL av)) ?_
   obtain rfl:=aF h
   exact hK _ _ _ _ _ aP aB (kn _ hfr (av.trans rfl))
 · refine bO (aX hy1 av) ?_
   obtain rfl:=aF h
   exact hK _ _ _ _ _ aP aB (kn _ hfr (av.trans rfl))
theorem nW {F:Nat} {i3:Int} {s1:List UInt8} {q2:Nat} {H0 H:AH} (hfr:Fr H0 H0.length [] H) (av:H[q2]? =some [(.str ([]:List UInt8)),(.str ([]:List UInt8))]) (hi0:H0.length≤q2) {K:Exit→Env→AH→Prop} {o:(aj×Bool)⊕(Int)}
 (h:iter (bV s1) F i3=some o)
 (eD:∀o':Int,o= .inr o'→∀H':AH,Fr H0 H0.length [] H'→H'[q2]? =some [(.str ([]:List UInt8)),(.str ([]:List UInt8))]→K (.exit 0) [(0,(.str s1)),(2,(.ptr q2 0)),(4,(.int .i64 o'))] H'):
 AX Tryd.prog fU 37 H0.length (.loop (erase iW)) K [(0,(.str s1)),(2,(.ptr q2 0)),(4,(.int .i64 i3))] H:=by
 refine jO (fun s e H1=>match s with|i3=>e=[(0,(.str s1)),(2,(.ptr q2 0)),(4,(.int .i64 i3))]∧Fr H0 H0.length [] H1∧H1[q2]? =some [(.str ([]:List UInt8)),(.str ([]:List UInt8))]) h ⟨rfl,hfr,av⟩ ?_
 rintro K' i3 st e H ⟨rfl,hfr,av⟩ h hN hB hR hX
 have hle:=hfr.le
 have fo:=gf av
 rw [bV.eq_1] at h
 refine bO av ?_
 obtain ⟨t7,bM,h⟩:=ay h
 refine cy aB (nV (q4:=q2) hfr (av.trans rfl) y9 bM ?_)
 intro H hfr av
 have hle:=hfr.le
 have fo:=gf av
 refine bO av ?_
 refine cc h (fun bF h=> ?_) fun bF h=> ?_
 · refine bO av ?_
   obtain rfl:=aF h
   exact hN _ rfl _ _ _ _ aP aB ⟨rfl,hfr,(av.trans rfl)⟩
 · refine bO av ?_
   obtain rfl:=aF h
   exact hX _ _ _ _ _ fm aP aB (eD _ (hB _ rfl) _ hfr (av.trans rfl))
theorem nX {F:Nat} {i9:Int} {s1:List UInt8} {sO:Nat} {H0 H:AH} (hfr:Fr H0 H0.length [] H) (av:H[sO]? =some [(.str ([]:List UInt8)),(.str ([]:List UInt8))]) (hi0:H0.length≤sO) {K:Exit→Env→AH→Prop} {t13:Bool}
 (h:cG F i9 s1=some t13)
 (kn:∀H':AH,Fr H0 H0.length [] H'→H'[sO]? =some [(.str ([]:List UInt8)),(.str ([]:List UInt8))]→K .normal [(0,(.str s1)),(2,(.ptr sO 0)),(4,(.int .i64 i9)),(27,(.bool t13))] H'):
 AX Tryd.prog fU 37 H0.length (erase jA) K [(0,(.str s1)),(2,(.ptr sO 0)),(4,(.int .i64 i9))] H:=by
 refine e6 fun K' hK=> ?_
 have hle:=hfr.le
 have fo:=gf av
 rw [cG.eq_1] at h
 refine bO av ?_
 refine eu h (fun bR h=> ?_) fun bR h=> ?_
 · refine bO (aX bR av) ?_
   obtain rfl:=aF h
   exact hK _ _ _ _ _ aP aB (kn _ hfr (av.trans rfl))
 · obtain ⟨iM,cj,h⟩:=ay h
   refine bO (aX bR (aX cj av)) ?_
   obtain ⟨jQ,cE,h⟩:=ay h
   refine bP aB (fS cE) ?_
   refine bO av ?_
   obtain rfl:=aF h
   exact hK _ _ _ _ _ aP aB (kn _ hfr (av.trans rfl))
theorem qN {F:Nat} {s1:List UInt8} {H0:AH} {bf:aj} {mz:Bool} (h:fV F s1=some (bf,mz)):
 aC Tryd.prog 63 [(.str s1)] H0 fun v H'=>v=(.aK [(.agg [(.str bf.name),(.str bf.value)]),(.bool mz)])∧H'=H0:=by
 refine za sN fU [] (F0:=fun _=>True) trivial fun hcl K0 br H hfr hs=> ?_
 have hle:=hfr.le
 rw [fV.eq_1] at h
 refine bJ ?_
 obtain ⟨q2,sD⟩:∃q:Nat,H.length=q:=⟨_,rfl⟩
 try rw [sD]
 obtain ⟨QY,bE,h⟩:=ay h
 refine cy aB (nW (q2:=q2) (Fr.app hfr) N9 y9 bE ?_)
 · rintro i9 rfl H hfr av
   try dsimp only at h av
   have hle:=hfr.le
   have fo:=gf av
   refine bO av ?_
   obtain ⟨t14,fJ,h⟩:=ay h
   refine cy aB (nX (sO:=q2) hfr (av.trans rfl) y9 fJ ?_)
   intro H hfr av
   have hle:=hfr.le
   have fo:=gf av
   refine bO av ?_
   refine cc h (fun dm h=> ?_) fun dm h=> ?_
   · refine bO av ?_
     obtain ⟨rfl,rfl⟩:=mY h
     exact br _ _ _ cC (dX (qF q2 hfr) hcl (rV (cs:=[(.str ([]:List UInt8)),(.str ([]:List UInt8))]) (v:=(.agg [(.str ([]:List UInt8)),(.str ([]:List UInt8))])) (by kernel_rfl) (n:=(some 2)) (by kernel_rfl) rfl BT (by simp [rT,rS,jg,bz,AV.flat,Cz,vm,AV.aR,Tg.sh]) (bS cA (.bool false))) cB bU ⟨rfl,rfl⟩)
   · obtain ⟨lN,eH,h⟩:=ay h
     obtain ⟨mT,c6,h⟩:=ay h
     refine bO (aX eH (aX c6 av)) ?_
     obtain ⟨rfl,rfl⟩:=mY h
     exact br _ _ _ cC (dX (qF q2 hfr) hcl (rV (cs:=[(.str lN),(.str mT)]) (v:=(.agg [(.str lN),(.str mT)])) (by kernel_rfl) (n:=(some 2)) (by kernel_rfl) rfl BT (by simp [rT,rS,jg,bz,AV.flat,Cz,vm,AV.aR,Tg.sh]) (bS cA (.bool true))) cB bU ⟨rfl,rfl⟩)
abbrev jB:az:=(.rg [(ax 26 9),(ai 27 (.bin .neq (.t 26) (.c (.str [])))),(ax 28 27),(aE 29 (.mv (.t 9)) 28 true),(aE 30 (.ixs (.t 29) (.c (.int .i64 0))) 28 true),(aE 31 (.bin .eql (.t 30) (.c (b8 32))) 28 true),(aE 32 (.mv (.t 31)) 28 true),(aE 33 (.mv (.t 9)) 32 false),(aE 34 (.ixs (.t 33) (.c (.int .i64 0))) 32 false),(aE 35 (.bin .eql (.t 34) (.c (b8 9))) 32 false),(aE 36 (.pick (.t 32) (.c (.bool true)) (.t 35)) 28 true),(ai 37 (.pick (.t 28) (.t 36) (.c (.bool false)))),(ax 38 37),(aE 39 (.mv (.t 6)) 38 true),(aE 40 (.len (.t 39)) 38 true),(aE 41 (.bin .gtr (.t 40) (.c (.int .i64 0))) 38 true),(ai 42 (.pick (.t 38) (.t 41) (.c (.bool false))))])
abbrev jC:az:=(.cond (.t 72) (.rg [(ax 73 7),(ai 74 (.bin .add (.t 73) (.c (.int .i64 2)))),(aM 7 74)]) .skip)
abbrev jD:az:=(.rg [(ax 75 6),(ax 76 4),(ax 77 7),(ai 78 (.slc 1 (.t 76) (some (.t 77)) none none)),(aM 2 75),(aM 3 78)])
abbrev iX:az:=(.seq (.seq (.rg [(ax 16 8),(ax 17 5),(ai 18 (.len (.t 17))),(ai 19 (.bin .lss (.t 16) (.t 18)))]) (.cond (.t 19) .skip (.exit 0))) (.seq (.blk 1 (.seq (.rg [(ax 22 5),(ax 23 8),(ai 24 (.dV 1 (.t 22) (.t 23))),(ai 25 (.ld (.t 24) none)),(aM 9 25)]) (.seq (.seq (.sem (erase jB)) (.cond (.t 42) (.seq (.rg [(ax 43 6),(ax 44 6),(ai 45 (.len (.t 44))),(ai 46 (.bin .sub (.t 45) (.c (.int .i64 1)))),(ax 47 6),(ax 48 6),(ai 49 (.len (.t 48))),(ai 50 (.bin .sub (.t 49) (.c (.int .i64 1)))),(ai 51 (.dV 2 (.t 47) (.t 50))),(ai 52 (.gH (.t 51) 1)),(ai 53 (.ld (.t 52) none)),(ai 54 (.bin .add (.t 53) (.c (.str [13,10])))),(ax 55 9),(ai 56 (.bin .add (.t 54) (.t 55))),(ai 57 (.dV 2 (.t 43) (.t 46))),(ai 58 (.gH (.t 57) 1)),(sr (.st (.t 58) (.t 56) 1))]) (.seq (.rg [(ax 59 7),(ax 60 9),(ai 61 (.lens (.t 60))),(ai 62 (.bin .add (.t 59) (.t 61))),(ai 63 (.bin .add (.t 62) (.c (.int .i64 2)))),(aM 7 63)]) (.exit 1))) .skip)) (.seq (.rg [(ax 65 9),(ai 66 (.call (.c (.fn 63 [])) [(.t 65)])),(ax 64 66),(ai 67 (.ext (.t 64) 0)),(ai 68 (.ext (.t 64) 1)),(ai 10 (.alloc [(.str []),(.str [])])),(sr (.st (.t 10) (.t 67) 2)),(aM 11 68)]) (.seq (.seq (.rg [(ax 69 11),(ai 70 (.un .not (.t 69)))]) (.cond (.t 70) (.seq (.seq (.rg [(ax 71 9),(ai 72 (.bin .eql (.t 71) (.c (.str []))))]) (.sem (erase jC))) (.seq (.sem (erase jD)) .ret)) .skip)) (.seq (.rg [(ax 79 6),(ai 80 (.ld (.t 10) (some 2))),(ai 81 (.mP 2 [(.t 80)])),(ai 82 (.fy 2 32 (.t 79) (.t 81))),(aM 6 82)]) (.rg [(ax 83 7),(ax 84 9),(ai 85 (.lens (.t 84))),(ai 86 (.bin .add (.t 83) (.t 85))),(ai 87 (.bin .add (.t 86) (.c (.int .i64 2)))),(aM 7 87)]))))))) (.rg [(ax 20 8),(ai 21 (.bin .add (.t 20) (.c (.int .i64 1)))),(aM 8 21)])))
abbrev jE:az:=(.rg [(ax 88 6),(aM 2 88),(ai 3 (.bg (.c (.sl .ex 1 []))))])
abbrev sP:az:=(.seq (.rg [(ai 2 (.bg (.c (.sl .ex 2 [])))),(ai 3 (.bg (.c (.sl .ex 1 []))))]) (.seq (.rg [(ax 12 0),(ai 13 (.call (.c (.fn 31 [])) [(.t 12)])),(aM 4 13)]) (.seq (.rg [(ax 14 0),(ai 15 (.call (.c (.fn 62 [])) [(.t 14)])),(aM 5 15)]) (.seq (.rg [(ai 6 (.kJ 2 (.c (.sl .ex 2 []))))]) (.seq (.rg [(ai 7 (.bg (.c (.int .i64 0))))]) (.seq (.seq (.rg [(ai 8 (.bg (.c (.int .i64 0))))]) (.blk 0 (.loop (erase iX)))) (.seq (.sem (erase jE)) .ret)))))))
theorem sQ:bT Tryd.prog 20 89 [(.tmp 2),(.tmp 3)] (erase sP):=⟨Tryd.f20,_,rfl,by decide,rfl,by kernel_rfl,rfl,rfl⟩
abbrev dH:List Nat:=[0,2,3,4,5,6,7,8,9,10,11,19,42,70,72]
def dZ (x9:List UInt8) (s8:List aj):Option (Bool):=
 (if (!decide (x9=([]:List UInt8))) then
  (idx x9 0).bind fun Fy=>
  (if (decide (Fy=32)) then
   some (decide (0<(s8.length:Int)))
  else
   (if (decide (Fy=9)) then
    some (decide (0<(s8.length:Int)))
   else
    some false))
 else
  some false)
def cH (x9:List UInt8) (kE:Int):Option (Int):=
 (if (decide (x9=([]:List UInt8))) then
  some (IntKind.wrap .i64 (kE+2))
 else
  some kE)
def ec (r2:List UInt8) (sR:Int) (s8:List aj):Option ((List aj)×(List UInt8)):=
 (sub r2 sR (r2.length:Int)).bind fun QZ=>some (s8,QZ)
def cI (F:Nat) (r3:List (List UInt8)) (r2:List UInt8):(Int×Int×(List aj))→Option (St ((List aj)×(List UInt8)) (List aj) (Int×Int×(List aj)))
 |(kE,i7,s8)=>
  (if (decide (i7<(r3.length:Int))) then
   (idx r3 i7).bind fun x9=>
   (dZ x9 s8).bind fun t14=>
   (if t14 then
    (mR s8.length (IntKind.wrap .i64 ((s8.length:Int) - 1))).bind fun FA=>
    (s8[FA]?).bind fun mT=>
    (cat mT.value ([13,10]:List UInt8)).bind fun I0=>
    (cat I0 x9).bind fun wN=>
    some (.b7 ((IntKind.wrap .i64 ((IntKind.wrap .i64 (kE+(x9.length:Int)))+2)),(IntKind.wrap .i64 (i7+1)),(List.set s8 FA (aj.mk mT.name wN))))
   else
    (fV F x9).bind fun (zj,I8)=>
    (if (!I8) then
     (cH x9 kE).bind fun sR=>
     (ec r2 sR s8).bind fun (t28,t29)=>
     some (.ret (t28,t29))
    else
     (cx 32 s8 ([zj]:List aj)).bind fun Q0=>
     some (.b7 ((IntKind.wrap .i64 ((IntKind.wrap .i64 (kE+(x9.length:Int)))+2)),(IntKind.wrap .i64 (i7+1)),Q0))))
  else
   some (.fj s8))
def fW (F:Nat) (b1:List UInt8):Option ((List aj)×(List UInt8)):=
 (dS b1).bind fun r2=>
 (fT F b1).bind fun r3=>
 ((iter (cI F r3 r2) F (0,0,([]:List aj))).bind fun Q1=>
 match Q1 with
 | .inr wS=>
   some (wS,([]:List UInt8))
 | .inl (Ol,Om)=>
   some (Ol,Om))
theorem nY {x9:List UInt8} {s8:List aj} {r2:List UInt8} {r3:List (List UInt8)} {sO:Nat} {Lv:Nat} {kE:Int} {i7:Int} {H0 H:AH} (hfr:Fr H0 H0.length [] H) (av:GF 2 H0.length sO (ml ak s8) Lv H) {K:Exit→Env→AH→Prop} {t13:Bool}
 (h:dZ x9 s8=some t13)
 (kn:∀H':AH,Fr H0 H0.length [] H'→GF 2 H0.length sO (ml ak s8) Lv H'→K .normal [(4,(.sl .own 1 (ml b8 r2))),(5,(.sl .own 1 (ml AV.str r3))),(6,(.aZ sO 2 s8.length Lv)),(7,(.int .i64 kE)),(8,(.int .i64 i7)),(9,(.str x9)),(42,(.bool t13))] H'):
 AX Tryd.prog dH 89 H0.length (erase jB) K [(4,(.sl .own 1 (ml b8 r2))),(5,(.sl .own 1 (ml AV.str r3))),(6,(.aZ sO 2 s8.length Lv)),(7,(.int .i64 kE)),(8,(.int .i64 i7)),(9,(.str x9))] H:=by
 refine e6 fun K' hK=> ?_
 have hle:=hfr.le
 rw [dZ.eq_1] at h
 refine bJ ?_
 refine eu h (fun bE h=> ?_) fun bE h=> ?_
 · obtain ⟨Fy,bR,h⟩:=ay h
   refine bO (aX bE bR) ?_
   refine eu h (fun cj h=> ?_) fun cj h=> ?_
   · refine bO cj ?_
     obtain rfl:=aF h
     exact hK _ _ _ _ _ (jN (aX bE cj)) aB (kn _ hfr av)
   · refine bO (aX cj bR) ?_
     refine eu h (fun cE h=> ?_) fun cE h=> ?_
     · refine bO cE ?_
       obtain rfl:=aF h
       exact hK _ _ _ _ _ (jN (aX bE (aX cj cE))) aB (kn _ hfr av)
     · refine bO cE ?_
       obtain rfl:=aF h
       exact hK _ _ _ _ _ (jN (aX bE (aX cj cE))) aB (kn _ hfr av)
 · refine bO bE ?_
   obtain rfl:=aF h
   exact hK _ _ _ _ _ (jN bE) aB (kn _ hfr av)
theorem nZ {x9:List UInt8} {kE:Int} {r2:List UInt8} {I9:Nat} {s8:List aj} {tN:Nat} {H0 H:AH} (hfr:Fr H0 H0.length [] H) (av:GF 2 H0.length I9 (ml ak s8) tN H) {K:Exit→Env→AH→Prop} {L4:Int}
 (h:cH x9 kE=some L4)
 (kn:∀H':AH,Fr H0 H0.length [] H'→GF 2 H0.length I9 (ml ak s8) tN H'→K .normal [(4,(.sl .own 1 (ml b8 r2))),(6,(.aZ I9 2 s8.length tN)),(7,(.int .i64 L4))] H'):
 AX Tryd.prog dH 89 H0.length (erase jC) K [(4,(.sl .own 1 (ml b8 r2))),(6,(.aZ I9 2 s8.length tN)),(7,(.int .i64 kE)),(72,(.bool (decide (x9=([]:List UInt8)))))] H:=by
 refine e6 fun K' hK=> ?_
 have hle:=hfr.le
 rw [cH.eq_1] at h
 refine bJ ?_
 refine cc h (fun sB h=> ?_) fun sB h=> ?_
 · refine bJ ?_
   obtain rfl:=aF h
   exact hK _ _ _ _ _ aP aB (kn _ hfr av)
 · refine bJ ?_
   obtain rfl:=aF h
   exact hK _ _ _ _ _ aP aB (kn _ hfr av)
theorem n5 {r2:List UInt8} {sR:Int} {s8:List aj} {H0 H:AH} (hfr:Fr H0 H0.length [] H) {K:Exit→Env→AH→Prop} {t26:List aj} {t27:List UInt8}
 (h:ec r2 sR s8=some (t26,t27))
 (kn:∀H':AH,Fr H0 H0.length [] H'→K .normal [(2,(.sl .n 2 (ml ak t26))),(3,(.sl .n 1 (ml b8 t27)))] H'):
 AX Tryd.prog dH 89 H0.length (erase jD) K [(4,(.sl .own 1 (ml b8 r2))),(6,(.sl .n 2 (ml ak s8))),(7,(.int .i64 sR))] H:=by
 refine e6 fun K' hK=> ?_
 have hle:=hfr.le
 rw [ec.eq_1] at h
 obtain ⟨QZ,qx,h⟩:=ay h
 have uF:=v7 (f:=b8) qx
 refine bO qx ?_
 obtain ⟨rfl,rfl⟩:=mY h
 exact hK _ _ _ _ _ aP aB (kn _ hfr)
theorem n6 {F:Nat} {i7:Int} {r3:List (List UInt8)} {s8:List aj} {kE:Int} {r2:List UInt8} {q4:Nat} {q5:Nat} {H0 H:AH} (hfr:Fr H0 H0.length [] H) (av:GF 2 H0.length q4 (ml ak s8) q5 H) {K:Exit→Env→AH→Prop} {o:((List aj)×(List UInt8))⊕((List aj))}
 (h:iter (cI F r3 r2) F (kE,i7,s8)=some o)
 (eD:∀o':(List aj),o= .inr o'→∀H':AH,∀Q2 Oe:Nat,Fr H0 H0.length [] H'→GF 2 H0.length Q2 (ml ak o') Oe H'→K (.exit 0) [(6,(.aZ Q2 2 o'.length Oe))] H')
 (kr:∀o':(List aj)×(List UInt8),o= .inl o'→∀H':AH,Fr H0 H0.length [] H'→K .ret [(2,(.sl .n 2 (ml ak o'.1))),(3,(.sl .n 1 (ml b8 o'.2)))] H'):
 AX Tryd.prog dH 89 H0.length (.loop (erase iX)) K [(4,(.sl .own 1 (ml b8 r2))),(5,(.sl .own 1 (ml AV.str r3))),(6,(.aZ q4 2 s8.length q5)),(7,(.int .i64 kE)),(8,(.int .i64 i7))] H:=by
 refine jO (fun s e H1=>match s with|(kE,i7,s8)=>∃q4 q5:Nat,e=[(4,(.sl .own 1 (ml b8 r2))),(5,(.sl .own 1 (ml AV.str r3))),(6,(.aZ q4 2 s8.length q5)),(7,(.int .i64 kE)),(8,(.int .i64 i7))]∧Fr H0 H0.length [] H1∧GF 2 H0.length q4 (ml ak s8) q5 H1) h ⟨q4,q5,rfl,hfr,av⟩ ?_
 rintro K' ⟨kE,i7,s8⟩ st e H ⟨q4,q5,rfl,hfr,av⟩ h hN hB hR hX
 have hle:=hfr.le
 rw [cI.eq_1] at h
 refine bJ ?_
 refine cc h (fun bM h=> ?_) fun bM h=> ?_
 · obtain ⟨x9,bF,h⟩:=ay h
   refine bO bF ?_
   obtain ⟨t14,fJ,h⟩:=ay h
   refine cy aB (nY (r2:=r2) (r3:=r3) (kE:=kE) (i7:=i7) hfr av fJ ?_)
   intro H hfr av
   have hle:=hfr.le
   refine bJ ?_
   refine cc h (fun dm h=> ?_) fun dm h=> ?_
   · obtain ⟨FA,eH,h⟩:=ay h
     obtain ⟨mT,c6,h⟩:=ay h
     have iP:=GF.Le (f:=ak) (av) c6
     have mq:(eo 2 (ml ak s8) q5)[FA*2+1]? =some (.str mT.value):=pU (f:=ak) (fun _=>⟨rfl,rfl,rfl,rfl⟩) c6 (by decide)
     obtain ⟨I0,oP,h⟩:=ay h
     obtain ⟨wN,mu,h⟩:=ay h
     have mZ:=GF.Le (f:=ak) (av) c6
     have mw:=GF.Ql (f:=ak) (av) c6
     have nc:over (eo 2 (ml ak s8) q5) (FA*2+1) [(.str wN)]=some (eo 2 (ml ak (List.set s8 FA (aj.mk mT.name wN))) q5):=nI (f:=ak) (x':=(aj.mk mT.name wN)) (fun _=>⟨rfl,rfl,rfl,rfl⟩) c6 (by decide) rfl
     have sA:=GF.LY (f:=ak) (x':=(aj.mk mT.name wN)) (av) c6
     refine bO (aX eH (aX iP (aX mq (aX oP (aX mu (aX eH (aX mZ nc))))))) ?_
     obtain rfl:=aF h
     exact hN _ rfl _ _ _ _ aP aB ⟨q4,q5,rfl,(Fr.set (s:=q4) hfr (.inr mw)),sA⟩
   · refine bJ ?_
     obtain ⟨⟨zj,I8⟩,mo,h⟩:=ay h
     dsimp only at h
     refine bP aB (qN mo) ?_
     refine bJ ?_
     refine cc h (fun sy h=> ?_) fun sy h=> ?_
     · refine bJ ?_
       obtain ⟨sR,sC,h⟩:=ay h
       refine cy aB (nZ (r2:=r2) (s8:=s8) (I9:=q4) (tN:=q5) (qF H.length (Fr.app hfr)) (GF.of av (fun hl hn=>(QC (QD rfl)))) sC ?_)
       intro H hfr av
       have hle:=hfr.le
       refine bJ ?_
       refine Fs ?_
       apply AX.sn (n1:=H0.length) (by decide) (EK.ml (f:=ak) (fun _=>⟨rfl,rfl,rfl,rfl⟩) s8) (av)
       · repeat (first|exact FG.nil|apply FG.lay _ _ _ _ (jm _ _).symm|apply FG.same)
       intro H kQ p7
       have hfr:=Fr.lay hfr kQ p7
       have hle:=hfr.le
       refine IM ?_
       obtain ⟨⟨t28,t29⟩,oR,h⟩:=ay h
       dsimp only at h
       refine cy aB (n5 hfr oR ?_)
       intro H hfr
       have hle:=hfr.le
       refine bJ ?_
       obtain rfl:=aF h
       exact hX _ _ _ _ _ fm aP aB (kr _ (hR _ rfl) _ hfr)
     · obtain ⟨Q0,zk,h⟩:=ay h
       refine bJ ?_
       obtain ⟨Q3,Lw⟩:∃q:Nat,H.length=q:=⟨_,rfl⟩
       try rw [Lw]
       refine QG (f:=ak) (X:=s8) (Y:=([zj]:List aj)) (n1:=H0.length) (fun _=>⟨rfl,rfl,rfl,rfl⟩) (by decide) rfl rfl rfl (by simp) zk ((GF.of av (fun hl hn=>(QC (QD rfl))))) (by first|assumption|omega|(simp only [j3,j4]<;>omega)|fail) fun Lm Ln H Od kQ p7 Gu=> ?_
       have hfr:=Fr.grow (qF Q3 (Fr.app hfr)) kQ p7
       have Ja:H[Q3]? =some [(.str zj.name),(.str zj.value)]:=(kQ _ (gf (by exact BT)) (by first|exact .inl (by first|assumption|omega|(simp only [j3,j4]<;>omega)|fail)|exact .inr (fun hc=>by have SI:=GF.lt (av) hc;(first|assumption|omega|(simp only [j3,j4]<;>omega)|fail)))).trans (by exact BT)
       have av:=Od
       have hle:=hfr.le
       have S0:=gf Ja
       refine bO Ja ?_
       obtain rfl:=aF h
       exact hN _ rfl _ _ _ _ aP aB ⟨Lm,Ln,rfl,hfr,av⟩
 · refine bJ ?_
   obtain rfl:=aF h
   exact hX _ _ _ _ _ fm aP aB (eD _ (hB _ rfl) _ q4 q5 hfr av)
theorem n7 {wS:List aj} {H0 H:AH} (hfr:Fr H0 H0.length [] H) {K:Exit→Env→AH→Prop}
 (kn:∀H':AH,Fr H0 H0.length [] H'→K .normal [(2,(.sl .n 2 (ml ak wS))),(3,(.sl .ex 1 []))] H'):
 AX Tryd.prog dH 89 H0.length (erase jE) K [(6,(.sl .n 2 (ml ak wS)))] H:=by
 refine e6 fun K' hK=> ?_
 have hle:=hfr.le
 refine bJ ?_
 exact hK _ _ _ _ _ aP aB (kn _ hfr)
theorem qO {F:Nat} {b1:List UInt8} {H0:AH} {bf:List aj} {mz:List UInt8} (h:fW F b1=some (bf,mz)):
 aC Tryd.prog 20 [(.sl .n 1 (ml b8 b1))] H0 fun v H'=>v=(.aK [(.sl .n 2 (ml ak bf)),(.sl .n 1 (ml b8 mz))])∧H'=H0:=by
 refine za sQ dH [] (F0:=fun _=>True) trivial fun hcl K0 br H hfr hs=> ?_
 have hle:=hfr.le
 rw [fW.eq_1] at h
 refine bJ ?_
 obtain ⟨r2,hy1,h⟩:=ay h
 refine bP aB (gV hy1) ?_
 refine bJ ?_
 obtain ⟨r3,bL,h⟩:=ay h
 refine bP aB (qM bL) ?_
 refine bJ ?_
 obtain ⟨Q1,Jb,h⟩:=ay h
 refine cy aB (n6 hfr GF.nil Jb ?_ ?_)
 · rintro wS rfl H TW TX hfr av
   try dsimp only at h av
   have hle:=hfr.le
   refine bJ ?_
   refine Fs ?_
   apply AX.sn (n1:=H0.length) (by decide) (EK.ml (f:=ak) (fun _=>⟨rfl,rfl,rfl,rfl⟩) wS) (av)
   · repeat (first|exact FG.nil|apply FG.lay _ _ _ _ (jm _ _).symm|apply FG.same)
   intro H kQ p7
   have hfr:=Fr.lay hfr kQ p7
   have hle:=hfr.le
   refine IM ?_
   refine cy aB (n7 (wS:=wS) hfr ?_)
   intro H hfr
   have hle:=hfr.le
   refine bJ ?_
   obtain ⟨rfl,rfl⟩:=mY h
   exact br _ _ _ cC (dX hfr hcl (bS (bS cA (.sl .ex 1 [])) (.sl .n 2 (ml ak wS))) cB bU ⟨rfl,rfl⟩)
 · rintro ⟨Ol,Om⟩ rfl H hfr
   try dsimp only at h
   have hle:=hfr.le
   refine bJ ?_
   obtain ⟨rfl,rfl⟩:=mY h
   exact br _ _ _ cC (dX hfr hcl (bS (bS cA (.sl .n 1 (ml b8 Om))) (.sl .n 2 (ml ak Ol))) cB bU ⟨rfl,rfl⟩)
abbrev jF:az:=(.rg [(ax 13 3),(ax 14 4),(ai 15 (.dV 1 (.t 13) (.t 14))),(ai 16 (.ld (.t 15) none)),(ai 17 (.bin .geq (.t 16) (.c (b8 65)))),(ax 18 17),(aE 19 (.mv (.t 3)) 18 true),(aE 20 (.mv (.t 4)) 18 true),(aE 21 (.dV 1 (.t 19) (.t 20)) 18 true),(aE 22 (.ld (.t 21) none) 18 true),(aE 23 (.bin .leq (.t 22) (.c (b8 90))) 18 true),(ai 24 (.pick (.t 18) (.t 23) (.c (.bool false))))])
abbrev iY:az:=(.seq (.seq (.rg [(ax 7 4),(ax 8 3),(ai 9 (.len (.t 8))),(ai 10 (.bin .lss (.t 7) (.t 9)))]) (.cond (.t 10) .skip (.exit 0))) (.seq (.blk 1 (.seq (.sem (erase jF)) (.cond (.t 24) (.rg [(ax 25 3),(ax 26 4),(ax 27 3),(ax 28 4),(ai 29 (.dV 1 (.t 27) (.t 28))),(ai 30 (.ld (.t 29) none)),(ai 31 (.bin .add (.t 30) (.c (b8 32)))),(ai 32 (.dV 1 (.t 25) (.t 26))),(sr (.st (.t 32) (.t 31) 1))]) .skip))) (.rg [(ax 11 4),(ai 12 (.bin .add (.t 11) (.c (.int .i64 1)))),(aM 4 12)])))
abbrev sS:az:=(.seq (.rg [(ai 2 (.bg (.c (.str []))))]) (.seq (.rg [(ax 5 0),(ai 6 (.jh (.t 5))),(aM 3 6)]) (.seq (.seq (.rg [(ai 4 (.bg (.c (.int .i64 0))))]) (.blk 0 (.loop (erase iY)))) (.seq (.rg [(ax 33 3),(ai 34 (.eZ .bs (.t 33))),(aM 2 34)]) .ret))))
theorem sU:bT Tryd.prog 42 35 [(.tmp 2)] (erase sS):=⟨Tryd.f42,_,rfl,by decide,rfl,by kernel_rfl,rfl,rfl⟩
abbrev iZ:List Nat:=[0,2,3,4,10,24]
def ef (s1:List UInt8) (i3:Int) (s4:List UInt8):Option (Bool):=
 (mR s1.length i3).bind fun j6=>
 (s4[j6]?).bind fun x7=>
 (if (decide (65≤x7)) then
  some (decide (x7≤90))
 else
  some false)
def cJ (s1:List UInt8):(Int×(List UInt8))→Option (St (List UInt8) (List UInt8) (Int×(List UInt8)))
 |(i3,s4)=>
  (if (decide (i3<(s1.length:Int))) then
   (ef s1 i3 s4).bind fun t9=>
   (if t9 then
    (mR s1.length i3).bind fun On=>
    (s4[On]?).bind fun iM=>
    (uD s4 On (iM+32)).bind fun Q4=>some (.b7 ((IntKind.wrap .i64 (i3+1)),Q4))
   else
    some (.b7 ((IntKind.wrap .i64 (i3+1)),s4)))
  else
   some (.fj s4))
def eO (F:Nat) (s1:List UInt8):Option ((List UInt8)):=
 ((iter (cJ s1) F (0,s1)).bind fun Q5=>
 match Q5 with
 | .inr Q6=>
   (sub Q6 0 (s1.length:Int)).bind fun lN=>some lN
 | .inl _=>none)
theorem n8 {s1:List UInt8} {i3:Int} {s4:List UInt8} {q5:Nat} {H0 H:AH} (hfr:Fr H0 H0.length [] H) (av:H[q5]? =some (ml b8 s4)) (hi0:H0.length≤q5) {K:Exit→Env→AH→Prop} {t8:Bool}
 (h:ef s1 i3 s4=some t8)
 (kn:∀H':AH,Fr H0 H0.length [] H'→H'[q5]? =some (ml b8 s4)→K .normal [(3,(.bu q5 1 0 s1.length)),(4,(.int .i64 i3)),(24,(.bool t8))] H'):
 AX Tryd.prog iZ 35 H0.length (erase jF) K [(3,(.bu q5 1 0 s1.length)),(4,(.int .i64 i3))] H:=by
 refine e6 fun K' hK=> ?_
 have hle:=hfr.le
 have fo:=gf av
 rw [ef.eq_1] at h
 obtain ⟨j6,bL,h⟩:=ay h
 obtain ⟨x7,bM,h⟩:=ay h
 refine bO (aX bL (aX bM av)) ?_
 refine eu h (fun bF h=> ?_) fun bF h=> ?_
 · refine bO (aX bF (aX bL (aX bM av))) ?_
   obtain rfl:=aF h
   exact hK _ _ _ _ _ aP aB (kn _ hfr (av.trans rfl))
 · refine bO (aX bF av) ?_
   obtain rfl:=aF h
   exact hK _ _ _ _ _ aP aB (kn _ hfr (av.trans rfl))
theorem n9 {F:Nat} {i3:Int} {s1:List UInt8} {s4:List UInt8} {q2:Nat} {H0 H:AH} (hfr:Fr H0 H0.length [] H) (av:H[q2]? =some (ml b8 s4)) (hi0:H0.length≤q2) {K:Exit→Env→AH→Prop} {o:((List UInt8))⊕((List UInt8))}
 (h:iter (cJ s1) F (i3,s4)=some o)
 (eD:∀o':(List UInt8),o= .inr o'→∀H':AH,Fr H0 H0.length [] H'→H'[q2]? =some (ml b8 o')→K (.exit 0) [(3,(.bu q2 1 0 s1.length))] H'):
 AX Tryd.prog iZ 35 H0.length (.loop (erase iY)) K [(3,(.bu q2 1 0 s1.length)),(4,(.int .i64 i3))] H:=by
 refine jO (fun s e H1=>match s with|(i3,s4)=>e=[(3,(.bu q2 1 0 s1.length)),(4,(.int .i64 i3))]∧Fr H0 H0.length [] H1∧H1[q2]? =some (ml b8 s4)) h ⟨rfl,hfr,av⟩ ?_
 rintro K' ⟨i3,s4⟩ st e H ⟨rfl,hfr,av⟩ h hN hB hR hX
 have hle:=hfr.le
 have fo:=gf av
 rw [cJ.eq_1] at h
 refine bO av ?_
 refine cc h (fun hy1 h=> ?_) fun hy1 h=> ?_
 · refine bO av ?_
   obtain ⟨t9,bE,h⟩:=ay h
   refine cy aB (n8 (q5:=q2) hfr (av.trans rfl) y9 bE ?_)
   intro H hfr av
   have hle:=hfr.le
   have fo:=gf av
   refine bO av ?_
   refine cc h (fun bR h=> ?_) fun bR h=> ?_
   · obtain ⟨On,cj,h⟩:=ay h
     obtain ⟨iM,cE,h⟩:=ay h
     obtain ⟨Q4,fJ,h⟩:=ay h
     refine bO (aX cj (aX cE (aX cj (aX fJ av)))) ?_
     obtain rfl:=aF h
     exact hN _ rfl _ _ _ _ aP aB ⟨rfl,(qF q2 hfr),BT⟩
   · refine bO av ?_
     obtain rfl:=aF h
     exact hN _ rfl _ _ _ _ aP aB ⟨rfl,hfr,(av.trans rfl)⟩
 · refine bO av ?_
   obtain rfl:=aF h
   exact hX _ _ _ _ _ fm aP aB (eD _ (hB _ rfl) _ hfr (av.trans rfl))
theorem lI {F:Nat} {s1:List UInt8} {H0:AH} {bf:List UInt8} (h:eO F s1=some bf):
 aC Tryd.prog 42 [(.str s1)] H0 fun v H'=>v=(.str bf)∧H'=H0:=by
 refine za sU iZ [] (F0:=fun _=>True) trivial fun hcl K0 br H hfr hs=> ?_
 have hle:=hfr.le
 rw [eO.eq_1] at h
 refine bJ ?_
 obtain ⟨q2,sD⟩:∃q:Nat,H.length=q:=⟨_,rfl⟩
 try rw [sD]
 obtain ⟨Q5,dm,h⟩:=ay h
 refine cy aB (n9 (q2:=q2) (Fr.app hfr) N9 y9 dm ?_)
 · rintro Q6 rfl H hfr av
   try dsimp only at h av
   have hle:=hfr.le
   have fo:=gf av
   refine bJ ?_
   obtain ⟨lN,eH,h⟩:=ay h
   refine bO (aX eH av) ?_
   obtain rfl:=aF h
   exact br _ _ _ cC (dX hfr hcl (bS cA (.str lN)) cB bU ⟨rfl,rfl⟩)
abbrev kF:az:=(.seq (.seq (.rg [(ax 9 8),(ax 10 0),(ai 11 (.len (.t 10))),(ai 12 (.bin .lss (.t 9) (.t 11)))]) (.cond (.t 12) .skip (.exit 0))) (.seq (.blk 1 (.seq (.rg [(ax 15 0),(ax 16 8),(ai 17 (.dV 2 (.t 15) (.t 16))),(ai 18 (.gH (.t 17) 0)),(ai 19 (.ld (.t 18) none)),(ai 20 (.call (.c (.fn 42 [])) [(.t 19)])),(ax 21 1),(ai 22 (.call (.c (.fn 42 [])) [(.t 21)])),(ai 23 (.bin .eql (.t 20) (.t 22)))]) (.cond (.t 23) (.seq (.seq (.rg [(ax 24 7),(ai 25 (.bin .eql (.t 24) (.c (.int .i64 0))))]) (.cond (.t 25) (.rg [(ax 26 0),(ax 27 8),(ai 28 (.dV 2 (.t 26) (.t 27))),(ai 29 (.gH (.t 28) 1)),(ai 30 (.ld (.t 29) none)),(aM 6 30)]) .skip)) (.rg [(ax 31 7),(ai 32 (.bin .add (.t 31) (.c (.int .i64 1)))),(aM 7 32)])) .skip))) (.rg [(ax 13 8),(ai 14 (.bin .add (.t 13) (.c (.int .i64 1)))),(aM 8 14)])))
abbrev wT:az:=(.seq (.rg [(ai 4 (.bg (.c (.str [])))),(ai 5 (.bg (.c (.int .i64 0))))]) (.seq (.rg [(ai 6 (.bg (.c (.str []))))]) (.seq (.rg [(ai 7 (.bg (.c (.int .i64 0))))]) (.seq (.seq (.rg [(ai 8 (.bg (.c (.int .i64 0))))]) (.blk 0 (.loop (erase kF)))) (.seq (.rg [(ax 33 6),(ax 34 7),(aM 4 33),(aM 5 34)]) .ret)))))
theorem wU:bT Tryd.prog 21 35 [(.tmp 4),(.tmp 5)] (erase wT):=⟨Tryd.f21,_,rfl,by decide,rfl,by kernel_rfl,rfl,rfl⟩
abbrev pz:List Nat:=[0,1,4,5,6,7,8,12,23,25]
def dh (F:Nat) (l1:List aj) (bA:List UInt8):((List UInt8)×Int×Int)→Option (St ((List UInt8)×Int) ((List UInt8)×Int) ((List UInt8)×Int×Int))
 |(v3,iR,i5)=>
  (if (decide (i5<(l1.length:Int))) then
   (idx l1 i5).bind fun x6=>
   (eO F x6.name).bind fun r7=>
   (eO F bA).bind fun r8=>
   (if (decide (r7=r8)) then
    (if (decide (iR=0)) then
     some (.b7 (x6.value,(IntKind.wrap .i64 (iR+1)),(IntKind.wrap .i64 (i5+1))))
    else
     some (.b7 (v3,(IntKind.wrap .i64 (iR+1)),(IntKind.wrap .i64 (i5+1)))))
   else
    some (.b7 (v3,iR,(IntKind.wrap .i64 (i5+1)))))
  else
   some (.fj (v3,iR)))
def gC (F:Nat) (l1:List aj) (bA:List UInt8):Option ((List UInt8)×Int):=
 ((iter (dh F l1 bA) F (([]:List UInt8),0,0)).bind fun IV=>
 match IV with
 | .inr (v11,sE)=>
   some (v11,sE)
 | .inl _=>none)
theorem qd {F:Nat} {i5:Int} {l1:List aj} {bA:List UInt8} {iR:Int} {v3:List UInt8} {H:AH} {K:Exit→Env→AH→Prop} {o:((List UInt8)×Int)⊕((List UInt8)×Int)}
 (h:iter (dh F l1 bA) F (v3,iR,i5)=some o)
 (eD:∀o':(List UInt8)×Int,o= .inr o'→K (.exit 0) [(6,(.str o'.1)),(7,(.int .i64 o'.2))] H):
 AX Tryd.prog pz 35 H.length (.loop (erase kF)) K [(0,(.sl .n 2 (ml ak l1))),(1,(.str bA)),(6,(.str v3)),(7,(.int .i64 iR)),(8,(.int .i64 i5))] H:=by
 refine jO (fun s e H1=>match s with|(v3,iR,i5)=>e=[(0,(.sl .n 2 (ml ak l1))),(1,(.str bA)),(6,(.str v3)),(7,(.int .i64 iR)),(8,(.int .i64 i5))]∧H1=H) h ⟨rfl,rfl⟩ ?_
 rintro K' ⟨v3,iR,i5⟩ st e H ⟨rfl,rfl⟩ h hN hB hR hX
 rw [dh.eq_1] at h
 refine aD ?_
 refine cc h (fun hy1 h=> ?_) fun hy1 h=> ?_
 · obtain ⟨x6,bL,h⟩:=ay h
   refine bn bL ?_
   obtain ⟨r7,bM,h⟩:=ay h
   refine bP aB (lI bM) ?_
   refine aD ?_
   obtain ⟨r8,bF,h⟩:=ay h
   refine bP aB (lI bF) ?_
   refine aD ?_
   refine cc h (fun bE h=> ?_) fun bE h=> ?_
   · refine aD ?_
     refine cc h (fun bR h=> ?_) fun bR h=> ?_
     · refine bn bL ?_
       obtain rfl:=aF h
       exact hN _ rfl _ _ _ _ aP aB ⟨rfl,rfl⟩
     · refine aD ?_
       obtain rfl:=aF h
       exact hN _ rfl _ _ _ _ aP aB ⟨rfl,rfl⟩
   · refine aD ?_
     obtain rfl:=aF h
     exact hN _ rfl _ _ _ _ aP aB ⟨rfl,rfl⟩
 · refine aD ?_
   obtain rfl:=aF h
   exact hX _ _ _ _ _ fm aP aB (eD _ (hB _ rfl))
theorem nk {F:Nat} {l1:List aj} {bA:List UInt8} {H0:AH} {bf:List UInt8} {mz:Int} (h:gC F l1 bA=some (bf,mz)):
 aC Tryd.prog 21 [(.sl .n 2 (ml ak l1)),(.str bA)] H0 fun v H'=>v=(.aK [(.str bf),(.int .i64 mz)])∧H'=H0:=by
 refine gS wU pz fun hcl K0 br=> ?_
 rw [gC.eq_1] at h
 refine aD ?_
 obtain ⟨IV,cj,h⟩:=ay h
 refine cy aB (qd cj ?_)
 · rintro ⟨v11,sE⟩ rfl
   try dsimp only at h
   refine aD ?_
   obtain ⟨rfl,rfl⟩:=mY h
   exact br _ _ _ cC (aJ hcl (bS (bS cA (.int .i64 sE)) (.str v11)) cB bU ⟨rfl,rfl⟩)
abbrev wV:az:=(.seq (.rg [(ai 2 (.bg (.c (.int .i64 0))))]) (.seq (.rg [(ax 6 0),(ai 7 (.call (.c (.fn 19 [])) [(.t 6),(.c (.str [82,101,99,101,105,118,101,100]))])),(ax 5 7),(ai 8 (.ext (.t 5) 0)),(ai 9 (.ext (.t 5) 1)),(aM 3 8),(aM 4 9)]) (.seq (.rg [(ax 10 4),(aM 2 10)]) .ret)))
theorem wW:bT Tryd.prog 23 11 [(.tmp 2)] (erase wV):=⟨Tryd.f23,_,rfl,by decide,rfl,by kernel_rfl,rfl,rfl⟩
abbrev wX:List Nat:=[0,2,4]
def kZ (F:Nat) (l1:List aj):Option (Int):=
 (gy F l1 ([82,101,99,101,105,118,101,100]:List UInt8)).bind fun (r2,r3)=>some r3
theorem tZ {F:Nat} {l1:List aj} {H0:AH} {bf:Int} (h:kZ F l1=some bf):
 aC Tryd.prog 23 [(.sl .n 2 (ml ak l1))] H0 fun v H'=>v=(.int .i64 bf)∧H'=H0:=by
 refine gS wW wX fun hcl K0 br=> ?_
 rw [kZ.eq_1] at h
 refine aD ?_
 obtain ⟨⟨r2,r3⟩,hy1,h⟩:=ay h
 dsimp only at h
 refine bP aB (kV hy1) ?_
 refine aD ?_
 obtain rfl:=aF h
 exact br _ _ _ cC (aJ hcl (bS cA (.int .i64 r3)) cB bU ⟨rfl,rfl⟩)
abbrev ua:az:=(.seq (.rg [(ai 2 (.bg (.c (.int .i64 0))))]) (.seq (.rg [(ax 6 0),(ai 7 (.call (.c (.fn 21 [])) [(.t 6),(.c (.str [114,101,99,101,105,118,101,100]))])),(ax 5 7),(ai 8 (.ext (.t 5) 0)),(ai 9 (.ext (.t 5) 1)),(aM 3 8),(aM 4 9)]) (.seq (.rg [(ax 10 4),(aM 2 10)]) .ret)))
theorem uc:bT Tryd.prog 24 11 [(.tmp 2)] (erase ua):=⟨Tryd.f24,_,rfl,by decide,rfl,by kernel_rfl,rfl,rfl⟩
abbrev ud:List Nat:=[0,2,4]
def jG (F:Nat) (l1:List aj):Option (Int):=
 (gC F l1 ([114,101,99,101,105,118,101,100]:List UInt8)).bind fun (r2,r3)=>some r3
theorem sV {F:Nat} {l1:List aj} {H0:AH} {bf:Int} (h:jG F l1=some bf):
 aC Tryd.prog 24 [(.sl .n 2 (ml ak l1))] H0 fun v H'=>v=(.int .i64 bf)∧H'=H0:=by
 refine gS uc ud fun hcl K0 br=> ?_
 rw [jG.eq_1] at h
 refine aD ?_
 obtain ⟨⟨r2,r3⟩,hy1,h⟩:=ay h
 dsimp only at h
 refine bP aB (nk hy1) ?_
 refine aD ?_
 obtain rfl:=aF h
 exact br _ _ _ cC (aJ hcl (bS cA (.int .i64 r3)) cB bU ⟨rfl,rfl⟩)
abbrev gj:az:=(.rg [(ax 15 0),(ai 16 (.len (.t 15))),(ai 17 (.bin .gtr (.t 16) (.c (.int .i64 4096)))),(ax 18 17),(aE 19 (.mv (.t 1)) 18 false),(aE 20 (.lens (.t 19)) 18 false),(aE 21 (.bin .gtr (.t 20) (.c (.int .i64 300))) 18 false),(ai 22 (.pick (.t 18) (.c (.bool true)) (.t 21)))])
abbrev gl:az:=(.rg ((ax 45 5)::(ax 46 7)::(ai 47 (.call (.c (.fn 22 [])) [(.t 45),(.t 46)]))::(ax 48 47)::(aE 49 (.mv (.t 6)) 48 true)::(aE 50 (.eZ .bs (.t 49)) 48 true)::(aE 51 (.mv (.t 8)) 48 true)::(aE 52 (.eZ .bs (.t 51)) 48 true)::(aE 53 (.bin .eql (.t 50) (.t 52)) 48 true)::(ai 54 (.pick (.t 48) (.t 53) (.c (.bool false))))::(ax 55 54)::(aE 56 (.mv (.t 9)) 55 true)::(aE 57 (.mv (.t 11)) 55 true)::(aE 58 (.bin .eql (.t 56) (.t 57)) 55 true)::(ai 59 (.pick (.t 55) (.t 58) (.c (.bool false))))::(ax 60 59)::(aE 61 (.mv (.t 10)) 60 true)::(aE 62 (.mv (.t 12)) 60 true)::(aE 63 (.bin .eql (.t 61) (.t 62)) 60 true)::(ai 64 (.pick (.t 60) (.t 63) (.c (.bool false))))::(ax 65 64)::(aE 66 (.mv (.t 5)) 65 true)::(aE 67 (.call (.c (.fn 23 [])) [(.t 66)]) 65 true)::(aE 68 (.mv (.t 7)) 65 true)::(aE 69 (.call (.c (.fn 24 [])) [(.t 68)]) 65 true)::(aE 70 (.bin .eql (.t 67) (.t 69)) 65 true)::(ai 71 (.pick (.t 65) (.t 70) (.c (.bool false))))::(ax 72 71)::(aE 73 (.mv (.t 1)) 72 true)::(aE 74 (.call (.c (.fn 25 [])) [(.t 73)]) 72 true)::(aE 75 (.mv (.t 1)) 72 true)::(aE 76 (.call (.c (.fn 26 [])) [(.t 75)]) 72 true)::(aE 77 (.bq false (.t 74) (.t 76)) 72 true)::(ai 78 (.pick (.t 72) (.t 77) (.c (.bool false))))::(aM 4 78)::[]))
abbrev oa:az:=(.seq (.rg [(ai 4 (.bg (.c (.bool false))))]) (.seq (.seq (.rg [(ai 13 (.call (.c (.fn 14 [])) [])),(ai 14 (.un .not (.t 13)))]) (.cond (.t 14) (.seq (.rg [(ai 4 (.bg (.c (.bool false))))]) .ret) .skip)) (.seq (.seq (.sem (erase gj)) (.cond (.t 22) (.seq (.rg [(ai 4 (.bg (.c (.bool true))))]) .ret) .skip)) (.seq (.rg [(ax 24 0),(ai 25 (.call (.c (.fn 18 [])) [(.t 24)])),(ax 23 25),(ai 26 (.ext (.t 23) 0)),(ai 27 (.ext (.t 23) 1)),(aM 5 26),(aM 6 27)]) (.seq (.rg [(ax 29 0),(ai 30 (.call (.c (.fn 20 [])) [(.t 29)])),(ax 28 30),(ai 31 (.ext (.t 28) 0)),(ai 32 (.ext (.t 28) 1)),(aM 7 31),(aM 8 32)]) (.seq (.rg [(ax 34 5),(ax 35 1),(ai 36 (.call (.c (.fn 19 [])) [(.t 34),(.t 35)])),(ax 33 36),(ai 37 (.ext (.t 33) 0)),(ai 38 (.ext (.t 33) 1)),(aM 9 37),(aM 10 38)]) (.seq (.rg [(ax 40 7),(ax 41 1),(ai 42 (.call (.c (.fn 21 [])) [(.t 40),(.t 41)])),(ax 39 42),(ai 43 (.ext (.t 39) 0)),(ai 44 (.ext (.t 39) 1)),(aM 11 43),(aM 12 44)]) (.seq (.sem (erase gl)) .ret))))))))
theorem ob:bT Tryd.prog 5 79 [(.tmp 4)] (erase oa):=⟨Tryd.f5,_,rfl,by decide,rfl,by kernel_rfl,rfl,rfl⟩
abbrev fq:List Nat:=[0,1,4,5,6,7,8,9,10,11,12,14,22]
def dw (F:Nat) (r4:List aj) (r6:List aj) (r5:List UInt8) (r7:List UInt8) (r8:List UInt8) (iO:List UInt8) (r9:Int) (gT:Int) (bA:List UInt8):Option (Bool):=
 (fD F r4 r6).bind fun jQ=>
 (if jQ then
  (if (decide (r5=r7)) then
   (if (decide (r8=iO)) then
    (if (decide (r9=gT)) then
     (kZ F r4).bind fun qL=>
     (jG F r6).bind fun IX=>
     (if (decide (qL=IX)) then
      (dQ F bA).bind fun Q7=>(dJ F bA).bind fun r16=>some (Q7==r16)
     else
      some false)
    else
     some false)
   else
    some false)
  else
   some false)
 else
  some false)
def eP (F:Nat) (b1:List UInt8) (bA:List UInt8):Option (Bool):=
 (fQ F).bind fun r3=>
 (if (!r3) then
  some false
 else
  (if ((decide (4096<(b1.length:Int)))||(decide (300<(bA.length:Int)))) then
   some true
  else
   (eG F b1).bind fun (r4,r5)=>
   (fW F b1).bind fun (r6,r7)=>
   (gy F r4 bA).bind fun (r8,r9)=>
   (gC F r6 bA).bind fun (iO,gT)=>
   (dw F r4 r6 r5 r7 r8 iO r9 gT bA).bind fun t18=>
   some t18))
theorem k4 {b1:List UInt8} {bA:List UInt8} {H:AH} {K:Exit→Env→AH→Prop}
 (kn:K .normal [(0,(.sl .n 1 (ml b8 b1))),(1,(.str bA)),(22,(.bool ((decide (4096<(b1.length:Int)))||(decide (300<(bA.length:Int))))))] H):
 AX Tryd.prog fq 79 H.length (erase gj) K [(0,(.sl .n 1 (ml b8 b1))),(1,(.str bA))] H:=by
 refine e6 fun K' hK=> ?_
 refine aD ?_
 refine Fq (fun bM=> ?_) fun bM=> ?_
 · refine bn bM ?_
   exact hK _ _ _ _ _ (jN bM) aB kn
 · refine bn bM ?_
   exact hK _ _ _ _ _ (jN bM) aB kn
theorem k5 {F:Nat} {r4:List aj} {r6:List aj} {r5:List UInt8} {r7:List UInt8} {r8:List UInt8} {iO:List UInt8} {r9:Int} {gT:Int} {bA:List UInt8} {H:AH} {K:Exit→Env→AH→Prop} {t17:Bool}
 (h:dw F r4 r6 r5 r7 r8 iO r9 gT bA=some t17)
 (kn:K .normal [(4,(.bool t17))] H):
 AX Tryd.prog fq 79 H.length (erase gl) K [(1,(.str bA)),(5,(.sl .n 2 (ml ak r4))),(6,(.sl .n 1 (ml b8 r5))),(7,(.sl .n 2 (ml ak r6))),(8,(.sl .n 1 (ml b8 r7))),(9,(.str r8)),(10,(.int .i64 r9)),(11,(.str iO)),(12,(.int .i64 gT))] H:=by
 refine e6 fun K' hK=> ?_
 rw [dw.eq_1] at h
 refine aD ?_
 obtain ⟨jQ,fJ,h⟩:=ay h
 refine bP aB (mD fJ) ?_
 refine aD ?_
 refine eu h (fun dm h=> ?_) fun dm h=> ?_
 · refine bn dm ?_
   refine eu h (fun eH h=> ?_) fun eH h=> ?_
   · refine bn eH ?_
     refine eu h (fun c6 h=> ?_) fun c6 h=> ?_
     · refine bn c6 ?_
       refine eu h (fun iP h=> ?_) fun iP h=> ?_
       · refine bn iP ?_
         obtain ⟨qL,mq,h⟩:=ay h
         refine bP aB (tZ mq) ?_
         refine aD ?_
         obtain ⟨IX,oP,h⟩:=ay h
         refine bP aB (sV oP) ?_
         refine aD ?_
         refine eu h (fun mu h=> ?_) fun mu h=> ?_
         · refine bn mu ?_
           obtain ⟨Q7,mZ,h⟩:=ay h
           refine bP aB (e9 mZ) ?_
           refine aD ?_
           obtain ⟨r16,nc,h⟩:=ay h
           refine bP aB (fS nc) ?_
           refine aD ?_
           obtain rfl:=aF h
           exact hK _ _ _ _ _ aP aB kn
         · refine bn mu ?_
           obtain rfl:=aF h
           exact hK _ _ _ _ _ aP aB kn
       · refine bn iP ?_
         obtain rfl:=aF h
         exact hK _ _ _ _ _ aP aB kn
     · refine bn c6 ?_
       obtain rfl:=aF h
       exact hK _ _ _ _ _ aP aB kn
   · refine bn eH ?_
     obtain rfl:=aF h
     exact hK _ _ _ _ _ aP aB kn
 · refine bn dm ?_
   obtain rfl:=aF h
   exact hK _ _ _ _ _ aP aB kn
theorem zC {F:Nat} {b1:List UInt8} {bA:List UInt8} {H0:AH} {bf:Bool} (h:eP F b1 bA=some bf):
 aC Tryd.prog 5 [(.sl .n 1 (ml b8 b1)),(.str bA)] H0 fun v H'=>v=(.bool bf)∧H'=H0:=by
 refine gS ob fq fun hcl K0 br=> ?_
 rw [eP.eq_1] at h
 refine aD ?_
 obtain ⟨r3,hy1,h⟩:=ay h
 refine bP aB (lH hy1) ?_
 refine aD ?_
 refine cc h (fun bL h=> ?_) fun bL h=> ?_
 · refine aD ?_
   obtain rfl:=aF h
   exact br _ _ _ cC (aJ hcl (bS cA (.bool false)) cB bU ⟨rfl,rfl⟩)
 · refine aD ?_
   refine cy aB (k4 (b1:=b1) (bA:=bA) ?_)
   refine aD ?_
   refine cc h (fun bF h=> ?_) fun bF h=> ?_
   · refine aD ?_
     obtain rfl:=aF h
     exact br _ _ _ cC (aJ hcl (bS cA (.bool true)) cB bU ⟨rfl,rfl⟩)
   · refine aD ?_
     obtain ⟨⟨r4,r5⟩,bE,h⟩:=ay h
     dsimp only at h
     refine bP aB (iQ bE) ?_
     refine aD ?_
     obtain ⟨⟨r6,r7⟩,bR,h⟩:=ay h
     dsimp only at h
     refine bP aB (qO bR) ?_
     refine aD ?_
     obtain ⟨⟨r8,r9⟩,cj,h⟩:=ay h
     dsimp only at h
     refine bP aB (kV cj) ?_
     refine aD ?_
     obtain ⟨⟨iO,gT⟩,cE,h⟩:=ay h
     dsimp only at h
     refine bP aB (nk cE) ?_
     refine aD ?_
     obtain ⟨t18,mw,h⟩:=ay h
     refine cy aB (k5 mw ?_)
     refine aD ?_
     obtain rfl:=aF h
     exact br _ _ _ cC (aJ hcl (bS cA (.bool t18)) cB bU ⟨rfl,rfl⟩)
end Go.Proofs.cR
end
section
set_option maxRecDepth 100000
namespace Go.Proofs.cR
open Go Go.Am Go.Proofs
theorem pE {s:List UInt8} {F:Nat} (hs:s.length≤20000) (hF:s.length<F):dJ F s=some (gi s):=by
 have hp:∀(i:Nat) (x:UInt8),s[i]? =some x→eI s (i:Int)=some (!good x):=by
  intro i x hx
  unfold eI
  rw [bt hx]
  simp only [Option.bind_some,good]
  by_cases h1:x<33
  · simp [h1]
  · by_cases h2:126<x
    · simp [h1,h2]
    · simp [h1,h2]
 unfold dJ
 by_cases h0:s=[]∨76<s.length
 · rw [if_pos (by rcases h0 with h0|h0<;>simp<;>first|exact .inl h0|(right;omega))]
   unfold gi
   rcases h0 with h0|h0
   · simp [h0]
   · have:¬s.length≤76:=by omega
     simp [this]
 · have h1:s≠[]:=fun h=>h0 (.inl h)
   have h2:s.length≤76:=by omega
   rw [if_neg (by simp [h1];omega)]
   have hh:=scan (s:=s) (body:=cU s) (mk:=fun i=>(i:Int)) (p:=good) (rr:=fun _=>false) (tt:=()) ?_ ?_ ?_ hF
   · unfold gi
     cases ha:s.all good with
     |true=>
      have:=hh.1 ha
      rw [show ((0:Nat):Int)=0 from rfl] at this
      rw [this]
      simp [h1,h2]
     |false=>
      obtain ⟨j,hj⟩:=hh.2 ha
      rw [show ((0:Nat):Int)=0 from rfl] at hj
      rw [hj]
      simp
   · intro i x hx hg
     have hi:i<s.length:=(List.getElem?_eq_some_iff.1 hx).1
     simp only [cU]
     rw [if_pos (by simpa using hi),hp i x hx,hg]
     simp only [Option.bind_some,Bool.not_true,Bool.false_eq_true,if_false]
     rw [wi (by omega)]
   · intro i x hx hg
     have hi:i<s.length:=(List.getElem?_eq_some_iff.1 hx).1
     simp only [cU]
     rw [if_pos (by simpa using hi),hp i x hx,hg]
     simp
   · simp only [cU]
     rw [if_neg (by simp)]
theorem Jc {s:List UInt8} {F:Nat} (hs:s.length≤2100) (hF:s.length<F):eO F s=some (s.map low):=by
 have nR:∀(m i G:Nat),i+m=s.length→m<G→iter (cJ s) G ((i:Int),Bf s i)=some (.inr (s.map low)):=by
  intro m
  induction m with
  |zero=>
   intro i G hi hG
   obtain ⟨G,rfl⟩:=cv hG
   have:i=s.length:=by omega
   subst this
   rw [←CL s]
   exact cq (by simp only [cJ];rw [if_neg (by simp)])
  |succ m ih=>
   intro i G hi hG
   obtain ⟨G,rfl⟩:=cv (show 0<G by omega)
   have hil:i<s.length:=by omega
   have hc:s[i]? =some s[i]:=List.getElem?_eq_getElem hil
   have hp:ef s (i:Int) (Bf s i)=some (decide (65≤s[i])&&decide (s[i]≤90)):=by
    unfold ef
    rw [o7 hil,Option.bind_some,mN (by omega),if_neg (by omega),hc,Option.bind_some]
    by_cases h:65≤s[i]<;>simp [h]
   have hst:cJ s ((i:Int),Bf s i)=some (.b7 (((i+1:Nat):Int),Bf s (i+1))):=by
    simp only [cJ]
    rw [if_pos (by simpa using hil),hp,Option.bind_some]
    by_cases h:(decide (65≤s[i])&&decide (s[i]≤90))=true
    · have hl:s[i]+32=low s[i]:=by unfold low;rw [if_pos h]
      rw [if_pos h,o7 hil,Option.bind_some,mN (by omega),if_neg (by omega),hc,Option.bind_some,zn (by rw [q8 (by omega)];exact hil),hl,wP hil hc,Option.bind_some,wi (by omega)]
    · rw [if_neg h,CM hil hc h,wi (by omega)]
   rw [bK hst]
   exact ih (i+1) G (by omega) (by omega)
 unfold eO
 rw [show ((0:Int),s)=(((0:Nat):Int),Bf s 0) by simp [Bf],nR s.length 0 F (by omega) hF]
 simp only [Option.bind_some]
 rw [qZ (j:=s.length) (by simp),List.take_of_length_le (by simp)]
 rfl
theorem Jd {l:List aj} {name:List UInt8} {F:Nat} (hl:l.length≤20000) (hn:name.length≤2100) (hf:∀f∈l,f.name.length≤2100) (hF:2200<F) (Ok:l.length<F):
 gC F l name=some ((pn l name).1,((pn l name).2:Int)):=by
 have nR:∀(r:List aj) (i G:Nat) (o:List UInt8) (n:Nat),l.drop i=r→i+r.length=l.length→r.length<G→n≤i→
  iter (dh F l name) G (o,(n:Int),(i:Int))=some (.inr ((r.foldl (mE name) (o,n)).1,((r.foldl (mE name) (o,n)).2:Int))):=by
  intro r
  induction r with
  |nil=>
   intro i G o n hd hi hG hni
   obtain ⟨G,rfl⟩:=cv hG
   have:i=l.length:=by simpa using hi
   subst this
   exact cq (by simp only [dh];rw [if_neg (by simp)];rfl)
  |cons f r ih=>
   intro i G o n hd hi hG hni
   obtain ⟨G,rfl⟩:=cv (show 0<G by omega)
   obtain ⟨hil,hx,hr⟩:=drop_cons hd
   simp only [List.length_cons] at hi hG
   have hfl:f.name.length≤2100:=hf f (List.mem_of_getElem? hx)
   have hst:dh F l name (o,(n:Int),(i:Int))=some (.b7 ((mE name (o,n) f).1,((mE name (o,n) f).2:Int),((i+1:Nat):Int))):=by
    simp only [dh]
    rw [if_pos (by simpa using hil),bt hx]
    simp only [Option.bind_some]
    rw [Jc hfl (by omega),Jc hn (by omega)]
    simp only [Option.bind_some]
    rw [wi (n:=i) (by omega),wi (n:=n) (by omega)]
    unfold mE
    by_cases h:f.name.map low=name.map low
    · rw [if_pos (by simp [h]),if_pos h]
      by_cases h0:n=0
      · subst h0;simp
      · rw [if_neg (by simp;omega),if_neg h0]
    · rw [if_neg (by simpa using h),if_neg h]
   rw [bK hst]
   have:=ih (i+1) G (mE name (o,n) f).1 (mE name (o,n) f).2 hr (by omega) (by omega) (by unfold mE;split<;>simp<;>omega)
   rw [this]
   rfl
 unfold gC pn
 have:=nR l 0 F [] 0 rfl (by simp) Ok (Nat.le_refl _)
 rw [show ((0:Nat):Int)=0 from rfl] at this
 rw [this]
 rfl
theorem Lx {b:List UInt8} (hb:b.length≤20000):gO b nl=some (nl.isSuffixOf b):=by
 unfold gO fR
 by_cases h:2≤b.length
 · rw [if_pos (by simp;omega)]
   have e:IntKind.wrap .i64 ((b.length:Int) - ((nl:List UInt8).length:Int))=((b.length - 2:Nat):Int):=by rw [wr (by simp;omega) (by simp;omega)];simp;omega
   rw [e,iT (by omega)]
   simp only [Option.bind_some]
   congr 1
   by_cases h2:b.drop (b.length - 2)=nl
   · rw [(fE h).1 h2];simpa using h2
   · have:nl.isSuffixOf b=false:=by rw [Bool.eq_false_iff];exact fun h3=>h2 ((fE h).2 h3)
     rw [this];simpa using h2
 · rw [if_neg (by simp;omega),not_suffix (by omega)];rfl
theorem sW {b:List UInt8} (hb:b.length≤19000):dS b=some (whole b):=by
 have hp:dY b=some (decide (b=[]∨nl.isSuffixOf b=true)):=by
  unfold dY
  by_cases h:b=[]
  · subst h;rfl
  · have h2:¬(b.length:Int)=0:=by have:=List.length_pos_iff.2 h;omega
    rw [if_neg (by simpa using h2),Lx (by omega)]
    simp only [Option.bind_some,h,false_or,Bool.decide_eq_true]
 unfold dS
 rw [hp]
 simp only [Option.bind_some]
 unfold whole
 by_cases h:b=[]∨nl.isSuffixOf b=true
 · rw [if_pos (by simpa using h),if_pos h,cV (by simp;omega) (by omega)];simp
 · rw [if_neg (by simpa using h),if_neg h,cV (by simp;omega) (by omega)]
   simp only [Option.bind_some]
   rw [cV (by simp;omega) (by omega)];simp
def qP:Nat→List UInt8→List (List UInt8)
 |0,_=>[]
 |n+1,w=>match cg nl w with
  |none=>[]
  |some (x,more)=>x::qP n more
theorem FB:∀ {r x more:List UInt8},cg nl r=some (x,more)→∀m,m<x.length→¬(r[m]? =some 13∧r[m+1]? =some 10):=by
 intro r
 induction r with
 |nil=>intro x more h;cases h
 |cons c r ih=>
  intro x more h m hm
  unfold cg at h
  split at h
  · injection h with h;injection h with h1 h2;subst h1;simp at hm
  · rename_i hp
    rw [Option.map_eq_some_iff] at h
    obtain ⟨⟨a,b⟩,h1,h2⟩:=h
    injection h2 with h2 h3;subst h2;subst h3
    rintro ⟨e1,e2⟩
    cases m with
    |zero=>
     simp at e1 e2
     subst e1
     cases r with
     |nil=>simp at e2
     |cons d r=>simp at e2;subst e2;exact hp (by simp [List.isPrefixOf])
    |succ m=>
     exact ih h1 m (by simpa using hm) ⟨by simpa using e1,by simpa using e2⟩
theorem zq {w rest x more:List UInt8} (hw:w.length≤20000) {k:Nat} (hd:w.drop k=rest) (hc:cg nl rest=some (x,more)) {out:List (List UInt8)} (ho:out.length≤20000):
 ∀(d m G:Nat),m+d=x.length→d<G→iter (bl w) G (out,(k:Int),((k+1+m:Nat):Int))=iter (bl w) (G - (d+1)) (out++[x],((k+x.length+2:Nat):Int),((k+x.length+2:Nat):Int)):=by
 have hx:=wQ hc
 have hl:rest.length=x.length+2+more.length:=by rw [hx];simp [nl];omega
 have Oo:w.length=k+rest.length:=by
  have:=congrArg List.length hd
  simp at this;omega
 have gW:∀j,w[k+j]? =rest[j]? :=by intro j;rw [←hd,List.getElem?_drop]
 intro d
 induction d with
 |zero=>
  intro m G hm hG
  obtain ⟨G,rfl⟩:=cv hG
  have e0:rest[m]? =some 13:=by rw [hx,show m=x.length by omega];simp [nl]
  have e1:rest[m+1]? =some 10:=by rw [hx,show m=x.length by omega];simp [nl]
  have hst:bl w (out,(k:Int),((k+1+m:Nat):Int))=some (.b7 (out++[x],((k+x.length+2:Nat):Int),((k+x.length+2:Nat):Int))):=by
   simp only [bl,cY]
   have ew:IntKind.wrap .i64 (((k+1+m:Nat):Int) - 1)=((k+m:Nat):Int):=by rw [wr (by omega) (by omega)];omega
   rw [if_pos (by simp;omega),bt (x:=10) (by rw [show k+1+m=k+(m+1) by omega,gW,e1])]
   simp only [Option.bind_some]
   rw [if_pos (by simp),ew,bt (x:=13) (by rw [gW,e0])]
   simp only [Option.bind_some]
   rw [if_pos (by simp)]
   simp only [Option.bind_some]
   rw [if_pos (by simp;omega),wO (by omega) (by omega)]
   simp only [Option.bind_some]
   rw [cV (by simp;omega) (by omega),wi (by omega)]
   simp only [Option.bind_some]
   have ex:(w.take (k+m)).drop k=x:=by
    rw [List.drop_take,hd,hx,show k+m - k=x.length by omega];simp
   rw [ex,show k+1+m+1=k+x.length+2 by omega]
  rw [bK hst];rfl
 |succ d ih=>
  intro m G hm hG
  obtain ⟨G,rfl⟩:=cv (show 0<G by omega)
  have hno:=FB hc m (by omega)
  obtain ⟨c0,hc0⟩:∃c,rest[m]? =some c:=⟨_,List.getElem?_eq_getElem (by omega)⟩
  obtain ⟨c1,C3⟩:∃c,rest[m+1]? =some c:=⟨_,List.getElem?_eq_getElem (by omega)⟩
  have hst:bl w (out,(k:Int),((k+1+m:Nat):Int))=some (.b7 (out,(k:Int),((k+1+(m+1):Nat):Int))):=by
   simp only [bl,cY]
   have ew:IntKind.wrap .i64 (((k+1+m:Nat):Int) - 1)=((k+m:Nat):Int):=by rw [wr (by omega) (by omega)];omega
   rw [if_pos (by simp;omega),bt (x:=c1) (by rw [show k+1+m=k+(m+1) by omega,gW,C3])]
   simp only [Option.bind_some]
   rw [wi (by omega),show k+1+m+1=k+1+(m+1) by omega]
   by_cases h1:c1=10
   · rw [if_pos (by simpa using h1),ew,bt (x:=c0) (by rw [gW,hc0])]
     simp only [Option.bind_some]
     have h0:¬c0=13:=fun h=>hno ⟨by rw [hc0,h],by rw [C3,h1]⟩
     rw [if_neg (by simpa using h0)]
     rfl
   · rw [if_neg (by simpa using h1)]
     rfl
  rw [bK hst,ih (m+1) G (by omega) (by omega)]
  congr 1;omega
theorem Je {w:List UInt8} (hw:w.length≤20000):∀(n:Nat) (rest:List UInt8) (k G:Nat) (out:List (List UInt8)),rest.length<n→w.drop k=rest→k≤w.length→Ends rest→rest.length<G→
 out.length+rest.length≤20000→iter (bl w) G (out,(k:Int),((k+1:Nat):Int))=some (.inr (out++qP n rest)):=by
 intro n
 induction n with
 |zero=>intro rest k G out h;omega
 |succ n ih=>
  intro rest k G out hn hd hk he hG ho
  have Oo:w.length=k+rest.length:=by
   have:=congrArg List.length hd
   simp at this;omega
  by_cases hr:rest=[]
  · subst hr
    obtain ⟨G,rfl⟩:=cv hG
    rw [cq (t:=out) (by simp only [bl];rw [if_neg (by simp at Oo ⊢;omega)])]
    simp [qP,cg]
  · obtain ⟨x,more,hc,hx,hm⟩:=pg he hr
    have hl:rest.length=x.length+2+more.length:=by rw [hx];simp [nl];omega
    have h1:=zq hw hd hc (out:=out) (by omega) x.length 0 G (by omega) (by omega)
    rw [show k+1+0=k+1 by rfl] at h1
    rw [h1]
    have ny:w.drop (k+x.length+2)=more:=by
     rw [show k+x.length+2=k+(x.length+2) by omega, ←List.drop_drop,hd,hx]
     rw [show x.length+2=(x++nl).length by simp [nl]]
     simp
    obtain ⟨G2,S1⟩:∃g,G - (x.length+1)=g+1:=⟨G - (x.length+1) - 1,by omega⟩
    rw [S1]
    have Jf:qP (n+1) rest=x::qP n more:=by simp [qP,hc]
    rw [Jf]
    by_cases hmo:more=[]
    · subst hmo
      rw [cq (t:=out++[x]) (by simp only [bl];rw [if_neg (by simp at hl ⊢;omega)])]
      cases n<;>simp [qP,cg]
    · have hml:=List.length_pos_iff.2 hmo
      obtain ⟨c,S3⟩:∃c,w[k+x.length+2]? =some c:=⟨_,List.getElem?_eq_getElem (by omega)⟩
      have Jg:∃c,w[k+x.length+1]? =some c:=⟨_,List.getElem?_eq_getElem (by omega)⟩
      obtain ⟨c0,Jg⟩:=Jg
      have hst:bl w (out++[x],((k+x.length+2:Nat):Int),((k+x.length+2:Nat):Int))=some (.b7 (out++[x],((k+x.length+2:Nat):Int),((k+x.length+2+1:Nat):Int))):=by
       simp only [bl,cY]
       have ew:IntKind.wrap .i64 (((k+x.length+2:Nat):Int) - 1)=((k+x.length+1:Nat):Int):=by rw [wr (by omega) (by omega)];omega
       rw [if_pos (by simp;omega),bt S3]
       simp only [Option.bind_some]
       rw [ew,bt Jg,wi (by omega)]
       by_cases h1:c=10
       · rw [if_pos (by simpa using h1)]
         simp only [Option.bind_some]
         by_cases h2:c0=13
         · rw [if_pos (by simpa using h2)]
           simp
         · rw [if_neg (by simpa using h2)]
           rfl
       · rw [if_neg (by simpa using h1)]
         rfl
      rw [bK hst,ih more _ G2 (out++[x]) (by omega) ny (by omega) hm (by omega) (by simp;omega)]
      simp
theorem Jh {b:List UInt8} {F:Nat} (hb:b.length≤10000) (hF:10010<F):fT F b=some (qP ((whole b).length+1) (whole b)):=by
 have hw:=kY b
 unfold fT
 rw [sW (by omega)]
 simp only [Option.bind_some]
 have:=Je (w:=whole b) (by omega) ((whole b).length+1) (whole b) 0 F [] (by omega) rfl (by omega) (jx b) (by omega) (by simp;omega)
 rw [show ((0:Nat):Int)=0 from rfl,show ((0+1:Nat):Int)=1 from rfl] at this
 rw [this]
 simp
theorem FC {s:List UInt8} (hs:s.length≤20000):∀(r:List UInt8) (i G:Nat),s.drop i=r→i+r.length=s.length→r.length<G→
 iter (bV s) G (i:Int)=some (.inr ((match cg [58] r with|some (a,_)=>i+a.length|none=>s.length:Nat):Int)):=by
 intro r
 induction r with
 |nil=>
  intro i G hd hi hG
  obtain ⟨G,rfl⟩:=cv hG
  have:i=s.length:=by simpa using hi
  subst this
  rw [cq (t:=(s.length:Int)) (by simp only [bV,cZ];rw [if_neg (by simp)];rfl)]
  rfl
 |cons c r ih=>
  intro i G hd hi hG
  obtain ⟨G,rfl⟩:=cv (show 0<G by omega)
  obtain ⟨hil,hx,hr⟩:=drop_cons hd
  simp only [List.length_cons] at hi hG
  by_cases hc:c=58
  · subst hc
    rw [cq (t:=(i:Int)) (by simp only [bV,cZ];rw [if_pos (by simpa using hil),bt hx];rfl)]
    simp [cg,List.isPrefixOf]
  · have hst:bV s (i:Int)=some (.b7 ((i+1:Nat):Int)):=by
     simp only [bV,cZ]
     rw [if_pos (by simpa using hil),bt hx,wi (by omega)]
     simp [hc]
    rw [bK hst,ih (i+1) G hr (by omega) (by omega)]
    have S4:cg [58] (c::r)=(cg [58] r).map fun p=>(c::p.1,p.2):=by
     have:¬(58:UInt8)=c:=fun h=>hc h.symm
     simp [cg,List.isPrefixOf,this]
    rw [S4]
    cases cg [58] r with
    |none=>rfl
    |some p=>simp;omega
theorem Ji {s:List UInt8} {F:Nat} (hs:s.length≤20000) (hF:s.length<F):fV F s=some (match gP s with|some f=>(f,true)|none=>(⟨[],[]⟩,false)):=by
 have h:=FC hs s 0 F rfl (by simp) hF
 rw [show ((0:Nat):Int)=0 from rfl] at h
 unfold fV gP
 rw [h]
 cases hc:cg [58] s with
 |none=>
  simp only [Option.bind_some]
  have hp:cG F (s.length:Int) s=some true:=by
   unfold cG
   rw [if_pos (by simp)]
  rw [hp];rfl
 |some p=>
  obtain ⟨a,b⟩:=p
  have hx:=wQ hc
  have hxl:s.length=a.length+1+b.length:=by rw [hx];simp;omega
  have Q8:s.take a.length=a:=by rw [hx];simp
  have htb:s.drop (a.length+1)=b:=by
   rw [hx,show a.length+1=(a++[58]).length by simp];simp
  simp only [Option.bind_some]
  have hp:cG F ((0+a.length:Nat):Int) s=some (!gi a):=by
   unfold cG
   rw [if_neg (by simp;omega),qZ (by omega)]
   simp only [Option.bind_some]
   rw [Nat.zero_add,Q8,pE (by omega) (by omega)]
   rfl
  rw [hp]
  simp only [Option.bind_some]
  by_cases hn:gi a=true
  · rw [hn,if_neg (by simp),if_pos (by simp),qZ (by omega)]
    simp only [Option.bind_some]
    rw [Nat.zero_add,Q8,wi (by omega),iT (by omega)]
    simp only [Option.bind_some]
    rw [htb]
  · rw [Bool.not_eq_true] at hn
    rw [hn];rfl
def Q9:(List aj×List UInt8)⊕List aj→List aj×List UInt8
 | .inl p=>p
 | .inr s=>(s,[])
theorem Ly (s:List aj) (x:List UInt8):dZ x s=some (dU s x):=by
 unfold dZ dU
 cases x with
 |nil=>simp
 |cons c r=>
  rw [if_pos (by simp),show idx (c::r) 0=some c by simp [idx]]
  simp only [Option.bind_some,List.head?_cons]
  by_cases h1:c=32
  · simp [h1]
  · by_cases h2:c=9
    · simp [h2]
    · simp [h1,h2]
theorem Jj {F:Nat} (hF:20001<F) {w:List UInt8} {ls:List (List UInt8)} (hw:w.length≤20000):∀(n:Nat) (rest:List UInt8) (s:List aj) (k i G:Nat),rest.length<n→n≤G→Ends rest→Bd rest s→
 w.drop k=rest→k≤w.length→ls.drop i=qP n rest→i≤k→
 ∃o,iter (cI F ls w) G ((k:Int),(i:Int),s)=some o∧Q9 o=jW n rest s:=by
 intro n
 induction n with
 |zero=>intro rest s k i G h;omega
 |succ n ih=>
  intro rest s k i G hn hG he hb hd hk hls hik
  obtain ⟨G,rfl⟩:=cv (show 0<G by omega)
  have Oo:w.length=k+rest.length:=by
   have:=congrArg List.length hd
   simp at this;omega
  by_cases hr:rest=[]
  · subst hr
    have:ls.drop i=[]:=by rw [hls];rfl
    have TY:ls.length≤i:=List.drop_eq_nil_iff.1 this
    exact ⟨.inr s,cq (by simp only [cI];rw [if_neg (by simp;omega)]),rfl⟩
  · obtain ⟨x,more,hc,hx,hm⟩:=pg he hr
    have hl:rest.length=x.length+2+more.length:=by rw [hx];simp [nl];omega
    have th:=hb.1
    have Jf:ls.drop i=x::qP n more:=by rw [hls];simp [qP,hc]
    obtain ⟨hil,S5,hlr⟩:=drop_cons Jf
    have ny:w.drop (k+x.length+2)=more:=by
     rw [show k+x.length+2=k+(x.length+2) by omega, ←List.drop_drop,hd,hx]
     rw [show x.length+2=(x++nl).length by simp [nl]]
     simp
    have ek:IntKind.wrap .i64 (IntKind.wrap .i64 ((k:Int)+(x.length:Int))+2)=((k+x.length+2:Nat):Int):=by
     rw [wr (n:=(k:Int)+(x.length:Int)) (by omega) (by omega),wr (by omega) (by omega)];omega
    have hbody:cI F ls w ((k:Int),(i:Int),s)=(if dU s x then some (.b7 (((k+x.length+2:Nat):Int),((i+1:Nat):Int),ext s x)) else match gP x with
     |some f=>some (.b7 (((k+x.length+2:Nat):Int),((i+1:Nat):Int),s++[f]))
     |none=>if x=[] then some (.ret (s,more)) else some (.ret (s,rest))):=by
     simp only [cI]
     rw [if_pos (by simp;omega),bt S5]
     simp only [Option.bind_some]
     rw [Ly]
     simp only [Option.bind_some]
     rw [ek,wi (n:=i) (by omega)]
     by_cases h1:dU s x=true
     · rw [if_pos h1,if_pos h1]
       have hs0:0<s.length:=by unfold dU at h1;simp at h1;exact h1.1
       obtain ⟨f,hf⟩:∃f,s[s.length - 1]? =some f:=⟨_,List.getElem?_eq_getElem (by omega)⟩
       have SZ:=hb.2 f (List.mem_of_getElem? hf)
       have e:IntKind.wrap .i64 ((s.length:Int) - 1)=((s.length - 1:Nat):Int):=by rw [wr (by omega) (by omega)];omega
       rw [e,o7 (by omega)]
       simp only [Option.bind_some]
       rw [hf]
       simp only [Option.bind_some]
       rw [gF (by simp;omega)]
       simp only [Option.bind_some]
       rw [gF (by simp;omega)]
       simp only [Option.bind_some,cR.ext,hf,List.append_assoc]
     · rw [if_neg h1,if_neg h1,Ji (by omega) (by omega)]
       cases h2:gP x with
       |none=>
        simp only [Option.bind_some,Bool.not_false,if_true]
        by_cases h3:x=[]
        · subst h3
          have e2:cH [] (k:Int)=some ((k+2:Nat):Int):=by
           unfold cH
           rw [if_pos (by simp),wr (by omega) (by omega)];simp
          rw [e2]
          simp only [Option.bind_some,ec]
          rw [iT (by simp at hl;omega)]
          simp only [Option.bind_some,if_true]
          simp only [List.length_nil,Nat.add_zero] at ny
          rw [ny]
        · have e2:cH x (k:Int)=some (k:Int):=by
           unfold cH
           rw [if_neg (by simpa using h3)]
          rw [e2]
          simp only [Option.bind_some,ec]
          rw [iT (by omega),hd]
          simp only [Option.bind_some]
          rw [if_neg h3]
       |some f=>
        simp only [Option.bind_some,Bool.not_true,Bool.false_eq_true,if_false]
        rw [cV (by simp;omega) (by omega)];rfl
    have I7:jW (n+1) rest s=(if dU s x then jW n more (ext s x) else match gP x with
     |some f=>jW n more (s++[f])
     |none=>if x=[] then (s,more) else (s,rest)):=by
     first
      |(simp only [jW,hc];done)
      |(simp only [jW,hc];cases gP x<;>rfl)
    rw [I7]
    by_cases h1:dU s x=true
    · rw [if_pos h1] at hbody ⊢
      rw [bK hbody]
      exact ih more _ _ _ G (by omega) (by omega) hm (hb.ext hx) ny (by omega) hlr (by omega)
    · rw [if_neg h1] at hbody ⊢
      cases h2:gP x with
      |some f=>
       rw [h2] at hbody
       simp only at hbody ⊢
       rw [bK hbody]
       exact ih more _ _ _ G (by omega) (by omega) hm (hb.app hx h2) ny (by omega) hlr (by omega)
      |none=>
       rw [h2] at hbody
       simp only at hbody ⊢
       by_cases h3:x=[]
       · rw [if_pos h3] at hbody ⊢
         exact ⟨_,gB hbody,rfl⟩
       · rw [if_neg h3] at hbody ⊢
         exact ⟨_,gB hbody,rfl⟩
theorem Jk {b:List UInt8} {F:Nat} (hb:b.length≤10000) (hF:20001<F):fW F b=some (mF b):=by
 have hw:=kY b
 obtain ⟨o,h1,h2⟩:=Jj hF (w:=whole b) (ls:=qP ((whole b).length+1) (whole b)) (by omega) ((whole b).length+1) (whole b) [] 0 0 F (by omega) (by omega) (jx b) ⟨by simp;omega,by simp⟩ rfl (by omega) rfl (by omega)
 rw [show ((0:Nat):Int)=0 from rfl] at h1
 unfold fW mF
 rw [sW (by omega)]
 simp only [Option.bind_some]
 rw [Jh (by omega) (by omega)]
 simp only [Option.bind_some]
 rw [h1, ←h2]
 cases o with
 |inl p=>rfl
 |inr s=>rfl
theorem Lz:∀(n:Nat) (rest:List UInt8) (s:List aj),Ends rest→Bd rest s→(jW n rest s).1.length≤20000∧∀f∈(jW n rest s).1,f.name.length≤76:=by
 intro n
 induction n with
 |zero=>intro rest s he hb;have:=hb.1;exact ⟨by simp only [jW];omega,fun f hf=>(hb.2 f hf).2⟩
 |succ n ih=>
  intro rest s he hb
  have h0:s.length≤20000∧∀f∈s,f.name.length≤76:=⟨by have:=hb.1;omega,fun f hf=>(hb.2 f hf).2⟩
  by_cases hr:rest=[]
  · subst hr;exact h0
  · obtain ⟨x,more,hc,hx,hm⟩:=pg he hr
    simp only [jW,hc]
    split
    · exact ih more _ hm (hb.ext hx)
    · split
      · rename_i f hf
        exact ih more _ hm (hb.app hx hf)
      · split
        · exact h0
        · exact h0
theorem Jl {b:List UInt8} (hb:b.length≤19000):(mF b).1.length≤20000∧∀f∈(mF b).1,f.name.length≤76:=by
 have hw:=kY b
 exact Lz _ _ _ (jx b) ⟨by simp;omega,by simp⟩
theorem CO {l:List aj} {F:Nat} (hl:l.length≤20000) (hF:l.length<F):fD F l l=some true:=by
 unfold fD
 rw [if_neg (by simp)]
 have hh:=scan (s:=l) (body:=dG l l) (mk:=fun i=>(false,(i:Int))) (p:=fun _=>true) (rr:=fun _=>false) (tt:=()) ?_ ?_ ?_ hF
 · have:=hh.1 (by simp)
   rw [show ((0:Nat):Int)=0 from rfl] at this
   rw [this];rfl
 · intro i x hx _
   have hi:i<l.length:=(List.getElem?_eq_some_iff.1 hx).1
   simp only [dG]
   rw [if_pos (by simpa using hi),bt hx]
   simp only [Option.bind_some]
   rw [if_neg (by simp),wi (by omega)]
 · intro i x _ h;cases h
 · simp only [dG]
   rw [if_neg (by simp)]
theorem zu (n:Nat):fQ (n+100)=some true:=by kernel_rfl
theorem Jm (b name:List UInt8):∃F,eP F b name=some true:=by
 refine ⟨29900+100, ?_⟩
 unfold eP
 rw [zu]
 simp only [Option.bind_some,Bool.not_true,Bool.false_eq_true,if_false]
 by_cases h:4096<b.length∨300<name.length
 · rw [if_pos (by simp;omega)]
 · rw [if_neg (by simp;omega)]
   have hb:b.length≤4096:=by omega
   have hn:name.length≤300:=by omega
   obtain ⟨h1,h2⟩:=Jl (b:=b) (by omega)
   have h3:∀f∈(mF b).1,f.name.length≤2100:=fun f hf=>by have:=h2 f hf;omega
   rw [zp (by omega) (by omega),Jk (by omega) (by omega)]
   simp only [Option.bind_some]
   rw [I5 h1 (by omega) h3 (by omega) (by omega),Jd h1 (by omega) h3 (by omega) (by omega)]
   simp only [Option.bind_some]
   unfold dw kZ jG
   rw [CO h1 (by omega)]
   simp only [Option.bind_some,if_true,decide_true]
   rw [I5 h1 (by simp) h3 (by omega) (by omega),Jd h1 (by simp) h3 (by omega) (by omega),wR (by omega) (by omega),pE (by omega) (by omega)]
   simp only [Option.bind_some]
   rw [if_pos ?_]
   · simp
   · have:pn (mF b).1 [82,101,99,101,105,118,101,100]=pn (mF b).1 [114,101,99,101,105,118,101,100]:=by
      unfold pn
      congr 1
     rw [this];simp
end Go.Proofs.cR
end
