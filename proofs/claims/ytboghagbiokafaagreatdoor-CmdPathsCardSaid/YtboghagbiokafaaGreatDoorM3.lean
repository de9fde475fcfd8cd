import Derived.Test.YtboghagbiokafaaGreatDoorM2
import Derived.Shelf.Strconv.Itoa3
import Derived.Shelf.Strings.Trim
import Derived.Shelf.Small.Utf8
import Derived.Shelf.Small.Strs
import Derived.Shelf.Utf8.RuneCount
import Derived.Shelf.Strconv.Atoi
import Derived.Shelf.Strconv.Itoa0
import Derived.Shelf.Strconv.Itoa1
import Derived.Shelf.LaysM
import Derived.Shelf.Strconv.Itoa2
import Derived.Shelf.Strconv.AtoiErrFast
import Derived.Shelf.Strconv.ParseIntEmpty
import Derived.Shelf.Strconv.AtoiFail
import Derived.Shelf.Strconv.Clone
import Derived.Shelf.Strconv.SyntaxError
import Derived.Shelf.LaysC
import Derived.Shelf.Strconv.ToError
import Derived.Shelf.Strconv.Lower
import Derived.Shelf.Strconv.ParseUint10
import Derived.Shelf.Strconv.ParseUint10Empty
import Derived.Shelf.Strconv.ParseUint10Any
import Derived.Shelf.Strconv.ParseInt10
import Derived.Shelf.Strconv.AtoiLong
import Derived.Shelf.Strconv.AtoiInnerAll
import Derived.Shelf.Strconv.RangeError
import Derived.Shelf.Strconv.ToErrorRange
import Derived.Shelf.Strconv.AtoiAll
import Derived.Shelf.Strconv.ErrVarAll
import Derived.Shelf.Strings.Search1
import Derived.Shelf.Strings.Search2
import Derived.Shelf.Strings.Search3
import Derived.Shelf.Strings.Cut
import Derived.Shelf.Strings.Count
import Derived.Shelf.Strings.Shaped
import Derived.Shelf.Strings.Split
import Derived.Shelf.Strings.SplitShaped
import Derived.Shelf.Unicode.Decode
import Derived.Shelf.Strings.Runes
import Derived.Shelf.Strings.RuneCount
import Derived.Shelf.Strings.AsciiSet
import Derived.Shelf.Strings.Explode
import Derived.Shelf.Unicode.DecodeSlow
import Derived.Shelf.Unicode.DecodeAny
import Derived.Shelf.Unicode.DecodeLast
import Derived.Test.YtboghagbiokafaaGreatDoorProg
import Derived.Lib.Split
import Derived.Shelf.Strings.SlTrimAscii
set_option linter.unusedSimpArgs false
set_option linter.unusedVariables false
set_option linter.unusedSectionVars false
set_option linter.defProp false
section
namespace Go.Am
open Go
variable [Tabs]
def EK (k:Nat) (xs:List AV):Prop:=∀(i:Nat) (a:AV),xs[i]? =some a→a.cells.length=k∧b7 a.cells=true∧fW a.cells=true∧aU a.cells=true
theorem EK.ml {α:Type} {f:α→AV} {k:Nat} (h:∀x,(f x).cells.length=k∧b7 (f x).cells=true∧fW (f x).cells=true∧aU (f x).cells=true) (l:List α):EK k (ml f l):=by
 intro i a hi
 simp only [Am.ml,List.getElem?_map,Option.map_eq_some_iff] at hi
 obtain ⟨x, -,rfl⟩:=hi
 exact h x
def fla (xs:List AV):List AV:=(xs.map fun a=>a.cells.map AV.s1).flatten
theorem lB (a:AV) (xs:List AV):fla (a::xs)=a.cells.map AV.s1++fla xs:=rfl
theorem Ke (xs ys:List AV):fla (xs++ys)=fla xs++fla ys:=by simp [fla]
theorem EK.tail {k:Nat} {a:AV} {xs:List AV} (h:EK k (a::xs)):EK k xs:=fun i b hb=>h (i+1) b (by simpa using hb)
theorem l6 {k:Nat}:∀ {xs:List AV},EK k xs→(fla xs).length=xs.length*k:=by
 intro xs
 induction xs with
 |nil=>intro _;simp [fla]
 |cons a r ih=>intro h;rw [lB,List.length_append,List.length_map,ih h.tail,(h 0 a rfl).1,List.length_cons,Nat.succ_mul];omega
theorem Kf {k:Nat}:∀ {xs:List AV},EK k xs→∀(i j:Nat) (a:AV),xs[i]? =some a→j<k→(fla xs)[i*k+j]? =(a.cells.map AV.s1)[j]? :=by
 intro xs
 induction xs with
 |nil=>intro _ i j a h;simp at h
 |cons y r ih=>
  intro h i j a hi hj
  have hy:=(h 0 y rfl).1
  rw [lB]
  cases i with
  |zero=>
   simp at hi;subst hi
   rw [List.getElem?_append_left (by simp;omega)];simp
  |succ i=>
   rw [List.getElem?_append_right (by simp only [List.length_map,hy,Nat.succ_mul];omega)]
   rw [show (i+1)*k+j - (y.cells.map AV.s1).length=i*k+j by simp only [List.length_map,hy,Nat.succ_mul];omega]
   exact ih h.tail i j a (by simpa using hi) hj
theorem Ut {k:Nat}:∀ {xs:List AV},EK k xs→∀(i j:Nat) (a a' w:AV),xs[i]? =some a→j<k→a'.cells.map AV.s1=(a.cells.map AV.s1).set j w→fla (xs.set i a')=(fla xs).set (i*k+j) w:=by
 intro xs
 induction xs with
 |nil=>intro _ i j a a' w h;simp at h
 |cons y r ih=>
  intro h i j a a' w hi hj hw
  have hy:=(h 0 y rfl).1
  cases i with
  |zero=>
   simp at hi;subst hi
   rw [List.set_cons_zero,lB,lB,hw,List.set_append_left _ _ (by simp;omega)];simp
  |succ i=>
   rw [List.set_cons_succ,lB,lB,ih h.tail i j a a' w (by simpa using hi) hj hw,List.set_append_right _ _ (by simp only [List.length_map,hy,Nat.succ_mul];omega)]
   rw [show (i+1)*k+j - (y.cells.map AV.s1).length=i*k+j by simp only [List.length_map,hy,Nat.succ_mul];omega]
theorem aaJ (a:AV):a.s1.s1=a.s1:=by cases a<;>rfl
theorem XO (xs:List AV):(fla xs).map AV.s1=fla xs:=by
 unfold fla
 rw [List.map_flatten,List.map_map]
 congr 1
 apply List.map_congr_left
 intro a _
 simp [List.map_map,Function.comp_def,aaJ]
theorem DT {k:Nat}:∀ {xs:List AV},EK k xs→∀(q:Nat) (a:AV),(fla xs)[q]? =some a→a.flat=true∧a.np=true∧a.iG=true:=by
 intro xs
 induction xs with
 |nil=>intro _ q a h;simp [fla] at h
 |cons y r ih=>
  intro h q a hq
  rw [lB] at hq
  by_cases hlt:q<(y.cells.map AV.s1).length
  · rw [List.getElem?_append_left hlt,List.getElem?_map,Option.map_eq_some_iff] at hq
    obtain ⟨z,hz,rfl⟩:=hq
    have h1:=iV (h 0 y rfl).2.2.2 hz
    have h2:=uy (h 0 y rfl).2.2.1 hz
    have h3:z.iG=true:=by
     have:=(h 0 y rfl).2.1
     generalize y.cells=l at this hz
     clear hlt
     induction l generalizing q with
     |nil=>simp at hz
     |cons b l ihl=>
      simp only [b7,Bool.and_eq_true] at this
      cases q with
      |zero=>simp at hz;subst hz;exact this.1
      |succ q=>exact ihl q this.2 (by simpa using hz)
    cases z<;>simp_all [AV.s1,AV.flat,AV.np,AV.iG]
  · rw [List.getElem?_append_right (by omega)] at hq
    exact ih h.tail _ a hq
theorem Kg {l:List AV} (h:∀(q:Nat) (a:AV),l[q]? =some a→a.flat=true):aU l=true:=by
 induction l with
 |nil=>rfl
 |cons a r ih=>simp only [aU,Bool.and_eq_true];exact ⟨h 0 a rfl,ih fun q b hb=>h (q+1) b (by simpa using hb)⟩
theorem ku (k:Nat) (xs:List AV) (c:Nat):jV k xs c=fla xs++List.replicate ((c - xs.length)*k) .un:=rfl
theorem Ae {k c:Nat} {xs:List AV} (h:EK k xs) (hc:xs.length≤c):(jV k xs c).length=c*k:=by
 rw [ku,List.length_append,l6 h,List.length_replicate, ←Nat.add_mul];congr 1;omega
theorem Br {k c:Nat} {xs:List AV} (h:EK k xs):(jV k xs c).take (xs.length*k)=fla xs:=by
 rw [ku,List.take_append_of_le_length (by rw [l6 h];exact Nat.le_refl _),List.take_of_length_le (by rw [l6 h];exact Nat.le_refl _)]
theorem Uu {k c i j:Nat} {xs:List AV} {a:AV} (h:EK k xs) (hi:xs[i]? =some a) (hj:j<k):(jV k xs c)[i*k+j]? =(a.cells.map AV.s1)[j]? :=by
 have hlt:i<xs.length:=(List.getElem?_eq_some_iff.1 hi).1
 have:(i+1)*k≤xs.length*k:=Nat.mul_le_mul_right _ hlt
 rw [Nat.succ_mul] at this
 rw [ku,List.getElem?_append_left (by rw [l6 h];omega),Kf h i j a hi hj]
theorem Re {k c i j:Nat} {xs:List AV} {a a' w:AV} (h:EK k xs) (hi:xs[i]? =some a) (hj:j<k) (hw:a'.cells.map AV.s1=(a.cells.map AV.s1).set j w):
 over (jV k xs c) (i*k+j) [w]=some (jV k (xs.set i a') c):=by
 have hlt:i<xs.length:=(List.getElem?_eq_some_iff.1 hi).1
 have hm:(i+1)*k≤xs.length*k:=Nat.mul_le_mul_right _ hlt
 rw [Nat.succ_mul] at hm
 have hl:=l6 h
 unfold over
 rw [if_pos (by rw [ku,List.length_append,hl,List.length_singleton];omega)]
 congr 1
 rw [ku k (xs.set i a'),List.length_set,Ut h i j a a' w hi hj hw,ku]
 rw [←List.set_append_left _ _ (by rw [hl];omega)]
 rw [List.set_eq_take_append_cons_drop,if_pos (by rw [List.length_append,hl];omega)]
 simp
def GF (k n0 q:Nat) (xs:List AV) (c:Nat) (ah:AH):Prop:=
 (c=0∧xs=[])∨(n0≤q∧0<c∧xs.length≤c∧ah[q]? =some (jV k xs c))
theorem GF.lt {k n0 q c:Nat} {xs:List AV} {ah:AH} (h:GF k n0 q xs c ah) (hc:0<c):q<ah.length∧n0≤q:=by
 rcases h with ⟨h, -⟩|⟨h1, -, -,h2⟩
 · omega
 · exact ⟨(List.getElem?_eq_some_iff.1 h2).1,h1⟩
theorem GF.nil {k n0 q:Nat} {ah:AH}:GF k n0 q [] 0 ah:= .inl ⟨rfl,rfl⟩
theorem GF.at {k n0 q c i:Nat} {xs:List AV} {ah:AH} {a:AV} (h:GF k n0 q xs c ah) (hi:xs[i]? =some a):n0≤q∧ah[q]? =some (jV k xs c):=by
 rcases h with ⟨-,rfl⟩|⟨h1, -, -,h2⟩
 · simp at hi
 · exact ⟨h1,h2⟩
theorem GF.of {k n0 q c:Nat} {xs:List AV} {ah aH:AH} (h:GF k n0 q xs c ah) (he:q<ah.length→n0≤q→aH[q]? =ah[q]?):GF k n0 q xs c aH:=by
 rcases h with h|⟨h1,h2,h3,h4⟩
 · exact .inl h
 · exact .inr ⟨h1,h2,h3,by rw [he (List.getElem?_eq_some_iff.1 h4).1 h1];exact h4⟩
theorem GF.set {k n0 q c i:Nat} {xs:List AV} {ah:AH} {a a':AV} (h:GF k n0 q xs c ah) (hi:xs[i]? =some a):GF k n0 q (xs.set i a') c (ah.set q (jV k (xs.set i a') c)):=by
 rcases h with ⟨-,rfl⟩|⟨h1,h2,h3,h4⟩
 · simp at hi
 · exact .inr ⟨h1,h2,by simpa using h3,List.getElem?_set_self (List.getElem?_eq_some_iff.1 h4).1⟩
section
variable {P:Program} {L:List Nat} {N n0:Nat} {e:Env} {ah:AH} {t:List It} {Q:Exit→Env→AH→Prop} {r:List aL} {d:Option Nat} {g:Option (Nat×Bool)}
theorem Uv {α:Type} {f:α→AV} {k b q c n1:Nat} {x y:Ar} {tg:Tg} {X Y Z:List α} {ys:List AV} (hf:∀x,(f x).cells.length=k∧b7 (f x).cells=true∧fW (f x).cells=true∧aU (f x).cells=true)
 (hk0:0<k) (hx:ev e x= .cu q k X.length c) (hy:ev e y= .sl tg k ys) (hys:ys=ml f Y) (hY:Y≠[]) (hz:fe b X Y=some Z) (hG:GF k n1 q (ml f X) c ah) (hn:n1≤ah.length)
 (hK:∀q' c' aH,GF k n1 q' (ml f Z) c' aH→(∀s,s<ah.length→s<n1∨(0<c→s≠q)→aH[s]? =ah[s]?)→ah.length≤aH.length→(q'=q∨ah.length≤q')→
  U P L N n0 (.ops r::t) Q .normal (aI L e d (.cu q' k Z.length c')) aH):
 UG P L N n0 ⟨d, .k7 k b x y,g⟩ r t Q e ah (some true):=by
 subst hys
 obtain ⟨hc,hZ⟩:=G6 hz
 injection hZ with hZ
 subst hZ
 have eX:=EK.ml hf X
 have eY:=EK.ml hf Y
 have eXY:EK k (ml f (X++Y)):=EK.ml hf _
 have hap:ml f (X++Y)=ml f X++ml f Y:=by simp [ml]
 have lX:(ml f X).length=X.length:=by simp [ml]
 have lY:(ml f Y).length=Y.length:=by simp [ml]
 have hyp:0<Y.length:=List.length_pos_iff.2 hY
 show oH L d k b x y e ah fun e ah=>U P L N n0 (.ops r::t) Q .normal e ah
 unfold oH
 rw [hx,hy]
 refine ⟨rfl,rfl,by simpa [ml] using hY,by rw [lY];exact hc.1,by rw [lY];exact hc.2, ?_⟩
 have lXY:(X++Y).length=X.length+Y.length:=List.length_append
 rcases hG with ⟨rfl,hX⟩|⟨h1,h2,h3,h4⟩
 · have hX:X=[]:=by simpa [ml] using hX
   subst hX
   refine .inl ⟨rfl,rfl,fun c' cc=> ?_⟩
   rw [lY] at cc ⊢
   have:=hK ah.length c' (ah++[jV k (ml f Y) c']) (.inr ⟨hn,by omega,by simpa [ml] using cc,by simp⟩) (fun s hs _=>List.getElem?_append_left hs) (by simp) (.inr (Nat.le_refl _))
   simpa using this
 · rw [lX] at h3
   have hlt:=(List.getElem?_eq_some_iff.1 h4).1
   refine .inr ⟨_,h4,fun h0=> ?_,Ae eX (by rw [lX];exact h3),h3, ?_,fun hr=> ?_,fun hr c' cc=> ?_⟩
   · have:=Ae eX (c:=c) (by rw [lX];exact h3)
     rw [h0] at this
     have h5:=Nat.mul_pos h2 hk0
     simp at this
     omega
   · rw [←lX,Br eX];exact Kg fun q a hq=>(DT eX q a hq).1
   · rw [lY] at hr ⊢
     have e1:(jV k (ml f X) c).take (X.length*k)++((ml f Y).map fun a=>a.cells.map AV.s1).flatten++(jV k (ml f X) c).drop ((X.length+Y.length)*k)=jV k (ml f (X++Y)) c:=by
      have t1:=Br (c:=c) eX
      rw [lX] at t1
      rw [t1,ku k (ml f (X++Y)),hap,Ke]
      show fla (ml f X)++fla (ml f Y)++_=_
      congr 1
      rw [ku,List.drop_append,List.drop_of_length_le (by rw [l6 eX,lX];exact Nat.mul_le_mul_right _ (by omega)),List.nil_append,List.drop_replicate]
      congr 1
      rw [l6 eX,List.length_append,lX,lY, ←Nat.sub_mul, ←Nat.sub_mul]
      congr 1
      omega
     rw [e1]
     have:=hK q c (ah.set q (jV k (ml f (X++Y)) c)) (.inr ⟨h1,h2,by simpa [ml] using hr,List.getElem?_set_self hlt⟩) (fun s hs hq=>List.getElem?_set_ne (hq.elim (fun h=>by omega) (fun h=>Ne.symm (h h2)))) (by simp) (.inl rfl)
     rw [lXY] at this
     exact this
   · rw [lY] at cc hr ⊢
     have e1:((jV k (ml f X) c).take (X.length*k)).map AV.s1++jV k (ml f Y) (c' - X.length)=jV k (ml f (X++Y)) c':=by
      have t1:=Br (c:=c) eX
      rw [lX] at t1
      rw [t1,XO,ku,ku,hap,Ke,List.append_assoc]
      congr 3
      rw [List.length_append,lX,lY];congr 1;omega
     rw [e1]
     have:=hK ah.length c' (ah++[jV k (ml f (X++Y)) c']) (.inr ⟨hn,by omega,by simpa [ml] using cc,by simp⟩) (fun s hs _=>List.getElem?_append_left hs) (by simp) (.inr (Nat.le_refl _))
     rw [lXY] at this
     exact this
theorem aaK {q k n c:Nat}:Oj L e ah d (.cu q k n c)=some (aI L e d (.int .i64 n),ah):=rfl
theorem acG {q k n c:Nat} {ki:IntKind} {i:Int}:Ab L e ah d k (.cu q k n c) (.int ki i)=(Bq n i).map fun j=>(aI L e d (.ptr q (j*k)),ah):=by
 simp only [Ab,Bq,and_true]
 split<;>simp
theorem aaL {k m s p:Nat} {ki:IntKind} {i:Int}:Jk L e ah d k m (.ptr s p) (.int ki i)=(Bq m i).map fun j=>(aI L e d (.ptr s (p+j*k)),ah):=by
 simp only [Jk,Bq]
 split<;>simp
theorem aaM {k m p:Nat} {a:AV} {ki:IntKind} {i:Int}:Jk L e ah d k m (.ep a p) (.int ki i)=(Bq m i).map fun j=>(aI L e d (.ep a (p+j*k)),ah):=by
 simp only [Jk,Bq]
 split<;>simp
theorem aaN {k:Nat}:Jl L e ah d k (.sl .ex k [])=some (aI L e d (.cu 0 k 0 0),ah):=by simp [Jl]
theorem aaO {s k n c j:Nat}:Jl L e ah d j (.cu s k n c)=some (aI L e d (.cu s k n c),ah):=rfl
theorem aaP {u k j:Nat} {xs:List AV}:Jl L e ah d j (.sl (.fr (.tmp u)) k xs)=N8 L e ah d u k xs (Am.get e u):=rfl
theorem XP {u k:Nat} {xs zs:List AV}:N8 L e ah d u k xs (.sl .own k zs)=some (aI L (put e u (.sl .n k zs)) d (.sl .own k xs),ah):=by simp [N8]
end
theorem Wx.adY {s k n m c:Nat} (h:n=m):Wx (.cu s k n c) (.cu s k m c):=by subst h;exact .same (by simp)
theorem Wx.cu {s k n c:Nat}:Wx (.cu s k n c) (.cu s k n c):= .same (by simp)
def WG:=And.intro @aaP<|And.intro @XP<|And.intro @Xc<|And.intro @Xd<|And.intro @Xe<|And.intro @Xf<|And.intro @Xg<|And.intro @Xh<|And.intro @Xi<|And.intro @Xj<|And.intro @Xk<|And.intro @Xl<|And.intro @Xm<|And.intro @Xn<|And.intro @Xo<|And.intro @Xp<|And.intro @Xq<|And.intro @Xr<|And.intro @Th<|And.intro @Ti<|And.intro @Tj<|And.intro @Tk<|And.intro @aaK<|And.intro @acG<|And.intro @aaL<|And.intro @aaM<|And.intro @aaN<|And.intro @aaO<|And.intro @ZJ<|And.intro @ZK<|And.intro @Nat.add_zero<|And.intro @Nat.zero_add @Nat.mul_one
section
variable {P:Program} {L:List Nat} {N n0:Nat} {F:Nat→Prop} {γ:List Nat} {C:Nat→List Value} {e e':Env} {ah:AH} {ts:Array Value} {w:World} {Q K:Exit→Env→AH→Prop}
theorem VR.one' {x:AV} {u:Value} (hx:VR C γ x u) (hk:x.iG=true):u.oneCell'=true:=by
 cases hx<;>first|rfl|cases hk|skip
 rename_i hs
 cases u<;>first|rfl|cases hs
theorem SR.YN (h:SR L N F γ C e ah ts w) {s k n1 c:Nat} {xs:List AV} (hkp:0<k) (hk:EK k xs) (hG:GF k n1 s xs c ah)
 (he:∀t,get e' t=get e t∨(get e t= .cu s k xs.length c∧get e' t= .sl .n k xs)):∃C',SR L N F γ C' e' (if c=0 then ah else ah.set s []) ts w∧Ext F C w C' w:=by
 rcases hG with ⟨rfl,rfl⟩|⟨-,hc0,hcl,hs⟩
 · refine ⟨C, ?_,Ext.refl ..⟩
   rw [if_pos rfl]
   have hbk:∀p b,blk γ e' ah ts w p b→blk γ e ah ts w p b:=by
    intro p b hp
    cases p with
    |tmp t=>
     simp only [blk] at hp ⊢
     rcases he t with h1|⟨h1,h2⟩
     · rwa [h1] at hp
     · rw [h2] at hp;simp [bS] at hp
    |obj s=>exact hp
    |cell s i=>exact hp
   refine ⟨h.mem,h.sz,fun t=> ?_,fun p q b hp hq=>h.ey p q b (hbk p b hp) (hbk q b hq),fun p b hp=>h.nf p b (hbk p b hp),h.j9,fun t l k' xs' ht=> ?_⟩
   · rcases he t with h1|⟨h1,h2⟩
     · rw [h1];exact h.env t
     · rw [h2]
       have hv:=(h.env t).1
       rw [h1] at hv
       obtain ⟨a,hv, -⟩:=hv.wg
       rw [hv]
       exact ⟨.sJ ..,by simp [TC]⟩
   · rcases he t with h1|⟨h1,h2⟩
     · rw [h1] at ht
       have hf:=h.fr t l k' xs' ht
       cases l with
       |tmp u=>
        refine ⟨hf.1,fun hu=>hf.2 ?_⟩
        rcases he u with g1|⟨g1,g2⟩
        · rwa [g1] at hu
        · rw [g2] at hu;cases hu
       |cell s' o=>exact hf
     · rw [h2] at ht;cases ht
 rw [if_neg (by omega)]
 have hlt:s<γ.length:=by rw [h.mem.len];exact (List.getElem?_eq_some_iff.1 hs).1
 obtain ⟨b,hb⟩:∃b,γ[s]? =some b:=⟨_,List.getElem?_eq_getElem hlt⟩
 obtain ⟨vs,ty,hh,hsz,hcell⟩:=h.mem.obj s b _ hs hb
 have zZ:blk γ e ah ts w (.obj s) b:=hb
 have hk0:jV k xs c≠[]:=by
  intro h0
  have:=Ae (c:=c) hk hcl
  rw [h0] at this
  have h5:=Nat.mul_pos hc0 hkp
  simp at this
  omega
 have IZ:=h.mem.u0 s b _ hs hk0 hb
 refine ⟨fun x=>if x=b then vs.toList.take (xs.length*k) else C x, ?_⟩
 generalize yu:(fun x=>if x=b then vs.toList.take (xs.length*k) else C x)=C'
 have c0:C' b=vs.toList.take (xs.length*k):=by rw [←yu];simp
 have c1:∀x,x≠b→C' x=C x:=fun x hx=>by rw [←yu];simp [hx]
 have hgl:=Ae (c:=c) hk hcl
 have hmul:xs.length*k≤c*k:=Nat.mul_le_mul_right _ hcl
 have hvl:(C' b).length=xs.length*k:=by rw [c0,List.length_take,show vs.toList.length=vs.size from Array.length_toList];omega
 have hpre:∀x,C x <+: C' x:=by
  intro x
  by_cases hx:x=b
  · subst hx;rw [IZ];exact List.nil_prefix
  · rw [c1 x hx];exact List.prefix_refl _
 have hset:∀(s':Nat),s'≠s→(ah.set s [])[s']? =ah[s']? :=fun s' hn=>List.getElem?_set_ne (Ne.symm hn)
 have iI:(ah.set s [])[s]? =some []:=List.getElem?_set_self (by rw [←h.mem.len];exact hlt)
 have yw:∀(s':Nat),γ[s']? =some b→s'=s:=fun s' hs'=>by
  have:=h.ey (.obj s') (.obj s) b hs' hb;injection this
 have hbk:∀p x,blk γ e' (ah.set s []) ts w p x→blk γ e ah ts w p x:=by
  intro p x hp
  cases p with
  |obj s'=>exact hp
  |cell s' i=>
   obtain ⟨ds,a,b0,h1,h2,h3,h4⟩:=hp
   by_cases hn:s'=s
   · subst hn;rw [iI] at h1;injection h1 with h1;subst h1;simp at h2
   · rw [hset s' hn] at h1;exact ⟨ds,a,b0,h1,h2,h3,h4⟩
  |tmp t=>
   simp only [blk] at hp ⊢
   rcases he t with h1|⟨h1,h2⟩
   · rwa [h1] at hp
   · rw [h2] at hp;simp [bS] at hp
 have oK:∀(a:AV) (v:Value),TC w C a v→(∀x,bS a v=some x→x≠b)→TC w C' a v:=fun a v ht hn=>ht.mono fun x hx=>⟨rfl,c1 x (hn x hx)⟩
 refine ⟨⟨⟨by simp [h.mem.len],fun s' x ds h1 h2=> ?_,fun x hx=> ?_,fun s' x ds h1 h0 h2=> ?_,fun s' x ds us ty' fr h1 h2 h3=> ?_⟩,h.sz,fun t=> ?_,fun p q x hp hq=>h.ey p q x (hbk p x hp) (hbk q x hq),fun p x hp=>h.nf p x (hbk p x hp),h.j9,fun t l k xs ht=> ?_⟩,
  ⟨hpre,fun x hx=>⟨rfl,c1 x (fun e=>h.nf _ _ zZ (e▸hx))⟩,Nat.le_refl _,rfl,rfl,rfl⟩⟩
 · by_cases hn:s'=s
   · subst hn
     rw [iI] at h1;injection h1 with h1;subst h1
     rw [hb] at h2;injection h2 with h2;subst h2
     exact ⟨vs,ty,hh,by simp,by simp⟩
   · rw [hset s' hn] at h1
     obtain ⟨us,ty',g1,g2,g3⟩:=h.mem.obj s' x ds h1 h2
     refine ⟨us,ty',g1,g2,fun i a hi=>⟨(g3 i a hi).1.mono hpre _ (fun _ _ h=>h),oK _ _ (g3 i a hi).2 fun y hy e=> ?_⟩⟩
     subst e
     obtain ⟨v,hv, -, -⟩:=cellAt h.mem h1 hi h2
     have Lj:v=us.getD i undef:=by
      have hlt:i<us.size:=Nat.lt_of_lt_of_le (List.getElem?_eq_some_iff.1 hi).1 g2
      rw [dF g1,Array.getElem?_eq_getElem hlt] at hv
      simp [Array.getD_eq_getD_getElem?,Array.getElem?_eq_getElem hlt,Option.some.inj hv]
     have:blk γ e ah ts w (.cell s' i) y:=⟨ds,a,x,h1,hi,h2,by rw [hv,Lj];exact hy⟩
     have:=h.ey _ _ _ this zZ
     cases this
 · by_cases Us:x=b
   · subst Us;exact ⟨vs,ty.1,ty.2,hh,by rw [c0];exact List.take_prefix _ _⟩
   · rw [c1 x Us] at hx ⊢;exact h.mem.wh x hx
 · have hn:s'≠s:=by
    rintro rfl
    rw [iI] at h1;injection h1 with h1;exact h0 h1.symm
   rw [hset s' hn] at h1
   rw [c1 x (fun e=>hn (yw s' (e▸h2)))]
   exact h.mem.u0 s' x ds h1 h0 h2
 · by_cases hn:s'=s
   · subst hn
     rw [iI] at h1;injection h1 with h1;subst h1
     intro i hi;simp at hi
   · rw [hset s' hn] at h1
     exact h.mem.Dt s' x ds us ty' fr h1 h2 h3
 · rcases he t with h1|⟨h1,h2⟩
   · rw [h1]
     refine ⟨(h.env t).1.mono hpre _ (fun _ _ h=>h),oK _ _ (h.env t).2 fun y hy e=> ?_⟩
     subst e
     have:=h.ey (.tmp t) (.obj s) y hy zZ
     cases this
   · have hv:=(h.env t).1
     rw [h1] at hv
     obtain ⟨ad,hv,hnc,hcase⟩:=hv.wg
     have hcase:ad=some ⟨b,0,none⟩:=by
      rcases hcase with ⟨-,h0⟩|⟨b',hb',e⟩
      · omega
      · rw [hb] at hb';injection hb' with hb';subst hb';exact e
     subst hcase
     rw [h2,hv]
     have hval:∀q,q<xs.length*k→(C' b).getD q undef=vs.getD q undef:=by
      intro q hq
      rw [c0]
      simp [List.getD_eq_getElem?_getD,Array.getD_eq_getD_getElem?,List.getElem?_take_of_lt hq]
     have n6:∀q a,(fla xs)[q]? =some a→VR C γ a (vs.getD q undef):=by
      intro q a hq
      refine (hcell q a ?_).1
      rw [ku,List.getElem?_append_left (List.getElem?_eq_some_iff.1 hq).1];exact hq
     have hfl:=l6 hk
     refine ⟨.sl _ _ _ _ _ _ _ _ rfl hnc (fun i a hi=>(hk i a hi).1) (by omega) (fun q _ hq=> ?_) (fun i a hi j y hj=> ?_),by simp [TC]⟩
     · rw [Nat.zero_add] at hq
       rw [hval q hq]
       have Sn:(fla xs)[q]? =some ((fla xs)[q]'(by omega)):=List.getElem?_eq_getElem (by omega)
       have h3:=n6 q _ Sn
       have h4:=(DT hk q _ Sn).2.2
       exact VR.one' h3 h4
     · have hlt':i<xs.length:=(List.getElem?_eq_some_iff.1 hi).1
       have RX:j<k:=by rw [←(hk i a hi).1];exact (List.getElem?_eq_some_iff.1 hj).1
       have hm:(i+1)*k≤xs.length*k:=Nat.mul_le_mul_right _ hlt'
       rw [Nat.succ_mul] at hm
       rw [Nat.zero_add,hval _ (by omega)]
       have hg:=Kf hk i j a hi RX
       rw [List.getElem?_map,hj] at hg
       have h3:=n6 _ _ hg
       have hnp:=uy (hk i a hi).2.2.1 hj
       have h4:VR C [] y.s1 (vs.getD (i*k+j) undef):=h3.np (DT hk _ _ hg).2.1
       have h5:VR C' [] y.s1 (vs.getD (i*k+j) undef):=h4.mono hpre [] (fun _ _ h=>h)
       cases y with
       |sl t k xs=>exact h5.ju _
       |_=>exact h5
 · rcases he t with h1|⟨h1,h2⟩
   · have hf:=h.fr t l k xs (by rw [←h1];exact ht)
     cases l with
     |tmp u=>
      refine ⟨hf.1,fun hu=>hf.2 ?_⟩
      rcases he u with g1|⟨g1,g2⟩
      · rwa [g1] at hu
      · rw [g2] at hu;cases hu
     |cell s' o=>
      intro ds a x g1 g2 g3 g4
      by_cases hn:s'=s
      · subst hn;rw [iI] at g1;injection g1 with g1;subst g1;simp at g2
      · rw [hset s' hn] at g1;exact hf ds a x g1 g2 g3 g4
   · rw [h2] at ht;cases ht
end
end Go.Am
namespace Go.Am
open Go
variable [Tabs]
section
variable {P:Program} {L:List Nat} {N n0:Nat} {e e':Env} {ah:AH} {K:Exit→Env→AH→Prop}
inductive FG (s k c:Nat) (xs:List AV):Env→Env→Prop
 |nil:FG s k c xs [] []
 |same (i:Nat) (a:AV) (r r':Env):FG s k c xs r r'→FG s k c xs ((i,a)::r) ((i,a)::r')
 |lay (i n:Nat) (r r':Env):n=xs.length→FG s k c xs r r'→FG s k c xs ((i, .cu s k n c)::r) ((i, .sl .n k xs)::r')
theorem FG.get {s k c:Nat} {xs:List AV} {e e':Env} (h:FG s k c xs e e') (t:Nat):Am.get e' t=Am.get e t∨(Am.get e t= .cu s k xs.length c∧Am.get e' t= .sl .n k xs):=by
 induction h with
 |nil=>exact .inl rfl
 |same i a r r' _ ih=>
  simp only [Am.get]
  by_cases hi:i=t
  · simp [hi]
  · simpa [hi] using ih
 |lay i n r r' hn _ ih=>
  simp only [Am.get]
  by_cases hi:i=t
  · exact .inr ⟨by simp [hi,hn],by simp [hi]⟩
  · simpa [hi] using ih
theorem AX.YN {c0:ax} {s k n1 c:Nat} {xs:List AV} (hkp:0<k) (hk:EK k xs) (hG:GF k n1 s xs c ah) (he:FG s k c xs e e')
 (h:∀H',(∀s',s'<n1∨(0<c→s'≠s)→H'[s']? =ah[s']?)→H'.length=ah.length→AX P L N n0 c0 K e' H'):AX P L N n0 c0 K e ah:=by
 intro c' cc F γ C ts w ko hn
 obtain ⟨C',h1,h2⟩:=ko.YN hkp hk hG he.get
 have hsame:∀s',s'<n1∨(0<c→s'≠s)→(if c=0 then ah else ah.set s [])[s']? =ah[s']? :=by
  intro s' hs'
  rcases hG with ⟨rfl, -⟩|⟨g1,g2, -, -⟩
  · rw [if_pos rfl]
  · rw [if_neg (by omega),List.getElem?_set_ne]
    rcases hs' with h|h
    · omega
    · exact Ne.symm (h g2)
 refine wp_mono (h _ hsame (by split<;>simp) c' cc F γ C' ts w h1 hn) ?_
 rintro x a w' ⟨q1,q2,e2,tq,γ2,C2,q3,q4,q5,q6⟩
 exact ⟨q1,q2,e2,tq,γ2,C2,q3,q4,q5,h2.trans q6⟩
end
end Go.Am
namespace Go.Am
open Go
variable [Tabs]
def EF {α:Type} (k:Nat) (f:α→AV):Prop:=∀x,(f x).cells.length=k∧b7 (f x).cells=true∧fW (f x).cells=true∧aU (f x).cells=true
section
variable {α:Type} {f:α→AV} {k c j o n q:Nat} {X:List α} {x x':α} {w:AV} {ah:AH}
theorem Af (h:X[j]? =some x):(ml f X)[j]? =some (f x):=by simp [ml,h]
theorem Om:(ml f X).set j (f x')=ml f (X.set j x'):=by simp [ml,List.map_set]
theorem Rf (he:EF k f) (h:X[j]? =some x) (ho:o<k):(jV k (ml f X) c)[j*k+o]? =((f x).cells.map AV.s1)[o]? :=Uu (EK.ml he X) (Af h) ho
theorem aaQ (he:EF k f) (h:X[j]? =some x) (ho:0<k):(jV k (ml f X) c)[j*k]? =((f x).cells.map AV.s1)[0]? :=Rf (o:=0) he h ho
theorem Nd (he:EF k f) (h:X[j]? =some x) (ho:o<k) (hw:(f x').cells.map AV.s1=((f x).cells.map AV.s1).set o w):over (jV k (ml f X) c) (j*k+o) [w]=some (jV k (ml f (X.set j x')) c):=by
 rw [Re (EK.ml he X) (Af h) ho hw,Om]
theorem YO (he:EF k f) (h:X[j]? =some x) (ho:0<k) (hw:(f x').cells.map AV.s1=((f x).cells.map AV.s1).set 0 w):over (jV k (ml f X) c) (j*k) [w]=some (jV k (ml f (X.set j x')) c):=Nd (o:=0) he h ho hw
theorem GF.adZ (h:GF k n q (ml f X) c ah) (hj:X[j]? =some x):GF k n q (ml f (X.set j x')) c (ah.set q (jV k (ml f (X.set j x')) c)):=by
 have:=h.set (a':=f x') (Af hj)
 rwa [Om] at this
theorem GF.atM (h:GF k n q (ml f X) c ah) (hj:X[j]? =some x):ah[q]? =some (jV k (ml f X) c):=(h.at (Af hj)).2
theorem GF.geM (h:GF k n q (ml f X) c ah) (hj:X[j]? =some x):n≤q:=(h.at (Af hj)).1
end
theorem Fr.grow {H0 H H':AH} {S:List Nat} {n q c:Nat} (h:Fr H0 n S H) (hs:∀s,s<H.length→s<n∨(0<c→s≠q)→H'[s]? =H[s]?) (hl:H.length≤H'.length):Fr H0 n S H':=
 ⟨Nat.le_trans h.le hl,fun j hj DS=>(hs j (Nat.lt_of_lt_of_le hj h.le) (.inl hj)).trans (h.eq j hj DS)⟩
theorem Fr.lay {H0 H H':AH} {S:List Nat} {n q c:Nat} (h:Fr H0 n S H) (hs:∀s,s<n∨(0<c→s≠q)→H'[s]? =H[s]?) (hl:H'.length=H.length):Fr H0 n S H':=
 ⟨by rw [hl];exact h.le,fun j hj DS=>(hs j (.inl hj)).trans (h.eq j hj DS)⟩
end Go.Am
end
section
namespace Go.Am
open Go
variable [Tabs]
theorem acH {e:Env} {n:Nat}:ev e (.t n)=Am.get e n:=rfl
theorem acI {e:Env} {a:AV}:ev e (.c a)=a:=rfl
theorem Uw {e:Env} {n:Int}:bI e n none= .int .i64 n:=rfl
theorem Ux {e:Env} {n:Int} {x:Ar}:bI e n (some x)=ev e x:=rfl
def WU:=And.intro @Zo<|And.intro @Ww<|And.intro @Zp<|And.intro @Wy<|And.intro @Zq<|And.intro @Zr<|And.intro @abH<|And.intro @Wz<|And.intro @Zs<|And.intro @WA<|And.intro @WC<|And.intro @SH<|And.intro @SI<|And.intro @SJ<|And.intro @O5<|And.intro @O6<|And.intro @Lw<|And.intro @Zt<|And.intro @SK<|And.intro @O7<|And.intro @SL<|And.intro @O8<|And.intro @Zu<|And.intro @WQ<|And.intro @WR<|And.intro @O9<|And.intro @WT<|And.intro @abM<|And.intro @Zy<|And.intro @WX<|And.intro @SM<|And.intro @Zz<|And.intro @SN<|And.intro @ZA<|And.intro @ZT<|And.intro @ZB<|And.intro @ZC<|And.intro @Ol<|And.intro @abN<|And.intro @Uo<|And.intro @YM<|And.intro @ZD<|And.intro @abO<|And.intro @abP<|And.intro @ZE<|And.intro @abQ<|And.intro @ZF<|And.intro @ZG<|And.intro @ZH<|And.intro @ZI<|And.intro @W3<|And.intro @ZL<|And.intro @ZM<|And.intro @Un<|And.intro @Ul<|And.intro @Ok<|And.intro @ZP<|And.intro @W4<|@W5
def WV:=And.intro @acH<|And.intro @acI<|And.intro @Oc<|And.intro @Od<|And.intro @W7<|And.intro @W8<|And.intro @S1<|And.intro @W9<|And.intro @S3<|And.intro @Xa<|And.intro @S4<|And.intro @Uw<|And.intro @Ux<|And.intro @S5<|And.intro @S6<|And.intro @ZU<|And.intro @ZV<|And.intro @S7<|And.intro @S8<|And.intro @YF<|And.intro @S9<|And.intro @Ta<|And.intro @Tb<|And.intro @Tc<|And.intro @Td<|And.intro @Te<|And.intro @Tf<|And.intro @ZW<|And.intro @ZX<|And.intro @ZY<|And.intro @ZZ<|And.intro @Z0<|And.intro @Z1<|And.intro @abX<|And.intro @Z2<|And.intro @Z3<|And.intro @Z4<|And.intro @Z5<|And.intro @Z6<|And.intro @Z7<|And.intro @Z8<|And.intro @Z9<|And.intro @abY<|And.intro @abZ<|And.intro @ab0<|And.intro @ab1<|And.intro @aaa<|And.intro @aab<|And.intro @aac<|And.intro @aad<|And.intro @aae<|And.intro @aaf<|And.intro @ab2<|And.intro @ab3<|And.intro @ab4<|And.intro @aag<|And.intro @aah<|And.intro @aai<|And.intro @LB<|And.intro @Hg<|And.intro @Ch<|And.intro @Q_i<|And.intro @Q_s<|And.intro @Q_b<|And.intro @Q_n<|And.intro @ab6<|And.intro @ab7<|And.intro @ab8<|And.intro @ab9<|And.intro @Oh<|And.intro @aaj<|And.intro @aak<|And.intro @aal<|And.intro @Ob<|And.intro @G7<|And.intro @Jq<|And.intro @G8<|And.intro @aam<|And.intro @Ac<|And.intro @Ad<|And.intro @ZN<|And.intro @ZO<|And.intro @bF<|@bG
theorem AX.Uy {P:Program} {L:List Nat} {N n0:Nat} {K:Exit→Env→AH→Prop} {e:Env} {ah:AH} {m c:ax} (hm:erase m=c) (ho:qE N c=true) (h:U P L N n0 [.code m] K .normal e ah):AX P L N n0 c K e ah:=by
 subst hm
 exact fun c' cc=>oD c' m _ e ah cc ho h
theorem Wx.aaR {a b:Bool} (h:a=b):Wx (.bool a) (.bool b):=by subst h;exact Wx.bool
theorem Wx.acJ {k:IntKind} {a b:Int} (h:a=b):Wx (.int k a) (.int k b):=by subst h;exact Wx.int
theorem Wx.ad0 {a b:List UInt8} (h:a=b):Wx (.str a) (.str b):=by subst h;exact Wx.str
theorem gp.ad1 {ah:AH} {q:Nat} {cs:List AV} (hq:ah[q]? =some cs):gp ah (ah.set q cs):=by
 rw [Pd hq];exact gp.refl _
theorem Nf {α:Type} {f:α→AV} {xs:List α} {i:Int} {x:α} (h:idx xs i=some x):idx (ml f xs) i=some (f x):=by rw [Ob,h];rfl
theorem adG {α:Type} {f:α→AV} {xs ys:List α} {i j:Int} (h:sub xs i j=some ys):sub (ml f xs) i j=some (ml f ys):=by rw [G7,h];rfl
theorem adj {α:Type} {f:α→AV} {xs ys:List α} {i j m:Int} (h:Ci xs i j m=some ys):Ci (ml f xs) i j m=some (ml f ys):=by rw [Jq,h];rfl
end Go.Am
namespace Go.Am
open Go
variable [Tabs]
section
variable {P:Program} {L:List Nat} {N n0:Nat} {e:Env} {ah:AH} {t:List It} {Q:Exit→Env→AH→Prop} {r:List aL}
theorem acK {a b:ax} {B:Bool} (h:B=true) (hk:U P L N n0 (.code a::t) Q .normal e ah):UC P L N n0 a b t Q e ah (.bool B):=by subst h;exact hk
theorem acL {a b:ax} {B:Bool} (h:B=false) (hk:U P L N n0 (.code b::t) Q .normal e ah):UC P L N n0 a b t Q e ah (.bool B):=by subst h;exact hk
theorem adH {o:aL} {B want:Bool} (h:B=want) (hk:UG P L N n0 o r t Q e ah (some true)):UG P L N n0 o r t Q e ah (some (B==want)):=by subst h;simpa using hk
theorem Uz {o:aL} {B want:Bool} (h:B= !want) (hk:U P L N n0 (.ops r::t) Q .normal (oO e o.d) ah):UG P L N n0 o r t Q e ah (some (B==want)):=by
 subst h;cases want<;>exact hk
theorem adI {o:aL} {B:Bool} (h:B=false) (hk:U P L N n0 (.ops r::t) Q .normal (oO e o.d) ah):UG P L N n0 o r t Q e ah (some (B==true)):=Uz h hk
theorem adJ {o:aL} {B:Bool} (h:B=true) (hk:U P L N n0 (.ops r::t) Q .normal (oO e o.d) ah):UG P L N n0 o r t Q e ah (some (B==false)):=Uz h hk
end
theorem adk (B:Bool):B=true∨B=false:=by cases B<;>simp
theorem bq1:(true==true)=true:=rfl
theorem bq2:(true==false)=false:=rfl
theorem bq3:(false==true)=false:=rfl
theorem bq4:(false==false)=true:=rfl
def WB:=And.intro @bq1<|And.intro @bq2<|And.intro @bq3<|And.intro @bq4<|And.intro @Bool.and_true<|And.intro @Bool.true_and<|And.intro @Bool.and_false<|And.intro @Bool.false_and<|And.intro @Bool.or_true<|And.intro @Bool.true_or<|And.intro @Bool.or_false<|And.intro @Bool.false_or<|And.intro @Bool.not_true<|And.intro @Bool.not_false<|And.intro @decide_true<|And.intro @decide_false<|And.intro @and_true<|And.intro @true_and<|And.intro @and_self<|And.intro @and_false<|And.intro @false_and<|And.intro @Nat.zero_add<|And.intro @Nat.add_zero<|And.intro @Nat.succ_ne_zero<|And.intro @Nat.lt_irrefl<|And.intro @Bool.false_eq_true<|And.intro @List.contains_cons.{0}<|And.intro @List.contains_nil.{0}<|And.intro @List.take_succ_cons.{0}<|And.intro @List.take_zero.{0}<|And.intro @List.drop_succ_cons.{0}<|And.intro @List.drop_zero.{0}<|And.intro @List.length_cons.{0}<|And.intro @List.length_nil.{0}<|And.intro @List.getElem?_cons_zero.{0}<|And.intro @List.getElem?_cons_succ.{0}<|And.intro @List.getElem?_nil.{0}<|And.intro @List.cons_append.{0}<|And.intro @List.nil_append.{0}<|And.intro @List.append_nil.{0}<|And.intro @List.all_cons.{0}<|And.intro @List.all_nil.{0}<|And.intro @List.set_cons_zero.{0}<|And.intro @List.set_cons_succ.{0}<|And.intro @List.isEmpty_cons.{0}<|And.intro @List.isEmpty_nil.{0}<|And.intro @List.map_cons.{0,0}<|And.intro @List.map_nil.{0,0}<|And.intro @Option.map_some.{0,0}<|And.intro @Option.map_none.{0,0}<|@Option.bind_some.{0,0}
end Go.Am
namespace Go.Am
open Go
variable [Tabs]
section
variable {P:Program} {e':Env} {H0 H':AH} {rs:List ResultVar} {vs:List AV} {r':AV} {R:AV→AH→Prop}
theorem aK (hcl:kV H0.length H0) (hr:gm P e' H0 rs=some vs) (hc:Cl H0.length (fin vs)) (hw:Wx (fin vs) r') (hR:R r' H0):wJ P H0 rs R e' H0:=
 ⟨vs,r',H0,hr,hw,hR, .inl ⟨hc,by rw [List.take_length];exact hcl,Nat.le_refl _,by rw [List.take_length];exact gp.refl _⟩⟩
theorem aT (hf:Fr H0 H0.length [] H') (hcl:kV H0.length H0) (hr:gm P e' H' rs=some vs) (hc:Cl H0.length (fin vs)) (hw:Wx (fin vs) r') (hR:R r' H0):wJ P H0 rs R e' H':=
 ⟨vs,r',H0,hr,hw,hR, .inl ⟨hc,by rw [hf.YJ];exact hcl,hf.le,by rw [hf.YJ];exact gp.refl _⟩⟩
theorem acM (hr:gm P e' H' rs=some vs) (hw:Wx (fin vs) r') {aH:AH} (hh:gp H' aH) (hR:R r' aH):wJ P H0 rs R e' H':=
 ⟨vs,r',aH,hr,hw,hR, .inr hh⟩
theorem jA {s:Nat} {c c':List AV} (hf:Fr H0 H0.length [s] H') (hcl:kV H0.length H0) (hr:gm P e' H' rs=some vs) (hc:Cl H0.length (fin vs)) (hw:Wx (fin vs) r')
 (hs:H'[s]? =some c) (hl:s<H0.length) (UA:∀a∈c,Cl H0.length a) (hwc:wI c c') (hR:R r' (H0.set s c')):wJ P H0 rs R e' H':=by
 refine ⟨vs,r',H0.set s c',hr,hw,hR, .inl ⟨hc,by rw [hf.YK hs hl];exact hcl.set UA,hf.le, ?_⟩⟩
 rw [hf.YK hs hl]
 have:=gp.set (ah:=H0.set s c) (q:=s) (cs':=c') (h_eq hl) hwc
 rwa [List.set_set] at this
theorem gp.trans {a b c:AH} (h1:gp a b) (h2:∀(s:Nat) (cs':List AV),c[s]? =some cs'→∃cs,b[s]? =some cs∧(cs'=cs∨(wI cs cs'∧a[s]? =some cs))) (hl:c.length=b.length):gp a c:=by
 refine ⟨by rw [hl,h1.1],fun s cs' hs=> ?_⟩
 obtain ⟨cs,hb,rfl|⟨hw,ha⟩⟩:=h2 s cs' hs
 · exact h1.2 s _ hb
 · exact ⟨cs,ha, .inr hw⟩
theorem gp.acN {ah:AH} {q q2:Nat} {cs cs' ds ds':List AV} (hne:q≠q2) (hq:ah[q]? =some cs) (hc:wI cs cs') (Fg:ah[q2]? =some ds) (hd:wI ds ds'):gp ah ((ah.set q cs').set q2 ds'):=by
 refine gp.trans (gp.set hq hc) (fun s es hs=> ?_) (by simp)
 rw [List.getElem?_set] at hs
 split at hs
 · rename_i h;subst h
   split at hs
   · injection hs with hs;subst hs
     exact ⟨ds,by rw [List.getElem?_set_ne hne];exact Fg, .inr ⟨hd,Fg⟩⟩
   · cases hs
 · exact ⟨es,hs, .inl rfl⟩
theorem acO {s s2:Nat} {c c' d d':List AV} (hf:Fr H0 H0.length [s,s2] H') (hcl:kV H0.length H0) (hr:gm P e' H' rs=some vs) (hc:Cl H0.length (fin vs)) (hw:Wx (fin vs) r')
 (hs:H'[s]? =some c) (hl:s<H0.length) (UA:∀a∈c,Cl H0.length a) (hwc:wI c c') (hs2:H'[s2]? =some d) (CB:s2<H0.length) (acP:∀a∈d,Cl H0.length a) (acQ:wI d d') (hne:s≠s2)
 (hR:R r' ((H0.set s c').set s2 d')):wJ P H0 rs R e' H':=by
 refine ⟨vs,r',(H0.set s c').set s2 d',hr,hw,hR, .inl ⟨hc,by rw [hf.YL hs hs2 hl CB hne];exact (hcl.set UA).set acP,hf.le, ?_⟩⟩
 rw [hf.YL hs hs2 hl CB hne]
 have:=gp.acN (ah:=(H0.set s c).set s2 d) (q:=s) (q2:=s2) (cs:=c) (cs':=c') (ds:=d) (ds':=d') hne (by rw [List.getElem?_set_ne (Ne.symm hne)];exact h_eq hl) hwc (h_eq (by simpa using CB)) acQ
 have e1:(((H0.set s c).set s2 d).set s c').set s2 d'=(H0.set s c').set s2 d':=by
  rw [List.set_comm d c' (Ne.symm hne),List.set_set,List.set_set]
 rwa [e1] at this
end
theorem Fr.trans {ah H H':AH} {n0:Nat} {S S2:List Nat} (h:Fr ah n0 S H) (h2:Fr H H.length S2 H') (hs:∀s∈S2,s∈S∨n0≤s):Fr ah n0 S H':=by
 have h3:=h.le
 refine ⟨Nat.le_trans h.le h2.le,fun j hj DS=> ?_⟩
 rw [h2.eq j (by omega),h.eq j hj DS]
 intro hm
 rcases hs j hm with h4|h4
 · exact DS h4
 · omega
end Go.Am
namespace Go.Am
open Go
variable [Tabs]
theorem YP {P:Program} {L:List Nat} {N n0:Nat} {e:Env} {ah:AH} {t:List It} {Q:Exit→Env→AH→Prop} {r:List aL} {d:Option Nat} {f:Nat} {zq zq':List AV} {bU HE:AH} {V:AV}
 (h:aG P f zq' bU fun v H'=>v=V∧H'=HE) (hw:WL zq zq') (hh:gp ah bU) (hk:U P L N n0 (.ops r::t) Q .normal (aI L (wE e) d V.df) HE):UK P L N n0 f zq d r t Q e ah:=by
 refine YE h hw hh ?_
 rintro _ _ ⟨rfl,rfl⟩
 exact hk
end Go.Am
namespace Go.Am
open Go
variable [Tabs]
def WW:=And.intro WG<|And.intro WM<|And.intro WU<|And.intro WV<|And.intro WB<|And.intro WA0<|And.intro WA1<|And.intro WA2<|And.intro WA3<|And.intro WA4<|And.intro WA5 WA6
def WH:=And.intro @h_eq<|And.intro @YI<|And.intro @Tm @Oi
theorem tg1:Tg.sh .ex= .ex:=rfl
theorem Xb:Tg.sh .own= .n:=rfl
theorem tg3:Tg.sh .n= .n:=rfl
end Go.Am
end
section
namespace Go.Am
open Go
variable [Tabs]
theorem SR.On {L:List Nat} {N:Nat} {F:Nat→Prop} {γ:List Nat} {C:Nat→List Value} {e:Env} {ah:AH} {ts:Array Value} {w:World} (h:SR L N F γ C e ah ts w) {r:AV} {v:Value} (hv:VR C γ r v) (ht:TC w C r v)
 (ho:r.bQ=false) (hf:∀l k xs,r≠ .sl (.fr l) k xs):SR [] 1 F γ C [(0,r)] ah #[v] w:=by
 have hbk:∀p b,blk γ [(0,r)] ah #[v] w p b→blk γ e ah ts w p b∧∀t,p≠ .tmp t:=by
  intro p b hp
  cases p with
  |obj s=>exact ⟨hp,by simp⟩
  |cell s i=>exact ⟨hp,by simp⟩
  |tmp t=>
   simp only [blk,get] at hp
   split at hp
   · rename_i h0;subst h0;rw [ic _ ho] at hp;cases hp
   · simp [bS] at hp
 refine ⟨h.mem,rfl,fun t=> ?_,fun p q b hp hq=>h.ey p q b (hbk p b hp).1 (hbk q b hq).1,fun p b hp=>h.nf p b (hbk p b hp).1,h.j9,fun t l k xs htl=> ?_⟩
 · by_cases h0:0=t
   · subst h0;simp only [get,if_true];exact ⟨hv,ht⟩
   · simp only [get,if_neg h0];exact ⟨.un ..,by generalize (#[v]:Array Value).getD t undef=u;cases u<;>trivial⟩
 · simp only [get] at htl
   split at htl
   · exact absurd htl (hf l k xs)
   · cases htl
theorem aG.Di {P:Program} {f:Nat} {args:List AV} {ah:AH} {l:List UInt8} (hc:iX P f=true)
 (h:∀(F:Nat→Prop) (C:Nat→List Value) (γ:List Nat) (w:World) (vs:Array Value),FL F w→vs.size=args.length→(∀(i:Nat) (a:AV),args[i]? =some a→VR C γ a (vs.getD i undef))→
  Calls P f vs w fun en w'=>en= .returned (.string ⟨l.toArray⟩)∧(∀b,b<w.heap.size→w'.heap[b]? =w.heap[b]?)∧w.heap.size≤w'.heap.size∧kj w w'):
 aG P f args ah fun r aH=>r= .str l∧aH=ah:=by
 refine ⟨hc,fun F γ C w vs hs=> ?_⟩
 refine (h F C γ w vs hs.j9 hs.sz fun i a hi=> ?_).mono ?_
 · have:=(hs.env i).1
   rw [eC] at this
   simpa [hi] using this
 · rintro en w' ⟨rfl,h1,h2,h3⟩
   have hg:=hs.grow (C':=C) h1 h2 (fun _ _=>rfl) (fun b hb hne=>by
    exfalso
    obtain ⟨vs',ty,fr,hh, -⟩:=hs.mem.wh b hne
    have:b<w.heap.size:=by
     rcases Nat.lt_or_ge b w.heap.size with h4|h4
     · exact h4
     · rw [Array.getElem?_eq_none h4] at hh;cases hh
    omega) h3
   exact ⟨.str l, .string ⟨l.toArray⟩,ah,γ,C,rfl,⟨rfl,rfl⟩,List.prefix_refl _,hg.1.On (.str ..) (by simp [TC]) rfl (by simp),hg.2⟩
theorem aG.UB {P:Program} {f:Nat} {args:List AV} {ah:AH} {r:AV} (ho:r.bQ=false) (hf:∀l k xs,r≠ .sl (.fr l) k xs) (hc:iX P f=true)
 (h:∀(F:Nat→Prop) (C:Nat→List Value) (γ:List Nat) (w:World) (vs:Array Value),FL F w→vs.size=args.length→(∀(i:Nat) (a:AV),args[i]? =some a→VR C γ a (vs.getD i undef))→
  Calls P f vs w fun en w'=>∃v,en= .returned v∧VR C γ r v∧TC w' C r v∧(∀b,b<w.heap.size→w'.heap[b]? =w.heap[b]?)∧w.heap.size≤w'.heap.size∧kj w w'):
 aG P f args ah fun r' aH=>r'=r∧aH=ah:=by
 refine ⟨hc,fun F γ C w vs hs=> ?_⟩
 refine (h F C γ w vs hs.j9 hs.sz fun i a hi=> ?_).mono ?_
 · have:=(hs.env i).1
   rw [eC] at this
   simpa [hi] using this
 · rintro en w' ⟨v,rfl,hv,ht,h1,h2,h3⟩
   have hg:=hs.grow (C':=C) h1 h2 (fun _ _=>rfl) (fun b hb hne=>by
    exfalso
    obtain ⟨vs',ty,fr,hh, -⟩:=hs.mem.wh b hne
    have:b<w.heap.size:=by
     rcases Nat.lt_or_ge b w.heap.size with h4|h4
     · exact h4
     · rw [Array.getElem?_eq_none h4] at hh;cases hh
    omega) h3
   exact ⟨r,v,ah,γ,C,rfl,⟨rfl,rfl⟩,List.prefix_refl _,hg.1.On hv ht ho hf,hg.2⟩
theorem aG.UD {P:Program} {f:Nat} {args:List AV} {ah:AH} {ps:List (List UInt8)} (hc:iX P f=true)
 (h:∀(F:Nat→Prop) (C:Nat→List Value) (γ:List Nat) (w:World) (vs:Array Value),FL F w→vs.size=args.length→(∀(i:Nat) (a:AV),args[i]? =some a→VR C γ a (vs.getD i undef))→
  Calls P f vs w fun en w'=>∃t fr,en= .returned (.slice (some ⟨w.heap.size,0,none⟩) ps.length ps.length)∧w'=w.alloc (.cells (ps.map fun l=>Value.string ⟨l.toArray⟩).toArray t fr)∧fr.2≤fr.1):
 aG P f args ah fun r' aH=>r'= .sl .n 1 (ml .str ps)∧aH=ah:=by
 refine ⟨hc,fun F γ C w vs hs=> ?_⟩
 refine (h F C γ w vs hs.j9 hs.sz fun i a hi=> ?_).mono ?_
 · have:=(hs.env i).1
   rw [eC] at this
   simpa [hi] using this
 · rintro en w' ⟨t,fr,rfl,rfl,hfr⟩
   obtain ⟨C', -,he,hg,hv⟩:=wB (w':=w.alloc (.cells (ps.map fun l=>Value.string ⟨l.toArray⟩).toArray t fr)) (ds:=[]) hs (d:=none) (by simp) (cs:=(ps.map fun l=>Value.string ⟨l.toArray⟩).toArray) (t:=t) (fr:=fr)
    (CA:=ps.map fun l=>Value.string ⟨l.toArray⟩) (xs:=ml .str ps) (k:=1) (n:=ps.length) (c:=ps.length)
    (fun b hb=>by show (w.heap.push _)[b]? =_;rw [Array.getElem?_push_lt hb,Array.getElem?_eq_getElem hb]) (by show (w.heap.push _).size=_;simp) (by show (w.heap.push _)[w.heap.size]? =_;simp)
    (by simp) (by simp only [List.mem_map];rintro v ⟨l, -,rfl⟩;rfl) (by simp) (by simp [ml]) (Nat.le_refl _) (by simp) (by intro i _;omega)
    (by intro i a hi;simp only [ml,List.getElem?_map,Option.map_eq_some_iff] at hi;obtain ⟨l, -,rfl⟩:=hi;rfl)
    (by
     intro i a hi j y hj
     simp only [ml,List.getElem?_map,Option.map_eq_some_iff] at hi
     obtain ⟨l,hl,rfl⟩:=hi
     cases j with
     |succ j=>simp [AV.cells] at hj
     |zero=>
      simp only [AV.cells,List.getElem?_cons_zero,Option.some.injEq] at hj
      subst hj
      simp only [Nat.mul_one,Nat.add_zero,List.getD_eq_getElem?_getD,List.getElem?_map,hl,Option.map_some,Option.getD_some]
      exact .str ..)
   exact ⟨.sl .n 1 (ml .str ps),_,ah,γ,C',rfl,⟨rfl,rfl⟩,List.prefix_refl _,hg.On (hv.ju _) (by simp [TC]) rfl (by simp),he⟩
theorem Kh {P:Program} {f:Nat} {ah:AH} (n:Int) (hc:iX P f=true) (htab:∀F w,FL F w→Lib.TabIs P w "internal/strconv.uint64pow10" .u64 Lib.pow10Tab)
 (acR:∀w,Lib.TabIs P w "internal/strconv.uint64pow10" .u64 Lib.pow10Tab→Calls P f #[.int .i64 n] w fun e w'=>e= .returned (.string ⟨(Lib.itoa n).toArray⟩)∧∃k os,w'=Go.Sort.grow (w.drewN k) os):
 aG P f [.int .i64 n] ah fun r aH=>r= .str (Lib.itoa n)∧aH=ah:=by
 refine aG.Di hc fun F C γ w vs hF hl hv=> ?_
 have h0:=(hv 0 _ rfl).cS
 have hvs:vs= #[.int .i64 n]:=by
  apply Array.ext
  · simpa using hl
  · intro i h1 h2
    simp at h2;subst h2
    simpa [Array.getD_eq_getD_getElem?,Array.getElem?_eq_getElem h1] using h0
 subst hvs
 refine (acR w (htab F w hF)).mono ?_
 rintro e w' ⟨rfl,k,os,rfl⟩
 refine ⟨rfl,fun b hb=> ?_, ?_,rfl,rfl,rfl⟩
 · show (w.heap++os)[b]? =_
   rw [Array.getElem?_append_left hb]
 · show w.heap.size≤(w.heap++os).size
   simp
theorem Rg {P:Program} {w:World} {F:Nat→Prop} {name:String} {k:IntKind} {zs:List Int} {g:Nat} (hF:FL F w) (hm:(g,fun cs=>cs=(zs.map fun z=>Value.int k z).toArray)∈Tabs.l) (hg:P.globalNamed name=some g):Lib.TabIs P w name k zs:=by
 obtain ⟨-,cs,ty,fr,h,hcs⟩:=hF.IU _ hm
 simp only at h hcs
 subst hcs
 unfold Lib.TabIs World.var?
 rw [hg]
 simp [h]
end Go.Am
end
section
namespace Go.Am
open Go
variable [Tabs]
def AV.Ag:AV→Bool
 | .int _ _| .bool _| .str _| .v _=>true
 |_=>false
def HU:List AV→Bool
 |[]=>true
 |a::r=>a.Ag&&HU r
def AV.HV:AV→Bool
 | .agg cs=>HU cs
 |a=>a.Ag
def Dj:List AV→Bool
 |[]=>true
 |a::r=>a.HV&&Dj r
def AV.Fp:AV→Bool
 | .bB cs=>Dj cs
 |a=>a.HV
theorem uB {l:List AV} (h:HU l=true) {i:Nat} {a:AV} (hi:l[i]? =some a):a.Ag=true:=by
 induction l generalizing i with
 |nil=>simp at hi
 |cons b r ih=>
  simp only [HU,Bool.and_eq_true] at h
  cases i with
  |zero=>simp at hi;subst hi;exact h.1
  |succ i=>exact ih h.2 (by simpa using hi)
theorem Cj {l:List AV} (h:Dj l=true) {i:Nat} {a:AV} (hi:l[i]? =some a):a.HV=true:=by
 induction l generalizing i with
 |nil=>simp at hi
 |cons b r ih=>
  simp only [Dj,Bool.and_eq_true] at h
  cases i with
  |zero=>simp at hi;subst hi;exact h.1
  |succ i=>exact ih h.2 (by simpa using hi)
theorem VR.Ag {C C':Nat→List Value} {γ γ':List Nat} {a:AV} {v:Value} (h:VR C γ a v) (hs:a.Ag=true):VR C' γ' a v:=by
 cases h with
 |v _ _ hv=>exact .v _ _ hv
 |int=>exact .int ..
 |bool=>exact .bool ..
 |str=>exact .str ..
 |_=>cases hs
theorem VR.HV {C C':Nat→List Value} {γ γ':List Nat} {a:AV} {v:Value} (h:VR C γ a v) (hs:a.HV=true):VR C' γ' a v:=by
 cases h with
 |agg _ cs vs h1 h2=>exact .agg _ _ _ h1 fun i a hi=>(h2 i a hi).Ag (uB hs hi)
 |v _ _ hv=>exact .v _ _ hv
 |int=>exact .int ..
 |bool=>exact .bool ..
 |str=>exact .str ..
 |_=>cases hs
theorem VR.Fp {C C':Nat→List Value} {γ γ':List Nat} {a:AV} {v:Value} (h:VR C γ a v) (hs:a.Fp=true):VR C' γ' a v:=by
 cases h with
 |bB _ cs vs h1 h2=>exact .bB _ _ _ h1 fun i a hi=>(h2 i a hi).HV (Cj hs hi)
 |agg _ cs vs h1 h2=>exact .agg _ _ _ h1 fun i a hi=>(h2 i a hi).Ag (uB hs hi)
 |v _ _ hv=>exact .v _ _ hv
 |int=>exact .int ..
 |bool=>exact .bool ..
 |str=>exact .str ..
 |_=>cases hs
theorem j8.Ag {a:AV} (hs:a.Ag=true) (v:Value):j8 a v:=by
 cases a<;>first|(cases hs;done)|(cases v<;>trivial)
theorem GM.HV {a:AV} (hs:a.HV=true) (v:Value):GM a v:=by
 cases a with
 |agg cs=>cases v<;>first|trivial|exact fun i a hi=>j8.Ag (uB hs hi) _
 |_=>first|(cases hs;done)|(cases v<;>trivial)
theorem TC.Fp {w:World} {C:Nat→List Value} {a:AV} (hs:a.Fp=true) (v:Value):TC w C a v:=by
 cases a with
 |bB cs=>cases v<;>first|trivial|exact fun i a hi=>GM.HV (Cj hs hi) _
 |agg cs=>cases v<;>first|trivial|exact fun i a hi=>j8.Ag (uB hs hi) _
 |_=>first|(cases hs;done)|(cases v<;>trivial)
theorem UE {a:AV} (hs:a.Fp=true):a.bQ=false:=by
 cases a<;>first|rfl|cases hs
theorem XQ {a:AV} (hs:a.Fp=true) (l:Loc) (k:Nat) (xs:List AV):a≠ .sl (.fr l) k xs:=by
 rintro rfl;cases hs
inductive gJ (ah:AH):AV→AV→Prop
 |same (a):a.Ag=true→gJ ah a a
 |ep (a p):gJ ah (.ep a p) (.ep a p)
 |sl (t k xs):gJ ah (.sl t k xs) (.sl .n k xs)
 |ptr (s o:Nat) (cs cs':List AV):ah[s]? =some cs→cs'.length=cs.length→(∀(i:Nat) (a a':AV),cs[i]? =some a→cs'[i]? =some a'→gJ ah a a')→gJ ah (.ptr s o) (.ep (.agg cs') o)
inductive PE (ah:AH):AV→AV→Prop
 |one (a a'):gJ ah a a'→PE ah a a'
 |fn (f:Nat) (cs:List AV):PE ah (.fn f []) (.fn f [])
 |agg (cs cs':List AV):cs'.length=cs.length→(∀(i:Nat) (a a':AV),cs[i]? =some a→cs'[i]? =some a'→gJ ah a a')→PE ah (.agg cs) (.agg cs')
def DU (w:World) (b:Nat):List Value:=match w.heap[b]? with|some (.cells vs _ _)=>vs.toList|_=>[]
open Classical in
noncomputable def Cx (w:World) (γ:List Nat) (C:Nat→List Value):Nat→List Value:=fun b=>if b∈γ then DU w b else C b
section
variable {L:List Nat} {N:Nat} {F:Nat→Prop} {γ:List Nat} {C:Nat→List Value} {e:Env} {ah:AH} {ts:Array Value} {w:World}
theorem Oo (h:Mem γ C ah w) (b:Nat):C b <+: Cx w γ C b:=by
 unfold Cx
 split
 · rename_i hb
   by_cases hne:C b=[]
   · rw [hne];exact List.nil_prefix
   · obtain ⟨vs,ty,fr,hh,hp⟩:=h.wh b hne
     unfold DU;rw [hh];exact hp
 · exact List.prefix_refl _
theorem Oq {s b:Nat} {vs:Array Value} {ty:TypeId} {fr:Nat×Nat} (hs:γ[s]? =some b) (hb:w.heap[b]? =some (.cells vs ty fr)):Cx w γ C b=vs.toList:=by
 unfold Cx DU
 rw [if_pos (List.mem_of_getElem? hs),hb]
theorem VR.XR {C:Nat→List Value} {γ:List Nat} {t:Tg} {k:Nat} {xs:List AV} {v:Value} (h:VR C γ (.sl t k xs) v) (γ':List Nat):VR C γ' (.sl .n k xs) v:=by
 cases h with
 |sJ=>exact .sJ ..
 |sl _ _ _ _ b o n c hn hc hk hl ho hx=>exact .sl _ _ _ _ _ _ _ _ hn hc hk hl ho hx
theorem gJ.vr (hm:Mem γ C ah w) {a a':AV} (hp:gJ ah a a'):∀ {v:Value},VR C γ a v→VR (Cx w γ C) [] a' v:=by
 induction hp with
 |same a hs=>intro v h;exact h.Ag hs
 |ep a p=>
  intro v h
  have h':=h.np rfl
  exact h'.mono (Oo hm) [] (fun _ _ h=>h)
 |sl t k xs=>
  intro v h
  exact (h.XR []).mono (Oo hm) [] (fun _ _ h=>h)
 |ptr s o cs cs' hs hl hc ih=>
  intro v h
  obtain ⟨b,hb,rfl⟩:=h.iH
  obtain ⟨vs,ty,hh,hsz,hcell⟩:=hm.obj s b cs hs hb
  have hx:Cx w γ C b=vs.toList:=Oq hb hh
  suffices hS:VR (Cx w γ C) [] (.ep (.agg cs') o) (.pointer (some ⟨b,0+o,none⟩)) by rwa [Nat.zero_add] at hS
  refine VR.ep [] (.agg cs') o b 0 (by rw [hx];simpa [AV.cells,hl] using hsz) fun j a' hj=> ?_
  simp only [AV.cells] at hj
  have hlt:j<cs.length:=by rw [←hl];exact (List.getElem?_eq_some_iff.1 hj).1
  have h0:cs[j]? =some cs[j]:=List.getElem?_eq_getElem hlt
  have:=ih j _ _ h0 hj (hcell j _ h0).1
  rw [hx,Nat.zero_add]
  have e1:vs.toList.getD j undef=vs.getD j undef:=by simp [List.getD_eq_getElem?_getD,Array.getD_eq_getD_getElem?]
  rw [e1];exact this
theorem gJ.flat {a a':AV} (hp:gJ ah a a') (v:Value):j8 a' v∧a'.plain=true:=by
 cases hp with
 |same _ hs=>exact ⟨j8.Ag hs v,by cases a<;>first|rfl|cases hs⟩
 |ep=>exact ⟨by cases v<;>trivial,rfl⟩
 |sl=>exact ⟨GN ..,rfl⟩
 |ptr=>exact ⟨by cases v<;>trivial,rfl⟩
theorem PE.vr (hm:Mem γ C ah w) {a a':AV} (hp:PE ah a a') {v:Value} (h:VR C γ a v):VR (Cx w γ C) [] a' v:=by
 cases hp with
 |one _ _ h1=>exact h1.vr hm h
 |fn f cs=>
  obtain ⟨vs,rfl,h1,h2⟩:=h.GJ
  exact .fn _ _ _ _ h1 (by simp)
 |agg cs cs' hl hc=>
  obtain ⟨vs,rfl,h1,h2⟩:=h.l5
  refine .agg _ _ _ (by omega) fun i a' hi=> ?_
  have hlt:i<cs.length:=by rw [←hl];exact (List.getElem?_eq_some_iff.1 hi).1
  have h0:cs[i]? =some cs[i]:=List.getElem?_eq_getElem hlt
  exact (hc i _ _ h0 hi).vr hm (h2 i _ h0)
theorem PE.tc {a a':AV} (hp:PE ah a a') {C':Nat→List Value} (v:Value):TC w C' a' v∧a'.plain=true:=by
 cases hp with
 |one _ _ h1=>
  cases h1 with
  |same _ hs=>exact ⟨by cases a<;>first|(cases hs;done)|(cases v<;>trivial),by cases a<;>first|rfl|cases hs⟩
  |ep=>exact ⟨by cases v<;>trivial,rfl⟩
  |sl=>exact ⟨by cases v<;>trivial,rfl⟩
  |ptr=>exact ⟨by cases v<;>trivial,rfl⟩
 |fn=>exact ⟨by cases v<;>trivial,rfl⟩
 |agg cs cs' hl hc=>
  refine ⟨?_,rfl⟩
  cases v with
  |agg vs=>
   intro i a' hi
   have hlt:i<cs.length:=by rw [←hl];exact (List.getElem?_eq_some_iff.1 hi).1
   exact ((hc i _ _ (List.getElem?_eq_getElem hlt) hi).flat _).1
  |_=>trivial
def kW (ah:AH):List AV→List AV→Prop
 |[],[]=>True
 |a::r,a'::r'=>PE ah a a'∧kW ah r r'
 |_,_=>False
theorem kW.len:∀ {xs ys:List AV},kW ah xs ys→ys.length=xs.length:=by
 intro xs
 induction xs with
 |nil=>intro ys h;cases ys with|nil=>rfl|cons=>exact h.elim
 |cons a r ih=>intro ys h;cases ys with|nil=>exact h.elim|cons a' r'=>simp [ih h.2]
theorem kW.get:∀ {xs ys:List AV},kW ah xs ys→∀(i:Nat) (a a':AV),xs[i]? =some a→ys[i]? =some a'→PE ah a a':=by
 intro xs
 induction xs with
 |nil=>intro ys _ i a a' h;simp at h
 |cons a r ih=>
  intro ys h i b b' h1 h2
  cases ys with
  |nil=>exact h.elim
  |cons a' r'=>
   rcases i with _|i
   · simp at h1 h2;subst h1;subst h2;exact h.1
   · exact ih h.2 i b b' (by simpa using h1) (by simpa using h2)
def nT (ah:AH):List AV→List AV→Prop
 |[],[]=>True
 |a::r,a'::r'=>gJ ah a a'∧nT ah r r'
 |_,_=>False
theorem nT.len:∀ {xs ys:List AV},nT ah xs ys→ys.length=xs.length:=by
 intro xs
 induction xs with
 |nil=>intro ys h;cases ys with|nil=>rfl|cons=>exact h.elim
 |cons a r ih=>intro ys h;cases ys with|nil=>exact h.elim|cons a' r'=>simp [ih h.2]
theorem nT.get:∀ {xs ys:List AV},nT ah xs ys→∀(i:Nat) (a a':AV),xs[i]? =some a→ys[i]? =some a'→gJ ah a a':=by
 intro xs
 induction xs with
 |nil=>intro ys _ i a a' h;simp at h
 |cons a r ih=>
  intro ys h i b b' h1 h2
  cases ys with
  |nil=>exact h.elim
  |cons a' r'=>
   rcases i with _|i
   · simp at h1 h2;subst h1;subst h2;exact h.1
   · exact ih h.2 i b b' (by simpa using h1) (by simpa using h2)
theorem kW.nil:kW ah [] []:=trivial
theorem kW.cons {a a':AV} {r r':List AV} (h:PE ah a a') (hr:kW ah r r'):kW ah (a::r) (a'::r'):=⟨h,hr⟩
theorem nT.nil:nT ah [] []:=trivial
theorem nT.cons {a a':AV} {r r':List AV} (h:gJ ah a a') (hr:nT ah r r'):nT ah (a::r) (a'::r'):=⟨h,hr⟩
theorem gJ.int {k:IntKind} {i:Int}:gJ ah (.int k i) (.int k i):= .same _ rfl
theorem gJ.b8 {c:UInt8}:gJ ah (Am.b8 c) (Am.b8 c):= .same _ rfl
theorem gJ.bool {b:Bool}:gJ ah (.bool b) (.bool b):= .same _ rfl
theorem gJ.str {l:List UInt8}:gJ ah (.str l) (.str l):= .same _ rfl
theorem gJ.v {x:Value}:gJ ah (.v x) (.v x):= .same _ rfl
theorem gJ.Ck {s o:Nat} {cs cs':List AV} (hs:ah[s]? =some cs) (h:nT ah cs cs'):gJ ah (.ptr s o) (.ep (.agg cs') o):= .ptr _ _ _ _ hs h.len h.get
theorem PE.ad3 {cs cs':List AV} (h:nT ah cs cs'):PE ah (.agg cs) (.agg cs'):= .agg _ _ h.len h.get
theorem aG.ofE {P:Program} {f:Nat} {args args':List AV} {R:AV→Prop} (h:aG P f args' [] fun r aH=>R r∧aH=[]) (hp:kW ah args args') (hs:∀r,R r→r.Fp=true):
 aG P f args ah fun r aH=>R r∧aH=ah:=by
 refine ⟨h.1,fun F γ C w vs ko=> ?_⟩
 have OY:∀(l:List AV) (t:Nat),get (eS 0 l) t=(l[t]?).getD .un:=fun l t=>by rw [eC];simp
 have Ot:∀t,VR (Cx w γ C) [] (get (eS 0 args') t) (vs.getD t undef)∧TC w (Cx w γ C) (get (eS 0 args') t) (vs.getD t undef)∧(get (eS 0 args') t).plain=true:=by
  intro t
  rw [OY]
  cases ht:args'[t]? with
  |none=>exact ⟨.un ..,by cases vs.getD t undef<;>trivial,rfl⟩
  |some a'=>
   have hlt:t<args.length:=by rw [←hp.len];exact (List.getElem?_eq_some_iff.1 ht).1
   have h0:args[t]? =some args[t]:=List.getElem?_eq_getElem hlt
   have h1:=(ko.env t).1
   rw [OY,h0] at h1
   have hpe:=hp.get t _ _ h0 ht
   exact ⟨hpe.vr ko.mem h1,hpe.tc _⟩
 have hnb:∀p b,¬blk [] (eS 0 args') [] vs w p b:=by
  intro p b hb
  cases p with
  |obj s=>simp [blk] at hb
  |cell s i=>obtain ⟨cs,a,b0,h1, -⟩:=hb;simp at h1
  |tmp t=>simp only [blk] at hb;rw [ic _ (gH (Ot t).2.2)] at hb;cases hb
 have hs0:SR [] args'.length (fun b=>b<w.heap.size) [] (Cx w γ C) (eS 0 args') [] vs w:=by
  refine ⟨⟨rfl,fun s b cs h1=>by simp at h1,fun b hne=> ?_,fun s b cs h1=>by simp at h1,fun s b cs us ty fr h1=>by simp at h1⟩,by rw [ko.sz,hp.len],fun t=>⟨(Ot t).1,(Ot t).2.1⟩,fun p q b h1=>absurd h1 (hnb p b),fun p b h1=>absurd h1 (hnb p b),
   ⟨fun b hb=>hb,fun e he=>⟨ko.j9.lt _ (ko.j9.IU e he).1,(ko.j9.IU e he).2⟩⟩,fun t l k xs ht=>absurd ht (xB (Ot t).2.2 l k xs)⟩
  by_cases hb:b∈γ
  · obtain ⟨s,hsb⟩:=List.getElem?_of_mem hb
    have hlt:s<ah.length:=by rw [←ko.mem.len];exact (List.getElem?_eq_some_iff.1 hsb).1
    obtain ⟨xs,ty,hh, -⟩:=ko.mem.obj s b _ (List.getElem?_eq_getElem hlt) hsb
    exact ⟨xs,ty.1,ty.2,hh,by rw [Oq hsb hh];exact List.prefix_refl _⟩
  · have:Cx w γ C b=C b:=by unfold Cx;rw [if_neg hb]
    rw [this] at hne ⊢
    exact ko.mem.wh b hne
 refine (h.2 _ [] (Cx w γ C) w vs hs0).mono ?_
 rintro en w' ⟨r,v,aH,γ',Y1,rfl,⟨hR,rfl⟩,hγ,acS,hx⟩
 have hold:∀b,b<w.heap.size→w'.heap[b]? =w.heap[b]? :=fun b hb=>(hx.keep b hb).1
 have hg:=ko.grow (w':=w') (C':=C) hold hx.size (fun _ _=>rfl) (fun b hb hne=>by
  exfalso
  obtain ⟨vs',ty,fr,hh, -⟩:=ko.mem.wh b hne
  exact absurd (wv hh) (by omega)) hx.out
 have hv:=(acS.env 0).1
 simp only [get,if_true] at hv
 have hsc:=hs r hR
 exact ⟨r,v,ah,γ,C,rfl,⟨hR,rfl⟩,List.prefix_refl _,hg.1.On (hv.Fp hsc) (TC.Fp hsc _) (UE hsc) (XQ hsc),hg.2⟩
end
end Go.Am
end
section
set_option maxRecDepth 100000
namespace Go.Am
open Go
open Nat renaming reduceEqDiff→nA,reduceLT→nB,reduceLeDiff→nC,reduceAdd→nD,reduceSub→nE,reduceMul→nF,reduceBEq→nG
variable [Tabs]
theorem aaS {P:Program} {L:List Nat} {N n0:Nat} {e:Env} {ah:AH} {t:List It} {Q:Exit→Env→AH→Prop} {r:List aL} {d:Option Nat} {g:Option (Nat×Bool)} {n:Bool} {x:Ar} {tg:Tg} {k:Nat} {xs:List AV}
 (hx:ev e x= .sl tg k xs) (h1:xs=[]→∀b,U P L N n0 (.ops r::t) Q .normal (aI L e d (.bool b)) ah) (h2:xs≠[]→U P L N n0 (.ops r::t) Q .normal (aI L e d (.bool n)) ah):
 UG P L N n0 ⟨d, .nq n x,g⟩ r t Q e ah (some true):=by
 show Dp L d n x e ah _
 unfold Dp
 rw [hx]
 exact ⟨h1,h2⟩
def Dk (k b:Nat):ax:= .seq (.rg [⟨some 2, .aP (.c (.sl .ex k [])),none⟩]) (.seq (.seq (.rg [⟨some 3, .mv (.t 0),none⟩,⟨some 4, .nq false (.t 3),none⟩]) (.cond (.t 4) (.seq (.rg [⟨some 2, .aP (.c (.sl .ex k [])),none⟩]) .ret) .skip))
 (.seq (.rg [⟨some 5, .qD k [],none⟩,⟨some 6, .mv (.t 0),none⟩,⟨some 7, .app k b (.t 5) (.t 6),none⟩,⟨some 2, .aP (.t 7),none⟩]) .ret))
theorem XS {P:Program} {f k b:Nat} {xs ys:List AV} {H0:AH} (hF:bN P f 8 [.tmp 2] (Dk k b)) (hz:fe b [] xs=some ys):aG P f [.sl .n k xs] H0 fun v H'=>v= .sl .own k ys∧H'=H0:=by
 refine aG.ZR hF (m:=Dk k b) rfl [0,2,4] rfl (by simp) fun hcl K0 aO=> ?_
 refine AX.Uy (m:=Dk k b) rfl rfl ?_
 have hys:ys=xs:=by unfold fe at hz;split at hz<;>simp_all
 subst hys
 simp only [WW, ↓reduceIte,nA,nB,nC,nD,nE,nF,nG,reduceCtorEq,Dk]
 have step:U P [0,2,4] 8 H0.length [.code .skip, .code (.seq (.rg [⟨some 5, .qD k [],none⟩,⟨some 6, .mv (.t 0),none⟩,⟨some 7, .app k b (.t 5) (.t 6),none⟩,⟨some 2, .aP (.t 7),none⟩]) .ret)] K0 .normal
  [(0, .sl .n k ys),(2, .sl .ex k []),(4, .bool false)] H0:=by
  simp only [WW, ↓reduceIte,nA,nB,nC,nD,nE,nF,nG,reduceCtorEq,hz,List.all_nil,List.map_nil]
  refine aO _ _ _ (.inr rfl) ?_
  exact aK hcl (xD (a:= .sl .own k ys) rfl rfl Bp) (by simp [fin,AV.df]) Wx.oo (r':= .sl .own k ys) ⟨rfl,rfl⟩
 refine aaS (by rfl) (fun h0 b=> ?_) (fun h0=> ?_)
 · subst h0
   simp only [WW, ↓reduceIte,nA,nB,nC,nD,nE,nF,nG,reduceCtorEq]
   cases b
   · refine acL rfl ?_
     exact step
   · refine acK rfl ?_
     simp only [WW, ↓reduceIte,nA,nB,nC,nD,nE,nF,nG,reduceCtorEq]
     refine aO _ _ _ (.inr rfl) ?_
     exact aK hcl (xD (a:= .sl .ex k []) rfl rfl Bp) (by simp [fin,AV.df]) (Wx.own ..) (r':= .sl .own k []) ⟨rfl,rfl⟩
 · simp only [WW, ↓reduceIte,nA,nB,nC,nD,nE,nF,nG,reduceCtorEq,hz,List.all_nil,List.map_nil]
   refine aO _ _ _ (.inr rfl) ?_
   exact aK hcl (xD (a:= .sl .own k ys) rfl rfl Bp) (by simp [fin,AV.df]) Wx.oo (r':= .sl .own k ys) ⟨rfl,rfl⟩
end Go.Am
namespace Go.Am
open Go
variable [Tabs]
theorem SR.YQ {L:List Nat} {N:Nat} {F:Nat→Prop} {γ:List Nat} {C:Nat→List Value} {e:Env} {ah:AH} {ts:Array Value} {w:World} (h:SR L N F γ C e ah ts w) {r:AV} {v:Value} (hr:Am.get e 0=r) (hv:ts.getD 0 undef=v)
 (hf:∀l k xs,r≠ .sl (.fr l) k xs):SR [] 1 F γ C [(0,r)] ah #[v] w:=by
 subst hr;subst hv
 have hbk:∀p b,blk γ [(0,Am.get e 0)] ah #[ts.getD 0 undef] w p b→blk γ e ah ts w p b:=by
  intro p b hp
  cases p with
  |obj s=>exact hp
  |cell s i=>exact hp
  |tmp t=>
   simp only [blk,Am.get] at hp ⊢
   split at hp
   · rename_i h0;subst h0;exact hp
   · simp [bS] at hp
 refine ⟨h.mem,rfl,fun t=> ?_,fun p q b hp hq=>h.ey p q b (hbk p b hp) (hbk q b hq),fun p b hp=>h.nf p b (hbk p b hp),h.j9,fun t l k xs htl=> ?_⟩
 · by_cases h0:0=t
   · subst h0;simp only [Am.get,if_true];exact h.env 0
   · simp only [Am.get,if_neg h0];exact ⟨.un ..,by generalize (#[ts.getD 0 undef]:Array Value).getD t undef=u;cases u<;>trivial⟩
 · simp only [Am.get] at htl
   split at htl
   · exact absurd htl (hf l k xs)
   · cases htl
theorem YR {P:Program} {f:Nat} {n:Int} {H0:AH} {el:TypeId} {z:Value} (hc:iX P f=true) (hz:z.cells.size=1) (h0:0≤n)
 (hroom:∀(base:Option Addr) (w:World),n=0→Calls P f #[.slice base 0 0, .int .i64 n] w fun e w'=>e= .returned (.slice base 0 0)∧w'=w)
 (hgrow:∀(base:Option Addr) (w:World),0<n→Calls P f #[.slice base 0 0, .int .i64 n] w fun e w'=>e= .returned (.slice (some ⟨w.heap.size,0,none⟩) 0 (grownCap w n.toNat 0 el))∧
  w'=w.drew.alloc (.cells ((#[]:Array Value)++Builtin.zeroCells z.cells n.toNat++Builtin.zeroCells z.cells (grownCap w n.toNat 0 el - n.toNat)) el)):
 aG P f [.sl .ex 1 [], .int .i64 n] H0 fun v H'=>v= .sl .own 1 []∧H'=H0:=by
 refine ⟨hc,fun F γ C w vs hs=> ?_⟩
 have h1:=hs.env 0
 have h2:=(hs.env 1).1
 rw [eC] at h1 h2
 simp only [Nat.zero_le,if_true,Nat.sub_zero,List.getElem?_cons_zero,Option.getD_some] at h1
 simp only [Nat.zero_le,if_true,Nat.sub_zero,List.getElem?_cons_succ,List.getElem?_cons_zero,Option.getD_some] at h2
 obtain ⟨a,c,e1, -⟩:=h1.1.eU
 rw [e1] at h1
 have hc0:c=0:=h1.2
 subst hc0
 have e2:=h2.cS
 have hvs:vs= #[.slice a 0 0, .int .i64 n]:=by
  have hsz:vs.size=2:=hs.sz
  apply Array.ext
  · simpa using hsz
  · intro i g1 g2
    have:i=0∨i=1:=by omega
    rcases this with rfl|rfl
    · simpa [Array.getD_eq_getD_getElem?,Array.getElem?_eq_getElem g1] using e1
    · simpa [Array.getD_eq_getD_getElem?,Array.getElem?_eq_getElem g1] using e2
 by_cases hn:n=0
 · rw [hvs]
   refine (hroom a w hn).mono ?_
   rintro en w' ⟨rfl,rfl⟩
   have hw:SR [] 2 F γ C (Am.put (eS 0 [.sl .ex 1 [], .int .i64 n]) 0 (.sl .own 1 [])) H0 vs w':=by
    refine hs.wx ⟨fun t=> ?_,gp.refl _⟩
    rw [eR]
    split
    · rename_i ht;subst ht
      rw [eC]
      exact Wx.own _ _
    · refine Wx.same fun l k xs=> ?_
      rw [eC]
      match t with
      |0=>simp
      |1=>simp
      |t+2=>simp
   exact ⟨.sl .own 1 [],_,H0,γ,C,rfl,⟨rfl,rfl⟩,List.prefix_refl _,hw.YQ (by rw [eR];simp) (by rw [hvs];rfl) (by simp),Ext.refl ..⟩
 · have hpos:0<n:=by omega
   rw [hvs]
   refine (hgrow a w hpos).mono ?_
   rintro en w' ⟨rfl,rfl⟩
   generalize hcap:grownCap w n.toNat 0 el=cap
   have hge:n.toNat≤cap:=by rw [←hcap];exact grownCap_ge w _ _ _
   generalize hrow:(#[]:Array Value)++Builtin.zeroCells z.cells n.toNat++Builtin.zeroCells z.cells (cap - n.toNat)=row
   have hrl:row.size=cap:=by
    rw [←hrow];simp only [Array.size_append,size_zeroCells,hz];simp;omega
   obtain ⟨q1,q2,q3⟩:=heap_alloc w.drew (.cells row el)
   obtain ⟨C',g1,g2, -, -⟩:=wB (ds:=[]) (w':=w.drew.alloc (.cells row el)) (d:=some 0) (CA:=[]) (xs:=[]) (k:=1) (n:=0) (c:=cap)
    hs (by intro x hx;injection hx with hx;subst hx;simp) q2 q3 q1 (by simp) (by simp) (by simp) rfl (Nat.zero_le _) (by omega) (fun q hq=>by simp) (by simp) (by simp)
   refine ⟨.sl .own 1 [],_,H0,γ,C',rfl,⟨rfl,rfl⟩,List.prefix_refl _,g1.YQ ?_ ?_ (by simp),g2⟩
   · simp [Am.aI,eR,AV.bQ,AV.df]
   · rw [hvs];rfl
end Go.Am
end
section
set_option maxRecDepth 100000
namespace Go.Am
open Go
open Nat renaming reduceEqDiff→nA,reduceLT→nB,reduceLeDiff→nC,reduceAdd→nD,reduceSub→nE,reduceMul→nF,reduceBEq→nG
variable [Tabs]
theorem bX {p:Prop} (h:p:=by first|assumption|omega|(simp only [Ac,Ad]<;>omega)):p:=h
section
variable {H T:AH} {q s:Nat} {c c':List AV}
theorem cA (h:q<H.length:=by first|assumption|omega|(simp only [Ac,Ad]<;>omega)) (hc:c=c':=by rfl):(H.set q c)[q]? =some c':=hc▸h_eq h
theorem fN {r:Option (List AV)} (hx:H[q]? =r) (h:s≠q:=by first|assumption|omega|(simp only [Ac,Ad]<;>omega)):(H.set s c)[q]? =r:=(YI h).trans hx
theorem kz {r:Option (List AV)} (hx:H[q]? =r) (h:q<H.length:=by first|assumption|omega|(simp only [Ac,Ad]<;>omega)):(H++T)[q]? =r:=(Tm h).trans hx
theorem uC (h:q=H.length:=by first|assumption|omega|(simp only [Ac,Ad]<;>omega)) (hc:c=c':=by rfl):(H++[c])[q]? =some c':=hc▸Oi h
theorem bW {ah:AH} {n0:Nat} {S:List Nat} (s:Nat) (h:Fr ah n0 S H) (hs:s∈S∨n0≤s:=by first|exact .inr (by first|assumption|omega|(simp only [Ac,Ad]<;>omega))|exact .inl (by simp)):Fr ah n0 S (H.set s c):=Fr.set h hs
end
theorem ak {H:AH}:gp H H:=gp.refl _
theorem aE {g g':Prop} (k:g') (h:g=g':=by
 first|(conv=>lhs;simp only [WW, ↓reduceIte,nA,nB,nC,nD,nE,nF,nG,reduceCtorEq])|rfl):g:=h▸k
theorem aV {p g g':Prop} (f:p) (k:g') (h:p→g=g':=by
 intro f;first|(conv=>lhs;simp only [WW, ↓reduceIte,nA,nB,nC,nD,nE,nF,nG,reduceCtorEq,f])|rfl):g:=h f▸k
theorem cM {g g':Prop} (k:g') (h:g=g':=by
 first|(conv=>lhs;simp (disch:=first|assumption|omega|(simp only [Ac,Ad]<;>omega)|fail) only [WW,WH, ↓reduceIte,nA,nB,nC,nD,nE,nF,nG,reduceCtorEq])|rfl):g:=h▸k
theorem az {p g g':Prop} (f:p) (k:g') (h:p→g=g':=by
 intro f;first|(conv=>lhs;simp (disch:=first|assumption|omega|(simp only [Ac,Ad]<;>omega)|fail) only [WW,WH, ↓reduceIte,nA,nB,nC,nD,nE,nF,nG,reduceCtorEq,f])|rfl):g:=h f▸k
structure GZ (p:Prop):Prop where
 out:p
section
variable {P:Program} {L:List Nat} {N n0:Nat} {e:Env} {ah:AH} {t:List It} {Q:Exit→Env→AH→Prop} {r:List aL}
theorem bP {β:Type} {x y:Option β} {z:β} {o:aL} {B want:Bool} (h:(if B=true then x else y)=some z) (k1:B=true→x=some z→GZ (UG P L N n0 o r t Q e ah (some (true==want))))
 (k2:B=false→y=some z→GZ (UG P L N n0 o r t Q e ah (some (false==want)))):GZ (UG P L N n0 o r t Q e ah (some (B==want))):=by
 cases B
 · exact k2 rfl h
 · exact k1 rfl h
theorem gK {o:aL} {B want:Bool} (k1:B=true→GZ (UG P L N n0 o r t Q e ah (some (true==want))))
 (k2:B=false→GZ (UG P L N n0 o r t Q e ah (some (false==want)))):GZ (UG P L N n0 o r t Q e ah (some (B==want))):=by
 cases B
 · exact k2 rfl
 · exact k1 rfl
theorem bk {β:Type} {x y:Option β} {z:β} {a b:ax} {B:Bool} (h:(if B=true then x else y)=some z) (k1:B=true→x=some z→GZ (U P L N n0 (.code a::t) Q .normal e ah))
 (k2:B=false→y=some z→GZ (U P L N n0 (.code b::t) Q .normal e ah)):GZ (UC P L N n0 a b t Q e ah (.bool B)):=by
 cases B
 · exact k2 rfl h
 · exact k1 rfl h
end
def AV.acT:AV→Bool
 | .sl (.fr _) _ _=>false
 |_=>true
theorem Wx.smZ {a:AV} (h:a.acT=true):Wx a a:= .same fun l k xs e=>by subst e;cases h
theorem Wx.gsZ {s k n n' c:Nat} (h:n=n'):Wx (.cu s k n c) (.cu s k n' c):=by subst h;exact Wx.smZ rfl
theorem wAZ {cs cs':List AV} (h:gT cs cs':=by repeat (first|exact gT.nil|apply gT.same|apply gT.n)):gT cs cs':=h
theorem wBZ {cs cs':List AV} (h:n7 cs cs':=by repeat (first|exact n7.nil|apply n7.same|apply n7.n|refine n7.agg wAZ ?_)):n7 cs cs':=h
theorem aX {a a':AV} (h:Wx a a':=by
 first|exact Wx.smZ rfl|exact Wx.n|exact Wx.own .. |exact Wx.un _|exact Wx.agg wAZ|exact Wx.err|exact Wx.gsZ (by simp)|exact Wx.abW wBZ):Wx a a':=h
theorem aJ {e e1:Env} (h:WE e e1:=by
 repeat (refine WE.cons aX ?_)
 exact WE.nil):WE e e1:=h
theorem dy {p:Prop} {e e1:Env} (f:p) (h:p→WE e e1:=by
 intro f
 repeat (refine WE.cons (by first|exact aX|exact Wx.aaR (by simp only [f,WB])|exact Wx.acJ (by simp only [f,WB])|exact Wx.epE (by simp only [f])) ?_)
 exact WE.nil):WE e e1:=h f
theorem wlZ {a a':List AV} (h:WL a a':=by
 repeat (refine WL.cons aX ?_)
 exact WL.nil):WL a a':=h
theorem Fq {a a':List AV} (h:wI a a':=by
 repeat (refine wI.cons aX ?_)
 exact wI.nil):wI a a':=h
theorem dm {x:Exit} (h:x≠ .normal:=by simp):x≠ .normal:=h
section
variable {P:Program} {L:List Nat} {N n0:Nat} {e:Env} {ah:AH} {t:List It} {Q:Exit→Env→AH→Prop} {r:List aL} {d:Option Nat} {f:Nat}
theorem bC {zs zs':List AV} {bU HE:AH} {V:AV} (hh:gp ah bU) (h:aG P f zs' bU fun v H'=>v=V∧H'=HE) (hk:GZ (U P L N n0 (.ops r::t) Q .normal (aI L (wE e) d V.df) HE))
 (hw:WL zs zs':=by
 repeat (refine WL.cons aX ?_)
 exact WL.nil):GZ (UK P L N n0 f zs d r t Q e ah):=⟨YP h hw hh hk.out⟩
theorem uXZ {zs zs':List AV} {bU:AH} {R:AV→AH→Prop} (hh:gp ah bU) (h:aG P f zs' bU R) (hk:∀v aH,R v aH→GZ (U P L N n0 (.ops r::t) Q .normal (aI L (wE e) d v.df) aH))
 (hw:WL zs zs':=by
 repeat (refine WL.cons aX ?_)
 exact WL.nil):GZ (UK P L N n0 f zs d r t Q e ah):=⟨YE h hw hh fun v aH hR=>(hk v aH hR).out⟩
theorem Ki {zs zs':List AV} {V:AV} (h:aG P f zs' [] fun v H'=>v=V∧H'=[]) (hp:kW ah zs zs') (hk:GZ (U P L N n0 (.ops r::t) Q .normal (aI L (wE e) d V.df) ah)) (hs:V.Fp=true:=by rfl) (hw:WL zs zs:=by
 repeat (refine WL.cons (Wx.smZ rfl) ?_)
 exact WL.nil):GZ (UK P L N n0 f zs d r t Q e ah):=
 ⟨YP (aG.ofE h hp (by rintro _ rfl;exact hs)) hw (gp.refl _) hk.out⟩
theorem Kj {cs cs':List AV} (h:nT ah cs cs':=by
 repeat (first|exact nT.nil|refine nT.cons (by first|exact gJ.int|exact gJ.b8|exact gJ.bool|exact gJ.str|exact gJ.v|exact .sl _ _ _|exact .ep _ _) ?_)):nT ah cs cs':=h
theorem XT {c:ax} (h:AX P L N n0 c (fun x e ah=>GZ (U P L N n0 t Q x e ah)) e ah):GZ (UX P L N n0 c t Q e ah):=⟨ZQ (AX.mono h fun _ _ _ h=>h.out)⟩
theorem ouZ {c:ax} (h:GZ (UX P L N n0 c t Q e ah)):AX P L N n0 c (fun x e ah=>GZ (U P L N n0 t Q x e ah)) e ah:=AX.mono h.out fun _ _ _ h=>⟨h⟩
theorem bz {c:ax} {e1:Env} {bU:AH} (hh:gp ah bU) (h:AX P L N n0 c (fun x e ah=>GZ (U P L N n0 t Q x e ah)) e1 bU) (he:WE e e1:=by
 repeat (refine WE.cons aX ?_)
 exact WE.nil):GZ (UX P L N n0 c t Q e ah):=XT (AX.weak he hh h)
theorem gaZ {α:Type} {f:α→AV} {k b q c n1:Nat} {x y:Ar} {tg:Tg} {X Y Z:List α} {ys:List AV} {g:Option (Nat×Bool)} (hf:∀x,(f x).cells.length=k∧b7 (f x).cells=true∧fW (f x).cells=true∧aU (f x).cells=true)
 (hk0:0<k) (hx:ev e x= .cu q k X.length c) (hy:ev e y= .sl tg k ys) (hys:ys=ml f Y) (hY:Y≠[]) (hz:fe b X Y=some Z) (hG:GF k n1 q (ml f X) c ah) (hn:n1≤ah.length)
 (hK:∀q' c' aH,GF k n1 q' (ml f Z) c' aH→(∀s,s<ah.length→s<n1∨(0<c→s≠q)→aH[s]? =ah[s]?)→ah.length≤aH.length→(q'=q∨ah.length≤q')→
  GZ (U P L N n0 (.ops r::t) Q .normal (aI L e d (.cu q' k Z.length c')) aH)):
 GZ (UG P L N n0 ⟨d, .k7 k b x y,g⟩ r t Q e ah (some true)):=⟨Uv hf hk0 hx hy hys hY hz hG hn fun q' c' aH h1 h2 h3 h4=>(hK q' c' aH h1 h2 h3 h4).out⟩
end
theorem aC {α:Type} {a b:α} (h:some a=some b):a=b:=Option.some.inj h
theorem cB {α β:Type} {a b:α} {c d:β} (h:some (a,c)=some (b,d)):a=b∧c=d:=Prod.mk.inj (Option.some.inj h)
theorem oQ {α β γ:Type} {a b:α} {c d:β} {e f:γ} (h:some (a,c,e)=some (b,d,f)):a=b∧c=d∧e=f:=by
 obtain ⟨h1,h2⟩:=cB h;exact ⟨h1,Prod.mk.inj h2⟩
theorem acU {α β γ δ:Type} {a b:α} {c d:β} {e f:γ} {g i:δ} (h:some (a,c,e,g)=some (b,d,f,i)):a=b∧c=d∧e=f∧g=i:=by
 obtain ⟨h1,h2,h3⟩:=oQ h;exact ⟨h1,h2,Prod.mk.inj h3⟩
theorem acV {α β γ δ ε:Type} {a b:α} {c d:β} {e f:γ} {g i:δ} {j k:ε} (h:some (a,c,e,g,j)=some (b,d,f,i,k)):a=b∧c=d∧e=f∧g=i∧j=k:=by
 obtain ⟨h1,h2,h3,h4⟩:=acU h;exact ⟨h1,h2,h3,Prod.mk.inj h4⟩
theorem ad4 {α β γ δ ε ζ:Type} {a b:α} {c d:β} {e f:γ} {g i:δ} {j k:ε} {l m:ζ} (h:some (a,c,e,g,j,l)=some (b,d,f,i,k,m)):a=b∧c=d∧e=f∧g=i∧j=k∧l=m:=by
 obtain ⟨h1,h2,h3,h4,h5⟩:=acV h;exact ⟨h1,h2,h3,h4,Prod.mk.inj h5⟩
theorem aZ {P:Program} {e:Env} {ah:AH}:gm P e ah []=some []:=rfl
theorem aW {P:Program} {e:Env} {ah:AH} {t:Nat} {rs:List ResultVar} {vs:List AV} (hr:gm P e ah rs=some vs) (a:AV) (h:Am.get e t=a:=by rfl) (ht:a.eK=false:=by rfl):gm P e ah (.tmp t::rs)=some (a::vs):=xD h ht hr
theorem bf {n:Nat} {a:AV} (h:Cl n a:=by first|(simp [fin,YH,YG,cy,Oh];done)|(simp [fin,AV.df,AV.sh,AV.bu,YH,YG,cy,Oh];done)):Cl n a:=h
theorem Fs {n:Nat} {c:List AV} (h:∀a∈c,Cl n a:=by simp [Oh];try omega):∀a∈c,Cl n a:=h
theorem aA {p q:Prop} (a:p) (b:q):p∧q:=⟨a,b⟩
theorem bh:Exit.ret= .normal∨Exit.ret= .ret:= .inr rfl
theorem xlZ:Exit.normal= .normal∨Exit.normal= .ret:= .inl rfl
theorem l7 {P:Program} {N f:Nat} {rs:List ResultVar} {m:ax} (hF:bN P f N rs (erase m)) (L:List Nat) {args:List AV} {R:AV→AH→Prop} {H0:AH} (S:List Nat)
 (h:kV H0.length H0→∀K0:Exit→Env→AH→Prop,(∀x e' H,x= .normal∨x= .ret→wJ P H0 rs R e' H→GZ (K0 x e' H))→
  ∀H,H=H0→Fr H0 H0.length S H→GZ (U P L N H0.length [.code m] K0 .normal (eS 0 args) H)) (ho:qE N (erase m)=true:=by kernel_rfl) (hN:args.length≤N:=by simp):aG P f args H0 R:=by
 refine aG.ZR hF (m:=m) rfl L ho hN fun hcl K0 aO=> ?_
 refine AX.Uy (m:=m) rfl ho ?_
 exact (h hcl K0 (fun x e' H h1 h2=>⟨aO x e' H h1 h2⟩) H0 rfl (Fr.refl H0 S)).out
theorem fF {P:Program} {N f:Nat} {rs:List ResultVar} {m:ax} (hF:bN P f N rs (erase m)) (L:List Nat) {args:List AV} {R:AV→AH→Prop} {H0:AH}
 (h:kV H0.length H0→∀K0:Exit→Env→AH→Prop,(∀x e' H,x= .normal∨x= .ret→wJ P H0 rs R e' H→GZ (K0 x e' H))→
  GZ (U P L N H0.length [.code m] K0 .normal (eS 0 args) H0)) (ho:qE N (erase m)=true:=by kernel_rfl) (hN:args.length≤N:=by simp):aG P f args H0 R:=by
 refine aG.ZR hF (m:=m) rfl L ho hN fun hcl K0 aO=> ?_
 exact AX.Uy (m:=m) rfl ho (h hcl K0 (fun x e' H h1 h2=>⟨aO x e' H h1 h2⟩)).out
theorem bY {P:Program} {L:List Nat} {N n0:Nat} {e:Env} {ah:AH} {K:Exit→Env→AH→Prop} {m:ax}
 (h:∀K':Exit→Env→AH→Prop,(∀x e ah e1 bU,WE e e1→gp ah bU→K x e1 bU→GZ (K' x e ah))→GZ (U P L N n0 [.code m] K' .normal e ah)) (ho:qE N (erase m)=true:=by kernel_rfl):AX P L N n0 (erase m) K e ah:=
 AX.go rfl ho fun K' hK=>(h K' fun x e ah e1 bU h1 h2 h3=>⟨hK x e ah e1 bU h1 h2 h3⟩).out
theorem gL {P:Program} {L:List Nat} {N n0:Nat} {e:Env} {ah:AH} {K:Exit→Env→AH→Prop} {m:ax} {ρ τ σ:Type} {body:σ→Option (St ρ τ σ)} (J:σ→Env→AH→Prop) {F:Nat} {s0:σ} {o:ρ⊕τ} (hit:Am.iter body F s0=some o) (h0:J s0 e ah)
 (round:∀(K':Exit→Env→AH→Prop) s st e ah,J s e ah→body s=some st→
 (∀s',st= .cY s'→∀e' aH e1 bU,WE e' e1→gp aH bU→J s' e1 bU→GZ (K' .normal e' aH))→
 (∀t,st= .dR t→o= .inr t)→(∀r,st= .ret r→o= .inl r)→
 (∀x e' aH e1 bU,x≠ .normal→WE e' e1→gp aH bU→K x e1 bU→GZ (K' x e' aH))→GZ (U P L N n0 [.code m] K' .normal e ah)) (ho:qE N (erase m)=true:=by kernel_rfl):AX P L N n0 (.loop (erase m)) K e ah:=
 AX.iter rfl ho J hit h0 fun K' s st e ah h1 h2 h3 h4 h5 h6=>(round K' s st e ah h1 h2 (fun s' h e' aH e1 bU g1 g2 g3=>⟨h3 s' h e' aH e1 bU g1 g2 g3⟩) h4 h5 fun x e' aH e1 bU hx g1 g2 g3=>⟨h6 x e' aH e1 bU hx g1 g2 g3⟩).out
abbrev aj (d:Nat) (p:fH):aL:=⟨some d,p,none⟩
abbrev ay (d:Nat) (p:fH) (g:Nat) (w:Bool):aL:=⟨some d,p,some (g,w)⟩
abbrev cR (p:fH):aL:=⟨none,p,none⟩
abbrev au (d x:Nat):aL:=⟨some d, .mv (.t x),none⟩
abbrev aR (d x:Nat):aL:=⟨some d, .aP (.t x),none⟩
end Go.Am
end
section
namespace Go.Proofs
open Go.Shelf
def Tryz.HW:Go.Shelf.Ren:=⟨fun|137=>108|217=>88|266=>115|n=>n,fun|9=>9|5=>5|3=>3|n=>n,fun|n=>n⟩
theorem Tryz.UH:Go.Proofs.Lays.n137 Tryz.prog Tryz.HW:= {
 mixed:=by kernel_rfl
 f137:=Tryz.func108.trans (congrArg some (by kernel_rfl))
 f217:=Tryz.func88.trans (congrArg some (by kernel_rfl))
 f266:=Tryz.func115.trans (congrArg some (by kernel_rfl))
 t3:=Tryz.underlying3
 a3:=Tryz.isAgg3
 z3:=Tryz.sizeOf3
 v3:=Tryz.zeroValue3
 t5:=Tryz.underlying5
 a5:=Tryz.isAgg5
 z5:=Tryz.sizeOf5
 v5:=Tryz.zeroValue5
 t9:=Tryz.underlying9
 a9:=Tryz.isAgg9
 z9:=Tryz.sizeOf9
 v9:=Tryz.zeroValue9}
open Go.RowKit in
theorem Tryz.strings_IndexByte (s:ByteArray) (c:Int) (w:World):
 Calls Tryz.prog 108 #[.string s, .int .u8 c] w fun e w'=>e= .returned (.int .i64 (Lib.indexByte s.data.toList c.toNat.toUInt8))∧w'=w:=Any.strings_IndexByte Tryz.UH s c w
def Tryz.Ft:Go.Shelf.Ren:=⟨fun|171=>34|243=>57|246=>82|283=>109|284=>110|285=>111|286=>112|129=>127|317=>126|318=>128|319=>129|320=>130|337=>134|338=>135|n=>n,fun|3=>3|9=>9|2=>2|4=>4|171=>96|0=>0|53=>68|37=>33|5=>5|173=>99|212=>113|51=>102|20=>20|213=>114|46=>88|232=>132|233=>133|n=>n,fun|17=>1|18=>6|19=>7|n=>n⟩
theorem Tryz.Rh:Go.Proofs.LaysM.n171 Tryz.prog Tryz.Ft:= {
 mixed:=by kernel_rfl
 f129:=Tryz.func127.trans (congrArg some (by kernel_rfl))
 f171:=Tryz.func34.trans (congrArg some (by kernel_rfl))
 f243:=Tryz.func57.trans (congrArg some (by kernel_rfl))
 f246:=Tryz.func82.trans (congrArg some (by kernel_rfl))
 f283:=Tryz.func109.trans (congrArg some (by kernel_rfl))
 f284:=Tryz.func110.trans (congrArg some (by kernel_rfl))
 f285:=Tryz.func111.trans (congrArg some (by kernel_rfl))
 f286:=Tryz.func112.trans (congrArg some (by kernel_rfl))
 f317:=Tryz.func126.trans (congrArg some (by kernel_rfl))
 f318:=Tryz.func128.trans (congrArg some (by kernel_rfl))
 f319:=Tryz.func129.trans (congrArg some (by kernel_rfl))
 f320:=Tryz.func130.trans (congrArg some (by kernel_rfl))
 f337:=Tryz.func134.trans (congrArg some (by kernel_rfl))
 f338:=Tryz.func135.trans (congrArg some (by kernel_rfl))
 t0:=Tryz.underlying0
 a0:=Tryz.isAgg0
 z0:=Tryz.sizeOf0
 v0:=Tryz.zeroValue0
 t2:=Tryz.underlying2
 a2:=Tryz.isAgg2
 z2:=Tryz.sizeOf2
 v2:=Tryz.zeroValue2
 t3:=Tryz.underlying3
 a3:=Tryz.isAgg3
 z3:=Tryz.sizeOf3
 v3:=Tryz.zeroValue3
 t4:=Tryz.underlying4
 a4:=Tryz.isAgg4
 z4:=Tryz.sizeOf4
 v4:=Tryz.zeroValue4
 t5:=Tryz.underlying5
 a5:=Tryz.isAgg5
 z5:=Tryz.sizeOf5
 v5:=Tryz.zeroValue5
 t9:=Tryz.underlying9
 a9:=Tryz.isAgg9
 z9:=Tryz.sizeOf9
 v9:=Tryz.zeroValue9
 t20:=Tryz.underlying20
 a20:=Tryz.isAgg20
 z20:=Tryz.sizeOf20
 v20:=Tryz.zeroValue20
 t37:=Tryz.underlying33
 a37:=Tryz.isAgg33
 z37:=Tryz.sizeOf33
 v37:=Tryz.zeroValue33
 t46:=Tryz.underlying88
 a46:=Tryz.isAgg88
 z46:=Tryz.sizeOf88
 v46:=Tryz.zeroValue88
 t51:=Tryz.underlying102
 a51:=Tryz.isAgg102
 z51:=Tryz.sizeOf102
 v51:=Tryz.zeroValue102
 t53:=Tryz.underlying68
 a53:=Tryz.isAgg68
 z53:=Tryz.sizeOf68
 v53:=Tryz.zeroValue68
 t171:=Tryz.underlying96
 a171:=Tryz.isAgg96
 z171:=Tryz.sizeOf96
 v171:=Tryz.zeroValue96
 t173:=Tryz.underlying99
 a173:=Tryz.isAgg99
 z173:=Tryz.sizeOf99
 v173:=Tryz.zeroValue99
 t212:=Tryz.underlying113
 a212:=Tryz.isAgg113
 z212:=Tryz.sizeOf113
 v212:=Tryz.zeroValue113
 t213:=Tryz.underlying114
 a213:=Tryz.isAgg114
 z213:=Tryz.sizeOf114
 t232:=Tryz.underlying132
 a232:=Tryz.isAgg132
 z232:=Tryz.sizeOf132
 v232:=Tryz.zeroValue132
 t233:=Tryz.underlying133
 a233:=Tryz.isAgg133
 z233:=Tryz.sizeOf133
 v233:=Tryz.zeroValue133
 g17:=by kernel_rfl
 g18:=by kernel_rfl
 g19:=by kernel_rfl
 i0:=by kernel_rfl
 i2:=by kernel_rfl
 i3:=by kernel_rfl
 i4:=by kernel_rfl
 i5:=by kernel_rfl
 i9:=by kernel_rfl
 i20:=by kernel_rfl
 i37:=by kernel_rfl
 i46:=by kernel_rfl
 i51:=by kernel_rfl
 i53:=by kernel_rfl
 i171:=by kernel_rfl
 i173:=by kernel_rfl
 i212:=by kernel_rfl
 i232:=by kernel_rfl
 i233:=by kernel_rfl
 m17:=by kernel_rfl
 m18:=by kernel_rfl
 m19:=by kernel_rfl}
open Go.RowKit Go.Sort Go.Lib in
theorem Tryz.strconv_Itoa (n:Int) (h0: -9223372036854775808≤n) (h1:n≤9223372036854775807) (w:World) (htab:Lib.TabIs Tryz.prog w "internal/strconv.uint64pow10" .u64 Lib.pow10Tab):
 Calls Tryz.prog 34 #[.int .i64 n] w fun e w'=>e= .returned (.string ⟨(Lib.itoa n).toArray⟩)∧∃k os,w'=grow (w.drewN k) os:=Any.strconv_Itoa Tryz.Rh n h0 h1 w htab
def Tryz.Fu:Go.Shelf.Ren:=⟨fun|172=>66|244=>100|245=>101|247=>119|279=>120|280=>121|281=>122|282=>123|287=>131|316=>132|171=>34|205=>133|321=>136|322=>137|243=>57|246=>82|283=>109|284=>110|285=>111|286=>112|129=>127|317=>126|318=>128|319=>129|320=>130|337=>134|338=>135|n=>n,fun|9=>9|3=>3|75=>77|76=>78|4=>4|5=>5|167=>106|37=>33|0=>0|85=>107|2=>2|168=>109|53=>68|175=>121|46=>88|210=>124|127=>128|145=>131|143=>129|21=>21|171=>96|173=>99|212=>113|51=>102|20=>20|213=>114|232=>132|233=>133|80=>93|n=>n,fun|15=>4|16=>5|17=>1|18=>6|19=>7|n=>n⟩
theorem Tryz.Bs:Go.Proofs.LaysC.n172 Tryz.prog Tryz.Fu:= {
 mixed:=by kernel_rfl
 f129:=Tryz.func127.trans (congrArg some (by kernel_rfl))
 f171:=Tryz.func34.trans (congrArg some (by kernel_rfl))
 f172:=Tryz.func66.trans (congrArg some (by kernel_rfl))
 f205:=Tryz.func133.trans (congrArg some (by kernel_rfl))
 f243:=Tryz.func57.trans (congrArg some (by kernel_rfl))
 f244:=Tryz.func100.trans (congrArg some (by kernel_rfl))
 f245:=Tryz.func101.trans (congrArg some (by kernel_rfl))
 f246:=Tryz.func82.trans (congrArg some (by kernel_rfl))
 f247:=Tryz.func119.trans (congrArg some (by kernel_rfl))
 f279:=Tryz.func120.trans (congrArg some (by kernel_rfl))
 f280:=Tryz.func121.trans (congrArg some (by kernel_rfl))
 f281:=Tryz.func122.trans (congrArg some (by kernel_rfl))
 f282:=Tryz.func123.trans (congrArg some (by kernel_rfl))
 f283:=Tryz.func109.trans (congrArg some (by kernel_rfl))
 f284:=Tryz.func110.trans (congrArg some (by kernel_rfl))
 f285:=Tryz.func111.trans (congrArg some (by kernel_rfl))
 f286:=Tryz.func112.trans (congrArg some (by kernel_rfl))
 f287:=Tryz.func131.trans (congrArg some (by kernel_rfl))
 f316:=Tryz.func132.trans (congrArg some (by kernel_rfl))
 f317:=Tryz.func126.trans (congrArg some (by kernel_rfl))
 f318:=Tryz.func128.trans (congrArg some (by kernel_rfl))
 f319:=Tryz.func129.trans (congrArg some (by kernel_rfl))
 f320:=Tryz.func130.trans (congrArg some (by kernel_rfl))
 f321:=Tryz.func136.trans (congrArg some (by kernel_rfl))
 f322:=Tryz.func137.trans (congrArg some (by kernel_rfl))
 f337:=Tryz.func134.trans (congrArg some (by kernel_rfl))
 f338:=Tryz.func135.trans (congrArg some (by kernel_rfl))
 t0:=Tryz.underlying0
 a0:=Tryz.isAgg0
 z0:=Tryz.sizeOf0
 v0:=Tryz.zeroValue0
 t2:=Tryz.underlying2
 a2:=Tryz.isAgg2
 z2:=Tryz.sizeOf2
 v2:=Tryz.zeroValue2
 t3:=Tryz.underlying3
 a3:=Tryz.isAgg3
 z3:=Tryz.sizeOf3
 v3:=Tryz.zeroValue3
 t4:=Tryz.underlying4
 a4:=Tryz.isAgg4
 z4:=Tryz.sizeOf4
 v4:=Tryz.zeroValue4
 t5:=Tryz.underlying5
 a5:=Tryz.isAgg5
 z5:=Tryz.sizeOf5
 v5:=Tryz.zeroValue5
 t9:=Tryz.underlying9
 a9:=Tryz.isAgg9
 z9:=Tryz.sizeOf9
 v9:=Tryz.zeroValue9
 t20:=Tryz.underlying20
 a20:=Tryz.isAgg20
 z20:=Tryz.sizeOf20
 v20:=Tryz.zeroValue20
 t21:=Tryz.underlying21
 a21:=Tryz.isAgg21
 z21:=Tryz.sizeOf21
 v21:=Tryz.zeroValue21
 t37:=Tryz.underlying33
 a37:=Tryz.isAgg33
 z37:=Tryz.sizeOf33
 v37:=Tryz.zeroValue33
 t46:=Tryz.underlying88
 a46:=Tryz.isAgg88
 z46:=Tryz.sizeOf88
 v46:=Tryz.zeroValue88
 t51:=Tryz.underlying102
 a51:=Tryz.isAgg102
 z51:=Tryz.sizeOf102
 v51:=Tryz.zeroValue102
 t53:=Tryz.underlying68
 a53:=Tryz.isAgg68
 z53:=Tryz.sizeOf68
 v53:=Tryz.zeroValue68
 t75:=Tryz.underlying77
 a75:=Tryz.isAgg77
 z75:=Tryz.sizeOf77
 v75:=Tryz.zeroValue77
 t76:=Tryz.underlying78
 a76:=Tryz.isAgg78
 z76:=Tryz.sizeOf78
 v76:=Tryz.zeroValue78
 t85:=Tryz.underlying107
 a85:=Tryz.isAgg107
 z85:=Tryz.sizeOf107
 v85:=Tryz.zeroValue107
 t127:=Tryz.underlying128
 a127:=Tryz.isAgg128
 z127:=Tryz.sizeOf128
 v127:=Tryz.zeroValue128
 t143:=Tryz.underlying129
 a143:=Tryz.isAgg129
 z143:=Tryz.sizeOf129
 v143:=Tryz.zeroValue129
 t145:=Tryz.underlying131
 a145:=Tryz.isAgg131
 z145:=Tryz.sizeOf131
 v145:=Tryz.zeroValue131
 t167:=Tryz.underlying106
 a167:=Tryz.isAgg106
 z167:=Tryz.sizeOf106
 v167:=Tryz.zeroValue106
 t168:=Tryz.underlying109
 a168:=Tryz.isAgg109
 z168:=Tryz.sizeOf109
 v168:=Tryz.zeroValue109
 t171:=Tryz.underlying96
 a171:=Tryz.isAgg96
 z171:=Tryz.sizeOf96
 v171:=Tryz.zeroValue96
 t173:=Tryz.underlying99
 a173:=Tryz.isAgg99
 z173:=Tryz.sizeOf99
 v173:=Tryz.zeroValue99
 t175:=Tryz.underlying121
 a175:=Tryz.isAgg121
 z175:=Tryz.sizeOf121
 v175:=Tryz.zeroValue121
 t210:=Tryz.underlying124
 a210:=Tryz.isAgg124
 z210:=Tryz.sizeOf124
 v210:=Tryz.zeroValue124
 t212:=Tryz.underlying113
 a212:=Tryz.isAgg113
 z212:=Tryz.sizeOf113
 v212:=Tryz.zeroValue113
 t213:=Tryz.underlying114
 a213:=Tryz.isAgg114
 z213:=Tryz.sizeOf114
 t232:=Tryz.underlying132
 a232:=Tryz.isAgg132
 z232:=Tryz.sizeOf132
 v232:=Tryz.zeroValue132
 t233:=Tryz.underlying133
 a233:=Tryz.isAgg133
 z233:=Tryz.sizeOf133
 v233:=Tryz.zeroValue133
 g15:=by kernel_rfl
 g16:=by kernel_rfl
 g17:=by kernel_rfl
 g18:=by kernel_rfl
 g19:=by kernel_rfl
 t80:=Tryz.underlying93
 a80:=Tryz.isAgg93
 z80:=Tryz.sizeOf93
 v80:=Tryz.zeroValue93
 i0:=by kernel_rfl
 i2:=by kernel_rfl
 i3:=by kernel_rfl
 i4:=by kernel_rfl
 i5:=by kernel_rfl
 i9:=by kernel_rfl
 i20:=by kernel_rfl
 i21:=by kernel_rfl
 i37:=by kernel_rfl
 i46:=by kernel_rfl
 i51:=by kernel_rfl
 i53:=by kernel_rfl
 i75:=by kernel_rfl
 i76:=by kernel_rfl
 i80:=by kernel_rfl
 i85:=by kernel_rfl
 i127:=by kernel_rfl
 i143:=by kernel_rfl
 i145:=by kernel_rfl
 i167:=by kernel_rfl
 i168:=by kernel_rfl
 i171:=by kernel_rfl
 i173:=by kernel_rfl
 i175:=by kernel_rfl
 i210:=by kernel_rfl
 i212:=by kernel_rfl
 i232:=by kernel_rfl
 i233:=by kernel_rfl
 m15:=by kernel_rfl
 m16:=by kernel_rfl
 m17:=by kernel_rfl
 m18:=by kernel_rfl
 m19:=by kernel_rfl
 c0:=by kernel_rfl
 c2:=by kernel_rfl
 c3:=by kernel_rfl
 c4:=by kernel_rfl
 c5:=by kernel_rfl
 c9:=by kernel_rfl
 c20:=by kernel_rfl
 c21:=by kernel_rfl
 c37:=by kernel_rfl
 c46:=by kernel_rfl
 c51:=by kernel_rfl
 c53:=by kernel_rfl
 c75:=by kernel_rfl
 c76:=by kernel_rfl
 c80:=by kernel_rfl
 c85:=by kernel_rfl
 c127:=by kernel_rfl
 c143:=by kernel_rfl
 c145:=by kernel_rfl
 c167:=by kernel_rfl
 c168:=by kernel_rfl
 c171:=by kernel_rfl
 c173:=by kernel_rfl
 c175:=by kernel_rfl
 c210:=by kernel_rfl
 c212:=by kernel_rfl
 c213:=by kernel_rfl
 c232:=by kernel_rfl
 c233:=by kernel_rfl}
open Go.RowKit in
theorem Tryz.strconv_Atoi_ok (s:ByteArray) (hmax:s.size≤9223372036854775806) (v:Int) (h:Lib.atoiAll s.data.toList= .ok v) (w:World):
 Calls Tryz.prog 66 #[.string s] w fun e w'=>e= .returned (.tuple #[.int .i64 v, .nilIface])∧(w'=w∨∃t,w'=Lib.bytesWorld w 5 t):=Any.strconv_Atoi_ok Tryz.Bs s hmax v h w
open Go.RowKit in
theorem Tryz.strconv_Atoi_syntax (s:ByteArray) (hlim:s.size≤281474976710656) (h:Lib.atoiAll s.data.toList=Go.Lib.NumEnd.syntax) (ev:Value) (w:World) (hv:w.cell? ⟨4,0,none⟩=some ev) (hev:ev= .nilIface∨∃te pe,ev= .iface te pe):
 Calls Tryz.prog 66 #[.string s] w fun e w'=>∃N,e= .returned (.tuple #[.int .i64 (0), .iface 109 (.pointer (some ⟨N,0,none⟩))])∧w.heap.size≤N∧w'.heap[N]? =some (.cells #[.string ⟨#[65,116,111,105]⟩, .string s,ev] 124 (0,0))∧Below w.heap.size w w':=Any.strconv_Atoi_syntax Tryz.Bs s hlim h ev w hv hev
open Go.RowKit in
theorem Tryz.strconv_Atoi_range (s:ByteArray) (hlim:s.size≤281474976710656) (h:Lib.atoiAll s.data.toList= .range) (ev:Value) (w:World) (hv:w.cell? ⟨5,0,none⟩=some ev) (hev:ev= .nilIface∨∃te pe,ev= .iface te pe):
 Calls Tryz.prog 66 #[.string s] w fun e w'=>∃N,e= .returned (.tuple #[.int .i64 (Lib.atoiSat s.data.toList), .iface 109 (.pointer (some ⟨N,0,none⟩))])∧w.heap.size≤N∧w'.heap[N]? =some (.cells #[.string ⟨#[65,116,111,105]⟩, .string s,ev] 124 (0,0))∧Below w.heap.size w w':=Any.strconv_Atoi_range Tryz.Bs s hlim h ev w hv hev
def Tryz.HX:Go.Shelf.Ren:=⟨fun|145=>20|220=>41|219=>63|217=>88|225=>89|224=>90|267=>91|266=>115|314=>116|n=>n,fun|9=>9|4=>4|59=>46|3=>3|5=>5|46=>88|146=>103|51=>102|n=>n,fun|1=>0|n=>n⟩
theorem Tryz.UI:Go.Proofs.Lays.n145 Tryz.prog Tryz.HX:= {
 mixed:=by kernel_rfl
 f145:=Tryz.func20.trans (congrArg some (by kernel_rfl))
 f217:=Tryz.func88.trans (congrArg some (by kernel_rfl))
 f219:=Tryz.func63.trans (congrArg some (by kernel_rfl))
 f220:=Tryz.func41.trans (congrArg some (by kernel_rfl))
 f224:=Tryz.func90.trans (congrArg some (by kernel_rfl))
 f225:=Tryz.func89.trans (congrArg some (by kernel_rfl))
 f266:=Tryz.func115.trans (congrArg some (by kernel_rfl))
 f267:=Tryz.func91.trans (congrArg some (by kernel_rfl))
 f314:=Tryz.func116.trans (congrArg some (by kernel_rfl))
 t3:=Tryz.underlying3
 a3:=Tryz.isAgg3
 z3:=Tryz.sizeOf3
 v3:=Tryz.zeroValue3
 t4:=Tryz.underlying4
 a4:=Tryz.isAgg4
 z4:=Tryz.sizeOf4
 v4:=Tryz.zeroValue4
 t5:=Tryz.underlying5
 a5:=Tryz.isAgg5
 z5:=Tryz.sizeOf5
 v5:=Tryz.zeroValue5
 t9:=Tryz.underlying9
 a9:=Tryz.isAgg9
 z9:=Tryz.sizeOf9
 v9:=Tryz.zeroValue9
 t46:=Tryz.underlying88
 a46:=Tryz.isAgg88
 z46:=Tryz.sizeOf88
 v46:=Tryz.zeroValue88
 t51:=Tryz.underlying102
 a51:=Tryz.isAgg102
 z51:=Tryz.sizeOf102
 v51:=Tryz.zeroValue102
 t59:=Tryz.underlying46
 a59:=Tryz.isAgg46
 z59:=Tryz.sizeOf46
 v59:=Tryz.zeroValue46
 t146:=Tryz.underlying103
 a146:=Tryz.isAgg103
 z146:=Tryz.sizeOf103
 v146:=Tryz.zeroValue103
 g1:=by kernel_rfl}
open Go.RowKit Go.Lib in
theorem Tryz.strings_Cut (s sep:ByteArray) (m:Int) (w:World) (hs:s.size<4294967281) (hm:w.cell? ⟨0,0,none⟩=some (.int .i64 m)):
 Calls Tryz.prog 20 #[.string s, .string sep] w fun e w'=>e= .returned (.tuple #[.string ⟨(Lib.cut s.data.toList sep.data.toList).1.toArray⟩, .string ⟨(Lib.cut s.data.toList sep.data.toList).2.1.toArray⟩, .bool (Lib.cut s.data.toList sep.data.toList).2.2])∧∃n,w'=w.drewN n:=Any.strings_Cut Tryz.UI s sep m w hs hm
def Tryz.HY:Go.Shelf.Ren:=⟨fun|146=>47|221=>73|268=>104|138=>105|143=>106|195=>124|197=>86|218=>125|219=>63|260=>113|217=>88|225=>89|224=>90|267=>91|266=>115|314=>116|n=>n,fun|9=>9|31=>34|3=>3|4=>4|0=>0|105=>69|21=>21|5=>5|46=>88|119=>117|139=>120|138=>119|146=>103|51=>102|n=>n,fun|1=>0|3=>2|4=>3|n=>n⟩
theorem Tryz.UJ:Go.Proofs.Lays.n146 Tryz.prog Tryz.HY:= {
 mixed:=by kernel_rfl
 f138:=Tryz.func105.trans (congrArg some (by kernel_rfl))
 f143:=Tryz.func106.trans (congrArg some (by kernel_rfl))
 f146:=Tryz.func47.trans (congrArg some (by kernel_rfl))
 f195:=Tryz.func124.trans (congrArg some (by kernel_rfl))
 f197:=Tryz.func86.trans (congrArg some (by kernel_rfl))
 f217:=Tryz.func88.trans (congrArg some (by kernel_rfl))
 f218:=Tryz.func125.trans (congrArg some (by kernel_rfl))
 f219:=Tryz.func63.trans (congrArg some (by kernel_rfl))
 f221:=Tryz.func73.trans (congrArg some (by kernel_rfl))
 f224:=Tryz.func90.trans (congrArg some (by kernel_rfl))
 f225:=Tryz.func89.trans (congrArg some (by kernel_rfl))
 f260:=Tryz.func113.trans (congrArg some (by kernel_rfl))
 f266:=Tryz.func115.trans (congrArg some (by kernel_rfl))
 f267:=Tryz.func91.trans (congrArg some (by kernel_rfl))
 f268:=Tryz.func104.trans (congrArg some (by kernel_rfl))
 f314:=Tryz.func116.trans (congrArg some (by kernel_rfl))
 t0:=Tryz.underlying0
 a0:=Tryz.isAgg0
 z0:=Tryz.sizeOf0
 v0:=Tryz.zeroValue0
 t3:=Tryz.underlying3
 a3:=Tryz.isAgg3
 z3:=Tryz.sizeOf3
 v3:=Tryz.zeroValue3
 t4:=Tryz.underlying4
 a4:=Tryz.isAgg4
 z4:=Tryz.sizeOf4
 v4:=Tryz.zeroValue4
 t5:=Tryz.underlying5
 a5:=Tryz.isAgg5
 z5:=Tryz.sizeOf5
 v5:=Tryz.zeroValue5
 t9:=Tryz.underlying9
 a9:=Tryz.isAgg9
 z9:=Tryz.sizeOf9
 v9:=Tryz.zeroValue9
 t21:=Tryz.underlying21
 a21:=Tryz.isAgg21
 z21:=Tryz.sizeOf21
 v21:=Tryz.zeroValue21
 t31:=Tryz.underlying34
 a31:=Tryz.isAgg34
 z31:=Tryz.sizeOf34
 v31:=Tryz.zeroValue34
 t46:=Tryz.underlying88
 a46:=Tryz.isAgg88
 z46:=Tryz.sizeOf88
 v46:=Tryz.zeroValue88
 t51:=Tryz.underlying102
 a51:=Tryz.isAgg102
 z51:=Tryz.sizeOf102
 v51:=Tryz.zeroValue102
 t105:=Tryz.underlying69
 a105:=Tryz.isAgg69
 z105:=Tryz.sizeOf69
 v105:=Tryz.zeroValue69
 t119:=Tryz.underlying117
 a119:=Tryz.isAgg117
 z119:=Tryz.sizeOf117
 t138:=Tryz.underlying119
 a138:=Tryz.isAgg119
 z138:=Tryz.sizeOf119
 v138:=Tryz.zeroValue119
 t139:=Tryz.underlying120
 a139:=Tryz.isAgg120
 z139:=Tryz.sizeOf120
 v139:=Tryz.zeroValue120
 t146:=Tryz.underlying103
 a146:=Tryz.isAgg103
 z146:=Tryz.sizeOf103
 v146:=Tryz.zeroValue103
 g1:=by kernel_rfl
 g3:=by kernel_rfl
 g4:=by kernel_rfl}
open Go.RowKit Go.Lib in
theorem Tryz.strings_Split (s sep:ByteArray) (m:Int) (w:World) (hs:s.size<4294967281) (hm:w.cell? ⟨0,0,none⟩=some (.int .i64 m)) (h1:1≤sep.size):
 Calls Tryz.prog 47 #[.string s, .string sep] w fun e w'=>
  e= .returned (.slice (some ⟨w.heap.size,0,none⟩) (Lib.countB s sep+1) (Lib.countB s sep+1))∧w'=w.alloc (.cells ((Lib.splitB sep 0 (Lib.countB s sep) s).map Value.string).toArray 9):=Any.strings_Split Tryz.UJ (by kernel_rfl) s sep m w hs hm h1
def Tryz.HZ:Go.Shelf.Ren:=⟨fun|161=>65|231=>97|227=>38|233=>98|235=>99|228=>60|197=>86|151=>62|260=>113|152=>87|137=>108|119=>114|224=>90|225=>89|217=>88|266=>115|n=>n,fun|9=>9|4=>4|3=>3|5=>5|117=>53|116=>52|0=>0|124=>56|105=>69|21=>21|119=>117|46=>88|139=>120|138=>119|n=>n,fun|3=>2|4=>3|n=>n⟩
theorem Tryz.UL:Go.Proofs.Lays.n161 Tryz.prog Tryz.HZ:= {
 mixed:=by kernel_rfl
 f119:=Tryz.func114.trans (congrArg some (by kernel_rfl))
 f137:=Tryz.func108.trans (congrArg some (by kernel_rfl))
 f151:=Tryz.func62.trans (congrArg some (by kernel_rfl))
 f152:=Tryz.func87.trans (congrArg some (by kernel_rfl))
 f161:=Tryz.func65.trans (congrArg some (by kernel_rfl))
 f197:=Tryz.func86.trans (congrArg some (by kernel_rfl))
 f217:=Tryz.func88.trans (congrArg some (by kernel_rfl))
 f224:=Tryz.func90.trans (congrArg some (by kernel_rfl))
 f225:=Tryz.func89.trans (congrArg some (by kernel_rfl))
 f227:=Tryz.func38.trans (congrArg some (by kernel_rfl))
 f228:=Tryz.func60.trans (congrArg some (by kernel_rfl))
 f231:=Tryz.func97.trans (congrArg some (by kernel_rfl))
 f233:=Tryz.func98.trans (congrArg some (by kernel_rfl))
 f235:=Tryz.func99.trans (congrArg some (by kernel_rfl))
 f260:=Tryz.func113.trans (congrArg some (by kernel_rfl))
 f266:=Tryz.func115.trans (congrArg some (by kernel_rfl))
 t0:=Tryz.underlying0
 a0:=Tryz.isAgg0
 z0:=Tryz.sizeOf0
 v0:=Tryz.zeroValue0
 t3:=Tryz.underlying3
 a3:=Tryz.isAgg3
 z3:=Tryz.sizeOf3
 v3:=Tryz.zeroValue3
 t4:=Tryz.underlying4
 a4:=Tryz.isAgg4
 z4:=Tryz.sizeOf4
 v4:=Tryz.zeroValue4
 t5:=Tryz.underlying5
 a5:=Tryz.isAgg5
 z5:=Tryz.sizeOf5
 v5:=Tryz.zeroValue5
 t9:=Tryz.underlying9
 a9:=Tryz.isAgg9
 z9:=Tryz.sizeOf9
 v9:=Tryz.zeroValue9
 t21:=Tryz.underlying21
 a21:=Tryz.isAgg21
 z21:=Tryz.sizeOf21
 v21:=Tryz.zeroValue21
 t46:=Tryz.underlying88
 a46:=Tryz.isAgg88
 z46:=Tryz.sizeOf88
 v46:=Tryz.zeroValue88
 t105:=Tryz.underlying69
 a105:=Tryz.isAgg69
 z105:=Tryz.sizeOf69
 v105:=Tryz.zeroValue69
 t116:=Tryz.underlying52
 a116:=Tryz.isAgg52
 z116:=Tryz.sizeOf52
 t117:=Tryz.underlying53
 a117:=Tryz.isAgg53
 z117:=Tryz.sizeOf53
 v117:=Tryz.zeroValue53
 t119:=Tryz.underlying117
 a119:=Tryz.isAgg117
 z119:=Tryz.sizeOf117
 t124:=Tryz.underlying56
 a124:=Tryz.isAgg56
 z124:=Tryz.sizeOf56
 v124:=Tryz.zeroValue56
 t138:=Tryz.underlying119
 a138:=Tryz.isAgg119
 z138:=Tryz.sizeOf119
 v138:=Tryz.zeroValue119
 t139:=Tryz.underlying120
 a139:=Tryz.isAgg120
 z139:=Tryz.sizeOf120
 v139:=Tryz.zeroValue120
 g3:=by kernel_rfl
 g4:=by kernel_rfl}
open Go.RowKit in
theorem Tryz.strings_TrimLeft_one (s:ByteArray) (c:UInt8) (hc:c.toNat<128) (w:World):
 Calls Tryz.prog 65 #[.string s, .string ⟨#[c]⟩] w fun e w'=>e= .returned (.string ⟨(Lib.trimLeftB s.data.toList c).toArray⟩)∧w'=w:=Any.strings_TrimLeft_one Tryz.UL s c hc w
def Tryz.H6:Go.Shelf.Ren:=⟨fun|162=>19|232=>37|227=>38|234=>39|236=>40|228=>60|271=>61|151=>62|120=>85|197=>86|152=>87|260=>113|137=>108|119=>114|224=>90|225=>89|217=>88|266=>115|n=>n,fun|9=>9|4=>4|3=>3|5=>5|117=>53|116=>52|0=>0|124=>56|21=>21|105=>69|46=>88|119=>117|139=>120|138=>119|n=>n,fun|3=>2|4=>3|n=>n⟩
theorem Tryz.UM:Go.Proofs.Lays.n162 Tryz.prog Tryz.H6:= {
 mixed:=by kernel_rfl
 f119:=Tryz.func114.trans (congrArg some (by kernel_rfl))
 f120:=Tryz.func85.trans (congrArg some (by kernel_rfl))
 f137:=Tryz.func108.trans (congrArg some (by kernel_rfl))
 f151:=Tryz.func62.trans (congrArg some (by kernel_rfl))
 f152:=Tryz.func87.trans (congrArg some (by kernel_rfl))
 f162:=Tryz.func19.trans (congrArg some (by kernel_rfl))
 f197:=Tryz.func86.trans (congrArg some (by kernel_rfl))
 f217:=Tryz.func88.trans (congrArg some (by kernel_rfl))
 f224:=Tryz.func90.trans (congrArg some (by kernel_rfl))
 f225:=Tryz.func89.trans (congrArg some (by kernel_rfl))
 f227:=Tryz.func38.trans (congrArg some (by kernel_rfl))
 f228:=Tryz.func60.trans (congrArg some (by kernel_rfl))
 f232:=Tryz.func37.trans (congrArg some (by kernel_rfl))
 f234:=Tryz.func39.trans (congrArg some (by kernel_rfl))
 f236:=Tryz.func40.trans (congrArg some (by kernel_rfl))
 f260:=Tryz.func113.trans (congrArg some (by kernel_rfl))
 f266:=Tryz.func115.trans (congrArg some (by kernel_rfl))
 f271:=Tryz.func61.trans (congrArg some (by kernel_rfl))
 t0:=Tryz.underlying0
 a0:=Tryz.isAgg0
 z0:=Tryz.sizeOf0
 v0:=Tryz.zeroValue0
 t3:=Tryz.underlying3
 a3:=Tryz.isAgg3
 z3:=Tryz.sizeOf3
 v3:=Tryz.zeroValue3
 t4:=Tryz.underlying4
 a4:=Tryz.isAgg4
 z4:=Tryz.sizeOf4
 v4:=Tryz.zeroValue4
 t5:=Tryz.underlying5
 a5:=Tryz.isAgg5
 z5:=Tryz.sizeOf5
 v5:=Tryz.zeroValue5
 t9:=Tryz.underlying9
 a9:=Tryz.isAgg9
 z9:=Tryz.sizeOf9
 v9:=Tryz.zeroValue9
 t21:=Tryz.underlying21
 a21:=Tryz.isAgg21
 z21:=Tryz.sizeOf21
 v21:=Tryz.zeroValue21
 t46:=Tryz.underlying88
 a46:=Tryz.isAgg88
 z46:=Tryz.sizeOf88
 v46:=Tryz.zeroValue88
 t105:=Tryz.underlying69
 a105:=Tryz.isAgg69
 z105:=Tryz.sizeOf69
 v105:=Tryz.zeroValue69
 t116:=Tryz.underlying52
 a116:=Tryz.isAgg52
 z116:=Tryz.sizeOf52
 t117:=Tryz.underlying53
 a117:=Tryz.isAgg53
 z117:=Tryz.sizeOf53
 v117:=Tryz.zeroValue53
 t119:=Tryz.underlying117
 a119:=Tryz.isAgg117
 z119:=Tryz.sizeOf117
 t124:=Tryz.underlying56
 a124:=Tryz.isAgg56
 z124:=Tryz.sizeOf56
 v124:=Tryz.zeroValue56
 t138:=Tryz.underlying119
 a138:=Tryz.isAgg119
 z138:=Tryz.sizeOf119
 v138:=Tryz.zeroValue119
 t139:=Tryz.underlying120
 a139:=Tryz.isAgg120
 z139:=Tryz.sizeOf120
 v139:=Tryz.zeroValue120
 g3:=by kernel_rfl
 g4:=by kernel_rfl}
open Go.RowKit in
theorem Tryz.strings_TrimRight_one (s:ByteArray) (c:UInt8) (hc:c.toNat<128) (w:World) (hs:s.size≤9223372036854775807):
 Calls Tryz.prog 19 #[.string s, .string ⟨#[c]⟩] w fun e w'=>e= .returned (.string ⟨(Lib.trimRightB s.data.toList c).toArray⟩)∧w'=w:=Any.strings_TrimRight_one Tryz.UM s c hc w hs
def Tryz.H7:Go.Shelf.Ren:=⟨fun|160=>67|232=>37|231=>97|227=>38|234=>39|233=>98|236=>40|235=>99|228=>60|271=>61|151=>62|197=>86|120=>85|152=>87|260=>113|137=>108|119=>114|224=>90|225=>89|217=>88|266=>115|n=>n,fun|9=>9|4=>4|3=>3|5=>5|117=>53|116=>52|0=>0|124=>56|21=>21|105=>69|46=>88|119=>117|139=>120|138=>119|n=>n,fun|3=>2|4=>3|n=>n⟩
theorem Tryz.UN:Go.Proofs.Lays.n160 Tryz.prog Tryz.H7:= {
 mixed:=by kernel_rfl
 f119:=Tryz.func114.trans (congrArg some (by kernel_rfl))
 f120:=Tryz.func85.trans (congrArg some (by kernel_rfl))
 f137:=Tryz.func108.trans (congrArg some (by kernel_rfl))
 f151:=Tryz.func62.trans (congrArg some (by kernel_rfl))
 f152:=Tryz.func87.trans (congrArg some (by kernel_rfl))
 f160:=Tryz.func67.trans (congrArg some (by kernel_rfl))
 f197:=Tryz.func86.trans (congrArg some (by kernel_rfl))
 f217:=Tryz.func88.trans (congrArg some (by kernel_rfl))
 f224:=Tryz.func90.trans (congrArg some (by kernel_rfl))
 f225:=Tryz.func89.trans (congrArg some (by kernel_rfl))
 f227:=Tryz.func38.trans (congrArg some (by kernel_rfl))
 f228:=Tryz.func60.trans (congrArg some (by kernel_rfl))
 f231:=Tryz.func97.trans (congrArg some (by kernel_rfl))
 f232:=Tryz.func37.trans (congrArg some (by kernel_rfl))
 f233:=Tryz.func98.trans (congrArg some (by kernel_rfl))
 f234:=Tryz.func39.trans (congrArg some (by kernel_rfl))
 f235:=Tryz.func99.trans (congrArg some (by kernel_rfl))
 f236:=Tryz.func40.trans (congrArg some (by kernel_rfl))
 f260:=Tryz.func113.trans (congrArg some (by kernel_rfl))
 f266:=Tryz.func115.trans (congrArg some (by kernel_rfl))
 f271:=Tryz.func61.trans (congrArg some (by kernel_rfl))
 t0:=Tryz.underlying0
 a0:=Tryz.isAgg0
 z0:=Tryz.sizeOf0
 v0:=Tryz.zeroValue0
 t3:=Tryz.underlying3
 a3:=Tryz.isAgg3
 z3:=Tryz.sizeOf3
 v3:=Tryz.zeroValue3
 t4:=Tryz.underlying4
 a4:=Tryz.isAgg4
 z4:=Tryz.sizeOf4
 v4:=Tryz.zeroValue4
 t5:=Tryz.underlying5
 a5:=Tryz.isAgg5
 z5:=Tryz.sizeOf5
 v5:=Tryz.zeroValue5
 t9:=Tryz.underlying9
 a9:=Tryz.isAgg9
 z9:=Tryz.sizeOf9
 v9:=Tryz.zeroValue9
 t21:=Tryz.underlying21
 a21:=Tryz.isAgg21
 z21:=Tryz.sizeOf21
 v21:=Tryz.zeroValue21
 t46:=Tryz.underlying88
 a46:=Tryz.isAgg88
 z46:=Tryz.sizeOf88
 v46:=Tryz.zeroValue88
 t105:=Tryz.underlying69
 a105:=Tryz.isAgg69
 z105:=Tryz.sizeOf69
 v105:=Tryz.zeroValue69
 t116:=Tryz.underlying52
 a116:=Tryz.isAgg52
 z116:=Tryz.sizeOf52
 t117:=Tryz.underlying53
 a117:=Tryz.isAgg53
 z117:=Tryz.sizeOf53
 v117:=Tryz.zeroValue53
 t119:=Tryz.underlying117
 a119:=Tryz.isAgg117
 z119:=Tryz.sizeOf117
 t124:=Tryz.underlying56
 a124:=Tryz.isAgg56
 z124:=Tryz.sizeOf56
 v124:=Tryz.zeroValue56
 t138:=Tryz.underlying119
 a138:=Tryz.isAgg119
 z138:=Tryz.sizeOf119
 v138:=Tryz.zeroValue119
 t139:=Tryz.underlying120
 a139:=Tryz.isAgg120
 z139:=Tryz.sizeOf120
 v139:=Tryz.zeroValue120
 g3:=by kernel_rfl
 g4:=by kernel_rfl}
end Go.Proofs
end
section
set_option maxRecDepth 100000
namespace Go.Proofs.dO
open Go Go.Am Go.Proofs
def DV (cs:Array Value):Prop:=∃ev,cs= #[ev]∧(ev= .nilIface∨∃te pe,ev= .iface te pe)
instance xE:Tabs:=⟨[(0,fun cs=>∃m,cs= #[.int .i64 m]),(1,fun cs=>cs=(Lib.pow10Tab.map fun z=>Value.int .u64 z).toArray),(4,DV),(5,DV)]⟩
theorem abm {F:Nat→Prop} {w:World} (hF:FL F w) {g:Nat} {p:Array Value→Prop} (hm:(g,p)∈Tabs.l) {v:Value} (hp:∀cs,p cs→cs[0]? =some v∨True):∃cs ty fr,w.heap[g]? =some (.cells cs ty fr)∧p cs:=(hF.IU _ hm).2
theorem cell_of {w:World} {g:Nat} {v:Value} {ty:TypeId} {fr:Nat×Nat} (h:w.heap[g]? =some (.cells #[v] ty fr)):w.cell? ⟨g,0,none⟩=some v:=by
 simp [World.cell?,h]
theorem Gm {F:Nat→Prop} {w:World} (hF:FL F w):∃m,w.cell? ⟨0,0,none⟩=some (.int .i64 m):=by
 obtain ⟨-,cs,ty,fr,h,m,rfl⟩:=hF.IU (0,fun cs=>∃m,cs= #[.int .i64 m]) (by simp [Tabs.l,xE])
 exact ⟨m,cell_of h⟩
theorem Gn {F:Nat→Prop} {w:World} (hF:FL F w) {g:Nat} (hm:(g,DV)∈Tabs.l):∃ev,w.cell? ⟨g,0,none⟩=some ev∧(ev= .nilIface∨∃te pe,ev= .iface te pe):=by
 obtain ⟨-,cs,ty,fr,h,ev,rfl,he⟩:=hF.IU _ hm
 exact ⟨ev,cell_of h,he⟩
theorem args1 {γ:List Nat} {C:Nat→List Value} {vs:Array Value} {a:AV} {v:Value} (hl:vs.size=[a].length) (h:vs.getD 0 undef=v):vs= #[v]:=by
 apply Array.ext
 · simpa using hl
 · intro i h1 h2
   simp at h2;subst h2
   simpa [Array.getD_eq_getD_getElem?,Array.getElem?_eq_getElem h1] using h
theorem args2 {vs:Array Value} {a b:AV} {v u:Value} (hl:vs.size=[a,b].length) (h:vs.getD 0 undef=v) (h':vs.getD 1 undef=u):vs= #[v,u]:=by
 apply Array.ext
 · simpa using hl
 · intro i h1 h2
   have:i=0∨i=1:=by simp at h2;omega
   rcases this with rfl|rfl
   · simpa [Array.getD_eq_getD_getElem?,Array.getElem?_eq_getElem h1] using h
   · simpa [Array.getD_eq_getD_getElem?,Array.getElem?_eq_getElem h1] using h'
def strconv_Itoa (n:Int):Option (List UInt8):=if -9223372036854775808≤n∧n≤9223372036854775807 then some (Lib.itoa n) else none
theorem tr {i1:Int} {H0:AH} {r0:List UInt8} (h:strconv_Itoa i1=some r0):aG Tryz.prog 34 [(.int .i64 i1)] H0 fun v H'=>v=(.str r0)∧H'=H0:=by
 unfold strconv_Itoa at h
 obtain ⟨⟨h0,h1⟩,h⟩:=G6 h
 injection h with h
 subst h
 exact Kh i1 (by kernel_rfl) (fun F w hF=>Rg hF (g:=1) (by simp [Tabs.l,xE]) (by kernel_rfl)) (fun w ht=>Tryz.strconv_Itoa i1 h0 h1 w ht)
def strings_IndexByte (s:List UInt8) (c:UInt8):Option Int:=some (Lib.indexByte s c)
theorem vG {s1:List UInt8} {c2:UInt8} {H0:AH} {r0:Int} (h:strings_IndexByte s1 c2=some r0):aG Tryz.prog 108 [(.str s1),(b8 c2)] H0 fun v H'=>v=(.int .i64 r0)∧H'=H0:=by
 unfold strings_IndexByte at h
 injection h with h
 subst h
 refine aG.UB rfl (by simp) (by kernel_rfl) fun F C γ w vs hF hl hv=> ?_
 have h0:=(hv 0 _ rfl).cL
 have h1:=VR.cS (hv 1 _ rfl)
 obtain rfl:=args2 hl h0 h1
 refine (Tryz.strings_IndexByte ⟨s1.toArray⟩ _ w).mono ?_
 rintro e w' ⟨rfl,rfl⟩
 refine ⟨_,rfl, ?_,by simp [TC],fun _ _=>rfl,Nat.le_refl _,rfl,rfl,rfl⟩
 have:(c2.toNat:Int).toNat.toUInt8=c2:=by simp
 rw [this]
 exact .int ..
def strconv_Atoi (s:List UInt8):Option (Int×Bool):=if s.length≤281474976710656 then some (match Lib.atoiAll s with| .ok v=>(v,false)|Go.Lib.NumEnd.syntax=>(0,true)| .range=>(Lib.atoiSat s,true)) else none
theorem strconv_Atoi_ok {s1:List UInt8} {H0:AH} {r0:Int} {r1:Bool} (h:strconv_Atoi s1=some (r0,r1)):aG Tryz.prog 66 [(.str s1)] H0 fun v H'=>v=(.bB [(.int .i64 r0),(dN r1)])∧H'=H0:=by
 unfold strconv_Atoi at h
 obtain ⟨hs,h⟩:=G6 h
 injection h with h
 refine aG.UB rfl (by simp) (by kernel_rfl) fun F C γ w vs hF hl hv=> ?_
 have h0:=(hv 0 _ rfl).cL
 obtain rfl:=args1 (γ:=γ) (C:=C) hl h0
 have hsz:(⟨s1.toArray⟩:ByteArray).size=s1.length:=by simp [ByteArray.size]
 have hd:(⟨s1.toArray⟩:ByteArray).data.toList=s1:=by simp
 rcases yz:Lib.atoiAll s1 with v|_|_
 · rw [yz] at h
   injection h with ha hb
   subst ha hb
   refine (Tryz.strconv_Atoi_ok ⟨s1.toArray⟩ (by omega) v (by rw [hd];exact yz) w).mono ?_
   rintro e w' ⟨rfl,hw⟩
   refine ⟨_,rfl, ?_, ?_, ?_⟩
   · refine .bB _ _ _ rfl fun i a hi=> ?_
     match i,hi with
     |0,hi=>injection hi with hi;subst hi;exact .int ..
     |1,hi=>injection hi with hi;subst hi;exact .v _ _ rfl
   · intro i a hi
     match i,hi with
     |0,hi=>injection hi with hi;subst hi;trivial
     |1,hi=>injection hi with hi;subst hi;trivial
   · rcases hw with rfl|⟨t,rfl⟩
     · exact ⟨fun _ _=>rfl,Nat.le_refl _,rfl,rfl,rfl⟩
     · exact ⟨fun b hb=>Lib.bytesWorld_at_old _ _ _ _ hb,by rw [Lib.bytesWorld_size];omega,rfl,rfl,rfl⟩
 · rw [yz] at h
   injection h with ha hb
   subst ha hb
   obtain ⟨ev,hc,he⟩:=Gn hF (g:=4) (by simp [Tabs.l,xE])
   refine (Tryz.strconv_Atoi_syntax ⟨s1.toArray⟩ (by omega) (by rw [hd];exact yz) ev w hc he).mono ?_
   rintro e w' ⟨N,rfl, -, -,hb⟩
   refine ⟨_,rfl, ?_, ?_,hb.block,hb.size,hb.os,hb.tape,hb.output⟩
   · refine .bB _ _ _ rfl fun i a hi=> ?_
     match i,hi with
     |0,hi=>injection hi with hi;subst hi;exact .int ..
     |1,hi=>injection hi with hi;subst hi;exact .dQ ..
   · intro i a hi
     match i,hi with
     |0,hi=>injection hi with hi;subst hi;trivial
     |1,hi=>injection hi with hi;subst hi;trivial
 · rw [yz] at h
   injection h with ha hb
   subst ha hb
   obtain ⟨ev,hc,he⟩:=Gn hF (g:=5) (by simp [Tabs.l,xE])
   refine (Tryz.strconv_Atoi_range ⟨s1.toArray⟩ (by omega) (by rw [hd];exact yz) ev w hc he).mono ?_
   rintro e w' ⟨N,rfl, -, -,hb⟩
   refine ⟨_,rfl, ?_, ?_,hb.block,hb.size,hb.os,hb.tape,hb.output⟩
   · refine .bB _ _ _ rfl fun i a hi=> ?_
     match i,hi with
     |0,hi=>injection hi with hi;subst hi;simp only [hd];exact .int ..
     |1,hi=>injection hi with hi;subst hi;exact .dQ ..
   · intro i a hi
     match i,hi with
     |0,hi=>injection hi with hi;subst hi;trivial
     |1,hi=>injection hi with hi;subst hi;trivial
theorem wK {sep:List UInt8} (h1:sep≠[]):∀(n:Nat) (l:List UInt8),Lib.count l sep=n→(Lib.splitK sep 0 n l).length=n+1
 |0,_,_=>rfl
 |n+1,l,h=>by
  rcases Lib.index_spec l sep with ⟨hi, -⟩|⟨i,hi, -, -, -⟩
  · rw [Lib.count_miss hi] at h;cases h
  · have hc:=Lib.count_hit h1 hi
    unfold Lib.splitK
    rw [if_neg (by rw [hi];simp),List.length_cons,wK h1 n _ (by rw [hi,Int.toNat_natCast];omega)]
def strings_Split (s sep:List UInt8):Option (List (List UInt8)):=if s.length<4294967281∧1≤sep.length then some (Lib.split s sep) else none
theorem iC {s1 s2:List UInt8} {H0:AH} {r0:List (List UInt8)} (h:strings_Split s1 s2=some r0):aG Tryz.prog 47 [(.str s1),(.str s2)] H0 fun v H'=>v=(.sl .n 1 (ml AV.str r0))∧H'=H0:=by
 unfold strings_Split at h
 obtain ⟨⟨hs,hs2⟩,h⟩:=G6 h
 injection h with h
 subst h
 refine aG.UD (by kernel_rfl) fun F C γ w vs hF hl hv=> ?_
 obtain rfl:=args2 hl (hv 0 _ rfl).cL (hv 1 _ rfl).cL
 obtain ⟨m,hm⟩:=Gm hF
 have hsz:(⟨s1.toArray⟩:ByteArray).size=s1.length:=by simp [ByteArray.size]
 have ad5:(⟨s2.toArray⟩:ByteArray).size=s2.length:=by simp [ByteArray.size]
 refine (Tryz.strings_Split ⟨s1.toArray⟩ ⟨s2.toArray⟩ m w (by omega) hm (by omega)).mono ?_
 rintro e w' ⟨rfl,rfl⟩
 have hd:(Lib.splitB ⟨s2.toArray⟩ 0 (Lib.countB ⟨s1.toArray⟩ ⟨s2.toArray⟩) ⟨s1.toArray⟩).map (·.data.toList)=Lib.split s1 s2:=by
  rw [Lib.splitB_data];simp [Lib.split,Lib.countB]
 have hlen:(Lib.split s1 s2).length=Lib.countB ⟨s1.toArray⟩ ⟨s2.toArray⟩+1:=by
  exact wK (by intro h;rw [h] at hs2;simp at hs2) _ _ rfl
 refine ⟨9,(0,0),by rw [hlen], ?_,by simp⟩
 rw [←hd,List.map_map]
 congr 3
def strings_Cut (s sep:List UInt8):Option (List UInt8×List UInt8×Bool):=if s.length<4294967281 then some (Lib.cut s sep) else none
theorem CC {s1 s2:List UInt8} {H0:AH} {r0 r1:List UInt8} {r2:Bool} (h:strings_Cut s1 s2=some (r0,r1,r2)):aG Tryz.prog 20 [(.str s1),(.str s2)] H0 fun v H'=>v=(.bB [(.str r0),(.str r1),(.bool r2)])∧H'=H0:=by
 unfold strings_Cut at h
 obtain ⟨hs,h⟩:=G6 h
 injection h with h
 refine aG.UB rfl (by simp) (by kernel_rfl) fun F C γ w vs hF hl hv=> ?_
 obtain rfl:=args2 hl (hv 0 _ rfl).cL (hv 1 _ rfl).cL
 obtain ⟨m,hm⟩:=Gm hF
 have hsz:(⟨s1.toArray⟩:ByteArray).size=s1.length:=by simp [ByteArray.size]
 refine (Tryz.strings_Cut ⟨s1.toArray⟩ ⟨s2.toArray⟩ m w (by omega) hm).mono ?_
 rintro e w' ⟨rfl,n,rfl⟩
 have hd1:(⟨s1.toArray⟩:ByteArray).data.toList=s1:=by simp
 have Jg:(⟨s2.toArray⟩:ByteArray).data.toList=s2:=by simp
 rw [hd1,Jg,h]
 refine ⟨_,rfl, ?_, ?_,fun _ _=>rfl,Nat.le_refl _,rfl,rfl,rfl⟩
 · refine .bB _ _ _ rfl fun i a hi=> ?_
   match i,hi with
   |0,hi=>injection hi with hi;subst hi;exact .str ..
   |1,hi=>injection hi with hi;subst hi;exact .str ..
   |2,hi=>injection hi with hi;subst hi;exact .bool ..
 · intro i a hi
   match i,hi with
   |0,hi=>injection hi with hi;subst hi;trivial
   |1,hi=>injection hi with hi;subst hi;trivial
   |2,hi=>injection hi with hi;subst hi;trivial
def fO (s c:List UInt8):Option (List UInt8):=if c=[32] then some (Lib.trimLeftB s 32) else none
theorem wL {s1 s2:List UInt8} {H0:AH} {r0:List UInt8} (h:fO s1 s2=some r0):aG Tryz.prog 65 [(.str s1),(.str s2)] H0 fun v H'=>v=(.str r0)∧H'=H0:=by
 unfold fO at h
 obtain ⟨hc,h⟩:=G6 h
 injection h with h
 subst h
 refine aG.Di (by kernel_rfl) fun F C γ w vs hF hl hv=> ?_
 obtain rfl:=args2 hl (hv 0 _ rfl).cL (hv 1 _ rfl).cL
 have hsz:(⟨s1.toArray⟩:ByteArray).size=s1.length:=by simp [ByteArray.size]
 subst hc
 refine (Tryz.strings_TrimLeft_one ⟨s1.toArray⟩ 32 (by decide) w).mono ?_
 rintro e w' ⟨rfl,rfl⟩
 exact ⟨by simp,fun _ _=>rfl,Nat.le_refl _,rfl,rfl,rfl⟩
def fq (s c:List UInt8):Option (List UInt8):=if c=[32]∧s.length≤1000000000 then some (Lib.trimRightB s 32) else none
theorem vH {s1 s2:List UInt8} {H0:AH} {r0:List UInt8} (h:fq s1 s2=some r0):aG Tryz.prog 19 [(.str s1),(.str s2)] H0 fun v H'=>v=(.str r0)∧H'=H0:=by
 unfold fq at h
 obtain ⟨hc,h⟩:=G6 h
 injection h with h
 subst h
 refine aG.Di (by kernel_rfl) fun F C γ w vs hF hl hv=> ?_
 obtain rfl:=args2 hl (hv 0 _ rfl).cL (hv 1 _ rfl).cL
 have hsz:(⟨s1.toArray⟩:ByteArray).size=s1.length:=by simp [ByteArray.size]
 obtain ⟨rfl,hlen⟩:=hc
 refine (Tryz.strings_TrimRight_one ⟨s1.toArray⟩ 32 (by decide) w (by omega)).mono ?_
 rintro e w' ⟨rfl,rfl⟩
 exact ⟨by simp,fun _ _=>rfl,Nat.le_refl _,rfl,rfl,rfl⟩
def j0:List UInt8:=[48,49,50,51,52,53,54,55,56,57]
def ig (s c:List UInt8):Option (List UInt8):=if c=j0∧s.length≤1000000000 then some (Lib.trimS s j0) else none
theorem Bt {s1 s2:List UInt8} {H0:AH} {r0:List UInt8} (h:ig s1 s2=some r0):aG Tryz.prog 67 [(.str s1),(.str s2)] H0 fun v H'=>v=(.str r0)∧H'=H0:=by
 unfold ig at h
 obtain ⟨hc,h2⟩:=G6 h
 obtain ⟨rfl,hlen⟩:=hc
 injection h2 with h2
 subst h2
 refine aG.Di (by kernel_rfl) fun F C γ w vs hF hl hv=> ?_
 obtain rfl:=args2 hl (hv 0 _ rfl).cL (hv 1 _ rfl).cL
 have hsz:(⟨s1.toArray⟩:ByteArray).size=s1.length:=by simp [ByteArray.size]
 refine (Any.strings_Trim_laid Tryz.UN (by kernel_rfl) ⟨s1.toArray⟩ ⟨#[48,49,50,51,52,53,54,55,56,57]⟩ w (by omega) (by decide) (ascii_of_all (by decide))).mono ?_
 rintro e w' ⟨rfl,hb⟩
 exact ⟨by simp [j0],hb.block,hb.size,hb.os,hb.tape,hb.output⟩
end Go.Proofs.dO
end
section
set_option maxRecDepth 100000
namespace Go.Proofs.dO
open Go Go.Am Go.Proofs
open Nat renaming reduceEqDiff→nA,reduceLT→nB,reduceLeDiff→nC,reduceAdd→nD,reduceSub→nE,reduceMul→nF,reduceBEq→nG
set_option maxHeartbeats 2000000
structure aB where
 av:List UInt8
 domain:List UInt8
 deriving DecidableEq
structure aF where
 kind:Int
 arg:List UInt8
 path:aB
 size:Int
 deriving DecidableEq
structure aD where
 s:List UInt8
 cJ:Int
 bad:Bool
 deriving DecidableEq
abbrev tu:ax:=(.rg [(au 15 5),(aj 16 (.bin .geq (.t 15) (.c (b8 65)))),(au 17 16),(ay 18 (.mv (.t 5)) 17 true),(ay 19 (.bin .leq (.t 18) (.c (b8 90))) 17 true),(aj 20 (.pick (.t 17) (.t 19) (.c (.bool false))))])
abbrev qY:ax:=(.seq (.rg [(aj 11 (.bin .lss (.t 10) (.t 9)))]) (.seq (.cond (.t 11) .skip (.exit 0)) (.seq (.blk 1 (.seq (.rg [(au 12 10),(aj 13 (.vF 1 (.t 8) (.t 10))),(aj 14 (.ld (.t 13) none)),(aR 4 12),(aR 5 14)]) (.seq (.sem (erase tu)) (.cond (.t 20) (.rg [(au 21 3),(au 22 4),(aj 23 (.vF 1 (.t 21) (.t 22))),(aj 24 (.ld (.t 23) none)),(aj 25 (.bin .or (.t 24) (.c (b8 32)))),(aj 26 (.vF 1 (.t 21) (.t 22))),(cR (.st (.t 26) (.t 25) 1))]) .skip)))) (.rg [(aj 27 (.bin .add (.t 10) (.c (.int .i64 1)))),(au 10 27)]))))
abbrev Fv:ax:=(.seq (.rg [(aj 2 (.aP (.c (.str []))))]) (.seq (.rg [(au 6 0),(aj 7 (.qT (.t 6))),(aR 3 7)]) (.seq (.seq (.rg [(au 8 3),(aj 9 (.len (.t 8))),(aj 10 (.mv (.c (.int .i64 0))))]) (.blk 0 (.loop (erase qY)))) (.seq (.rg [(au 28 3),(aj 29 (.jt .bs (.t 28))),(aR 2 29)]) .ret))))
theorem Fw:bN Tryz.prog 22 30 [(.tmp 2)] (erase Fv):=⟨Tryz.f22,_,rfl,by decide,rfl,by kernel_rfl,rfl,rfl⟩
abbrev sN:List Nat:=[0,2,3,4,5,8,9,10,11,20]
def fy (s1:List UInt8):(Int×(List UInt8))→Option (St (List UInt8) (List UInt8) (Int×(List UInt8)))
 |(t3,s4)=>
  (if (decide (t3<(s1.length:Int))) then
   (Bq s1.length t3).bind fun j5=>
   (s4[j5]?).bind fun x6=>
   (if ((decide (65≤x6))&&(decide (x6≤90))) then
    (Gl s4 j5 (x6 ||| 32)).bind fun s8=>some (.cY ((IntKind.wrap .i64 (t3+1)),s8))
   else
    some (.cY ((IntKind.wrap .i64 (t3+1)),s4)))
  else
   some (.dR s4))
def fP (F:Nat) (s1:List UInt8):Option ((List UInt8)):=
 ((iter (fy s1) F (0,s1)).bind fun o12=>
 match o12 with
 | .inr UO=>
   (sub UO 0 (s1.length:Int)).bind fun ga=>some ga
 | .inl _=>none)
theorem Ah {q7:Nat} {s1:List UInt8} {t3:Int} {x6:UInt8} {s4:List UInt8} {H0 H:AH} (hfr:Fr H0 H0.length [] H) (ai:H[q7]? =some (ml b8 s4)) (dL:H0.length≤q7) {K:Exit→Env→AH→Prop}
 (kn:∀H':AH,Fr H0 H0.length [] H'→H'[q7]? =some (ml b8 s4)→K .normal [(3,(.cz q7 1 0 s1.length)),(4,(.int .i64 t3)),(8,(.cz q7 1 0 s1.length)),(9,(.int .i64 (s1.length:Int))),(10,(.int .i64 t3)),(20,(.bool ((decide (65≤x6))&&(decide (x6≤90)))))] H'):
 AX Tryz.prog sN 30 H0.length (erase tu) K [(3,(.cz q7 1 0 s1.length)),(4,(.int .i64 t3)),(5,(b8 x6)),(8,(.cz q7 1 0 s1.length)),(9,(.int .i64 (s1.length:Int))),(10,(.int .i64 t3))] H:=by
 refine bY fun K' hK=> ?_
 have hle:=hfr.le
 have aM:=aQ ai
 refine az ai ?_
 refine gK (fun hy4=> ?_) fun hy4=> ?_
 · refine az (aA hy4 ai) ?_
   exact hK _ _ _ _ _ (dy hy4) ak (kn _ hfr (ai.trans rfl))
 · refine az (aA hy4 ai) ?_
   exact hK _ _ _ _ _ (dy hy4) ak (kn _ hfr (ai.trans rfl))
theorem Ai {F:Nat} {t3:Int} {s1:List UInt8} {s4:List UInt8} {q2:Nat} {H0 H:AH} (hfr:Fr H0 H0.length [] H) (ai:H[q2]? =some (ml b8 s4)) (dL:H0.length≤q2) {K:Exit→Env→AH→Prop} {o:((List UInt8))⊕((List UInt8))}
 (h:iter (fy s1) F (t3,s4)=some o)
 (dc:∀o':(List UInt8),o= .inr o'→∀H':AH,Fr H0 H0.length [] H'→H'[q2]? =some (ml b8 o')→K (.exit 0) [(3,(.cz q2 1 0 s1.length))] H'):
 AX Tryz.prog sN 30 H0.length (.loop (erase qY)) K [(3,(.cz q2 1 0 s1.length)),(8,(.cz q2 1 0 s1.length)),(9,(.int .i64 (s1.length:Int))),(10,(.int .i64 t3))] H:=by
 refine gL (fun s e H1=>match s with|(t3,s4)=>e=[(3,(.cz q2 1 0 s1.length)),(8,(.cz q2 1 0 s1.length)),(9,(.int .i64 (s1.length:Int))),(10,(.int .i64 t3))]∧Fr H0 H0.length [] H1∧H1[q2]? =some (ml b8 s4)) h ⟨rfl,hfr,ai⟩ ?_
 rintro K' ⟨t3,s4⟩ st e H ⟨rfl,hfr,ai⟩ h hN hB hR hX
 have hle:=hfr.le
 have aM:=aQ ai
 rw [fy.eq_1] at h
 refine az ai ?_
 refine bk h (fun hy1 h=> ?_) fun hy1 h=> ?_
 · obtain ⟨j5,hy2,h⟩:=aq h
   obtain ⟨x6,hy3,h⟩:=aq h
   refine az (aA hy2 (aA hy3 ai)) ?_
   refine bz ak (Ah (q7:=q2) (s1:=s1) (t3:=t3) (x6:=x6) (s4:=s4) hfr (ai.trans rfl) bX ?_)
   intro H hfr ai
   have hle:=hfr.le
   have aM:=aQ ai
   refine az ai ?_
   refine bk h (fun bJ h=> ?_) fun bJ h=> ?_
   · obtain ⟨s8,b6,h⟩:=aq h
     refine az (aA hy2 (aA hy3 (aA hy2 (aA b6 ai)))) ?_
     obtain rfl:=aC h
     exact hN _ rfl _ _ _ _ aJ ak ⟨rfl,(bW _ hfr),cA⟩
   · refine az ai ?_
     obtain rfl:=aC h
     exact hN _ rfl _ _ _ _ aJ ak ⟨rfl,hfr,(ai.trans rfl)⟩
 · refine az ai ?_
   obtain rfl:=aC h
   exact hX _ _ _ _ _ dm aJ ak (dc _ (hB _ rfl) _ hfr (ai.trans rfl))
theorem kA {F:Nat} {s1:List UInt8} {H0:AH} {aS:List UInt8} (h:fP F s1=some aS):
 aG Tryz.prog 22 [(.str s1)] H0 fun v H'=>v=(.str aS)∧H'=H0:=by
 refine l7 Fw sN [] fun hcl K0 aO H hH hfr=> ?_
 clear hH
 have hle:=hfr.le
 rw [fP.eq_1] at h
 refine cM ?_
 obtain ⟨q2,jX⟩:∃q:Nat,H.length=q:=⟨_,rfl⟩
 try rw [jX]
 obtain ⟨o12,cC,h⟩:=aq h
 refine bz ak (Ai (q2:=q2) (Fr.app hfr) uC bX cC ?_)
 · rintro UO rfl H hfr ai
   try dsimp only at h ai
   have hle:=hfr.le
   have aM:=aQ ai
   refine cM ?_
   obtain ⟨ga,cr,h⟩:=aq h
   refine az (aA cr ai) ?_
   obtain rfl:=aC h
   exact aO _ _ _ bh (aT hfr hcl (aW aZ (.str ga)) bf aX ⟨rfl,rfl⟩)
abbrev Kk:ax:=(.seq (.rg [(aj 2 (.aP (.c (.str []))))]) (.seq (.seq (.rg [(au 3 0)]) (.blk 0 (.seq (.rg [(aj 5 (.bin .eql (.t 3) (.c (.int .i64 1)))),(aR 4 5)]) (.cond (.t 4) (.seq (.rg [(aj 2 (.aP (.c (.str [72,69,76,79]))))]) .ret) (.seq (.rg [(aj 7 (.bin .eql (.t 3) (.c (.int .i64 2)))),(aR 6 7)]) (.cond (.t 6) (.seq (.rg [(aj 2 (.aP (.c (.str [69,72,76,79]))))]) .ret) (.seq (.rg [(aj 9 (.bin .eql (.t 3) (.c (.int .i64 3)))),(aR 8 9)]) (.cond (.t 8) (.seq (.rg [(aj 2 (.aP (.c (.str [77,65,73,76]))))]) .ret) (.seq (.rg [(aj 11 (.bin .eql (.t 3) (.c (.int .i64 4)))),(aR 10 11)]) (.cond (.t 10) (.seq (.rg [(aj 2 (.aP (.c (.str [82,67,80,84]))))]) .ret) (.seq (.rg [(aj 13 (.bin .eql (.t 3) (.c (.int .i64 5)))),(aR 12 13)]) (.cond (.t 12) (.seq (.rg [(aj 2 (.aP (.c (.str [68,65,84,65]))))]) .ret) (.seq (.rg [(aj 15 (.bin .eql (.t 3) (.c (.int .i64 6)))),(aR 14 15)]) (.cond (.t 14) (.seq (.rg [(aj 2 (.aP (.c (.str [82,83,69,84]))))]) .ret) (.seq (.rg [(aj 17 (.bin .eql (.t 3) (.c (.int .i64 7)))),(aR 16 17)]) (.cond (.t 16) (.seq (.rg [(aj 2 (.aP (.c (.str [78,79,79,80]))))]) .ret) (.seq (.rg [(aj 19 (.bin .eql (.t 3) (.c (.int .i64 8)))),(aR 18 19)]) (.cond (.t 18) (.seq (.rg [(aj 2 (.aP (.c (.str [81,85,73,84]))))]) .ret) (.seq (.rg [(aj 21 (.bin .eql (.t 3) (.c (.int .i64 9)))),(aR 20 21)]) (.cond (.t 20) (.seq (.rg [(aj 2 (.aP (.c (.str [86,82,70,89]))))]) .ret) .skip)))))))))))))))))))) (.seq (.rg [(aj 2 (.aP (.c (.str []))))]) .ret)))
theorem Kl:bN Tryz.prog 33 22 [(.tmp 2)] (erase Kk):=⟨Tryz.f33,_,rfl,by decide,rfl,by kernel_rfl,rfl,rfl⟩
abbrev Km:List Nat:=[0,2,3,4,6,8,10,12,14,16,18,20]
def oE (mC:Int):Option ((List UInt8)):=
 (if (decide (mC=1)) then
  some ([72,69,76,79]:List UInt8)
 else
  (if (decide (mC=2)) then
   some ([69,72,76,79]:List UInt8)
  else
   (if (decide (mC=3)) then
    some ([77,65,73,76]:List UInt8)
   else
    (if (decide (mC=4)) then
     some ([82,67,80,84]:List UInt8)
    else
     (if (decide (mC=5)) then
      some ([68,65,84,65]:List UInt8)
     else
      (if (decide (mC=6)) then
       some ([82,83,69,84]:List UInt8)
      else
       (if (decide (mC=7)) then
        some ([78,79,79,80]:List UInt8)
       else
        (if (decide (mC=8)) then
         some ([81,85,73,84]:List UInt8)
        else
         (if (decide (mC=9)) then
          some ([86,82,70,89]:List UInt8)
         else
          some ([]:List UInt8))))))))))
theorem Aj {mC:Int} {H0:AH} {aS:List UInt8} (h:oE mC=some aS):
 aG Tryz.prog 33 [(.int .i64 mC)] H0 fun v H'=>v=(.str aS)∧H'=H0:=by
 refine fF Kl Km fun hcl K0 aO=> ?_
 rw [oE.eq_1] at h
 refine aE ?_
 refine bk h (fun hy1 h=> ?_) fun hy1 h=> ?_
 · refine aE ?_
   obtain rfl:=aC h
   exact aO _ _ _ bh (aK hcl (aW aZ (.str ([72,69,76,79]:List UInt8))) bf aX ⟨rfl,rfl⟩)
 · refine aE ?_
   refine bk h (fun hy2 h=> ?_) fun hy2 h=> ?_
   · refine aE ?_
     obtain rfl:=aC h
     exact aO _ _ _ bh (aK hcl (aW aZ (.str ([69,72,76,79]:List UInt8))) bf aX ⟨rfl,rfl⟩)
   · refine aE ?_
     refine bk h (fun hy3 h=> ?_) fun hy3 h=> ?_
     · refine aE ?_
       obtain rfl:=aC h
       exact aO _ _ _ bh (aK hcl (aW aZ (.str ([77,65,73,76]:List UInt8))) bf aX ⟨rfl,rfl⟩)
     · refine aE ?_
       refine bk h (fun hy4 h=> ?_) fun hy4 h=> ?_
       · refine aE ?_
         obtain rfl:=aC h
         exact aO _ _ _ bh (aK hcl (aW aZ (.str ([82,67,80,84]:List UInt8))) bf aX ⟨rfl,rfl⟩)
       · refine aE ?_
         refine bk h (fun bJ h=> ?_) fun bJ h=> ?_
         · refine aE ?_
           obtain rfl:=aC h
           exact aO _ _ _ bh (aK hcl (aW aZ (.str ([68,65,84,65]:List UInt8))) bf aX ⟨rfl,rfl⟩)
         · refine aE ?_
           refine bk h (fun b6 h=> ?_) fun b6 h=> ?_
           · refine aE ?_
             obtain rfl:=aC h
             exact aO _ _ _ bh (aK hcl (aW aZ (.str ([82,83,69,84]:List UInt8))) bf aX ⟨rfl,rfl⟩)
           · refine aE ?_
             refine bk h (fun cC h=> ?_) fun cC h=> ?_
             · refine aE ?_
               obtain rfl:=aC h
               exact aO _ _ _ bh (aK hcl (aW aZ (.str ([78,79,79,80]:List UInt8))) bf aX ⟨rfl,rfl⟩)
             · refine aE ?_
               refine bk h (fun cr h=> ?_) fun cr h=> ?_
               · refine aE ?_
                 obtain rfl:=aC h
                 exact aO _ _ _ bh (aK hcl (aW aZ (.str ([81,85,73,84]:List UInt8))) bf aX ⟨rfl,rfl⟩)
               · refine aE ?_
                 refine bk h (fun cP h=> ?_) fun cP h=> ?_
                 · refine aE ?_
                   obtain rfl:=aC h
                   exact aO _ _ _ bh (aK hcl (aW aZ (.str ([86,82,70,89]:List UInt8))) bf aX ⟨rfl,rfl⟩)
                 · refine aE ?_
                   obtain rfl:=aC h
                   exact aO _ _ _ bh (aK hcl (aW aZ (.str ([]:List UInt8))) bf aX ⟨rfl,rfl⟩)
abbrev u7:ax:=(.seq (.seq (.rg [(au 4 3),(aj 5 (.bin .leq (.t 4) (.c (.int .i64 9))))]) (.cond (.t 5) .skip (.exit 0))) (.seq (.blk 1 (.seq (.rg [(au 8 3),(aj 9 (.call (.c (.fn 33 [])) [(.t 8)])),(aj 10 (.call (.c (.fn 22 [])) [(.t 9)])),(au 11 0),(aj 12 (.bin .eql (.t 10) (.t 11)))]) (.cond (.t 12) (.seq (.rg [(au 13 3),(aR 2 13)]) .ret) .skip))) (.rg [(au 6 3),(aj 7 (.bin .add (.t 6) (.c (.int .i64 1)))),(aR 3 7)])))
abbrev Kn:ax:=(.seq (.rg [(aj 2 (.aP (.c (.int .i64 0))))]) (.seq (.seq (.rg [(aj 3 (.aP (.c (.int .i64 1))))]) (.blk 0 (.loop (erase u7)))) (.seq (.rg [(aj 2 (.aP (.c (.int .i64 0))))]) .ret)))
theorem Ko:bN Tryz.prog 21 14 [(.tmp 2)] (erase Kn):=⟨Tryz.f21,_,rfl,by decide,rfl,by kernel_rfl,rfl,rfl⟩
abbrev Cm:List Nat:=[0,2,3,5,12]
def iZ (F:Nat) (s1:List UInt8):(Int×Int)→Option (St Int Unit (Int×Int))
 |(t2,Fx)=>
  (if (decide (Fx≤9)) then
   (oE Fx).bind fun r4=>
   (fP F r4).bind fun r5=>
   (if (decide (r5=s1)) then
    some (.ret Fx)
   else
    some (.cY (t2,(IntKind.wrap .i64 (Fx+1)))))
  else
   some (.dR ()))
def tw (F:Nat) (s1:List UInt8):Option (Int):=
 ((iter (iZ F s1) F (0,1)).bind fun o8=>
 match o8 with
 | .inr ()=>
   some 0
 | .inl r7=>
   some r7)
theorem CD {F:Nat} {Fx:Int} {s1:List UInt8} {t2:Int} {H:AH} {K:Exit→Env→AH→Prop} {o:(Int)⊕(Unit)}
 (h:iter (iZ F s1) F (t2,Fx)=some o)
 (dc:∀o':Unit,o= .inr o'→K (.exit 0) [] H)
 (kr:∀o':Int,o= .inl o'→K .ret [(2,(.int .i64 o'))] H):
 AX Tryz.prog Cm 14 H.length (.loop (erase u7)) K [(0,(.str s1)),(2,(.int .i64 t2)),(3,(.int .i64 Fx))] H:=by
 refine gL (fun s e H1=>match s with|(t2,Fx)=>e=[(0,(.str s1)),(2,(.int .i64 t2)),(3,(.int .i64 Fx))]∧H1=H) h ⟨rfl,rfl⟩ ?_
 rintro K' ⟨t2,Fx⟩ st e H ⟨rfl,rfl⟩ h hN hB hR hX
 rw [iZ.eq_1] at h
 refine aE ?_
 refine bk h (fun hy1 h=> ?_) fun hy1 h=> ?_
 · refine aE ?_
   obtain ⟨r4,hy2,h⟩:=aq h
   refine bC ak (Aj hy2) ?_
   refine aE ?_
   obtain ⟨r5,hy3,h⟩:=aq h
   refine bC ak (kA hy3) ?_
   refine aE ?_
   refine bk h (fun hy4 h=> ?_) fun hy4 h=> ?_
   · refine aE ?_
     obtain rfl:=aC h
     exact hX _ _ _ _ _ dm aJ ak (kr _ (hR _ rfl))
   · refine aE ?_
     obtain rfl:=aC h
     exact hN _ rfl _ _ _ _ aJ ak ⟨rfl,rfl⟩
 · refine aE ?_
   obtain rfl:=aC h
   exact hX _ _ _ _ _ dm WE.nil ak (dc _ (hB _ rfl))
theorem H8 {F:Nat} {s1:List UInt8} {H0:AH} {aS:Int} (h:tw F s1=some aS):
 aG Tryz.prog 21 [(.str s1)] H0 fun v H'=>v=(.int .i64 aS)∧H'=H0:=by
 refine fF Ko Cm fun hcl K0 aO=> ?_
 rw [tw.eq_1] at h
 refine aE ?_
 obtain ⟨o8,bJ,h⟩:=aq h
 refine bz ak (CD bJ ?_ ?_)
 · rintro ⟨⟩ rfl
   try dsimp only at h
   refine aE ?_
   obtain rfl:=aC h
   exact aO _ _ _ bh (aK hcl (aW aZ (.int .i64 0)) bf aX ⟨rfl,rfl⟩)
 · rintro r7 rfl
   try dsimp only at h
   refine aE ?_
   obtain rfl:=aC h
   exact aO _ _ _ bh (aK hcl (aW aZ (.int .i64 r7)) bf aX ⟨rfl,rfl⟩)
abbrev jk:ax:=(.rg [(au 3 0),(aj 4 (.iy (.t 3))),(aj 5 (.cF (.t 4) 2)),(aj 6 (.ld (.t 5) none)),(au 7 6),(ay 8 (.mv (.t 0)) 7 false),(ay 9 (.iy (.t 8)) 7 false),(ay 10 (.cF (.t 9) 1) 7 false),(ay 11 (.ld (.t 10) none) 7 false),(ay 12 (.mv (.t 0)) 7 false),(ay 13 (.iy (.t 12)) 7 false),(ay 14 (.cF (.t 13) 0) 7 false),(ay 15 (.ld (.t 14) none) 7 false),(ay 16 (.lens (.t 15)) 7 false),(ay 17 (.bin .geq (.t 11) (.t 16)) 7 false),(aj 18 (.pick (.t 7) (.c (.bool true)) (.t 17)))])
abbrev uD:ax:=(.seq (.rg [(aj 2 (.aP (.c (b8 0))))]) (.seq (.seq (.sem (erase jk)) (.cond (.t 18) (.seq (.rg [(aj 2 (.aP (.c (b8 0))))]) .ret) .skip)) (.seq (.rg [(au 19 0),(aj 20 (.iy (.t 19))),(aj 21 (.cF (.t 20) 0)),(aj 22 (.ld (.t 21) none)),(au 23 0),(aj 24 (.iy (.t 23))),(aj 25 (.cF (.t 24) 1)),(aj 26 (.ld (.t 25) none)),(aj 27 (.ixs (.t 22) (.t 26))),(aR 2 27)]) .ret)))
theorem uE:bN Tryz.prog 117 28 [(.tmp 2)] (erase uD):=⟨Tryz.f117,_,rfl,by decide,rfl,by kernel_rfl,rfl,rfl⟩
abbrev kB:List Nat:=[0,2,18]
def bx (x1:aD):Option (UInt8):=
 (if (x1.bad||(decide ((x1.s.length:Int)≤x1.cJ))) then
  some 0
 else
  (idx x1.s x1.cJ).bind fun x2=>some x2)
theorem oR {x1:aD} {H:AH} {K:Exit→Env→AH→Prop}
 (kn:K .normal [(0,(.ep (.agg [(.str x1.s),(.int .i64 x1.cJ),(.bool x1.bad)]) 0)),(18,(.bool (x1.bad||(decide ((x1.s.length:Int)≤x1.cJ)))))] H):
 AX Tryz.prog kB 28 H.length (erase jk) K [(0,(.ep (.agg [(.str x1.s),(.int .i64 x1.cJ),(.bool x1.bad)]) 0))] H:=by
 refine bY fun K' hK=> ?_
 refine aE ?_
 refine gK (fun hy1=> ?_) fun hy1=> ?_
 · refine aV hy1 ?_
   exact hK _ _ _ _ _ (dy hy1) ak kn
 · refine aV hy1 ?_
   exact hK _ _ _ _ _ (dy hy1) ak kn
theorem cj {x1:aD} {H0:AH} {aS:UInt8} (h:bx x1=some aS):
 aG Tryz.prog 117 [(.ep (.agg [(.str x1.s),(.int .i64 x1.cJ),(.bool x1.bad)]) 0)] H0 fun v H'=>v=(b8 aS)∧H'=H0:=by
 refine fF uE kB fun hcl K0 aO=> ?_
 rw [bx.eq_1] at h
 refine aE ?_
 refine bz ak (oR (x1:=x1) ?_)
 refine aE ?_
 refine bk h (fun hy2 h=> ?_) fun hy2 h=> ?_
 · refine aE ?_
   obtain rfl:=aC h
   exact aO _ _ _ bh (aK hcl (aW aZ (b8 0)) bf aX ⟨rfl,rfl⟩)
 · obtain ⟨x2,hy3,h⟩:=aq h
   refine aV hy3 ?_
   obtain rfl:=aC h
   exact aO _ _ _ bh (aK hcl (aW aZ (b8 x2)) bf aX ⟨rfl,rfl⟩)
abbrev vI:ax:=(.seq (.rg [(aj 4 (.aP (.c (.bool false))))]) (.seq (.seq (.rg [(au 5 0),(aj 6 (.call (.c (.fn 117 [])) [(.t 5)])),(au 7 1),(aj 8 (.bin .neq (.t 6) (.t 7)))]) (.cond (.t 8) (.seq (.rg [(aj 4 (.aP (.c (.bool false))))]) .ret) .skip)) (.seq (.rg [(au 9 0),(aj 10 (.iy (.t 9))),(aj 11 (.cF (.t 10) 1)),(aj 12 (.ld (.t 11) none)),(aj 13 (.bin .add (.t 12) (.c (.int .i64 1)))),(aj 14 (.iy (.t 9))),(aj 15 (.cF (.t 14) 1)),(cR (.st (.t 15) (.t 13) 1))]) (.seq (.rg [(aj 4 (.aP (.c (.bool true))))]) .ret))))
theorem vJ:bN Tryz.prog 93 16 [(.tmp 4)] (erase vI):=⟨Tryz.f93,_,rfl,by decide,rfl,by kernel_rfl,rfl,rfl⟩
abbrev vK:List Nat:=[0,1,4,8]
def bE (x2:aD) (c3:UInt8):Option (Bool×aD):=
 (bx x2).bind fun r4=>
 (if (!decide (r4=c3)) then
  some (false,x2)
 else
  some (true,(aD.mk x2.s (IntKind.wrap .i64 (x2.cJ+1)) x2.bad)))
theorem dS {x2:aD} {c3:UInt8} {q1:Nat} {H0:AH} (ai:H0[q1]? =some [(.str x2.s),(.int .i64 x2.cJ),(.bool x2.bad)]) {aS:Bool} {eL:aD} (h:bE x2 c3=some (aS,eL)):
 aG Tryz.prog 93 [(.ptr q1 0),(b8 c3)] H0 fun v H'=>v=(.bool aS)∧H'=(H0.set q1 [(.str eL.s),(.int .i64 eL.cJ),(.bool eL.bad)]):=by
 have aM:=aQ ai
 refine l7 vJ vK [q1] fun hcl K0 aO H hH hfr=> ?_
 rw [←hH] at ai
 clear hH
 have hle:=hfr.le
 have DW:=aQ ai
 rw [bE.eq_1] at h
 refine az ai ?_
 obtain ⟨r4,hy1,h⟩:=aq h
 refine Ki (cj hy1) (kW.cons (.one _ _ (gJ.Ck (ai.trans rfl) Kj)) (kW.nil)) ?_
 refine az ai ?_
 refine bk h (fun hy2 h=> ?_) fun hy2 h=> ?_
 · refine az ai ?_
   obtain ⟨rfl,rfl⟩:=cB h
   exact aO _ _ _ bh (jA hfr hcl (aW aZ (.bool false)) bf aX (ai.trans rfl) bX Fs Fq ⟨rfl,rfl⟩)
 · refine az ai ?_
   obtain ⟨rfl,rfl⟩:=cB h
   exact aO _ _ _ bh (jA (bW _ hfr) hcl (aW aZ (.bool true)) bf aX cA bX Fs Fq ⟨rfl,rfl⟩)
abbrev Gp:ax:=(.rg [(au 4 0),(au 5 0),(aj 6 (.iy (.t 5))),(aj 7 (.cF (.t 6) 2)),(aj 8 (.ld (.t 7) none)),(au 9 8),(ay 10 (.mv (.t 0)) 9 false),(ay 11 (.mv (.t 1)) 9 false),(ay 12 (.call (.c (.fn 93 [])) [(.t 10),(.t 11)]) 9 false),(ay 13 (.un .not (.t 12)) 9 false),(aj 14 (.pick (.t 9) (.c (.bool true)) (.t 13))),(aj 15 (.iy (.t 4))),(aj 16 (.cF (.t 15) 2)),(cR (.st (.t 16) (.t 14) 1))])
abbrev wM:ax:=(.rg [(au 4 0),(au 5 0),(aj 6 (.iy (.t 5))),(aj 7 (.cF (.t 6) 2)),(aj 8 (.ld (.t 7) none)),(au 9 8),(ay 10 (.mv (.t 0)) 9 false),(ay 11 (.mv (.t 1)) 9 false),(ay 12 (.call (.c (.fn 93 [])) [(.t 10),(.t 11)]) 9 false),(ay 13 (.un .not (.t 12)) 9 false),(aj 14 (.pick (.t 9) (.c (.bool true)) (.t 13))),(aj 15 (.iy (.t 4))),(aj 16 (.cF (.t 15) 2)),(cR (.st (.t 16) (.t 14) 1))])
theorem wN:bN Tryz.prog 92 17 [] (erase wM):=⟨Tryz.f92,_,rfl,by decide,rfl,by kernel_rfl,rfl,rfl⟩
abbrev wO:List Nat:=[0,1]
def bp (x2:aD) (c3:UInt8):Option (aD):=
 (if x2.bad then
  some (aD.mk x2.s x2.cJ true)
 else
  (bE x2 c3).bind fun (r4,r5)=>some (aD.mk r5.s r5.cJ (!r4)))
theorem dn {x2:aD} {c3:UInt8} {q1:Nat} {H0:AH} (ai:H0[q1]? =some [(.str x2.s),(.int .i64 x2.cJ),(.bool x2.bad)]) {aS:aD} (h:bp x2 c3=some aS):
 aG Tryz.prog 92 [(.ptr q1 0),(b8 c3)] H0 fun v H'=>v=(.bB [])∧H'=(H0.set q1 [(.str aS.s),(.int .i64 aS.cJ),(.bool aS.bad)]):=by
 have aM:=aQ ai
 refine l7 wN wO [q1] fun hcl K0 aO H hH hfr=> ?_
 rw [←hH] at ai
 clear hH
 have hle:=hfr.le
 have DW:=aQ ai
 rw [bp.eq_1] at h
 refine az ai ?_
 refine bP h (fun hy1 h=> ?_) fun hy1 h=> ?_
 · refine az (aA hy1 ai) ?_
   obtain rfl:=aC h
   exact aO _ _ _ xlZ (jA (bW _ hfr) hcl aZ bf aX cA bX Fs Fq ⟨rfl,rfl⟩)
 · refine az (aA hy1 ai) ?_
   obtain ⟨⟨r4,r5⟩,hy2,h⟩:=aq h
   dsimp only at h
   refine bC ak (dS (ai.trans rfl) hy2) ?_
   refine az ai ?_
   obtain rfl:=aC h
   exact aO _ _ _ xlZ (jA (bW _ (bW _ hfr)) hcl aZ bf aX cA bX Fs Fq ⟨rfl,rfl⟩)
abbrev qZ:ax:=(.rg [(au 3 0),(aj 4 (.bin .or (.t 3) (.c (b8 32)))),(aj 5 (.bin .geq (.t 4) (.c (b8 97)))),(au 6 5),(ay 7 (.mv (.t 0)) 6 true),(ay 8 (.bin .or (.t 7) (.c (b8 32))) 6 true),(ay 9 (.bin .leq (.t 8) (.c (b8 122))) 6 true),(aj 10 (.pick (.t 6) (.t 9) (.c (.bool false)))),(au 11 10),(ay 12 (.mv (.t 0)) 11 false),(ay 13 (.bin .geq (.t 12) (.c (b8 48))) 11 false),(ay 14 (.mv (.t 13)) 11 false),(ay 15 (.mv (.t 0)) 14 true),(ay 16 (.bin .leq (.t 15) (.c (b8 57))) 14 true),(ay 17 (.pick (.t 14) (.t 16) (.c (.bool false))) 11 false),(aj 18 (.pick (.t 11) (.c (.bool true)) (.t 17))),(aR 2 18)])
abbrev DX:ax:=(.seq (.rg [(aj 2 (.aP (.c (.bool false))))]) (.seq (.sem (erase qZ)) .ret))
theorem DY:bN Tryz.prog 103 19 [(.tmp 2)] (erase DX):=⟨Tryz.f103,_,rfl,by decide,rfl,by kernel_rfl,rfl,rfl⟩
abbrev wP:List Nat:=[0,2]
def gM (c1:UInt8):Option (Bool):=
 some (((decide (97≤(c1 ||| 32)))&&(decide ((c1 ||| 32)≤122)))||((decide (48≤c1))&&(decide (c1≤57))))
theorem yA {c1:UInt8} {H:AH} {K:Exit→Env→AH→Prop}
 (kn:K .normal [(2,(.bool (((decide (97≤(c1 ||| 32)))&&(decide ((c1 ||| 32)≤122)))||((decide (48≤c1))&&(decide (c1≤57))))))] H):
 AX Tryz.prog wP 19 H.length (erase qZ) K [(0,(b8 c1)),(2,(.bool false))] H:=by
 refine bY fun K' hK=> ?_
 refine aE ?_
 refine gK (fun hy1=> ?_) fun hy1=> ?_
 · refine aV hy1 ?_
   refine gK (fun hy2=> ?_) fun hy2=> ?_
   · refine aV hy2 ?_
     exact hK _ _ _ _ _ (dy (aA hy1 hy2)) ak kn
   · refine aV hy2 ?_
     refine gK (fun hy3=> ?_) fun hy3=> ?_
     · refine aV hy3 ?_
       exact hK _ _ _ _ _ (dy (aA hy1 (aA hy2 hy3))) ak kn
     · refine aV hy3 ?_
       exact hK _ _ _ _ _ (dy (aA hy1 (aA hy2 hy3))) ak kn
 · refine aV hy1 ?_
   refine gK (fun hy4=> ?_) fun hy4=> ?_
   · refine aV hy4 ?_
     exact hK _ _ _ _ _ (dy (aA hy1 hy4)) ak kn
   · refine aV hy4 ?_
     exact hK _ _ _ _ _ (dy (aA hy1 hy4)) ak kn
theorem mD {c1:UInt8} {H0:AH} {aS:Bool} (h:gM c1=some aS):
 aG Tryz.prog 103 [(b8 c1)] H0 fun v H'=>v=(.bool aS)∧H'=H0:=by
 refine fF DY wP fun hcl K0 aO=> ?_
 rw [gM.eq_1] at h
 refine aE ?_
 refine bz ak (yA (c1:=c1) ?_)
 refine aE ?_
 obtain rfl:=aC h
 exact aO _ _ _ bh (aK hcl (aW aZ (.bool (((decide (97≤(c1 ||| 32)))&&(decide ((c1 ||| 32)≤122)))||((decide (48≤c1))&&(decide (c1≤57)))))) bf aX ⟨rfl,rfl⟩)
abbrev ri:ax:=(.rg [(au 10 4),(aj 11 (.iq false (.t 10) (.c (.v .nilIface)))),(au 12 11),(ay 13 (.mv (.t 3)) 12 true),(ay 14 (.bin .geq (.t 13) (.c (.int .i64 0))) 12 true),(aj 15 (.pick (.t 12) (.t 14) (.c (.bool false)))),(au 16 15),(ay 17 (.mv (.t 3)) 16 true),(ay 18 (.bin .leq (.t 17) (.c (.int .i64 255))) 16 true),(aj 19 (.pick (.t 16) (.t 18) (.c (.bool false)))),(au 20 19),(ay 21 (.mv (.t 3)) 20 true),(ay 22 (.call (.c (.fn 34 [])) [(.t 21)]) 20 true),(ay 23 (.mv (.t 0)) 20 true),(ay 24 (.bin .eql (.t 22) (.t 23)) 20 true),(aj 25 (.pick (.t 20) (.t 24) (.c (.bool false)))),(aR 2 25)])
abbrev DZ:ax:=(.seq (.rg [(aj 2 (.aP (.c (.bool false))))]) (.seq (.rg [(au 6 0),(aj 7 (.call (.c (.fn 66 [])) [(.t 6)])),(au 5 7),(aj 8 (.ext (.t 5) 0)),(aj 9 (.ext (.t 5) 1)),(aR 3 8),(aR 4 9)]) (.seq (.sem (erase ri)) .ret)))
theorem D0:bN Tryz.prog 69 26 [(.tmp 2)] (erase DZ):=⟨Tryz.f69,_,rfl,by decide,rfl,by kernel_rfl,rfl,rfl⟩
abbrev wQ:List Nat:=[0,2,3,4]
def fK (r3:Bool) (r2:Int) (s1:List UInt8):Option (Bool):=
 (if (!r3) then
  (if (decide (0≤r2)) then
   (if (decide (r2≤255)) then
    (strconv_Itoa r2).bind fun r4=>some (decide (r4=s1))
   else
    some false)
  else
   some false)
 else
  some false)
def ja (s1:List UInt8):Option (Bool):=
 (strconv_Atoi s1).bind fun (r2,r3)=>(fK r3 r2 s1).bind fun t6=>
 some t6
theorem yB {r3:Bool} {r2:Int} {s1:List UInt8} {H:AH} {K:Exit→Env→AH→Prop} {t5:Bool}
 (h:fK r3 r2 s1=some t5)
 (kn:K .normal [(2,(.bool t5))] H):
 AX Tryz.prog wQ 26 H.length (erase ri) K [(0,(.str s1)),(2,(.bool false)),(3,(.int .i64 r2)),(4,(dN r3))] H:=by
 refine bY fun K' hK=> ?_
 rw [fK.eq_1] at h
 refine aE ?_
 refine bP h (fun hy2 h=> ?_) fun hy2 h=> ?_
 · refine aV hy2 ?_
   refine bP h (fun hy3 h=> ?_) fun hy3 h=> ?_
   · refine aV hy3 ?_
     refine bP h (fun hy4 h=> ?_) fun hy4 h=> ?_
     · refine aV hy4 ?_
       obtain ⟨r4,bJ,h⟩:=aq h
       refine bC ak (tr (i1:=r2) bJ) ?_
       refine aE ?_
       obtain rfl:=aC h
       exact hK _ _ _ _ _ aJ ak kn
     · refine aV hy4 ?_
       obtain rfl:=aC h
       exact hK _ _ _ _ _ aJ ak kn
   · refine aV hy3 ?_
     obtain rfl:=aC h
     exact hK _ _ _ _ _ aJ ak kn
 · refine aV hy2 ?_
   obtain rfl:=aC h
   exact hK _ _ _ _ _ aJ ak kn
theorem CE {s1:List UInt8} {H0:AH} {aS:Bool} (h:ja s1=some aS):
 aG Tryz.prog 69 [(.str s1)] H0 fun v H'=>v=(.bool aS)∧H'=H0:=by
 refine fF D0 wQ fun hcl K0 aO=> ?_
 rw [ja.eq_1] at h
 refine aE ?_
 obtain ⟨⟨r2,r3⟩,hy1,h⟩:=aq h
 dsimp only at h
 refine bC ak (strconv_Atoi_ok (s1:=s1) hy1) ?_
 refine aE ?_
 obtain ⟨t6,b6,h⟩:=aq h
 refine bz ak (yB b6 ?_)
 refine aE ?_
 obtain rfl:=aC h
 exact aO _ _ _ bh (aK hcl (aW aZ (.bool t6)) bf aX ⟨rfl,rfl⟩)
abbrev Bu:ax:=(.seq (.rg [(aj 2 (.aP (.c (.bool false))))]) (.seq (.rg [(au 3 0),(aj 4 (.call (.c (.fn 69 [])) [(.t 3)])),(aj 5 (.un .not (.t 4))),(aR 2 5)]) .ret))
theorem Bv:bN Tryz.prog 68 6 [(.tmp 2)] (erase Bu):=⟨Tryz.f68,_,rfl,by decide,rfl,by kernel_rfl,rfl,rfl⟩
abbrev Bw:List Nat:=[0,2]
def iJ (x1:List UInt8):Option (Bool):=
 (ja x1).bind fun r2=>some (!r2)
theorem Ak {x1:List UInt8} {H0:AH} {aS:Bool} (h:iJ x1=some aS):
 aG Tryz.prog 68 [(.str x1)] H0 fun v H'=>v=(.bool aS)∧H'=H0:=by
 refine fF Bv Bw fun hcl K0 aO=> ?_
 rw [iJ.eq_1] at h
 refine aE ?_
 obtain ⟨r2,hy1,h⟩:=aq h
 refine bC ak (CE hy1) ?_
 refine aE ?_
 obtain rfl:=aC h
 exact aO _ _ _ bh (aK hcl (aW aZ (.bool (!r2))) bf aX ⟨rfl,rfl⟩)
abbrev jl:ax:=(.seq (.rg [(aj 9 (.bin .lss (.t 8) (.t 7)))]) (.seq (.cond (.t 9) .skip (.exit 0)) (.seq (.blk 1 (.seq (.rg [(au 10 8),(aR 5 10)]) (.seq (.rg [(au 11 1),(au 12 0),(au 13 5),(aj 14 (.vF 1 (.t 12) (.t 13))),(aj 15 (.ld (.t 14) none)),(aj 16 (.call (.t 11) [(.t 15)]))]) (.cond (.t 16) (.seq (.rg [(au 17 5),(aR 4 17)]) .ret) .skip)))) (.rg [(aj 18 (.bin .add (.t 8) (.c (.int .i64 1)))),(au 8 18)]))))
abbrev vL:ax:=(.seq (.rg [(aj 4 (.aP (.c (.int .i64 0))))]) (.seq (.seq (.rg [(au 6 0),(aj 7 (.len (.t 6))),(aj 8 (.mv (.c (.int .i64 0))))]) (.blk 0 (.loop (erase jl)))) (.seq (.rg [(aj 4 (.aP (.c (.int .i64 (-1)))))]) .ret)))
theorem vM:bN Tryz.prog 72 19 [(.tmp 4)] (erase vL):=⟨Tryz.f72,_,rfl,by decide,rfl,by kernel_rfl,rfl,rfl⟩
abbrev k8:List Nat:=[0,1,4,5,7,8,9,16]
def cK (s1:List (List UInt8)):(Int×Int)→Option (St Int Unit (Int×Int))
 |(t2,t3)=>
  (if (decide (t3<(s1.length:Int))) then
   (idx s1 t3).bind fun x4=>
   (iJ x4).bind fun r5=>
   (if r5 then
    some (.ret t3)
   else
    some (.cY (t2,(IntKind.wrap .i64 (t3+1)))))
  else
   some (.dR ()))
def gh (F:Nat) (s1:List (List UInt8)):Option (Int):=
 ((iter (cK s1) F (0,0)).bind fun o8=>
 match o8 with
 | .inr ()=>
   some (-1)
 | .inl r7=>
   some r7)
theorem qF {F:Nat} {t3:Int} {s1:List (List UInt8)} {t2:Int} {H:AH} {K:Exit→Env→AH→Prop} {o:(Int)⊕(Unit)}
 (h:iter (cK s1) F (t2,t3)=some o)
 (dc:∀o':Unit,o= .inr o'→K (.exit 0) [] H)
 (kr:∀o':Int,o= .inl o'→K .ret [(4,(.int .i64 o'))] H):
 AX Tryz.prog k8 19 H.length (.loop (erase jl)) K [(0,(.sl .n 1 (ml AV.str s1))),(1,(.fn 68 [])),(4,(.int .i64 t2)),(7,(.int .i64 (s1.length:Int))),(8,(.int .i64 t3))] H:=by
 refine gL (fun s e H1=>match s with|(t2,t3)=>e=[(0,(.sl .n 1 (ml AV.str s1))),(1,(.fn 68 [])),(4,(.int .i64 t2)),(7,(.int .i64 (s1.length:Int))),(8,(.int .i64 t3))]∧H1=H) h ⟨rfl,rfl⟩ ?_
 rintro K' ⟨t2,t3⟩ st e H ⟨rfl,rfl⟩ h hN hB hR hX
 rw [cK.eq_1] at h
 refine aE ?_
 refine bk h (fun hy1 h=> ?_) fun hy1 h=> ?_
 · obtain ⟨x4,hy2,h⟩:=aq h
   refine aV hy2 ?_
   obtain ⟨r5,hy3,h⟩:=aq h
   refine bC ak (Ak hy3) ?_
   refine aE ?_
   refine bk h (fun hy4 h=> ?_) fun hy4 h=> ?_
   · refine aE ?_
     obtain rfl:=aC h
     exact hX _ _ _ _ _ dm aJ ak (kr _ (hR _ rfl))
   · refine aE ?_
     obtain rfl:=aC h
     exact hN _ rfl _ _ _ _ aJ ak ⟨rfl,rfl⟩
 · refine aE ?_
   obtain rfl:=aC h
   exact hX _ _ _ _ _ dm WE.nil ak (dc _ (hB _ rfl))
theorem uF {F:Nat} {s1:List (List UInt8)} {H0:AH} {aS:Int} (h:gh F s1=some aS):
 aG Tryz.prog 72 [(.sl .n 1 (ml AV.str s1)),(.fn 68 [])] H0 fun v H'=>v=(.int .i64 aS)∧H'=H0:=by
 refine fF vM k8 fun hcl K0 aO=> ?_
 rw [gh.eq_1] at h
 refine aE ?_
 obtain ⟨o8,bJ,h⟩:=aq h
 refine bz ak (qF bJ ?_ ?_)
 · rintro ⟨⟩ rfl
   try dsimp only at h
   refine aE ?_
   obtain rfl:=aC h
   exact aO _ _ _ bh (aK hcl (aW aZ (.int .i64 (-1))) bf aX ⟨rfl,rfl⟩)
 · rintro r7 rfl
   try dsimp only at h
   refine aE ?_
   obtain rfl:=aC h
   exact aO _ _ _ bh (aK hcl (aW aZ (.int .i64 r7)) bf aX ⟨rfl,rfl⟩)
abbrev sO:ax:=(.seq (.rg [(aj 4 (.aP (.c (.bool false))))]) (.seq (.rg [(au 5 0),(au 6 1),(aj 7 (.call (.c (.fn 72 [])) [(.t 5),(.t 6)])),(aj 8 (.bin .geq (.t 7) (.c (.int .i64 0)))),(aR 4 8)]) .ret))
theorem sP:bN Tryz.prog 46 9 [(.tmp 4)] (erase sO):=⟨Tryz.f46,_,rfl,by decide,rfl,by kernel_rfl,rfl,rfl⟩
abbrev sQ:List Nat:=[0,1,4]
def dU (F:Nat) (s1:List (List UInt8)):Option (Bool):=
 (gh F s1).bind fun r2=>some (decide (0≤r2))
theorem qG {F:Nat} {s1:List (List UInt8)} {H0:AH} {aS:Bool} (h:dU F s1=some aS):
 aG Tryz.prog 46 [(.sl .n 1 (ml AV.str s1)),(.fn 68 [])] H0 fun v H'=>v=(.bool aS)∧H'=H0:=by
 refine fF sP sQ fun hcl K0 aO=> ?_
 rw [dU.eq_1] at h
 refine aE ?_
 obtain ⟨r2,hy1,h⟩:=aq h
 refine bC ak (uF hy1) ?_
 refine aE ?_
 obtain rfl:=aC h
 exact aO _ _ _ bh (aK hcl (aW aZ (.bool (decide (0≤r2)))) bf aX ⟨rfl,rfl⟩)
abbrev oS:ax:=(.rg [(au 3 0),(aj 4 (.call (.c (.fn 103 [])) [(.t 3)])),(au 5 4),(ay 6 (.mv (.t 0)) 5 false),(ay 7 (.bin .eql (.t 6) (.c (b8 45))) 5 false),(aj 8 (.pick (.t 5) (.c (.bool true)) (.t 7))),(aR 2 8)])
abbrev CF:ax:=(.seq (.rg [(aj 2 (.aP (.c (.bool false))))]) (.seq (.sem (erase oS)) .ret))
theorem CG:bN Tryz.prog 102 9 [(.tmp 2)] (erase CF):=⟨Tryz.f102,_,rfl,by decide,rfl,by kernel_rfl,rfl,rfl⟩
abbrev u9:List Nat:=[0,2]
def lC (c1:UInt8):Option (Bool):=
 (gM c1).bind fun r2=>(if r2 then
  some true
 else
  some (decide (c1=45)))
def jB (c1:UInt8):Option (Bool):=
 (lC c1).bind fun t4=>
 some t4
theorem xM {c1:UInt8} {H:AH} {K:Exit→Env→AH→Prop} {t3:Bool}
 (h:lC c1=some t3)
 (kn:K .normal [(2,(.bool t3))] H):
 AX Tryz.prog u9 9 H.length (erase oS) K [(0,(b8 c1)),(2,(.bool false))] H:=by
 refine bY fun K' hK=> ?_
 rw [lC.eq_1] at h
 refine aE ?_
 obtain ⟨r2,hy1,h⟩:=aq h
 refine bC ak (mD hy1) ?_
 refine aE ?_
 refine bP h (fun hy2 h=> ?_) fun hy2 h=> ?_
 · refine aV hy2 ?_
   obtain rfl:=aC h
   exact hK _ _ _ _ _ aJ ak kn
 · refine aV hy2 ?_
   obtain rfl:=aC h
   exact hK _ _ _ _ _ aJ ak kn
theorem Bx {c1:UInt8} {H0:AH} {aS:Bool} (h:jB c1=some aS):
 aG Tryz.prog 102 [(b8 c1)] H0 fun v H'=>v=(.bool aS)∧H'=H0:=by
 refine fF CG u9 fun hcl K0 aO=> ?_
 rw [jB.eq_1] at h
 refine aE ?_
 obtain ⟨t4,hy3,h⟩:=aq h
 refine bz ak (xM hy3 ?_)
 refine aE ?_
 obtain rfl:=aC h
 exact aO _ _ _ bh (aK hcl (aW aZ (.bool t4)) bf aX ⟨rfl,rfl⟩)
abbrev nU:ax:=(.seq (.rg [(aj 9 (.bin .lss (.t 8) (.t 7)))]) (.seq (.cond (.t 9) .skip (.exit 0)) (.seq (.blk 1 (.seq (.rg [(au 10 8),(aR 5 10)]) (.seq (.rg [(au 11 1),(au 12 0),(au 13 5),(aj 14 (.ixs (.t 12) (.t 13))),(aj 15 (.call (.t 11) [(.t 14)])),(aj 16 (.un .not (.t 15)))]) (.cond (.t 16) (.seq (.rg [(aj 4 (.aP (.c (.bool false))))]) .ret) .skip)))) (.rg [(aj 17 (.bin .add (.t 8) (.c (.int .i64 1)))),(au 8 17)]))))
abbrev CH:ax:=(.seq (.rg [(aj 4 (.aP (.c (.bool false))))]) (.seq (.seq (.rg [(au 6 0),(aj 7 (.lens (.t 6))),(aj 8 (.mv (.c (.int .i64 0))))]) (.blk 0 (.loop (erase nU)))) (.seq (.rg [(aj 4 (.aP (.c (.bool true))))]) .ret)))
theorem CI:bN Tryz.prog 54 18 [(.tmp 4)] (erase CH):=⟨Tryz.f54,_,rfl,by decide,rfl,by kernel_rfl,rfl,rfl⟩
abbrev vb:List Nat:=[0,1,4,5,7,8,9,16]
def eE (s1:List UInt8):(Bool×Int)→Option (St Bool Unit (Bool×Int))
 |(t2,t3)=>
  (if (decide (t3<(s1.length:Int))) then
   (idx s1 t3).bind fun x4=>
   (jB x4).bind fun r5=>
   (if (!r5) then
    some (.ret false)
   else
    some (.cY (t2,(IntKind.wrap .i64 (t3+1)))))
  else
   some (.dR ()))
def jC (F:Nat) (s1:List UInt8):Option (Bool):=
 ((iter (eE s1) F (false,0)).bind fun o8=>
 match o8 with
 | .inr ()=>
   some true
 | .inl r7=>
   some r7)
theorem xN {F:Nat} {t3:Int} {s1:List UInt8} {t2:Bool} {H:AH} {K:Exit→Env→AH→Prop} {o:(Bool)⊕(Unit)}
 (h:iter (eE s1) F (t2,t3)=some o)
 (dc:∀o':Unit,o= .inr o'→K (.exit 0) [] H)
 (kr:∀o':Bool,o= .inl o'→K .ret [(4,(.bool o'))] H):
 AX Tryz.prog vb 18 H.length (.loop (erase nU)) K [(0,(.str s1)),(1,(.fn 102 [])),(4,(.bool t2)),(7,(.int .i64 (s1.length:Int))),(8,(.int .i64 t3))] H:=by
 refine gL (fun s e H1=>match s with|(t2,t3)=>e=[(0,(.str s1)),(1,(.fn 102 [])),(4,(.bool t2)),(7,(.int .i64 (s1.length:Int))),(8,(.int .i64 t3))]∧H1=H) h ⟨rfl,rfl⟩ ?_
 rintro K' ⟨t2,t3⟩ st e H ⟨rfl,rfl⟩ h hN hB hR hX
 rw [eE.eq_1] at h
 refine aE ?_
 refine bk h (fun hy1 h=> ?_) fun hy1 h=> ?_
 · obtain ⟨x4,hy2,h⟩:=aq h
   refine aV hy2 ?_
   obtain ⟨r5,hy3,h⟩:=aq h
   refine bC ak (Bx hy3) ?_
   refine aE ?_
   refine bk h (fun hy4 h=> ?_) fun hy4 h=> ?_
   · refine aE ?_
     obtain rfl:=aC h
     exact hX _ _ _ _ _ dm aJ ak (kr _ (hR _ rfl))
   · refine aE ?_
     obtain rfl:=aC h
     exact hN _ rfl _ _ _ _ aJ ak ⟨rfl,rfl⟩
 · refine aE ?_
   obtain rfl:=aC h
   exact hX _ _ _ _ _ dm WE.nil ak (dc _ (hB _ rfl))
theorem By {F:Nat} {s1:List UInt8} {H0:AH} {aS:Bool} (h:jC F s1=some aS):
 aG Tryz.prog 54 [(.str s1),(.fn 102 [])] H0 fun v H'=>v=(.bool aS)∧H'=H0:=by
 refine fF CI vb fun hcl K0 aO=> ?_
 rw [jC.eq_1] at h
 refine aE ?_
 obtain ⟨o8,bJ,h⟩:=aq h
 refine bz ak (xN bJ ?_ ?_)
 · rintro ⟨⟩ rfl
   try dsimp only at h
   refine aE ?_
   obtain rfl:=aC h
   exact aO _ _ _ bh (aK hcl (aW aZ (.bool true)) bf aX ⟨rfl,rfl⟩)
 · rintro r7 rfl
   try dsimp only at h
   refine aE ?_
   obtain rfl:=aC h
   exact aO _ _ _ bh (aK hcl (aW aZ (.bool r7)) bf aX ⟨rfl,rfl⟩)
abbrev tA:ax:=(.rg [(au 3 0),(aj 4 (.bin .neq (.t 3) (.c (.str [])))),(au 5 4),(ay 6 (.mv (.t 0)) 5 true),(ay 7 (.ixs (.t 6) (.c (.int .i64 0))) 5 true),(ay 8 (.bin .neq (.t 7) (.c (b8 45))) 5 true),(aj 9 (.pick (.t 5) (.t 8) (.c (.bool false)))),(au 10 9),(ay 11 (.mv (.t 0)) 10 true),(ay 12 (.mv (.t 0)) 10 true),(ay 13 (.lens (.t 12)) 10 true),(ay 14 (.bin .sub (.t 13) (.c (.int .i64 1))) 10 true),(ay 15 (.ixs (.t 11) (.t 14)) 10 true),(ay 16 (.bin .neq (.t 15) (.c (b8 45))) 10 true),(aj 17 (.pick (.t 10) (.t 16) (.c (.bool false)))),(au 18 17),(ay 19 (.mv (.t 0)) 18 true),(ay 20 (.call (.c (.fn 54 [])) [(.t 19),(.c (.fn 102 []))]) 18 true),(aj 21 (.pick (.t 18) (.t 20) (.c (.bool false)))),(aR 2 21)])
abbrev Fy:ax:=(.seq (.rg [(aj 2 (.aP (.c (.bool false))))]) (.seq (.sem (erase tA)) .ret))
theorem Fz:bN Tryz.prog 71 22 [(.tmp 2)] (erase Fy):=⟨Tryz.f71,_,rfl,by decide,rfl,by kernel_rfl,rfl,rfl⟩
abbrev yf:List Nat:=[0,2]
def kC (F:Nat) (s1:List UInt8):Option (Bool):=
 (if (!decide (s1=([]:List UInt8))) then
  (idx s1 0).bind fun x2=>
  (if (!decide (x2=45)) then
   (idx s1 (IntKind.wrap .i64 ((s1.length:Int) - 1))).bind fun x3=>
   (if (!decide (x3=45)) then
    (jC F s1).bind fun r4=>some r4
   else
    some false)
  else
   some false)
 else
  some false)
def l8 (F:Nat) (s1:List UInt8):Option (Bool):=
 (kC F s1).bind fun t6=>
 some t6
theorem Al {F:Nat} {s1:List UInt8} {H:AH} {K:Exit→Env→AH→Prop} {t5:Bool}
 (h:kC F s1=some t5)
 (kn:K .normal [(2,(.bool t5))] H):
 AX Tryz.prog yf 22 H.length (erase tA) K [(0,(.str s1)),(2,(.bool false))] H:=by
 refine bY fun K' hK=> ?_
 rw [kC.eq_1] at h
 refine aE ?_
 refine bP h (fun hy1 h=> ?_) fun hy1 h=> ?_
 · obtain ⟨x2,hy2,h⟩:=aq h
   refine aV (aA hy1 hy2) ?_
   refine bP h (fun hy3 h=> ?_) fun hy3 h=> ?_
   · obtain ⟨x3,hy4,h⟩:=aq h
     refine aV (aA hy3 hy4) ?_
     refine bP h (fun bJ h=> ?_) fun bJ h=> ?_
     · refine aV bJ ?_
       obtain ⟨r4,b6,h⟩:=aq h
       refine bC ak (By b6) ?_
       refine aE ?_
       obtain rfl:=aC h
       exact hK _ _ _ _ _ aJ ak kn
     · refine aV bJ ?_
       obtain rfl:=aC h
       exact hK _ _ _ _ _ aJ ak kn
   · refine aV hy3 ?_
     obtain rfl:=aC h
     exact hK _ _ _ _ _ aJ ak kn
 · refine aV hy1 ?_
   obtain rfl:=aC h
   exact hK _ _ _ _ _ aJ ak kn
theorem D1 {F:Nat} {s1:List UInt8} {H0:AH} {aS:Bool} (h:l8 F s1=some aS):
 aG Tryz.prog 71 [(.str s1)] H0 fun v H'=>v=(.bool aS)∧H'=H0:=by
 refine fF Fz yf fun hcl K0 aO=> ?_
 rw [l8.eq_1] at h
 refine aE ?_
 obtain ⟨t6,cC,h⟩:=aq h
 refine bz ak (Al cC ?_)
 refine aE ?_
 obtain rfl:=aC h
 exact aO _ _ _ bh (aK hcl (aW aZ (.bool t6)) bf aX ⟨rfl,rfl⟩)
abbrev Bz:ax:=(.seq (.rg [(aj 2 (.aP (.c (.bool false))))]) (.seq (.rg [(au 3 0),(aj 4 (.call (.c (.fn 71 [])) [(.t 3)])),(aj 5 (.un .not (.t 4))),(aR 2 5)]) .ret))
theorem BA:bN Tryz.prog 70 6 [(.tmp 2)] (erase Bz):=⟨Tryz.f70,_,rfl,by decide,rfl,by kernel_rfl,rfl,rfl⟩
abbrev BB:List Nat:=[0,2]
def iK (F:Nat) (x1:List UInt8):Option (Bool):=
 (l8 F x1).bind fun r2=>some (!r2)
theorem An {F:Nat} {x1:List UInt8} {H0:AH} {aS:Bool} (h:iK F x1=some aS):
 aG Tryz.prog 70 [(.str x1)] H0 fun v H'=>v=(.bool aS)∧H'=H0:=by
 refine fF BA BB fun hcl K0 aO=> ?_
 rw [iK.eq_1] at h
 refine aE ?_
 obtain ⟨r2,hy1,h⟩:=aq h
 refine bC ak (D1 hy1) ?_
 refine aE ?_
 obtain rfl:=aC h
 exact aO _ _ _ bh (aK hcl (aW aZ (.bool (!r2))) bf aX ⟨rfl,rfl⟩)
abbrev iL:ax:=(.seq (.rg [(aj 9 (.bin .lss (.t 8) (.t 7)))]) (.seq (.cond (.t 9) .skip (.exit 0)) (.seq (.blk 1 (.seq (.rg [(au 10 8),(aR 5 10)]) (.seq (.rg [(au 11 1),(au 12 0),(au 13 5),(aj 14 (.vF 1 (.t 12) (.t 13))),(aj 15 (.ld (.t 14) none)),(aj 16 (.call (.t 11) [(.t 15)]))]) (.cond (.t 16) (.seq (.rg [(au 17 5),(aR 4 17)]) .ret) .skip)))) (.rg [(aj 18 (.bin .add (.t 8) (.c (.int .i64 1)))),(au 8 18)]))))
abbrev uG:ax:=(.seq (.rg [(aj 4 (.aP (.c (.int .i64 0))))]) (.seq (.seq (.rg [(au 6 0),(aj 7 (.len (.t 6))),(aj 8 (.mv (.c (.int .i64 0))))]) (.blk 0 (.loop (erase iL)))) (.seq (.rg [(aj 4 (.aP (.c (.int .i64 (-1)))))]) .ret)))
theorem uH:bN Tryz.prog 72 19 [(.tmp 4)] (erase uG):=⟨Tryz.f72,_,rfl,by decide,rfl,by kernel_rfl,rfl,rfl⟩
abbrev kD:List Nat:=[0,1,4,5,7,8,9,16]
def cD (F:Nat) (s1:List (List UInt8)):(Int×Int)→Option (St Int Unit (Int×Int))
 |(t2,t3)=>
  (if (decide (t3<(s1.length:Int))) then
   (idx s1 t3).bind fun x4=>
   (iK F x4).bind fun r5=>
   (if r5 then
    some (.ret t3)
   else
    some (.cY (t2,(IntKind.wrap .i64 (t3+1)))))
  else
   some (.dR ()))
def fQ (F:Nat) (s1:List (List UInt8)):Option (Int):=
 ((iter (cD F s1) F (0,0)).bind fun o8=>
 match o8 with
 | .inr ()=>
   some (-1)
 | .inl r7=>
   some r7)
theorem oT {F:Nat} {t3:Int} {s1:List (List UInt8)} {t2:Int} {H:AH} {K:Exit→Env→AH→Prop} {o:(Int)⊕(Unit)}
 (h:iter (cD F s1) F (t2,t3)=some o)
 (dc:∀o':Unit,o= .inr o'→K (.exit 0) [] H)
 (kr:∀o':Int,o= .inl o'→K .ret [(4,(.int .i64 o'))] H):
 AX Tryz.prog kD 19 H.length (.loop (erase iL)) K [(0,(.sl .n 1 (ml AV.str s1))),(1,(.fn 70 [])),(4,(.int .i64 t2)),(7,(.int .i64 (s1.length:Int))),(8,(.int .i64 t3))] H:=by
 refine gL (fun s e H1=>match s with|(t2,t3)=>e=[(0,(.sl .n 1 (ml AV.str s1))),(1,(.fn 70 [])),(4,(.int .i64 t2)),(7,(.int .i64 (s1.length:Int))),(8,(.int .i64 t3))]∧H1=H) h ⟨rfl,rfl⟩ ?_
 rintro K' ⟨t2,t3⟩ st e H ⟨rfl,rfl⟩ h hN hB hR hX
 rw [cD.eq_1] at h
 refine aE ?_
 refine bk h (fun hy1 h=> ?_) fun hy1 h=> ?_
 · obtain ⟨x4,hy2,h⟩:=aq h
   refine aV hy2 ?_
   obtain ⟨r5,hy3,h⟩:=aq h
   refine bC ak (An hy3) ?_
   refine aE ?_
   refine bk h (fun hy4 h=> ?_) fun hy4 h=> ?_
   · refine aE ?_
     obtain rfl:=aC h
     exact hX _ _ _ _ _ dm aJ ak (kr _ (hR _ rfl))
   · refine aE ?_
     obtain rfl:=aC h
     exact hN _ rfl _ _ _ _ aJ ak ⟨rfl,rfl⟩
 · refine aE ?_
   obtain rfl:=aC h
   exact hX _ _ _ _ _ dm WE.nil ak (dc _ (hB _ rfl))
theorem tB {F:Nat} {s1:List (List UInt8)} {H0:AH} {aS:Int} (h:fQ F s1=some aS):
 aG Tryz.prog 72 [(.sl .n 1 (ml AV.str s1)),(.fn 70 [])] H0 fun v H'=>v=(.int .i64 aS)∧H'=H0:=by
 refine fF uH kD fun hcl K0 aO=> ?_
 rw [fQ.eq_1] at h
 refine aE ?_
 obtain ⟨o8,bJ,h⟩:=aq h
 refine bz ak (oT bJ ?_ ?_)
 · rintro ⟨⟩ rfl
   try dsimp only at h
   refine aE ?_
   obtain rfl:=aC h
   exact aO _ _ _ bh (aK hcl (aW aZ (.int .i64 (-1))) bf aX ⟨rfl,rfl⟩)
 · rintro r7 rfl
   try dsimp only at h
   refine aE ?_
   obtain rfl:=aC h
   exact aO _ _ _ bh (aK hcl (aW aZ (.int .i64 r7)) bf aX ⟨rfl,rfl⟩)
abbrev qH:ax:=(.seq (.rg [(aj 4 (.aP (.c (.bool false))))]) (.seq (.rg [(au 5 0),(au 6 1),(aj 7 (.call (.c (.fn 72 [])) [(.t 5),(.t 6)])),(aj 8 (.bin .geq (.t 7) (.c (.int .i64 0)))),(aR 4 8)]) .ret))
theorem qI:bN Tryz.prog 46 9 [(.tmp 4)] (erase qH):=⟨Tryz.f46,_,rfl,by decide,rfl,by kernel_rfl,rfl,rfl⟩
abbrev qJ:List Nat:=[0,1,4]
def dG (F:Nat) (s1:List (List UInt8)):Option (Bool):=
 (fQ F s1).bind fun r2=>some (decide (0≤r2))
theorem oU {F:Nat} {s1:List (List UInt8)} {H0:AH} {aS:Bool} (h:dG F s1=some aS):
 aG Tryz.prog 46 [(.sl .n 1 (ml AV.str s1)),(.fn 70 [])] H0 fun v H'=>v=(.bool aS)∧H'=H0:=by
 refine fF qI qJ fun hcl K0 aO=> ?_
 rw [dG.eq_1] at h
 refine aE ?_
 obtain ⟨r2,hy1,h⟩:=aq h
 refine bC ak (tB hy1) ?_
 refine aE ?_
 obtain rfl:=aC h
 exact aO _ _ _ bh (aK hcl (aW aZ (.bool (decide (0≤r2)))) bf aX ⟨rfl,rfl⟩)
abbrev rj:ax:=(.rg [(au 4 0),(aj 5 (.lens (.t 4))),(aj 6 (.bin .gtr (.t 5) (.c (.int .i64 1)))),(au 7 6),(ay 8 (.mv (.t 0)) 7 true),(ay 9 (.ixs (.t 8) (.c (.int .i64 0))) 7 true),(ay 10 (.bin .eql (.t 9) (.c (b8 91))) 7 true),(aj 11 (.pick (.t 7) (.t 10) (.c (.bool false)))),(au 12 11),(ay 13 (.mv (.t 0)) 12 true),(ay 14 (.mv (.t 0)) 12 true),(ay 15 (.lens (.t 14)) 12 true),(ay 16 (.bin .sub (.t 15) (.c (.int .i64 1))) 12 true),(ay 17 (.ixs (.t 13) (.t 16)) 12 true),(ay 18 (.bin .eql (.t 17) (.c (b8 93))) 12 true),(aj 19 (.pick (.t 12) (.t 18) (.c (.bool false))))])
abbrev rq:ax:=(.rg [(au 26 3),(aj 27 (.len (.t 26))),(aj 28 (.bin .eql (.t 27) (.c (.int .i64 4)))),(au 29 28),(ay 30 (.mv (.t 3)) 29 true),(ay 31 (.call (.c (.fn 46 [])) [(.t 30),(.c (.fn 68 []))]) 29 true),(ay 32 (.un .not (.t 31)) 29 true),(aj 33 (.pick (.t 29) (.t 32) (.c (.bool false)))),(aR 2 33)])
abbrev D2:ax:=(.seq (.rg [(aj 2 (.aP (.c (.bool false))))]) (.seq (.seq (.sem (erase rj)) (.cond (.t 19) (.seq (.rg [(au 20 0),(au 21 0),(aj 22 (.lens (.t 21))),(aj 23 (.bin .sub (.t 22) (.c (.int .i64 1)))),(aj 24 (.gR (.t 20) (some (.c (.int .i64 1))) (some (.t 23)))),(aj 25 (.call (.c (.fn 47 [])) [(.t 24),(.c (.str [46]))])),(aR 3 25)]) (.seq (.sem (erase rq)) .ret)) .skip)) (.seq (.rg [(au 34 0),(aj 35 (.call (.c (.fn 47 [])) [(.t 34),(.c (.str [46]))])),(aj 36 (.call (.c (.fn 46 [])) [(.t 35),(.c (.fn 70 []))])),(aj 37 (.un .not (.t 36))),(aR 2 37)]) .ret)))
theorem D3:bN Tryz.prog 45 38 [(.tmp 2)] (erase D2):=⟨Tryz.f45,_,rfl,by decide,rfl,by kernel_rfl,rfl,rfl⟩
abbrev oV:List Nat:=[0,2,3,19]
def gU (s1:List UInt8):Option (Bool):=
 (if (decide (1<(s1.length:Int))) then
  (idx s1 0).bind fun x2=>
  (if (decide (x2=91)) then
   (idx s1 (IntKind.wrap .i64 ((s1.length:Int) - 1))).bind fun x3=>some (decide (x3=93))
  else
   some false)
 else
  some false)
def jO (F:Nat) (r7:List (List UInt8)):Option (Bool):=
 (if (decide ((r7.length:Int)=4)) then
  (dU F r7).bind fun r8=>some (!r8)
 else
  some false)
def jb (F:Nat) (s1:List UInt8):Option (Bool):=
 (gU s1).bind fun t5=>
 (if t5 then
  (sub s1 1 (IntKind.wrap .i64 ((s1.length:Int) - 1))).bind fun x6=>
  (strings_Split x6 ([46]:List UInt8)).bind fun r7=>(jO F r7).bind fun t10=>
  some t10
 else
  (strings_Split s1 ([46]:List UInt8)).bind fun lD=>(dG F lD).bind fun iz=>some (!iz))
theorem yC {s1:List UInt8} {H:AH} {K:Exit→Env→AH→Prop} {t4:Bool}
 (h:gU s1=some t4)
 (kn:K .normal [(0,(.str s1)),(19,(.bool t4))] H):
 AX Tryz.prog oV 38 H.length (erase rj) K [(0,(.str s1))] H:=by
 refine bY fun K' hK=> ?_
 rw [gU.eq_1] at h
 refine aE ?_
 refine bP h (fun hy1 h=> ?_) fun hy1 h=> ?_
 · obtain ⟨x2,hy2,h⟩:=aq h
   refine aV (aA hy1 hy2) ?_
   refine bP h (fun hy3 h=> ?_) fun hy3 h=> ?_
   · obtain ⟨x3,hy4,h⟩:=aq h
     refine aV (aA hy3 hy4) ?_
     obtain rfl:=aC h
     exact hK _ _ _ _ _ aJ ak kn
   · refine aV hy3 ?_
     obtain rfl:=aC h
     exact hK _ _ _ _ _ aJ ak kn
 · refine aV hy1 ?_
   obtain rfl:=aC h
   exact hK _ _ _ _ _ aJ ak kn
theorem yD {F:Nat} {r7:List (List UInt8)} {H:AH} {K:Exit→Env→AH→Prop} {t9:Bool}
 (h:jO F r7=some t9)
 (kn:K .normal [(2,(.bool t9))] H):
 AX Tryz.prog oV 38 H.length (erase rq) K [(3,(.sl .n 1 (ml AV.str r7)))] H:=by
 refine bY fun K' hK=> ?_
 rw [jO.eq_1] at h
 refine aE ?_
 refine bP h (fun cP h=> ?_) fun cP h=> ?_
 · refine aV cP ?_
   obtain ⟨r8,ck,h⟩:=aq h
   refine bC ak (qG ck) ?_
   refine aE ?_
   obtain rfl:=aC h
   exact hK _ _ _ _ _ aJ ak kn
 · refine aV cP ?_
   obtain rfl:=aC h
   exact hK _ _ _ _ _ aJ ak kn
theorem ve {F:Nat} {s1:List UInt8} {H0:AH} {aS:Bool} (h:jb F s1=some aS):
 aG Tryz.prog 45 [(.str s1)] H0 fun v H'=>v=(.bool aS)∧H'=H0:=by
 refine fF D3 oV fun hcl K0 aO=> ?_
 rw [jb.eq_1] at h
 refine aE ?_
 obtain ⟨t5,bJ,h⟩:=aq h
 refine bz ak (yC bJ ?_)
 refine aE ?_
 refine bk h (fun b6 h=> ?_) fun b6 h=> ?_
 · obtain ⟨x6,cC,h⟩:=aq h
   refine aV cC ?_
   obtain ⟨r7,cr,h⟩:=aq h
   refine bC ak (iC (s1:=x6) (s2:=([46]:List UInt8)) cr) ?_
   refine aE ?_
   obtain ⟨t10,cx,h⟩:=aq h
   refine bz ak (yD cx ?_)
   refine aE ?_
   obtain rfl:=aC h
   exact aO _ _ _ bh (aK hcl (aW aZ (.bool t10)) bf aX ⟨rfl,rfl⟩)
 · refine aE ?_
   obtain ⟨lD,cN,h⟩:=aq h
   refine bC ak (iC (s1:=s1) (s2:=([46]:List UInt8)) cN) ?_
   refine aE ?_
   obtain ⟨iz,cH,h⟩:=aq h
   refine bC ak (oU cH) ?_
   refine aE ?_
   obtain rfl:=aC h
   exact aO _ _ _ bh (aK hcl (aW aZ (.bool (!iz))) bf aX ⟨rfl,rfl⟩)
abbrev jm:ax:=(.rg [(au 12 4),(aj 13 (.call (.c (.fn 103 [])) [(.t 12)])),(au 14 13),(ay 15 (.mv (.t 4)) 14 false),(ay 16 (.bin .eql (.t 15) (.c (b8 45))) 14 false),(aj 17 (.pick (.t 14) (.c (.bool true)) (.t 16))),(au 18 17),(ay 19 (.mv (.t 4)) 18 false),(ay 20 (.bin .eql (.t 19) (.c (b8 46))) 18 false),(aj 21 (.pick (.t 18) (.c (.bool true)) (.t 20))),(au 22 21),(ay 23 (.mv (.t 4)) 22 false),(ay 24 (.bin .eql (.t 23) (.c (b8 91))) 22 false),(aj 25 (.pick (.t 22) (.c (.bool true)) (.t 24))),(au 26 25),(ay 27 (.mv (.t 4)) 26 false),(ay 28 (.bin .eql (.t 27) (.c (b8 93))) 26 false),(aj 29 (.pick (.t 26) (.c (.bool true)) (.t 28)))])
abbrev iM:ax:=(.seq (.seq (.sem (erase jm)) (.cond (.t 29) .skip (.exit 0))) (.seq (.blk 1 (.rg [(au 32 0),(aj 33 (.iy (.t 32))),(aj 34 (.cF (.t 33) 1)),(aj 35 (.ld (.t 34) none)),(aj 36 (.bin .add (.t 35) (.c (.int .i64 1)))),(aj 37 (.iy (.t 32))),(aj 38 (.cF (.t 37) 1)),(cR (.st (.t 38) (.t 36) 1))])) (.rg [(au 30 0),(aj 31 (.call (.c (.fn 117 [])) [(.t 30)])),(aR 4 31)])))
abbrev jn:ax:=(.rg [(au 49 0),(au 50 0),(aj 51 (.iy (.t 50))),(aj 52 (.cF (.t 51) 2)),(aj 53 (.ld (.t 52) none)),(au 54 53),(ay 55 (.mv (.t 5)) 54 false),(ay 56 (.call (.c (.fn 45 [])) [(.t 55)]) 54 false),(ay 57 (.un .not (.t 56)) 54 false),(aj 58 (.pick (.t 54) (.c (.bool true)) (.t 57))),(aj 59 (.iy (.t 49))),(aj 60 (.cF (.t 59) 2)),(cR (.st (.t 60) (.t 58) 1))])
abbrev uI:ax:=(.seq (.rg [(aj 2 (.aP (.c (.str []))))]) (.seq (.rg [(au 6 0),(aj 7 (.iy (.t 6))),(aj 8 (.cF (.t 7) 1)),(aj 9 (.ld (.t 8) none)),(aR 3 9)]) (.seq (.seq (.rg [(au 10 0),(aj 11 (.call (.c (.fn 117 [])) [(.t 10)])),(aR 4 11)]) (.blk 0 (.loop (erase iM)))) (.seq (.rg [(au 39 0),(aj 40 (.iy (.t 39))),(aj 41 (.cF (.t 40) 0)),(aj 42 (.ld (.t 41) none)),(au 43 3),(au 44 0),(aj 45 (.iy (.t 44))),(aj 46 (.cF (.t 45) 1)),(aj 47 (.ld (.t 46) none)),(aj 48 (.gR (.t 42) (some (.t 43)) (some (.t 47)))),(aR 5 48)]) (.seq (.sem (erase jn)) (.seq (.rg [(au 61 5),(aR 2 61)]) .ret))))))
theorem uJ:bN Tryz.prog 96 62 [(.tmp 2)] (erase uI):=⟨Tryz.f96,_,rfl,by decide,rfl,by kernel_rfl,rfl,rfl⟩
abbrev eV:List Nat:=[0,2,3,4,5,29]
def dH (c4:UInt8):Option (Bool):=
 (gM c4).bind fun r6=>
 (if r6 then
  some true
 else
  (if (decide (c4=45)) then
   some true
  else
   (if (decide (c4=46)) then
    some true
   else
    (if (decide (c4=91)) then
     some true
    else
     some (decide (c4=93))))))
def dI:(UInt8×aD)→Option (St ((List UInt8)×aD) aD (UInt8×aD))
 |(c4,s5)=>
  (dH c4).bind fun t8=>
  (if t8 then
   (bx (aD.mk s5.s (IntKind.wrap .i64 (s5.cJ+1)) s5.bad)).bind fun r9=>
   some (.cY (r9,(aD.mk s5.s (IntKind.wrap .i64 (s5.cJ+1)) s5.bad)))
  else
   some (.dR s5))
def dJ (F:Nat) (oW:aD) (n8:List UInt8):Option (aD):=
 (if oW.bad then
  some (aD.mk oW.s oW.cJ true)
 else
  (jb F n8).bind fun kX=>some (aD.mk oW.s oW.cJ (!kX)))
def bT (F:Nat) (x2:aD):Option ((List UInt8)×aD):=
 (bx x2).bind fun r3=>
 ((iter dI F (r3,x2)).bind fun Kp=>
 match Kp with
 | .inr oW=>
   (sub oW.s x2.cJ oW.cJ).bind fun n8=>
   (dJ F oW n8).bind fun Ng=>
   some (n8,Ng)
 | .inl _=>none)
theorem oX {c4:UInt8} {q1:Nat} {x2:aD} {s5:aD} {H0 H:AH} (hfr:Fr H0 H0.length [q1] H) (ai:H[q1]? =some [(.str s5.s),(.int .i64 s5.cJ),(.bool s5.bad)]) (dL:q1<H0.length) {K:Exit→Env→AH→Prop} {t7:Bool}
 (h:dH c4=some t7)
 (kn:∀H':AH,Fr H0 H0.length [q1] H'→H'[q1]? =some [(.str s5.s),(.int .i64 s5.cJ),(.bool s5.bad)]→K .normal [(0,(.ptr q1 0)),(3,(.int .i64 x2.cJ)),(29,(.bool t7))] H'):
 AX Tryz.prog eV 62 H0.length (erase jm) K [(0,(.ptr q1 0)),(3,(.int .i64 x2.cJ)),(4,(b8 c4))] H:=by
 refine bY fun K' hK=> ?_
 have hle:=hfr.le
 have aM:=aQ ai
 rw [dH.eq_1] at h
 refine az ai ?_
 obtain ⟨r6,hy2,h⟩:=aq h
 refine bC ak (mD hy2) ?_
 refine az ai ?_
 refine bP h (fun hy3 h=> ?_) fun hy3 h=> ?_
 · refine az (aA hy3 ai) ?_
   obtain rfl:=aC h
   exact hK _ _ _ _ _ aJ ak (kn _ hfr (ai.trans rfl))
 · refine az (aA hy3 ai) ?_
   refine bP h (fun hy4 h=> ?_) fun hy4 h=> ?_
   · refine az (aA hy4 ai) ?_
     obtain rfl:=aC h
     exact hK _ _ _ _ _ aJ ak (kn _ hfr (ai.trans rfl))
   · refine az (aA hy4 ai) ?_
     refine bP h (fun bJ h=> ?_) fun bJ h=> ?_
     · refine az (aA bJ ai) ?_
       obtain rfl:=aC h
       exact hK _ _ _ _ _ aJ ak (kn _ hfr (ai.trans rfl))
     · refine az (aA bJ ai) ?_
       refine bP h (fun b6 h=> ?_) fun b6 h=> ?_
       · refine az (aA b6 ai) ?_
         obtain rfl:=aC h
         exact hK _ _ _ _ _ aJ ak (kn _ hfr (ai.trans rfl))
       · refine az (aA b6 ai) ?_
         obtain rfl:=aC h
         exact hK _ _ _ _ _ aJ ak (kn _ hfr (ai.trans rfl))
theorem oY {F:Nat} {c4:UInt8} {s5:aD} {q1:Nat} {x2:aD} {H0 H:AH} (hfr:Fr H0 H0.length [q1] H) (ai:H[q1]? =some [(.str s5.s),(.int .i64 s5.cJ),(.bool s5.bad)]) (dL:q1<H0.length) {K:Exit→Env→AH→Prop} {o:((List UInt8)×aD)⊕(aD)}
 (h:iter dI F (c4,s5)=some o)
 (dc:∀o':aD,o= .inr o'→∀H':AH,Fr H0 H0.length [q1] H'→H'[q1]? =some [(.str o'.s),(.int .i64 o'.cJ),(.bool o'.bad)]→K (.exit 0) [(0,(.ptr q1 0)),(3,(.int .i64 x2.cJ))] H'):
 AX Tryz.prog eV 62 H0.length (.loop (erase iM)) K [(0,(.ptr q1 0)),(3,(.int .i64 x2.cJ)),(4,(b8 c4))] H:=by
 refine gL (fun s e H1=>match s with|(c4,s5)=>e=[(0,(.ptr q1 0)),(3,(.int .i64 x2.cJ)),(4,(b8 c4))]∧Fr H0 H0.length [q1] H1∧H1[q1]? =some [(.str s5.s),(.int .i64 s5.cJ),(.bool s5.bad)]) h ⟨rfl,hfr,ai⟩ ?_
 rintro K' ⟨c4,s5⟩ st e H ⟨rfl,hfr,ai⟩ h hN hB hR hX
 have hle:=hfr.le
 have aM:=aQ ai
 rw [dI.eq_1] at h
 refine az ai ?_
 obtain ⟨t8,cC,h⟩:=aq h
 refine bz ak (oX (q1:=q1) (x2:=x2) (s5:=s5) hfr (ai.trans rfl) bX cC ?_)
 intro H hfr ai
 have hle:=hfr.le
 have aM:=aQ ai
 refine az ai ?_
 refine bk h (fun cr h=> ?_) fun cr h=> ?_
 · refine az ai ?_
   obtain ⟨r9,cP,h⟩:=aq h
   refine Ki (cj cP) (kW.cons (.one _ _ (gJ.Ck cA Kj)) (kW.nil)) ?_
   refine az ai ?_
   obtain rfl:=aC h
   exact hN _ rfl _ _ _ _ aJ ak ⟨rfl,(bW _ hfr),cA⟩
 · refine az ai ?_
   obtain rfl:=aC h
   exact hX _ _ _ _ _ dm aJ ak (dc _ (hB _ rfl) _ hfr (ai.trans rfl))
theorem oZ {F:Nat} {oW:aD} {n8:List UInt8} {q1:Nat} {H0 H:AH} (hfr:Fr H0 H0.length [q1] H) (ai:H[q1]? =some [(.str oW.s),(.int .i64 oW.cJ),(.bool oW.bad)]) (dL:q1<H0.length) {K:Exit→Env→AH→Prop} {gb:aD}
 (h:dJ F oW n8=some gb)
 (kn:∀H':AH,Fr H0 H0.length [q1] H'→H'[q1]? =some [(.str gb.s),(.int .i64 gb.cJ),(.bool gb.bad)]→K .normal [(5,(.str n8))] H'):
 AX Tryz.prog eV 62 H0.length (erase jn) K [(0,(.ptr q1 0)),(5,(.str n8))] H:=by
 refine bY fun K' hK=> ?_
 have hle:=hfr.le
 have aM:=aQ ai
 rw [dJ.eq_1] at h
 refine az ai ?_
 refine bP h (fun cN h=> ?_) fun cN h=> ?_
 · refine az (aA cN ai) ?_
   obtain rfl:=aC h
   exact hK _ _ _ _ _ aJ ak (kn _ (bW _ hfr) cA)
 · refine az (aA cN ai) ?_
   obtain ⟨kX,cH,h⟩:=aq h
   refine bC ak (ve cH) ?_
   refine az ai ?_
   obtain rfl:=aC h
   exact hK _ _ _ _ _ aJ ak (kn _ (bW _ hfr) cA)
theorem j3 {F:Nat} {x2:aD} {q1:Nat} {H0:AH} (ai:H0[q1]? =some [(.str x2.s),(.int .i64 x2.cJ),(.bool x2.bad)]) {aS:List UInt8} {eL:aD} (h:bT F x2=some (aS,eL)):
 aG Tryz.prog 96 [(.ptr q1 0)] H0 fun v H'=>v=(.str aS)∧H'=(H0.set q1 [(.str eL.s),(.int .i64 eL.cJ),(.bool eL.bad)]):=by
 have aM:=aQ ai
 refine l7 uJ eV [q1] fun hcl K0 aO H hH hfr=> ?_
 rw [←hH] at ai
 clear hH
 have hle:=hfr.le
 have DW:=aQ ai
 rw [bT.eq_1] at h
 refine az ai ?_
 obtain ⟨r3,hy1,h⟩:=aq h
 refine Ki (cj hy1) (kW.cons (.one _ _ (gJ.Ck (ai.trans rfl) Kj)) (kW.nil)) ?_
 refine az ai ?_
 obtain ⟨Kp,ck,h⟩:=aq h
 refine bz ak (oY (q1:=q1) (x2:=x2) hfr (ai.trans rfl) bX ck ?_)
 · rintro oW rfl H hfr ai
   try dsimp only at h ai
   have hle:=hfr.le
   have aM:=aQ ai
   refine az ai ?_
   obtain ⟨n8,cx,h⟩:=aq h
   refine az (aA cx ai) ?_
   obtain ⟨Ng,dV,h⟩:=aq h
   refine bz ak (oZ (q1:=q1) hfr (ai.trans rfl) bX dV ?_)
   intro H hfr ai
   have hle:=hfr.le
   have aM:=aQ ai
   refine az ai ?_
   obtain ⟨rfl,rfl⟩:=cB h
   exact aO _ _ _ bh (jA hfr hcl (aW aZ (.str n8)) bf aX (ai.trans rfl) bX Fs Fq ⟨rfl,rfl⟩)
abbrev jD:ax:=(.rg [(au 3 0),(aj 4 (.call (.c (.fn 117 [])) [(.t 3)])),(aj 5 (.bin .eql (.t 4) (.c (b8 64)))),(au 6 5),(ay 7 (.mv (.t 2)) 6 false),(ay 8 (.un .not (.t 7)) 6 false),(aj 9 (.pick (.t 6) (.c (.bool true)) (.t 8)))])
abbrev jo:ax:=(.seq (.seq (.sem (erase jD)) (.cond (.t 9) .skip (.exit 0))) (.seq (.blk 1 (.seq (.rg [(au 10 0),(aj 11 (.call (.c (.fn 92 [])) [(.t 10),(.c (b8 64))]))]) (.seq (.rg [(au 12 0),(aj 13 (.call (.c (.fn 96 [])) [(.t 12)]))]) (.seq (.rg [(au 14 0),(aj 15 (.call (.c (.fn 93 [])) [(.t 14),(.c (b8 44))])),(aj 16 (.un .not (.t 15)))]) (.cond (.t 16) (.seq (.rg [(au 17 0),(aj 18 (.call (.c (.fn 92 [])) [(.t 17),(.c (b8 58))]))]) .ret) .skip))))) (.rg [(aj 2 (.aP (.c (.bool false))))])))
abbrev vN:ax:=(.seq (.rg [(aj 2 (.aP (.c (.bool true))))]) (.blk 0 (.loop (erase jo))))
theorem vO:bN Tryz.prog 94 19 [] (erase vN):=⟨Tryz.f94,_,rfl,by decide,rfl,by kernel_rfl,rfl,rfl⟩
abbrev iA:List Nat:=[0,2,9,16]
def cv (s4:aD) (jP:Bool):Option (Bool):=
 (bx s4).bind fun r5=>
 (if (decide (r5=64)) then
  some true
 else
  some (!jP))
def bD (F:Nat):(Bool×aD)→Option (St aD aD (Bool×aD))
 |(jP,s4)=>
  (cv s4 jP).bind fun t7=>
  (if t7 then
   (bp s4 64).bind fun r8=>
   (bT F r8).bind fun (r9,dM)=>
   (bE dM 44).bind fun (lD,iz)=>
   (if (!lD) then
    (bp iz 58).bind fun kX=>some (.ret kX)
   else
    some (.cY (false,iz)))
  else
   some (.dR s4))
def dh (F:Nat) (x2:aD):Option (aD):=
 ((iter (bD F) F (true,x2)).bind fun o18=>
 match o18 with
 | .inr Ri=>
   some Ri
 | .inl sR=>
   some sR)
theorem qK {s4:aD} {jP:Bool} {q1:Nat} {H0 H:AH} (hfr:Fr H0 H0.length [q1] H) (ai:H[q1]? =some [(.str s4.s),(.int .i64 s4.cJ),(.bool s4.bad)]) (dL:q1<H0.length) {K:Exit→Env→AH→Prop} {t6:Bool}
 (h:cv s4 jP=some t6)
 (kn:∀H':AH,Fr H0 H0.length [q1] H'→H'[q1]? =some [(.str s4.s),(.int .i64 s4.cJ),(.bool s4.bad)]→K .normal [(0,(.ptr q1 0)),(9,(.bool t6))] H'):
 AX Tryz.prog iA 19 H0.length (erase jD) K [(0,(.ptr q1 0)),(2,(.bool jP))] H:=by
 refine bY fun K' hK=> ?_
 have hle:=hfr.le
 have aM:=aQ ai
 rw [cv.eq_1] at h
 refine az ai ?_
 obtain ⟨r5,hy1,h⟩:=aq h
 refine Ki (cj hy1) (kW.cons (.one _ _ (gJ.Ck (ai.trans rfl) Kj)) (kW.nil)) ?_
 refine az ai ?_
 refine bP h (fun hy2 h=> ?_) fun hy2 h=> ?_
 · refine az (aA hy2 ai) ?_
   obtain rfl:=aC h
   exact hK _ _ _ _ _ aJ ak (kn _ hfr (ai.trans rfl))
 · refine az (aA hy2 ai) ?_
   obtain rfl:=aC h
   exact hK _ _ _ _ _ aJ ak (kn _ hfr (ai.trans rfl))
theorem qM {F:Nat} {s4:aD} {jP:Bool} {q1:Nat} {H0 H:AH} (hfr:Fr H0 H0.length [q1] H) (ai:H[q1]? =some [(.str s4.s),(.int .i64 s4.cJ),(.bool s4.bad)]) (dL:q1<H0.length) {K:Exit→Env→AH→Prop} {o:(aD)⊕(aD)}
 (h:iter (bD F) F (jP,s4)=some o)
 (dc:∀o':aD,o= .inr o'→∀H':AH,Fr H0 H0.length [q1] H'→H'[q1]? =some [(.str o'.s),(.int .i64 o'.cJ),(.bool o'.bad)]→K (.exit 0) [] H')
 (kr:∀o':aD,o= .inl o'→∀H':AH,Fr H0 H0.length [q1] H'→H'[q1]? =some [(.str o'.s),(.int .i64 o'.cJ),(.bool o'.bad)]→K .ret [] H'):
 AX Tryz.prog iA 19 H0.length (.loop (erase jo)) K [(0,(.ptr q1 0)),(2,(.bool jP))] H:=by
 refine gL (fun s e H1=>match s with|(jP,s4)=>e=[(0,(.ptr q1 0)),(2,(.bool jP))]∧Fr H0 H0.length [q1] H1∧H1[q1]? =some [(.str s4.s),(.int .i64 s4.cJ),(.bool s4.bad)]) h ⟨rfl,hfr,ai⟩ ?_
 rintro K' ⟨jP,s4⟩ st e H ⟨rfl,hfr,ai⟩ h hN hB hR hX
 have hle:=hfr.le
 have aM:=aQ ai
 rw [bD.eq_1] at h
 refine az ai ?_
 obtain ⟨t7,hy3,h⟩:=aq h
 refine bz ak (qK (q1:=q1) hfr (ai.trans rfl) bX hy3 ?_)
 intro H hfr ai
 have hle:=hfr.le
 have aM:=aQ ai
 refine az ai ?_
 refine bk h (fun hy4 h=> ?_) fun hy4 h=> ?_
 · refine az ai ?_
   obtain ⟨r8,bJ,h⟩:=aq h
   refine bC ak (dn (ai.trans rfl) bJ) ?_
   refine az ai ?_
   obtain ⟨⟨r9,dM⟩,b6,h⟩:=aq h
   dsimp only at h
   refine bC ak (j3 (q1:=q1) cA b6) ?_
   refine az ai ?_
   obtain ⟨⟨lD,iz⟩,cC,h⟩:=aq h
   dsimp only at h
   refine bC ak (dS (q1:=q1) cA cC) ?_
   refine az ai ?_
   refine bk h (fun cr h=> ?_) fun cr h=> ?_
   · refine az ai ?_
     obtain ⟨kX,cP,h⟩:=aq h
     refine bC ak (dn (q1:=q1) cA cP) ?_
     refine az ai ?_
     obtain rfl:=aC h
     exact hX _ _ _ _ _ dm WE.nil ak (kr _ (hR _ rfl) _ (bW _ (bW _ (bW _ (bW _ hfr)))) cA)
   · refine az ai ?_
     obtain rfl:=aC h
     exact hN _ rfl _ _ _ _ aJ ak ⟨rfl,(bW _ (bW _ (bW _ hfr))),cA⟩
 · refine az ai ?_
   obtain rfl:=aC h
   exact hX _ _ _ _ _ dm WE.nil ak (dc _ (hB _ rfl) _ hfr (ai.trans rfl))
theorem uK {F:Nat} {x2:aD} {q1:Nat} {H0:AH} (ai:H0[q1]? =some [(.str x2.s),(.int .i64 x2.cJ),(.bool x2.bad)]) {aS:aD} (h:dh F x2=some aS):
 aG Tryz.prog 94 [(.ptr q1 0)] H0 fun v H'=>v=(.bB [])∧H'=(H0.set q1 [(.str aS.s),(.int .i64 aS.cJ),(.bool aS.bad)]):=by
 have aM:=aQ ai
 refine l7 vO iA [q1] fun hcl K0 aO H hH hfr=> ?_
 rw [←hH] at ai
 clear hH
 have hle:=hfr.le
 have DW:=aQ ai
 rw [dh.eq_1] at h
 refine az ai ?_
 obtain ⟨o18,ck,h⟩:=aq h
 refine bz ak (qM (q1:=q1) hfr (ai.trans rfl) bX ck ?_ ?_)
 · rintro Ri rfl H hfr ai
   try dsimp only at h ai
   have hle:=hfr.le
   have aM:=aQ ai
   refine az ai ?_
   obtain rfl:=aC h
   exact aO _ _ _ xlZ (jA hfr hcl aZ bf aX (ai.trans rfl) bX Fs Fq ⟨rfl,rfl⟩)
 · rintro sR rfl H hfr ai
   try dsimp only at h ai
   have hle:=hfr.le
   have aM:=aQ ai
   refine az ai ?_
   obtain rfl:=aC h
   exact aO _ _ _ bh (jA hfr hcl aZ bf aX (ai.trans rfl) bX Fs Fq ⟨rfl,rfl⟩)
abbrev o5:ax:=(.rg [(au 3 0),(aj 4 (.bin .geq (.t 3) (.c (b8 32)))),(au 5 4),(ay 6 (.mv (.t 0)) 5 true),(ay 7 (.bin .leq (.t 6) (.c (b8 126))) 5 true),(aj 8 (.pick (.t 5) (.t 7) (.c (.bool false)))),(aR 2 8)])
abbrev CJ:ax:=(.seq (.rg [(aj 2 (.aP (.c (.bool false))))]) (.seq (.sem (erase o5)) .ret))
theorem CK:bN Tryz.prog 55 9 [(.tmp 2)] (erase CJ):=⟨Tryz.f55,_,rfl,by decide,rfl,by kernel_rfl,rfl,rfl⟩
abbrev vf:List Nat:=[0,2]
def jE (c1:UInt8):Option (Bool):=
 some ((decide (32≤c1))&&(decide (c1≤126)))
theorem xO {c1:UInt8} {H:AH} {K:Exit→Env→AH→Prop}
 (kn:K .normal [(2,(.bool ((decide (32≤c1))&&(decide (c1≤126)))))] H):
 AX Tryz.prog vf 9 H.length (erase o5) K [(0,(b8 c1)),(2,(.bool false))] H:=by
 refine bY fun K' hK=> ?_
 refine aE ?_
 refine gK (fun hy1=> ?_) fun hy1=> ?_
 · refine aV hy1 ?_
   exact hK _ _ _ _ _ (dy hy1) ak kn
 · refine aV hy1 ?_
   exact hK _ _ _ _ _ (dy hy1) ak kn
theorem tC {c1:UInt8} {H0:AH} {aS:Bool} (h:jE c1=some aS):
 aG Tryz.prog 55 [(b8 c1)] H0 fun v H'=>v=(.bool aS)∧H'=H0:=by
 refine fF CK vf fun hcl K0 aO=> ?_
 rw [jE.eq_1] at h
 refine aE ?_
 refine bz ak (xO (c1:=c1) ?_)
 refine aE ?_
 obtain rfl:=aC h
 exact aO _ _ _ bh (aK hcl (aW aZ (.bool ((decide (32≤c1))&&(decide (c1≤126))))) bf aX ⟨rfl,rfl⟩)
abbrev jq:ax:=(.rg [(au 7 0),(aj 8 (.iy (.t 7))),(aj 9 (.cF (.t 8) 2)),(aj 10 (.ld (.t 9) none)),(aj 11 (.un .not (.t 10))),(au 12 11),(ay 13 (.mv (.t 0)) 12 true),(ay 14 (.call (.c (.fn 93 [])) [(.t 13),(.c (b8 34))]) 12 true),(ay 15 (.un .not (.t 14)) 12 true),(aj 16 (.pick (.t 12) (.t 15) (.c (.bool false))))])
abbrev iN:ax:=(.seq (.seq (.sem (erase jq)) (.cond (.t 16) .skip (.exit 0))) (.blk 1 (.seq (.rg [(au 17 0),(aj 18 (.call (.c (.fn 93 [])) [(.t 17),(.c (b8 92))]))]) (.seq (.rg [(au 19 0),(aj 20 (.call (.c (.fn 117 [])) [(.t 19)])),(aR 4 20)]) (.seq (.seq (.rg [(au 21 4),(aj 22 (.call (.c (.fn 55 [])) [(.t 21)])),(aj 23 (.un .not (.t 22)))]) (.cond (.t 23) (.seq (.rg [(au 24 0),(aj 25 (.iy (.t 24))),(aj 26 (.cF (.t 25) 2)),(cR (.st (.t 26) (.c (.bool true)) 1))]) (.exit 0)) .skip)) (.seq (.rg [(au 27 0),(aj 28 (.iy (.t 27))),(aj 29 (.cF (.t 28) 1)),(aj 30 (.ld (.t 29) none)),(aj 31 (.bin .add (.t 30) (.c (.int .i64 1)))),(aj 32 (.iy (.t 27))),(aj 33 (.cF (.t 32) 1)),(cR (.st (.t 33) (.t 31) 1))]) (.rg [(au 34 3),(au 35 4),(aj 36 (.qD 1 [(.t 35)])),(aj 37 (.app 1 1 (.t 34) (.t 36))),(aR 3 37)])))))))
abbrev jr:ax:=(.rg [(au 38 0),(au 39 0),(aj 40 (.iy (.t 39))),(aj 41 (.cF (.t 40) 2)),(aj 42 (.ld (.t 41) none)),(au 43 42),(ay 44 (.mv (.t 3)) 43 false),(ay 45 (.len (.t 44)) 43 false),(ay 46 (.bin .eql (.t 45) (.c (.int .i64 0))) 43 false),(aj 47 (.pick (.t 43) (.c (.bool true)) (.t 46))),(aj 48 (.iy (.t 38))),(aj 49 (.cF (.t 48) 2)),(cR (.st (.t 49) (.t 47) 1))])
abbrev uL:ax:=(.seq (.rg [(aj 2 (.aP (.c (.str []))))]) (.seq (.rg [(aj 3 (.aP (.c (.sl .ex 1 []))))]) (.seq (.rg [(au 5 0),(aj 6 (.call (.c (.fn 92 [])) [(.t 5),(.c (b8 34))]))]) (.seq (.blk 0 (.loop (erase iN))) (.seq (.sem (erase jr)) (.seq (.rg [(au 50 3),(aj 51 (.jt .bs (.t 50))),(aR 2 51)]) .ret))))))
theorem uM:bN Tryz.prog 118 52 [(.tmp 2)] (erase uL):=⟨Tryz.f118,_,rfl,by decide,rfl,by kernel_rfl,rfl,rfl⟩
abbrev eW:List Nat:=[0,2,3,4,16,23]
def cV (s5:aD):Option (Bool×aD):=
 (if (!s5.bad) then
  (bE s5 34).bind fun (r6,r7)=>some ((!r6),r7)
 else
  some (false,s5))
def bH:((List UInt8)×aD)→Option (St ((List UInt8)×aD) ((List UInt8)×aD) ((List UInt8)×aD))
 |(b4,s5)=>
  (cV s5).bind fun (t10,oW)=>
  (if t10 then
   (bE oW 92).bind fun (iz,kX)=>
   (bx kX).bind fun iB=>
   (jE iB).bind fun fm=>
   (if (!fm) then
    some (.dR (b4,(aD.mk kX.s kX.cJ true)))
   else
    (fe 1 b4 ([iB]:List UInt8)).bind fun lE=>
    some (.cY (lE,(aD.mk kX.s (IntKind.wrap .i64 (kX.cJ+1)) kX.bad))))
  else
   some (.dR (b4,oW)))
def dK (BC:aD) (FA:List UInt8):Option (aD):=
 (if BC.bad then
  some (aD.mk BC.s BC.cJ true)
 else
  some (aD.mk BC.s BC.cJ (decide ((FA.length:Int)=0))))
def fR (F:Nat) (x2:aD):Option ((List UInt8)×aD):=
 (bp x2 34).bind fun r3=>
 ((iter bH F (([]:List UInt8),r3)).bind fun o23=>
 match o23 with
 | .inr (FA,BC)=>
   (dK BC FA).bind fun s22=>
   some (FA,s22)
 | .inl _=>none)
theorem o6 {s5:aD} {q1:Nat} {b4:List UInt8} {H0 H:AH} (hfr:Fr H0 H0.length [q1] H) (ai:H[q1]? =some [(.str s5.s),(.int .i64 s5.cJ),(.bool s5.bad)]) (dL:q1<H0.length) {K:Exit→Env→AH→Prop} {t8:Bool} {s9:aD}
 (h:cV s5=some (t8,s9))
 (kn:∀H':AH,Fr H0 H0.length [q1] H'→H'[q1]? =some [(.str s9.s),(.int .i64 s9.cJ),(.bool s9.bad)]→K .normal [(0,(.ptr q1 0)),(3,(.sl .own 1 (ml b8 b4))),(16,(.bool t8))] H'):
 AX Tryz.prog eW 52 H0.length (erase jq) K [(0,(.ptr q1 0)),(3,(.sl .own 1 (ml b8 b4)))] H:=by
 refine bY fun K' hK=> ?_
 have hle:=hfr.le
 have aM:=aQ ai
 rw [cV.eq_1] at h
 refine az ai ?_
 refine bP h (fun hy2 h=> ?_) fun hy2 h=> ?_
 · refine az (aA hy2 ai) ?_
   obtain ⟨⟨r6,r7⟩,hy3,h⟩:=aq h
   dsimp only at h
   refine bC ak (dS (ai.trans rfl) hy3) ?_
   refine az ai ?_
   obtain ⟨rfl,rfl⟩:=cB h
   exact hK _ _ _ _ _ aJ ak (kn _ (bW _ hfr) cA)
 · refine az (aA hy2 ai) ?_
   obtain ⟨rfl,rfl⟩:=cB h
   exact hK _ _ _ _ _ aJ ak (kn _ hfr (ai.trans rfl))
theorem pg {F:Nat} {s5:aD} {b4:List UInt8} {q1:Nat} {H0 H:AH} (hfr:Fr H0 H0.length [q1] H) (ai:H[q1]? =some [(.str s5.s),(.int .i64 s5.cJ),(.bool s5.bad)]) (dL:q1<H0.length) {K:Exit→Env→AH→Prop} {o:((List UInt8)×aD)⊕((List UInt8)×aD)}
 (h:iter bH F (b4,s5)=some o)
 (dc:∀o':(List UInt8)×aD,o= .inr o'→∀H':AH,Fr H0 H0.length [q1] H'→H'[q1]? =some [(.str o'.2.s),(.int .i64 o'.2.cJ),(.bool o'.2.bad)]→K (.exit 0) [(0,(.ptr q1 0)),(3,(.sl .own 1 (ml b8 o'.1)))] H'):
 AX Tryz.prog eW 52 H0.length (.loop (erase iN)) K [(0,(.ptr q1 0)),(3,(.sl .own 1 (ml b8 b4)))] H:=by
 refine gL (fun s e H1=>match s with|(b4,s5)=>e=[(0,(.ptr q1 0)),(3,(.sl .own 1 (ml b8 b4)))]∧Fr H0 H0.length [q1] H1∧H1[q1]? =some [(.str s5.s),(.int .i64 s5.cJ),(.bool s5.bad)]) h ⟨rfl,hfr,ai⟩ ?_
 rintro K' ⟨b4,s5⟩ st e H ⟨rfl,hfr,ai⟩ h hN hB hR hX
 have hle:=hfr.le
 have aM:=aQ ai
 rw [bH.eq_1] at h
 refine az ai ?_
 obtain ⟨⟨t10,oW⟩,hy4,h⟩:=aq h
 dsimp only at h
 refine bz ak (o6 (q1:=q1) (b4:=b4) hfr (ai.trans rfl) bX hy4 ?_)
 intro H hfr ai
 have hle:=hfr.le
 have aM:=aQ ai
 refine az ai ?_
 refine bk h (fun bJ h=> ?_) fun bJ h=> ?_
 · refine az ai ?_
   obtain ⟨⟨iz,kX⟩,b6,h⟩:=aq h
   dsimp only at h
   refine bC ak (dS (ai.trans rfl) b6) ?_
   refine az ai ?_
   obtain ⟨iB,cC,h⟩:=aq h
   refine Ki (cj cC) (kW.cons (.one _ _ (gJ.Ck cA Kj)) (kW.nil)) ?_
   refine az ai ?_
   obtain ⟨fm,cr,h⟩:=aq h
   refine bC ak (tC cr) ?_
   refine az ai ?_
   refine bk h (fun cP h=> ?_) fun cP h=> ?_
   · refine az ai ?_
     obtain rfl:=aC h
     exact hX _ _ _ _ _ dm aJ ak (dc _ (hB _ rfl) _ (bW _ (bW _ hfr)) cA)
   · obtain ⟨lE,ck,h⟩:=aq h
     have cx:fe 1 (ml b8 b4) [(b8 iB)]=some (ml b8 lE):=lR (f:=b8) ck
     refine az (aA cx ai) ?_
     obtain rfl:=aC h
     exact hN _ rfl _ _ _ _ aJ ak ⟨rfl,(bW _ (bW _ hfr)),cA⟩
 · refine az ai ?_
   obtain rfl:=aC h
   exact hX _ _ _ _ _ dm aJ ak (dc _ (hB _ rfl) _ hfr (ai.trans rfl))
theorem pn {BC:aD} {FA:List UInt8} {q1:Nat} {H0 H:AH} (hfr:Fr H0 H0.length [q1] H) (ai:H[q1]? =some [(.str BC.s),(.int .i64 BC.cJ),(.bool BC.bad)]) (dL:q1<H0.length) {K:Exit→Env→AH→Prop} {n9:aD}
 (h:dK BC FA=some n9)
 (kn:∀H':AH,Fr H0 H0.length [q1] H'→H'[q1]? =some [(.str n9.s),(.int .i64 n9.cJ),(.bool n9.bad)]→K .normal [(3,(.sl .own 1 (ml b8 FA)))] H'):
 AX Tryz.prog eW 52 H0.length (erase jr) K [(0,(.ptr q1 0)),(3,(.sl .own 1 (ml b8 FA)))] H:=by
 refine bY fun K' hK=> ?_
 have hle:=hfr.le
 have aM:=aQ ai
 rw [dK.eq_1] at h
 refine az ai ?_
 refine bP h (fun cH h=> ?_) fun cH h=> ?_
 · refine az (aA cH ai) ?_
   obtain rfl:=aC h
   exact hK _ _ _ _ _ aJ ak (kn _ (bW _ hfr) cA)
 · refine az (aA cH ai) ?_
   obtain rfl:=aC h
   exact hK _ _ _ _ _ aJ ak (kn _ (bW _ hfr) cA)
theorem tD {F:Nat} {x2:aD} {q1:Nat} {H0:AH} (ai:H0[q1]? =some [(.str x2.s),(.int .i64 x2.cJ),(.bool x2.bad)]) {aS:List UInt8} {eL:aD} (h:fR F x2=some (aS,eL)):
 aG Tryz.prog 118 [(.ptr q1 0)] H0 fun v H'=>v=(.str aS)∧H'=(H0.set q1 [(.str eL.s),(.int .i64 eL.cJ),(.bool eL.bad)]):=by
 have aM:=aQ ai
 refine l7 uM eW [q1] fun hcl K0 aO H hH hfr=> ?_
 rw [←hH] at ai
 clear hH
 have hle:=hfr.le
 have DW:=aQ ai
 rw [fR.eq_1] at h
 refine az ai ?_
 obtain ⟨r3,hy1,h⟩:=aq h
 refine bC ak (dn (ai.trans rfl) hy1) ?_
 refine az ai ?_
 obtain ⟨o23,cN,h⟩:=aq h
 refine bz ak (pg (q1:=q1) (bW _ hfr) cA bX cN ?_)
 · rintro ⟨FA,BC⟩ rfl H hfr ai
   try dsimp only at h ai
   have hle:=hfr.le
   have aM:=aQ ai
   refine az ai ?_
   obtain ⟨s22,dV,h⟩:=aq h
   refine bz ak (pn (q1:=q1) hfr (ai.trans rfl) bX dV ?_)
   intro H hfr ai
   have hle:=hfr.le
   have aM:=aQ ai
   refine az ai ?_
   obtain ⟨rfl,rfl⟩:=cB h
   exact aO _ _ _ bh (jA hfr hcl (aW aZ (.str FA)) bf aX (ai.trans rfl) bX Fs Fq ⟨rfl,rfl⟩)
abbrev vg:ax:=(.rg [(au 3 0),(aj 4 (.call (.c (.fn 103 [])) [(.t 3)])),(au 5 4),(ay 6 (.mv (.t 0)) 5 false),(ay 7 (.call (.c (.fn 108 [])) [(.c (.str [33,35,36,37,38,39,42,43,45,47,61,63,94,95,96,123,124,125,126])),(.t 6)]) 5 false),(ay 8 (.bin .geq (.t 7) (.c (.int .i64 0))) 5 false),(aj 9 (.pick (.t 5) (.c (.bool true)) (.t 8))),(aR 2 9)])
abbrev H9:ax:=(.seq (.rg [(aj 2 (.aP (.c (.bool false))))]) (.seq (.sem (erase vg)) .ret))
theorem Ia:bN Tryz.prog 81 10 [(.tmp 2)] (erase H9):=⟨Tryz.f81,_,rfl,by decide,rfl,by kernel_rfl,rfl,rfl⟩
abbrev Ao:List Nat:=[0,2]
def sS (c1:UInt8):Option (Bool):=
 (gM c1).bind fun r2=>
 (if r2 then
  some true
 else
  (strings_IndexByte ([33,35,36,37,38,39,42,43,45,47,61,63,94,95,96,123,124,125,126]:List UInt8) c1).bind fun r3=>some (decide (0≤r3)))
def lF (c1:UInt8):Option (Bool):=
 (sS c1).bind fun t5=>
 some t5
theorem BD {c1:UInt8} {H:AH} {K:Exit→Env→AH→Prop} {t4:Bool}
 (h:sS c1=some t4)
 (kn:K .normal [(2,(.bool t4))] H):
 AX Tryz.prog Ao 10 H.length (erase vg) K [(0,(b8 c1)),(2,(.bool false))] H:=by
 refine bY fun K' hK=> ?_
 rw [sS.eq_1] at h
 refine aE ?_
 obtain ⟨r2,hy1,h⟩:=aq h
 refine bC ak (mD hy1) ?_
 refine aE ?_
 refine bP h (fun hy2 h=> ?_) fun hy2 h=> ?_
 · refine aV hy2 ?_
   obtain rfl:=aC h
   exact hK _ _ _ _ _ aJ ak kn
 · refine aV hy2 ?_
   obtain ⟨r3,hy3,h⟩:=aq h
   refine bC ak (vG (s1:=([33,35,36,37,38,39,42,43,45,47,61,63,94,95,96,123,124,125,126]:List UInt8)) (c2:=c1) hy3) ?_
   refine aE ?_
   obtain rfl:=aC h
   exact hK _ _ _ _ _ aJ ak kn
theorem yg {c1:UInt8} {H0:AH} {aS:Bool} (h:lF c1=some aS):
 aG Tryz.prog 81 [(b8 c1)] H0 fun v H'=>v=(.bool aS)∧H'=H0:=by
 refine fF Ia Ao fun hcl K0 aO=> ?_
 rw [lF.eq_1] at h
 refine aE ?_
 obtain ⟨t5,hy4,h⟩:=aq h
 refine bz ak (BD hy4 ?_)
 refine aE ?_
 obtain rfl:=aC h
 exact aO _ _ _ bh (aK hcl (aW aZ (.bool t5)) bf aX ⟨rfl,rfl⟩)
abbrev l9:ax:=(.seq (.rg [(aj 9 (.bin .lss (.t 8) (.t 7)))]) (.seq (.cond (.t 9) .skip (.exit 0)) (.seq (.blk 1 (.seq (.rg [(au 10 8),(aR 5 10)]) (.seq (.rg [(au 11 1),(au 12 0),(au 13 5),(aj 14 (.ixs (.t 12) (.t 13))),(aj 15 (.call (.t 11) [(.t 14)])),(aj 16 (.un .not (.t 15)))]) (.cond (.t 16) (.seq (.rg [(aj 4 (.aP (.c (.bool false))))]) .ret) .skip)))) (.rg [(aj 17 (.bin .add (.t 8) (.c (.int .i64 1)))),(au 8 17)]))))
abbrev BE:ax:=(.seq (.rg [(aj 4 (.aP (.c (.bool false))))]) (.seq (.seq (.rg [(au 6 0),(aj 7 (.lens (.t 6))),(aj 8 (.mv (.c (.int .i64 0))))]) (.blk 0 (.loop (erase l9)))) (.seq (.rg [(aj 4 (.aP (.c (.bool true))))]) .ret)))
theorem BF:bN Tryz.prog 54 18 [(.tmp 4)] (erase BE):=⟨Tryz.f54,_,rfl,by decide,rfl,by kernel_rfl,rfl,rfl⟩
abbrev tE:List Nat:=[0,1,4,5,7,8,9,16]
def dW (s1:List UInt8):(Bool×Int)→Option (St Bool Unit (Bool×Int))
 |(t2,t3)=>
  (if (decide (t3<(s1.length:Int))) then
   (idx s1 t3).bind fun x4=>
   (lF x4).bind fun r5=>
   (if (!r5) then
    some (.ret false)
   else
    some (.cY (t2,(IntKind.wrap .i64 (t3+1)))))
  else
   some (.dR ()))
def iO (F:Nat) (s1:List UInt8):Option (Bool):=
 ((iter (dW s1) F (false,0)).bind fun o8=>
 match o8 with
 | .inr ()=>
   some true
 | .inl r7=>
   some r7)
theorem wR {F:Nat} {t3:Int} {s1:List UInt8} {t2:Bool} {H:AH} {K:Exit→Env→AH→Prop} {o:(Bool)⊕(Unit)}
 (h:iter (dW s1) F (t2,t3)=some o)
 (dc:∀o':Unit,o= .inr o'→K (.exit 0) [] H)
 (kr:∀o':Bool,o= .inl o'→K .ret [(4,(.bool o'))] H):
 AX Tryz.prog tE 18 H.length (.loop (erase l9)) K [(0,(.str s1)),(1,(.fn 81 [])),(4,(.bool t2)),(7,(.int .i64 (s1.length:Int))),(8,(.int .i64 t3))] H:=by
 refine gL (fun s e H1=>match s with|(t2,t3)=>e=[(0,(.str s1)),(1,(.fn 81 [])),(4,(.bool t2)),(7,(.int .i64 (s1.length:Int))),(8,(.int .i64 t3))]∧H1=H) h ⟨rfl,rfl⟩ ?_
 rintro K' ⟨t2,t3⟩ st e H ⟨rfl,rfl⟩ h hN hB hR hX
 rw [dW.eq_1] at h
 refine aE ?_
 refine bk h (fun hy1 h=> ?_) fun hy1 h=> ?_
 · obtain ⟨x4,hy2,h⟩:=aq h
   refine aV hy2 ?_
   obtain ⟨r5,hy3,h⟩:=aq h
   refine bC ak (yg hy3) ?_
   refine aE ?_
   refine bk h (fun hy4 h=> ?_) fun hy4 h=> ?_
   · refine aE ?_
     obtain rfl:=aC h
     exact hX _ _ _ _ _ dm aJ ak (kr _ (hR _ rfl))
   · refine aE ?_
     obtain rfl:=aC h
     exact hN _ rfl _ _ _ _ aJ ak ⟨rfl,rfl⟩
 · refine aE ?_
   obtain rfl:=aC h
   exact hX _ _ _ _ _ dm WE.nil ak (dc _ (hB _ rfl))
theorem Ap {F:Nat} {s1:List UInt8} {H0:AH} {aS:Bool} (h:iO F s1=some aS):
 aG Tryz.prog 54 [(.str s1),(.fn 81 [])] H0 fun v H'=>v=(.bool aS)∧H'=H0:=by
 refine fF BF tE fun hcl K0 aO=> ?_
 rw [iO.eq_1] at h
 refine aE ?_
 obtain ⟨o8,bJ,h⟩:=aq h
 refine bz ak (wR bJ ?_ ?_)
 · rintro ⟨⟩ rfl
   try dsimp only at h
   refine aE ?_
   obtain rfl:=aC h
   exact aO _ _ _ bh (aK hcl (aW aZ (.bool true)) bf aX ⟨rfl,rfl⟩)
 · rintro r7 rfl
   try dsimp only at h
   refine aE ?_
   obtain rfl:=aC h
   exact aO _ _ _ bh (aK hcl (aW aZ (.bool r7)) bf aX ⟨rfl,rfl⟩)
abbrev pz:ax:=(.rg [(au 3 0),(aj 4 (.bin .eql (.t 3) (.c (.str [])))),(au 5 4),(ay 6 (.mv (.t 0)) 5 false),(ay 7 (.call (.c (.fn 54 [])) [(.t 6),(.c (.fn 81 []))]) 5 false),(ay 8 (.un .not (.t 7)) 5 false),(aj 9 (.pick (.t 5) (.c (.bool true)) (.t 8))),(aR 2 9)])
abbrev CL:ax:=(.seq (.rg [(aj 2 (.aP (.c (.bool false))))]) (.seq (.sem (erase pz)) .ret))
theorem CM:bN Tryz.prog 80 10 [(.tmp 2)] (erase CL):=⟨Tryz.f80,_,rfl,by decide,rfl,by kernel_rfl,rfl,rfl⟩
abbrev vh:List Nat:=[0,2]
def jc (F:Nat) (x1:List UInt8):Option (Bool):=
 (if (decide (x1=([]:List UInt8))) then
  some true
 else
  (iO F x1).bind fun r2=>some (!r2))
def jF (F:Nat) (x1:List UInt8):Option (Bool):=
 (jc F x1).bind fun t4=>
 some t4
theorem xP {F:Nat} {x1:List UInt8} {H:AH} {K:Exit→Env→AH→Prop} {t3:Bool}
 (h:jc F x1=some t3)
 (kn:K .normal [(2,(.bool t3))] H):
 AX Tryz.prog vh 10 H.length (erase pz) K [(0,(.str x1)),(2,(.bool false))] H:=by
 refine bY fun K' hK=> ?_
 rw [jc.eq_1] at h
 refine aE ?_
 refine bP h (fun hy1 h=> ?_) fun hy1 h=> ?_
 · refine aV hy1 ?_
   obtain rfl:=aC h
   exact hK _ _ _ _ _ aJ ak kn
 · refine aV hy1 ?_
   obtain ⟨r2,hy2,h⟩:=aq h
   refine bC ak (Ap hy2) ?_
   refine aE ?_
   obtain rfl:=aC h
   exact hK _ _ _ _ _ aJ ak kn
theorem BG {F:Nat} {x1:List UInt8} {H0:AH} {aS:Bool} (h:jF F x1=some aS):
 aG Tryz.prog 80 [(.str x1)] H0 fun v H'=>v=(.bool aS)∧H'=H0:=by
 refine fF CM vh fun hcl K0 aO=> ?_
 rw [jF.eq_1] at h
 refine aE ?_
 obtain ⟨t4,hy3,h⟩:=aq h
 refine bz ak (xP hy3 ?_)
 refine aE ?_
 obtain rfl:=aC h
 exact aO _ _ _ bh (aK hcl (aW aZ (.bool t4)) bf aX ⟨rfl,rfl⟩)
abbrev iD:ax:=(.seq (.rg [(aj 9 (.bin .lss (.t 8) (.t 7)))]) (.seq (.cond (.t 9) .skip (.exit 0)) (.seq (.blk 1 (.seq (.rg [(au 10 8),(aR 5 10)]) (.seq (.rg [(au 11 1),(au 12 0),(au 13 5),(aj 14 (.vF 1 (.t 12) (.t 13))),(aj 15 (.ld (.t 14) none)),(aj 16 (.call (.t 11) [(.t 15)]))]) (.cond (.t 16) (.seq (.rg [(au 17 5),(aR 4 17)]) .ret) .skip)))) (.rg [(aj 18 (.bin .add (.t 8) (.c (.int .i64 1)))),(au 8 18)]))))
abbrev tF:ax:=(.seq (.rg [(aj 4 (.aP (.c (.int .i64 0))))]) (.seq (.seq (.rg [(au 6 0),(aj 7 (.len (.t 6))),(aj 8 (.mv (.c (.int .i64 0))))]) (.blk 0 (.loop (erase iD)))) (.seq (.rg [(aj 4 (.aP (.c (.int .i64 (-1)))))]) .ret)))
theorem tG:bN Tryz.prog 72 19 [(.tmp 4)] (erase tF):=⟨Tryz.f72,_,rfl,by decide,rfl,by kernel_rfl,rfl,rfl⟩
abbrev j4:List Nat:=[0,1,4,5,7,8,9,16]
def cw (F:Nat) (s1:List (List UInt8)):(Int×Int)→Option (St Int Unit (Int×Int))
 |(t2,t3)=>
  (if (decide (t3<(s1.length:Int))) then
   (idx s1 t3).bind fun x4=>
   (jF F x4).bind fun r5=>
   (if r5 then
    some (.ret t3)
   else
    some (.cY (t2,(IntKind.wrap .i64 (t3+1)))))
  else
   some (.dR ()))
def fD (F:Nat) (s1:List (List UInt8)):Option (Int):=
 ((iter (cw F s1) F (0,0)).bind fun o8=>
 match o8 with
 | .inr ()=>
   some (-1)
 | .inl r7=>
   some r7)
theorem oa {F:Nat} {t3:Int} {s1:List (List UInt8)} {t2:Int} {H:AH} {K:Exit→Env→AH→Prop} {o:(Int)⊕(Unit)}
 (h:iter (cw F s1) F (t2,t3)=some o)
 (dc:∀o':Unit,o= .inr o'→K (.exit 0) [] H)
 (kr:∀o':Int,o= .inl o'→K .ret [(4,(.int .i64 o'))] H):
 AX Tryz.prog j4 19 H.length (.loop (erase iD)) K [(0,(.sl .n 1 (ml AV.str s1))),(1,(.fn 80 [])),(4,(.int .i64 t2)),(7,(.int .i64 (s1.length:Int))),(8,(.int .i64 t3))] H:=by
 refine gL (fun s e H1=>match s with|(t2,t3)=>e=[(0,(.sl .n 1 (ml AV.str s1))),(1,(.fn 80 [])),(4,(.int .i64 t2)),(7,(.int .i64 (s1.length:Int))),(8,(.int .i64 t3))]∧H1=H) h ⟨rfl,rfl⟩ ?_
 rintro K' ⟨t2,t3⟩ st e H ⟨rfl,rfl⟩ h hN hB hR hX
 rw [cw.eq_1] at h
 refine aE ?_
 refine bk h (fun hy1 h=> ?_) fun hy1 h=> ?_
 · obtain ⟨x4,hy2,h⟩:=aq h
   refine aV hy2 ?_
   obtain ⟨r5,hy3,h⟩:=aq h
   refine bC ak (BG hy3) ?_
   refine aE ?_
   refine bk h (fun hy4 h=> ?_) fun hy4 h=> ?_
   · refine aE ?_
     obtain rfl:=aC h
     exact hX _ _ _ _ _ dm aJ ak (kr _ (hR _ rfl))
   · refine aE ?_
     obtain rfl:=aC h
     exact hN _ rfl _ _ _ _ aJ ak ⟨rfl,rfl⟩
 · refine aE ?_
   obtain rfl:=aC h
   exact hX _ _ _ _ _ dm WE.nil ak (dc _ (hB _ rfl))
theorem sU {F:Nat} {s1:List (List UInt8)} {H0:AH} {aS:Int} (h:fD F s1=some aS):
 aG Tryz.prog 72 [(.sl .n 1 (ml AV.str s1)),(.fn 80 [])] H0 fun v H'=>v=(.int .i64 aS)∧H'=H0:=by
 refine fF tG j4 fun hcl K0 aO=> ?_
 rw [fD.eq_1] at h
 refine aE ?_
 obtain ⟨o8,bJ,h⟩:=aq h
 refine bz ak (oa bJ ?_ ?_)
 · rintro ⟨⟩ rfl
   try dsimp only at h
   refine aE ?_
   obtain rfl:=aC h
   exact aO _ _ _ bh (aK hcl (aW aZ (.int .i64 (-1))) bf aX ⟨rfl,rfl⟩)
 · rintro r7 rfl
   try dsimp only at h
   refine aE ?_
   obtain rfl:=aC h
   exact aO _ _ _ bh (aK hcl (aW aZ (.int .i64 r7)) bf aX ⟨rfl,rfl⟩)
abbrev pE:ax:=(.seq (.rg [(aj 4 (.aP (.c (.bool false))))]) (.seq (.rg [(au 5 0),(au 6 1),(aj 7 (.call (.c (.fn 72 [])) [(.t 5),(.t 6)])),(aj 8 (.bin .geq (.t 7) (.c (.int .i64 0)))),(aR 4 8)]) .ret))
theorem pF:bN Tryz.prog 46 9 [(.tmp 4)] (erase pE):=⟨Tryz.f46,_,rfl,by decide,rfl,by kernel_rfl,rfl,rfl⟩
abbrev pG:List Nat:=[0,1,4]
def eH (F:Nat) (s1:List (List UInt8)):Option (Bool):=
 (fD F s1).bind fun r2=>some (decide (0≤r2))
theorem ob {F:Nat} {s1:List (List UInt8)} {H0:AH} {aS:Bool} (h:eH F s1=some aS):
 aG Tryz.prog 46 [(.sl .n 1 (ml AV.str s1)),(.fn 80 [])] H0 fun v H'=>v=(.bool aS)∧H'=H0:=by
 refine fF pF pG fun hcl K0 aO=> ?_
 rw [eH.eq_1] at h
 refine aE ?_
 obtain ⟨r2,hy1,h⟩:=aq h
 refine bC ak (sU hy1) ?_
 refine aE ?_
 obtain rfl:=aC h
 exact aO _ _ _ bh (aK hcl (aW aZ (.bool (decide (0≤r2)))) bf aX ⟨rfl,rfl⟩)
abbrev FB:ax:=(.seq (.rg [(aj 2 (.aP (.c (.bool false))))]) (.seq (.rg [(au 3 0),(aj 4 (.call (.c (.fn 47 [])) [(.t 3),(.c (.str [46]))])),(aj 5 (.call (.c (.fn 46 [])) [(.t 4),(.c (.fn 80 []))])),(aj 6 (.un .not (.t 5))),(aR 2 6)]) .ret))
theorem FC:bN Tryz.prog 56 7 [(.tmp 2)] (erase FB):=⟨Tryz.f56,_,rfl,by decide,rfl,by kernel_rfl,rfl,rfl⟩
abbrev FD:List Nat:=[0,2]
def j7 (F:Nat) (s1:List UInt8):Option (Bool):=
 (strings_Split s1 ([46]:List UInt8)).bind fun r2=>(eH F r2).bind fun r3=>some (!r3)
theorem wS {F:Nat} {s1:List UInt8} {H0:AH} {aS:Bool} (h:j7 F s1=some aS):
 aG Tryz.prog 56 [(.str s1)] H0 fun v H'=>v=(.bool aS)∧H'=H0:=by
 refine fF FC FD fun hcl K0 aO=> ?_
 rw [j7.eq_1] at h
 refine aE ?_
 obtain ⟨r2,hy1,h⟩:=aq h
 refine bC ak (iC (s1:=s1) (s2:=([46]:List UInt8)) hy1) ?_
 refine aE ?_
 obtain ⟨r3,hy2,h⟩:=aq h
 refine bC ak (ob hy2) ?_
 refine aE ?_
 obtain rfl:=aC h
 exact aO _ _ _ bh (aK hcl (aW aZ (.bool (!r3))) bf aX ⟨rfl,rfl⟩)
abbrev jG:ax:=(.rg [(au 17 4),(aj 18 (.bin .eql (.t 17) (.c (b8 46)))),(au 19 18),(ay 20 (.mv (.t 4)) 19 false),(ay 21 (.bin .neq (.t 20) (.c (b8 0))) 19 false),(ay 22 (.mv (.t 21)) 19 false),(ay 23 (.mv (.t 4)) 22 true),(ay 24 (.call (.c (.fn 81 [])) [(.t 23)]) 22 true),(ay 25 (.pick (.t 22) (.t 24) (.c (.bool false))) 19 false),(aj 26 (.pick (.t 19) (.c (.bool true)) (.t 25)))])
abbrev js:ax:=(.seq (.seq (.sem (erase jG)) (.cond (.t 26) .skip (.exit 0))) (.seq (.blk 1 (.rg [(au 29 0),(aj 30 (.iy (.t 29))),(aj 31 (.cF (.t 30) 1)),(aj 32 (.ld (.t 31) none)),(aj 33 (.bin .add (.t 32) (.c (.int .i64 1)))),(aj 34 (.iy (.t 29))),(aj 35 (.cF (.t 34) 1)),(cR (.st (.t 35) (.t 33) 1))])) (.rg [(au 27 0),(aj 28 (.call (.c (.fn 117 [])) [(.t 27)])),(aR 4 28)])))
abbrev jH:ax:=(.rg [(au 46 0),(au 47 0),(aj 48 (.iy (.t 47))),(aj 49 (.cF (.t 48) 2)),(aj 50 (.ld (.t 49) none)),(au 51 50),(ay 52 (.mv (.t 5)) 51 false),(ay 53 (.call (.c (.fn 56 [])) [(.t 52)]) 51 false),(ay 54 (.un .not (.t 53)) 51 false),(aj 55 (.pick (.t 51) (.c (.bool true)) (.t 54))),(aj 56 (.iy (.t 46))),(aj 57 (.cF (.t 56) 2)),(cR (.st (.t 57) (.t 55) 1))])
abbrev vP:ax:=(.seq (.rg [(aj 2 (.aP (.c (.str []))))]) (.seq (.seq (.rg [(au 6 0),(aj 7 (.call (.c (.fn 117 [])) [(.t 6)])),(aj 8 (.bin .eql (.t 7) (.c (b8 34))))]) (.cond (.t 8) (.seq (.rg [(au 9 0),(aj 10 (.call (.c (.fn 118 [])) [(.t 9)])),(aR 2 10)]) .ret) .skip)) (.seq (.rg [(au 11 0),(aj 12 (.iy (.t 11))),(aj 13 (.cF (.t 12) 1)),(aj 14 (.ld (.t 13) none)),(aR 3 14)]) (.seq (.seq (.rg [(au 15 0),(aj 16 (.call (.c (.fn 117 [])) [(.t 15)])),(aR 4 16)]) (.blk 0 (.loop (erase js)))) (.seq (.rg [(au 36 0),(aj 37 (.iy (.t 36))),(aj 38 (.cF (.t 37) 0)),(aj 39 (.ld (.t 38) none)),(au 40 3),(au 41 0),(aj 42 (.iy (.t 41))),(aj 43 (.cF (.t 42) 1)),(aj 44 (.ld (.t 43) none)),(aj 45 (.gR (.t 39) (some (.t 40)) (some (.t 44)))),(aR 5 45)]) (.seq (.sem (erase jH)) (.seq (.rg [(au 58 5),(aR 2 58)]) .ret)))))))
theorem vQ:bN Tryz.prog 95 59 [(.tmp 2)] (erase vP):=⟨Tryz.f95,_,rfl,by decide,rfl,by kernel_rfl,rfl,rfl⟩
abbrev fE:List Nat:=[0,2,3,4,5,8,26]
def dX (c7:UInt8):Option (Bool):=
 (if (decide (c7=46)) then
  some true
 else
  (if (!decide (c7=0)) then
   (lF c7).bind fun r9=>some r9
  else
   some false))
def dY:(UInt8×aD)→Option (St ((List UInt8)×aD) aD (UInt8×aD))
 |(c7,s8)=>
  (dX c7).bind fun t11=>
  (if t11 then
   (bx (aD.mk s8.s (IntKind.wrap .i64 (s8.cJ+1)) s8.bad)).bind fun iz=>
   some (.cY (iz,(aD.mk s8.s (IntKind.wrap .i64 (s8.cJ+1)) s8.bad)))
  else
   some (.dR s8))
def dZ (F:Nat) (gb:aD) (kY:List UInt8):Option (aD):=
 (if gb.bad then
  some (aD.mk gb.s gb.cJ true)
 else
  (j7 F kY).bind fun r16=>some (aD.mk gb.s gb.cJ (!r16)))
def di (F:Nat) (x2:aD):Option ((List UInt8)×aD):=
 (bx x2).bind fun r3=>
 (if (decide (r3=34)) then
  (fR F x2).bind fun (r4,r5)=>some (r4,r5)
 else
  (bx x2).bind fun r6=>
  ((iter dY F (r6,x2)).bind fun o19=>
  match o19 with
  | .inr gb=>
    (sub gb.s x2.cJ gb.cJ).bind fun kY=>
    (dZ F gb kY).bind fun sV=>
    some (kY,sV)
  | .inl _=>none))
theorem qN {c7:UInt8} {q1:Nat} {x2:aD} {s8:aD} {H0 H:AH} (hfr:Fr H0 H0.length [q1] H) (ai:H[q1]? =some [(.str s8.s),(.int .i64 s8.cJ),(.bool s8.bad)]) (dL:q1<H0.length) {K:Exit→Env→AH→Prop} {t10:Bool}
 (h:dX c7=some t10)
 (kn:∀H':AH,Fr H0 H0.length [q1] H'→H'[q1]? =some [(.str s8.s),(.int .i64 s8.cJ),(.bool s8.bad)]→K .normal [(0,(.ptr q1 0)),(3,(.int .i64 x2.cJ)),(26,(.bool t10))] H'):
 AX Tryz.prog fE 59 H0.length (erase jG) K [(0,(.ptr q1 0)),(3,(.int .i64 x2.cJ)),(4,(b8 c7))] H:=by
 refine bY fun K' hK=> ?_
 have hle:=hfr.le
 have aM:=aQ ai
 rw [dX.eq_1] at h
 refine az ai ?_
 refine bP h (fun bJ h=> ?_) fun bJ h=> ?_
 · refine az (aA bJ ai) ?_
   obtain rfl:=aC h
   exact hK _ _ _ _ _ aJ ak (kn _ hfr (ai.trans rfl))
 · refine az (aA bJ ai) ?_
   refine bP h (fun b6 h=> ?_) fun b6 h=> ?_
   · refine az (aA b6 ai) ?_
     obtain ⟨r9,cC,h⟩:=aq h
     refine bC ak (yg cC) ?_
     refine az ai ?_
     obtain rfl:=aC h
     exact hK _ _ _ _ _ aJ ak (kn _ hfr (ai.trans rfl))
   · refine az (aA b6 ai) ?_
     obtain rfl:=aC h
     exact hK _ _ _ _ _ aJ ak (kn _ hfr (ai.trans rfl))
theorem qO {F:Nat} {c7:UInt8} {s8:aD} {q1:Nat} {x2:aD} {H0 H:AH} (hfr:Fr H0 H0.length [q1] H) (ai:H[q1]? =some [(.str s8.s),(.int .i64 s8.cJ),(.bool s8.bad)]) (dL:q1<H0.length) {K:Exit→Env→AH→Prop} {o:((List UInt8)×aD)⊕(aD)}
 (h:iter dY F (c7,s8)=some o)
 (dc:∀o':aD,o= .inr o'→∀H':AH,Fr H0 H0.length [q1] H'→H'[q1]? =some [(.str o'.s),(.int .i64 o'.cJ),(.bool o'.bad)]→K (.exit 0) [(0,(.ptr q1 0)),(3,(.int .i64 x2.cJ))] H'):
 AX Tryz.prog fE 59 H0.length (.loop (erase js)) K [(0,(.ptr q1 0)),(3,(.int .i64 x2.cJ)),(4,(b8 c7))] H:=by
 refine gL (fun s e H1=>match s with|(c7,s8)=>e=[(0,(.ptr q1 0)),(3,(.int .i64 x2.cJ)),(4,(b8 c7))]∧Fr H0 H0.length [q1] H1∧H1[q1]? =some [(.str s8.s),(.int .i64 s8.cJ),(.bool s8.bad)]) h ⟨rfl,hfr,ai⟩ ?_
 rintro K' ⟨c7,s8⟩ st e H ⟨rfl,hfr,ai⟩ h hN hB hR hX
 have hle:=hfr.le
 have aM:=aQ ai
 rw [dY.eq_1] at h
 refine az ai ?_
 obtain ⟨t11,cr,h⟩:=aq h
 refine bz ak (qN (q1:=q1) (x2:=x2) (s8:=s8) hfr (ai.trans rfl) bX cr ?_)
 intro H hfr ai
 have hle:=hfr.le
 have aM:=aQ ai
 refine az ai ?_
 refine bk h (fun cP h=> ?_) fun cP h=> ?_
 · refine az ai ?_
   obtain ⟨iz,ck,h⟩:=aq h
   refine Ki (cj ck) (kW.cons (.one _ _ (gJ.Ck cA Kj)) (kW.nil)) ?_
   refine az ai ?_
   obtain rfl:=aC h
   exact hN _ rfl _ _ _ _ aJ ak ⟨rfl,(bW _ hfr),cA⟩
 · refine az ai ?_
   obtain rfl:=aC h
   exact hX _ _ _ _ _ dm aJ ak (dc _ (hB _ rfl) _ hfr (ai.trans rfl))
theorem qP {F:Nat} {gb:aD} {kY:List UInt8} {q1:Nat} {H0 H:AH} (hfr:Fr H0 H0.length [q1] H) (ai:H[q1]? =some [(.str gb.s),(.int .i64 gb.cJ),(.bool gb.bad)]) (dL:q1<H0.length) {K:Exit→Env→AH→Prop} {sR:aD}
 (h:dZ F gb kY=some sR)
 (kn:∀H':AH,Fr H0 H0.length [q1] H'→H'[q1]? =some [(.str sR.s),(.int .i64 sR.cJ),(.bool sR.bad)]→K .normal [(5,(.str kY))] H'):
 AX Tryz.prog fE 59 H0.length (erase jH) K [(0,(.ptr q1 0)),(5,(.str kY))] H:=by
 refine bY fun K' hK=> ?_
 have hle:=hfr.le
 have aM:=aQ ai
 rw [dZ.eq_1] at h
 refine az ai ?_
 refine bP h (fun cH h=> ?_) fun cH h=> ?_
 · refine az (aA cH ai) ?_
   obtain rfl:=aC h
   exact hK _ _ _ _ _ aJ ak (kn _ (bW _ hfr) cA)
 · refine az (aA cH ai) ?_
   obtain ⟨r16,dV,h⟩:=aq h
   refine bC ak (wS dV) ?_
   refine az ai ?_
   obtain rfl:=aC h
   exact hK _ _ _ _ _ aJ ak (kn _ (bW _ hfr) cA)
theorem uN {F:Nat} {x2:aD} {q1:Nat} {H0:AH} (ai:H0[q1]? =some [(.str x2.s),(.int .i64 x2.cJ),(.bool x2.bad)]) {aS:List UInt8} {eL:aD} (h:di F x2=some (aS,eL)):
 aG Tryz.prog 95 [(.ptr q1 0)] H0 fun v H'=>v=(.str aS)∧H'=(H0.set q1 [(.str eL.s),(.int .i64 eL.cJ),(.bool eL.bad)]):=by
 have aM:=aQ ai
 refine l7 vQ fE [q1] fun hcl K0 aO H hH hfr=> ?_
 rw [←hH] at ai
 clear hH
 have hle:=hfr.le
 have DW:=aQ ai
 rw [di.eq_1] at h
 refine az ai ?_
 obtain ⟨r3,hy1,h⟩:=aq h
 refine Ki (cj hy1) (kW.cons (.one _ _ (gJ.Ck (ai.trans rfl) Kj)) (kW.nil)) ?_
 refine az ai ?_
 refine bk h (fun hy2 h=> ?_) fun hy2 h=> ?_
 · refine az ai ?_
   obtain ⟨⟨r4,r5⟩,hy3,h⟩:=aq h
   dsimp only at h
   refine bC ak (tD (ai.trans rfl) hy3) ?_
   refine az ai ?_
   obtain ⟨rfl,rfl⟩:=cB h
   exact aO _ _ _ bh (jA (bW _ hfr) hcl (aW aZ (.str r4)) bf aX cA bX Fs Fq ⟨rfl,rfl⟩)
 · refine az ai ?_
   obtain ⟨r6,hy4,h⟩:=aq h
   refine Ki (cj hy4) (kW.cons (.one _ _ (gJ.Ck (ai.trans rfl) Kj)) (kW.nil)) ?_
   refine az ai ?_
   obtain ⟨o19,cx,h⟩:=aq h
   refine bz ak (qO (q1:=q1) (x2:=x2) hfr (ai.trans rfl) bX cx ?_)
   · rintro gb rfl H hfr ai
     try dsimp only at h ai
     have hle:=hfr.le
     have aM:=aQ ai
     refine az ai ?_
     obtain ⟨kY,cN,h⟩:=aq h
     refine az (aA cN ai) ?_
     obtain ⟨sV,eT,h⟩:=aq h
     refine bz ak (qP (q1:=q1) hfr (ai.trans rfl) bX eT ?_)
     intro H hfr ai
     have hle:=hfr.le
     have aM:=aQ ai
     refine az ai ?_
     obtain ⟨rfl,rfl⟩:=cB h
     exact aO _ _ _ bh (jA hfr hcl (aW aZ (.str kY)) bf aX (ai.trans rfl) bX Fs Fq ⟨rfl,rfl⟩)
abbrev Ib:ax:=(.seq (.rg [(aj 1 (.box (.t 0))),(aj 2 (.aP (.c (.bool false))))]) (.seq (.rg [(aj 3 (.ld (.t 1) (some 2))),(aj 4 (.build [(.str []),(.str [])] [])),(aj 5 (.seq [.s, .s] false (.t 3) (.t 4))),(aR 2 5)]) .ret))
theorem Ic:bN Tryz.prog 30 6 [(.tmp 2)] (erase Ib):=⟨Tryz.f30,_,rfl,by decide,rfl,by kernel_rfl,rfl,rfl⟩
abbrev Ie:List Nat:=[0,1,2]
def lG (a1:aB):Option (Bool):=
 some (decide (a1.av=([]:List UInt8))&&decide (a1.domain=([]:List UInt8)))
theorem yh {a1:aB} {H0:AH} {aS:Bool} (h:lG a1=some aS):
 aG Tryz.prog 30 [(.agg [(.str a1.av),(.str a1.domain)])] H0 fun v H'=>v=(.bool aS)∧H'=H0:=by
 refine l7 Ic Ie [] fun hcl K0 aO H hH hfr=> ?_
 clear hH
 have hle:=hfr.le
 rw [lG.eq_1] at h
 refine cM ?_
 obtain rfl:=aC h
 exact aO _ _ _ bh (aT (Fr.app hfr) hcl (aW aZ (.bool (decide (a1.av=([]:List UInt8))&&decide (a1.domain=([]:List UInt8))))) bf aX ⟨rfl,rfl⟩)
abbrev k9:ax:=(.seq (.rg [(aj 9 (.bin .lss (.t 8) (.t 7)))]) (.seq (.cond (.t 9) .skip (.exit 0)) (.seq (.blk 1 (.seq (.rg [(au 10 8),(aR 5 10)]) (.seq (.rg [(au 11 1),(au 12 0),(au 13 5),(aj 14 (.ixs (.t 12) (.t 13))),(aj 15 (.call (.t 11) [(.t 14)])),(aj 16 (.un .not (.t 15)))]) (.cond (.t 16) (.seq (.rg [(aj 4 (.aP (.c (.bool false))))]) .ret) .skip)))) (.rg [(aj 17 (.bin .add (.t 8) (.c (.int .i64 1)))),(au 8 17)]))))
abbrev Aq:ax:=(.seq (.rg [(aj 4 (.aP (.c (.bool false))))]) (.seq (.seq (.rg [(au 6 0),(aj 7 (.lens (.t 6))),(aj 8 (.mv (.c (.int .i64 0))))]) (.blk 0 (.loop (erase k9)))) (.seq (.rg [(aj 4 (.aP (.c (.bool true))))]) .ret)))
theorem As:bN Tryz.prog 54 18 [(.tmp 4)] (erase Aq):=⟨Tryz.f54,_,rfl,by decide,rfl,by kernel_rfl,rfl,rfl⟩
abbrev ru:List Nat:=[0,1,4,5,7,8,9,16]
def dz (s1:List UInt8):(Bool×Int)→Option (St Bool Unit (Bool×Int))
 |(t2,t3)=>
  (if (decide (t3<(s1.length:Int))) then
   (idx s1 t3).bind fun x4=>
   (jE x4).bind fun r5=>
   (if (!r5) then
    some (.ret false)
   else
    some (.cY (t2,(IntKind.wrap .i64 (t3+1)))))
  else
   some (.dR ()))
def gV (F:Nat) (s1:List UInt8):Option (Bool):=
 ((iter (dz s1) F (false,0)).bind fun o8=>
 match o8 with
 | .inr ()=>
   some true
 | .inl r7=>
   some r7)
theorem vR {F:Nat} {t3:Int} {s1:List UInt8} {t2:Bool} {H:AH} {K:Exit→Env→AH→Prop} {o:(Bool)⊕(Unit)}
 (h:iter (dz s1) F (t2,t3)=some o)
 (dc:∀o':Unit,o= .inr o'→K (.exit 0) [] H)
 (kr:∀o':Bool,o= .inl o'→K .ret [(4,(.bool o'))] H):
 AX Tryz.prog ru 18 H.length (.loop (erase k9)) K [(0,(.str s1)),(1,(.fn 55 [])),(4,(.bool t2)),(7,(.int .i64 (s1.length:Int))),(8,(.int .i64 t3))] H:=by
 refine gL (fun s e H1=>match s with|(t2,t3)=>e=[(0,(.str s1)),(1,(.fn 55 [])),(4,(.bool t2)),(7,(.int .i64 (s1.length:Int))),(8,(.int .i64 t3))]∧H1=H) h ⟨rfl,rfl⟩ ?_
 rintro K' ⟨t2,t3⟩ st e H ⟨rfl,rfl⟩ h hN hB hR hX
 rw [dz.eq_1] at h
 refine aE ?_
 refine bk h (fun hy1 h=> ?_) fun hy1 h=> ?_
 · obtain ⟨x4,hy2,h⟩:=aq h
   refine aV hy2 ?_
   obtain ⟨r5,hy3,h⟩:=aq h
   refine bC ak (tC hy3) ?_
   refine aE ?_
   refine bk h (fun hy4 h=> ?_) fun hy4 h=> ?_
   · refine aE ?_
     obtain rfl:=aC h
     exact hX _ _ _ _ _ dm aJ ak (kr _ (hR _ rfl))
   · refine aE ?_
     obtain rfl:=aC h
     exact hN _ rfl _ _ _ _ aJ ak ⟨rfl,rfl⟩
 · refine aE ?_
   obtain rfl:=aC h
   exact hX _ _ _ _ _ dm WE.nil ak (dc _ (hB _ rfl))
theorem yE {F:Nat} {s1:List UInt8} {H0:AH} {aS:Bool} (h:gV F s1=some aS):
 aG Tryz.prog 54 [(.str s1),(.fn 55 [])] H0 fun v H'=>v=(.bool aS)∧H'=H0:=by
 refine fF As ru fun hcl K0 aO=> ?_
 rw [gV.eq_1] at h
 refine aE ?_
 obtain ⟨o8,bJ,h⟩:=aq h
 refine bz ak (vR bJ ?_ ?_)
 · rintro ⟨⟩ rfl
   try dsimp only at h
   refine aE ?_
   obtain rfl:=aC h
   exact aO _ _ _ bh (aK hcl (aW aZ (.bool true)) bf aX ⟨rfl,rfl⟩)
 · rintro r7 rfl
   try dsimp only at h
   refine aE ?_
   obtain rfl:=aC h
   exact aO _ _ _ bh (aK hcl (aW aZ (.bool r7)) bf aX ⟨rfl,rfl⟩)
abbrev tH:ax:=(.rg [(au 3 0),(aj 4 (.bin .neq (.t 3) (.c (.str [])))),(au 5 4),(ay 6 (.mv (.t 0)) 5 true),(ay 7 (.lens (.t 6)) 5 true),(ay 8 (.bin .leq (.t 7) (.c (.int .i64 64))) 5 true),(aj 9 (.pick (.t 5) (.t 8) (.c (.bool false)))),(au 10 9),(ay 11 (.mv (.t 0)) 10 true),(ay 12 (.call (.c (.fn 54 [])) [(.t 11),(.c (.fn 55 []))]) 10 true),(aj 13 (.pick (.t 10) (.t 12) (.c (.bool false)))),(aR 2 13)])
abbrev FE:ax:=(.seq (.rg [(aj 2 (.aP (.c (.bool false))))]) (.seq (.sem (erase tH)) .ret))
theorem FH:bN Tryz.prog 31 14 [(.tmp 2)] (erase FE):=⟨Tryz.f31,_,rfl,by decide,rfl,by kernel_rfl,rfl,rfl⟩
abbrev yj:List Nat:=[0,2]
def kE (F:Nat) (s1:List UInt8):Option (Bool):=
 (if (!decide (s1=([]:List UInt8))) then
  (if (decide ((s1.length:Int)≤64)) then
   (gV F s1).bind fun r2=>some r2
  else
   some false)
 else
  some false)
def mb (F:Nat) (s1:List UInt8):Option (Bool):=
 (kE F s1).bind fun t4=>
 some t4
theorem Au {F:Nat} {s1:List UInt8} {H:AH} {K:Exit→Env→AH→Prop} {t3:Bool}
 (h:kE F s1=some t3)
 (kn:K .normal [(2,(.bool t3))] H):
 AX Tryz.prog yj 14 H.length (erase tH) K [(0,(.str s1)),(2,(.bool false))] H:=by
 refine bY fun K' hK=> ?_
 rw [kE.eq_1] at h
 refine aE ?_
 refine bP h (fun hy1 h=> ?_) fun hy1 h=> ?_
 · refine aV hy1 ?_
   refine bP h (fun hy2 h=> ?_) fun hy2 h=> ?_
   · refine aV hy2 ?_
     obtain ⟨r2,hy3,h⟩:=aq h
     refine bC ak (yE hy3) ?_
     refine aE ?_
     obtain rfl:=aC h
     exact hK _ _ _ _ _ aJ ak kn
   · refine aV hy2 ?_
     obtain rfl:=aC h
     exact hK _ _ _ _ _ aJ ak kn
 · refine aV hy1 ?_
   obtain rfl:=aC h
   exact hK _ _ _ _ _ aJ ak kn
theorem D4 {F:Nat} {s1:List UInt8} {H0:AH} {aS:Bool} (h:mb F s1=some aS):
 aG Tryz.prog 31 [(.str s1)] H0 fun v H'=>v=(.bool aS)∧H'=H0:=by
 refine fF FH yj fun hcl K0 aO=> ?_
 rw [mb.eq_1] at h
 refine aE ?_
 obtain ⟨t4,hy4,h⟩:=aq h
 refine bz ak (Au hy4 ?_)
 refine aE ?_
 obtain rfl:=aC h
 exact aO _ _ _ bh (aK hcl (aW aZ (.bool t4)) bf aX ⟨rfl,rfl⟩)
abbrev BH:ax:=(.seq (.rg [(aj 2 (.aP (.c (.bool false))))]) (.seq (.rg [(au 3 0),(aj 4 (.lens (.t 3))),(aj 5 (.bin .gtr (.t 4) (.c (.int .i64 63)))),(aR 2 5)]) .ret))
theorem BI:bN Tryz.prog 44 6 [(.tmp 2)] (erase BH):=⟨Tryz.f44,_,rfl,by decide,rfl,by kernel_rfl,rfl,rfl⟩
abbrev BJ:List Nat:=[0,2]
def iP (x1:List UInt8):Option (Bool):=
 some (decide (63<(x1.length:Int)))
theorem Av {x1:List UInt8} {H0:AH} {aS:Bool} (h:iP x1=some aS):
 aG Tryz.prog 44 [(.str x1)] H0 fun v H'=>v=(.bool aS)∧H'=H0:=by
 refine fF BI BJ fun hcl K0 aO=> ?_
 rw [iP.eq_1] at h
 refine aE ?_
 obtain rfl:=aC h
 exact aO _ _ _ bh (aK hcl (aW aZ (.bool (decide (63<(x1.length:Int))))) bf aX ⟨rfl,rfl⟩)
abbrev gW:ax:=(.seq (.rg [(aj 9 (.bin .lss (.t 8) (.t 7)))]) (.seq (.cond (.t 9) .skip (.exit 0)) (.seq (.blk 1 (.seq (.rg [(au 10 8),(aR 5 10)]) (.seq (.rg [(au 11 1),(au 12 0),(au 13 5),(aj 14 (.vF 1 (.t 12) (.t 13))),(aj 15 (.ld (.t 14) none)),(aj 16 (.call (.t 11) [(.t 15)]))]) (.cond (.t 16) (.seq (.rg [(au 17 5),(aR 4 17)]) .ret) .skip)))) (.rg [(aj 18 (.bin .add (.t 8) (.c (.int .i64 1)))),(au 8 18)]))))
abbrev sW:ax:=(.seq (.rg [(aj 4 (.aP (.c (.int .i64 0))))]) (.seq (.seq (.rg [(au 6 0),(aj 7 (.len (.t 6))),(aj 8 (.mv (.c (.int .i64 0))))]) (.blk 0 (.loop (erase gW)))) (.seq (.rg [(aj 4 (.aP (.c (.int .i64 (-1)))))]) .ret)))
theorem sX:bN Tryz.prog 72 19 [(.tmp 4)] (erase sW):=⟨Tryz.f72,_,rfl,by decide,rfl,by kernel_rfl,rfl,rfl⟩
abbrev jI:List Nat:=[0,1,4,5,7,8,9,16]
def cq (s1:List (List UInt8)):(Int×Int)→Option (St Int Unit (Int×Int))
 |(t2,t3)=>
  (if (decide (t3<(s1.length:Int))) then
   (idx s1 t3).bind fun x4=>
   (iP x4).bind fun r5=>
   (if r5 then
    some (.ret t3)
   else
    some (.cY (t2,(IntKind.wrap .i64 (t3+1)))))
  else
   some (.dR ()))
def eZ (F:Nat) (s1:List (List UInt8)):Option (Int):=
 ((iter (cq s1) F (0,0)).bind fun o8=>
 match o8 with
 | .inr ()=>
   some (-1)
 | .inl r7=>
   some r7)
theorem mE {F:Nat} {t3:Int} {s1:List (List UInt8)} {t2:Int} {H:AH} {K:Exit→Env→AH→Prop} {o:(Int)⊕(Unit)}
 (h:iter (cq s1) F (t2,t3)=some o)
 (dc:∀o':Unit,o= .inr o'→K (.exit 0) [] H)
 (kr:∀o':Int,o= .inl o'→K .ret [(4,(.int .i64 o'))] H):
 AX Tryz.prog jI 19 H.length (.loop (erase gW)) K [(0,(.sl .n 1 (ml AV.str s1))),(1,(.fn 44 [])),(4,(.int .i64 t2)),(7,(.int .i64 (s1.length:Int))),(8,(.int .i64 t3))] H:=by
 refine gL (fun s e H1=>match s with|(t2,t3)=>e=[(0,(.sl .n 1 (ml AV.str s1))),(1,(.fn 44 [])),(4,(.int .i64 t2)),(7,(.int .i64 (s1.length:Int))),(8,(.int .i64 t3))]∧H1=H) h ⟨rfl,rfl⟩ ?_
 rintro K' ⟨t2,t3⟩ st e H ⟨rfl,rfl⟩ h hN hB hR hX
 rw [cq.eq_1] at h
 refine aE ?_
 refine bk h (fun hy1 h=> ?_) fun hy1 h=> ?_
 · obtain ⟨x4,hy2,h⟩:=aq h
   refine aV hy2 ?_
   obtain ⟨r5,hy3,h⟩:=aq h
   refine bC ak (Av hy3) ?_
   refine aE ?_
   refine bk h (fun hy4 h=> ?_) fun hy4 h=> ?_
   · refine aE ?_
     obtain rfl:=aC h
     exact hX _ _ _ _ _ dm aJ ak (kr _ (hR _ rfl))
   · refine aE ?_
     obtain rfl:=aC h
     exact hN _ rfl _ _ _ _ aJ ak ⟨rfl,rfl⟩
 · refine aE ?_
   obtain rfl:=aC h
   exact hX _ _ _ _ _ dm WE.nil ak (dc _ (hB _ rfl))
theorem qQ {F:Nat} {s1:List (List UInt8)} {H0:AH} {aS:Int} (h:eZ F s1=some aS):
 aG Tryz.prog 72 [(.sl .n 1 (ml AV.str s1)),(.fn 44 [])] H0 fun v H'=>v=(.int .i64 aS)∧H'=H0:=by
 refine fF sX jI fun hcl K0 aO=> ?_
 rw [eZ.eq_1] at h
 refine aE ?_
 obtain ⟨o8,bJ,h⟩:=aq h
 refine bz ak (mE bJ ?_ ?_)
 · rintro ⟨⟩ rfl
   try dsimp only at h
   refine aE ?_
   obtain rfl:=aC h
   exact aO _ _ _ bh (aK hcl (aW aZ (.int .i64 (-1))) bf aX ⟨rfl,rfl⟩)
 · rintro r7 rfl
   try dsimp only at h
   refine aE ?_
   obtain rfl:=aC h
   exact aO _ _ _ bh (aK hcl (aW aZ (.int .i64 r7)) bf aX ⟨rfl,rfl⟩)
abbrev oc:ax:=(.seq (.rg [(aj 4 (.aP (.c (.bool false))))]) (.seq (.rg [(au 5 0),(au 6 1),(aj 7 (.call (.c (.fn 72 [])) [(.t 5),(.t 6)])),(aj 8 (.bin .geq (.t 7) (.c (.int .i64 0)))),(aR 4 8)]) .ret))
theorem od:bN Tryz.prog 46 9 [(.tmp 4)] (erase oc):=⟨Tryz.f46,_,rfl,by decide,rfl,by kernel_rfl,rfl,rfl⟩
abbrev oe:List Nat:=[0,1,4]
def de (F:Nat) (s1:List (List UInt8)):Option (Bool):=
 (eZ F s1).bind fun r2=>some (decide (0≤r2))
theorem mF {F:Nat} {s1:List (List UInt8)} {H0:AH} {aS:Bool} (h:de F s1=some aS):
 aG Tryz.prog 46 [(.sl .n 1 (ml AV.str s1)),(.fn 44 [])] H0 fun v H'=>v=(.bool aS)∧H'=H0:=by
 refine fF od oe fun hcl K0 aO=> ?_
 rw [de.eq_1] at h
 refine aE ?_
 obtain ⟨r2,hy1,h⟩:=aq h
 refine bC ak (qQ hy1) ?_
 refine aE ?_
 obtain rfl:=aC h
 exact aO _ _ _ bh (aK hcl (aW aZ (.bool (decide (0≤r2)))) bf aX ⟨rfl,rfl⟩)
abbrev ry:ax:=(.rg [(au 4 0),(aj 5 (.lens (.t 4))),(aj 6 (.bin .leq (.t 5) (.c (.int .i64 255)))),(au 7 6),(ay 8 (.mv (.t 0)) 7 true),(ay 9 (.call (.c (.fn 45 [])) [(.t 8)]) 7 true),(aj 10 (.pick (.t 7) (.t 9) (.c (.bool false)))),(au 11 10),(ay 12 (.mv (.t 0)) 11 true),(ay 13 (.call (.c (.fn 47 [])) [(.t 12),(.c (.str [46]))]) 11 true),(ay 14 (.mv (.t 3)) 11 true),(ay 15 (.call (.c (.fn 46 [])) [(.t 13),(.t 14)]) 11 true),(ay 16 (.un .not (.t 15)) 11 true),(aj 17 (.pick (.t 11) (.t 16) (.c (.bool false)))),(aR 2 17)])
abbrev D5:ax:=(.seq (.rg [(aj 2 (.aP (.c (.bool false))))]) (.seq (.rg [(aj 3 (.aP (.c (.fn 44 []))))]) (.seq (.sem (erase ry)) .ret)))
theorem D6:bN Tryz.prog 25 18 [(.tmp 2)] (erase D5):=⟨Tryz.f25,_,rfl,by decide,rfl,by kernel_rfl,rfl,rfl⟩
abbrev wT:List Nat:=[0,2,3]
def jQ (F:Nat) (s1:List UInt8):Option (Bool):=
 (if (decide ((s1.length:Int)≤255)) then
  (jb F s1).bind fun r2=>
  (if r2 then
   (strings_Split s1 ([46]:List UInt8)).bind fun r3=>(de F r3).bind fun r4=>some (!r4)
  else
   some false)
 else
  some false)
def gN (F:Nat) (s1:List UInt8):Option (Bool):=
 (jQ F s1).bind fun t6=>
 some t6
theorem yF {F:Nat} {s1:List UInt8} {H:AH} {K:Exit→Env→AH→Prop} {t5:Bool}
 (h:jQ F s1=some t5)
 (kn:K .normal [(2,(.bool t5))] H):
 AX Tryz.prog wT 18 H.length (erase ry) K [(0,(.str s1)),(2,(.bool false)),(3,(.fn 44 []))] H:=by
 refine bY fun K' hK=> ?_
 rw [jQ.eq_1] at h
 refine aE ?_
 refine bP h (fun hy1 h=> ?_) fun hy1 h=> ?_
 · refine aV hy1 ?_
   obtain ⟨r2,hy2,h⟩:=aq h
   refine bC ak (ve hy2) ?_
   refine aE ?_
   refine bP h (fun hy3 h=> ?_) fun hy3 h=> ?_
   · refine aV hy3 ?_
     obtain ⟨r3,hy4,h⟩:=aq h
     refine bC ak (iC (s1:=s1) (s2:=([46]:List UInt8)) hy4) ?_
     refine aE ?_
     obtain ⟨r4,bJ,h⟩:=aq h
     refine bC ak (mF bJ) ?_
     refine aE ?_
     obtain rfl:=aC h
     exact hK _ _ _ _ _ aJ ak kn
   · refine aV hy3 ?_
     obtain rfl:=aC h
     exact hK _ _ _ _ _ aJ ak kn
 · refine aV hy1 ?_
   obtain rfl:=aC h
   exact hK _ _ _ _ _ aJ ak kn
theorem vi {F:Nat} {s1:List UInt8} {H0:AH} {aS:Bool} (h:gN F s1=some aS):
 aG Tryz.prog 25 [(.str s1)] H0 fun v H'=>v=(.bool aS)∧H'=H0:=by
 refine fF D6 wT fun hcl K0 aO=> ?_
 rw [gN.eq_1] at h
 refine aE ?_
 obtain ⟨t6,b6,h⟩:=aq h
 refine bz ak (yF b6 ?_)
 refine aE ?_
 obtain rfl:=aC h
 exact aO _ _ _ bh (aK hcl (aW aZ (.bool t6)) bf aX ⟨rfl,rfl⟩)
abbrev vj:ax:=(.rg [(au 17 3),(au 18 5),(aj 19 (.ixs (.t 17) (.t 18))),(aj 20 (.bin .eql (.t 19) (.c (b8 34)))),(au 21 20),(ay 22 (.mv (.t 3)) 21 false),(ay 23 (.mv (.t 5)) 21 false),(ay 24 (.ixs (.t 22) (.t 23)) 21 false),(ay 25 (.bin .eql (.t 24) (.c (b8 92))) 21 false),(aj 26 (.pick (.t 21) (.c (.bool true)) (.t 25)))])
abbrev tI:ax:=(.seq (.rg [(aj 15 (.bin .lss (.t 14) (.t 13)))]) (.seq (.cond (.t 15) .skip (.exit 0)) (.seq (.blk 1 (.seq (.rg [(au 16 14),(aR 5 16)]) (.seq (.seq (.sem (erase vj)) (.cond (.t 26) (.rg [(au 27 4),(aj 28 (.qD 1 [(.c (b8 92))])),(aj 29 (.app 1 1 (.t 27) (.t 28))),(aR 4 29)]) .skip)) (.rg [(au 30 4),(au 31 3),(au 32 5),(aj 33 (.ixs (.t 31) (.t 32))),(aj 34 (.qD 1 [(.t 33)])),(aj 35 (.app 1 1 (.t 30) (.t 34))),(aR 4 35)])))) (.rg [(aj 36 (.bin .add (.t 14) (.c (.int .i64 1)))),(au 14 36)]))))
abbrev Ig:ax:=(.seq (.rg [(aj 1 (.box (.t 0))),(aj 2 (.aP (.c (.str []))))]) (.seq (.rg [(aj 6 (.cF (.t 1) 0)),(aj 7 (.ld (.t 6) none)),(aR 3 7)]) (.seq (.seq (.rg [(au 8 3),(aj 9 (.call (.c (.fn 56 [])) [(.t 8)])),(aj 10 (.un .not (.t 9)))]) (.cond (.t 10) (.seq (.rg [(aj 11 (.qD 1 [(.c (b8 34))])),(aR 4 11)]) (.seq (.seq (.rg [(au 12 3),(aj 13 (.lens (.t 12))),(aj 14 (.mv (.c (.int .i64 0))))]) (.blk 0 (.loop (erase tI)))) (.rg [(au 37 4),(aj 38 (.qD 1 [(.c (b8 34))])),(aj 39 (.app 1 1 (.t 37) (.t 38))),(aj 40 (.jt .bs (.t 39))),(aR 3 40)]))) .skip)) (.seq (.rg [(au 41 3),(aj 42 (.bin .add (.c (.str [60])) (.t 41))),(aj 43 (.bin .add (.t 42) (.c (.str [64])))),(aj 44 (.cF (.t 1) 1)),(aj 45 (.ld (.t 44) none)),(aj 46 (.bin .add (.t 43) (.t 45))),(aj 47 (.bin .add (.t 46) (.c (.str [62])))),(aR 2 47)]) .ret))))
theorem Ih:bN Tryz.prog 32 48 [(.tmp 2)] (erase Ig):=⟨Tryz.f32,_,rfl,by decide,rfl,by kernel_rfl,rfl,rfl⟩
abbrev uO:List Nat:=[0,1,2,3,4,5,10,13,14,15,26]
def lS (a1:aB) (t5:Int):Option (Bool):=
 (idx a1.av t5).bind fun x7=>
 (if (decide (x7=34)) then
  some true
 else
  some (decide (x7=92)))
def fY (a1:aB):((List UInt8)×Int)→Option (St (List UInt8) (List UInt8) ((List UInt8)×Int))
 |(b4,t5)=>
  (if (decide (t5<(a1.av.length:Int))) then
   (lS a1 t5).bind fun t9=>
   (if t9 then
    (fe 1 b4 ([92]:List UInt8)).bind fun xQ=>
    (idx a1.av t5).bind fun ga=>
    (fe 1 xQ ([ga]:List UInt8)).bind fun n8=>some (.cY (n8,(IntKind.wrap .i64 (t5+1))))
   else
    (idx a1.av t5).bind fun gX=>
    (fe 1 b4 ([gX]:List UInt8)).bind fun FI=>some (.cY (FI,(IntKind.wrap .i64 (t5+1)))))
  else
   some (.dR b4))
def lH (F:Nat) (a1:aB):Option ((List UInt8)):=
 (j7 F a1.av).bind fun r2=>
 (if (!r2) then
  ((iter (fY a1) F (([34]:List UInt8),0)).bind fun o22=>
  match o22 with
  | .inr b16=>
    (fe 1 b16 ([34]:List UInt8)).bind fun qR=>
    (cat ([60]:List UInt8) qR).bind fun Ii=>
    (cat Ii ([64]:List UInt8)).bind fun BK=>
    (cat BK a1.domain).bind fun kZ=>(cat kZ ([62]:List UInt8)).bind fun BL=>some BL
  | .inl _=>none)
 else
  (cat ([60]:List UInt8) a1.av).bind fun D7=>
  (cat D7 ([64]:List UInt8)).bind fun D8=>
  (cat D8 a1.domain).bind fun D9=>(cat D9 ([62]:List UInt8)).bind fun Rj=>some Rj)
theorem BM {a1:aB} {t5:Int} {q6:Nat} {b4:List UInt8} {H0 H:AH} (hfr:Fr H0 H0.length [] H) (ai:H[q6]? =some [(.str a1.av),(.str a1.domain)]) (dL:H0.length≤q6) {K:Exit→Env→AH→Prop} {t8:Bool}
 (h:lS a1 t5=some t8)
 (kn:∀H':AH,Fr H0 H0.length [] H'→H'[q6]? =some [(.str a1.av),(.str a1.domain)]→K .normal [(1,(.ptr q6 0)),(3,(.str a1.av)),(4,(.sl .own 1 (ml b8 b4))),(5,(.int .i64 t5)),(13,(.int .i64 (a1.av.length:Int))),(14,(.int .i64 t5)),(26,(.bool t8))] H'):
 AX Tryz.prog uO 48 H0.length (erase vj) K [(1,(.ptr q6 0)),(3,(.str a1.av)),(4,(.sl .own 1 (ml b8 b4))),(5,(.int .i64 t5)),(13,(.int .i64 (a1.av.length:Int))),(14,(.int .i64 t5))] H:=by
 refine bY fun K' hK=> ?_
 have hle:=hfr.le
 have aM:=aQ ai
 rw [lS.eq_1] at h
 obtain ⟨x7,hy4,h⟩:=aq h
 refine az (aA hy4 ai) ?_
 refine bP h (fun bJ h=> ?_) fun bJ h=> ?_
 · refine az (aA bJ ai) ?_
   obtain rfl:=aC h
   exact hK _ _ _ _ _ aJ ak (kn _ hfr (ai.trans rfl))
 · refine az (aA bJ (aA hy4 ai)) ?_
   obtain rfl:=aC h
   exact hK _ _ _ _ _ aJ ak (kn _ hfr (ai.trans rfl))
theorem BN {F:Nat} {t5:Int} {a1:aB} {b4:List UInt8} {q3:Nat} {H0 H:AH} (hfr:Fr H0 H0.length [] H) (ai:H[q3]? =some [(.str a1.av),(.str a1.domain)]) (dL:H0.length≤q3) {K:Exit→Env→AH→Prop} {o:((List UInt8))⊕((List UInt8))}
 (h:iter (fY a1) F (b4,t5)=some o)
 (dc:∀o':(List UInt8),o= .inr o'→∀H':AH,Fr H0 H0.length [] H'→H'[q3]? =some [(.str a1.av),(.str a1.domain)]→K (.exit 0) [(1,(.ptr q3 0)),(4,(.sl .own 1 (ml b8 o')))] H'):
 AX Tryz.prog uO 48 H0.length (.loop (erase tI)) K [(1,(.ptr q3 0)),(3,(.str a1.av)),(4,(.sl .own 1 (ml b8 b4))),(13,(.int .i64 (a1.av.length:Int))),(14,(.int .i64 t5))] H:=by
 refine gL (fun s e H1=>match s with|(b4,t5)=>e=[(1,(.ptr q3 0)),(3,(.str a1.av)),(4,(.sl .own 1 (ml b8 b4))),(13,(.int .i64 (a1.av.length:Int))),(14,(.int .i64 t5))]∧Fr H0 H0.length [] H1∧H1[q3]? =some [(.str a1.av),(.str a1.domain)]) h ⟨rfl,hfr,ai⟩ ?_
 rintro K' ⟨b4,t5⟩ st e H ⟨rfl,hfr,ai⟩ h hN hB hR hX
 have hle:=hfr.le
 have aM:=aQ ai
 rw [fY.eq_1] at h
 refine az ai ?_
 refine bk h (fun hy3 h=> ?_) fun hy3 h=> ?_
 · refine az ai ?_
   obtain ⟨t9,b6,h⟩:=aq h
   refine bz ak (BM (b4:=b4) (q6:=q3) hfr (ai.trans rfl) bX b6 ?_)
   intro H hfr ai
   have hle:=hfr.le
   have aM:=aQ ai
   refine az ai ?_
   refine bk h (fun cC h=> ?_) fun cC h=> ?_
   · obtain ⟨xQ,cr,h⟩:=aq h
     have cP:fe 1 (ml b8 b4) [(b8 92)]=some (ml b8 xQ):=lR (f:=b8) cr
     obtain ⟨ga,ck,h⟩:=aq h
     obtain ⟨n8,cx,h⟩:=aq h
     have cN:fe 1 (ml b8 xQ) [(b8 ga)]=some (ml b8 n8):=lR (f:=b8) cx
     refine az (aA cP (aA ck (aA cN ai))) ?_
     obtain rfl:=aC h
     exact hN _ rfl _ _ _ _ aJ ak ⟨rfl,hfr,(ai.trans rfl)⟩
   · obtain ⟨gX,cH,h⟩:=aq h
     obtain ⟨FI,dV,h⟩:=aq h
     have eT:fe 1 (ml b8 b4) [(b8 gX)]=some (ml b8 FI):=lR (f:=b8) dV
     refine az (aA cH (aA eT ai)) ?_
     obtain rfl:=aC h
     exact hN _ rfl _ _ _ _ aJ ak ⟨rfl,hfr,(ai.trans rfl)⟩
 · refine az ai ?_
   obtain rfl:=aC h
   exact hX _ _ _ _ _ dm aJ ak (dc _ (hB _ rfl) _ hfr (ai.trans rfl))
theorem yl {F:Nat} {a1:aB} {H0:AH} {aS:List UInt8} (h:lH F a1=some aS):
 aG Tryz.prog 32 [(.agg [(.str a1.av),(.str a1.domain)])] H0 fun v H'=>v=(.str aS)∧H'=H0:=by
 refine l7 Ih uO [] fun hcl K0 aO H hH hfr=> ?_
 clear hH
 have hle:=hfr.le
 rw [lH.eq_1] at h
 refine cM ?_
 obtain ⟨r2,hy1,h⟩:=aq h
 refine bC ak (wS hy1) ?_
 refine cM ?_
 refine bk h (fun hy2 h=> ?_) fun hy2 h=> ?_
 · refine cM ?_
   obtain ⟨q3,Ea⟩:∃q:Nat,H.length=q:=⟨_,rfl⟩
   try rw [Ea]
   obtain ⟨o22,ei,h⟩:=aq h
   refine bz ak (BN (q3:=q3) (Fr.app hfr) uC bX ei ?_)
   · rintro b16 rfl H hfr ai
     try dsimp only at h ai
     have hle:=hfr.le
     have aM:=aQ ai
     refine cM ?_
     obtain ⟨qR,gY,h⟩:=aq h
     have gq:fe 1 (ml b8 b16) [(b8 34)]=some (ml b8 qR):=lR (f:=b8) gY
     obtain ⟨Ii,fS,h⟩:=aq h
     obtain ⟨BK,fT,h⟩:=aq h
     obtain ⟨kZ,gr,h⟩:=aq h
     obtain ⟨BL,gZ,h⟩:=aq h
     refine az (aA gq (aA fS (aA fT (aA gr (aA gZ ai))))) ?_
     obtain rfl:=aC h
     exact aO _ _ _ bh (aT hfr hcl (aW aZ (.str BL)) bf aX ⟨rfl,rfl⟩)
 · obtain ⟨D7,iQ,h⟩:=aq h
   obtain ⟨D8,gD,h⟩:=aq h
   obtain ⟨D9,hM,h⟩:=aq h
   obtain ⟨Rj,jJ,h⟩:=aq h
   refine az (aA iQ (aA gD (aA hM jJ))) ?_
   obtain rfl:=aC h
   exact aO _ _ _ bh (aT (Fr.app hfr) hcl (aW aZ (.str Rj)) bf aX ⟨rfl,rfl⟩)
abbrev tJ:ax:=(.rg [(aj 3 (.ld (.t 1) (some 2))),(aj 4 (.call (.c (.fn 30 [])) [(.t 3)])),(au 5 4),(ay 6 (.cF (.t 1) 0) 5 false),(ay 7 (.ld (.t 6) none) 5 false),(ay 8 (.call (.c (.fn 31 [])) [(.t 7)]) 5 false),(ay 9 (.mv (.t 8)) 5 false),(ay 10 (.cF (.t 1) 1) 9 true),(ay 11 (.ld (.t 10) none) 9 true),(ay 12 (.call (.c (.fn 25 [])) [(.t 11)]) 9 true),(ay 13 (.pick (.t 9) (.t 12) (.c (.bool false))) 5 false),(ay 14 (.mv (.t 13)) 5 false),(ay 15 (.ld (.t 1) (some 2)) 14 true),(ay 16 (.call (.c (.fn 32 [])) [(.t 15)]) 14 true),(ay 17 (.lens (.t 16)) 14 true),(ay 18 (.bin .leq (.t 17) (.c (.int .i64 256))) 14 true),(ay 19 (.pick (.t 14) (.t 18) (.c (.bool false))) 5 false),(aj 20 (.pick (.t 5) (.c (.bool true)) (.t 19))),(aR 2 20)])
abbrev FJ:ax:=(.seq (.rg [(aj 1 (.box (.t 0))),(aj 2 (.aP (.c (.bool false))))]) (.seq (.sem (erase tJ)) .ret))
theorem FK:bN Tryz.prog 10 21 [(.tmp 2)] (erase FJ):=⟨Tryz.f10,_,rfl,by decide,rfl,by kernel_rfl,rfl,rfl⟩
abbrev ym:List Nat:=[0,1,2]
def kF (F:Nat) (a1:aB):Option (Bool):=
 (lG a1).bind fun r3=>
 (if r3 then
  some true
 else
  (mb F a1.av).bind fun r4=>
  (if r4 then
   (gN F a1.domain).bind fun r5=>
   (if r5 then
    (lH F a1).bind fun r6=>some (decide ((r6.length:Int)≤256))
   else
    some false)
  else
   some false))
def iR (F:Nat) (a1:aB):Option (Bool):=
 (kF F a1).bind fun t8=>
 some t8
theorem Aw {F:Nat} {a1:aB} {q2:Nat} {H0 H:AH} (hfr:Fr H0 H0.length [] H) (ai:H[q2]? =some [(.str a1.av),(.str a1.domain)]) (dL:H0.length≤q2) {K:Exit→Env→AH→Prop} {t7:Bool}
 (h:kF F a1=some t7)
 (kn:∀H':AH,Fr H0 H0.length [] H'→H'[q2]? =some [(.str a1.av),(.str a1.domain)]→K .normal [(2,(.bool t7))] H'):
 AX Tryz.prog ym 21 H0.length (erase tJ) K [(1,(.ptr q2 0)),(2,(.bool false))] H:=by
 refine bY fun K' hK=> ?_
 have hle:=hfr.le
 have aM:=aQ ai
 rw [kF.eq_1] at h
 refine az ai ?_
 obtain ⟨r3,hy1,h⟩:=aq h
 refine bC ak (yh hy1) ?_
 refine az ai ?_
 refine bP h (fun hy2 h=> ?_) fun hy2 h=> ?_
 · refine az (aA hy2 ai) ?_
   obtain rfl:=aC h
   exact hK _ _ _ _ _ aJ ak (kn _ hfr (ai.trans rfl))
 · refine az (aA hy2 ai) ?_
   obtain ⟨r4,hy3,h⟩:=aq h
   refine bC ak (D4 hy3) ?_
   refine az ai ?_
   refine bP h (fun hy4 h=> ?_) fun hy4 h=> ?_
   · refine az (aA hy4 ai) ?_
     obtain ⟨r5,bJ,h⟩:=aq h
     refine bC ak (vi bJ) ?_
     refine az ai ?_
     refine bP h (fun b6 h=> ?_) fun b6 h=> ?_
     · refine az (aA b6 ai) ?_
       obtain ⟨r6,cC,h⟩:=aq h
       refine bC ak (yl cC) ?_
       refine az ai ?_
       obtain rfl:=aC h
       exact hK _ _ _ _ _ aJ ak (kn _ hfr (ai.trans rfl))
     · refine az (aA b6 ai) ?_
       obtain rfl:=aC h
       exact hK _ _ _ _ _ aJ ak (kn _ hfr (ai.trans rfl))
   · refine az (aA hy4 ai) ?_
     obtain rfl:=aC h
     exact hK _ _ _ _ _ aJ ak (kn _ hfr (ai.trans rfl))
theorem pH {F:Nat} {a1:aB} {H0:AH} {aS:Bool} (h:iR F a1=some aS):
 aG Tryz.prog 10 [(.agg [(.str a1.av),(.str a1.domain)])] H0 fun v H'=>v=(.bool aS)∧H'=H0:=by
 refine l7 FK ym [] fun hcl K0 aO H hH hfr=> ?_
 clear hH
 have hle:=hfr.le
 rw [iR.eq_1] at h
 refine cM ?_
 obtain ⟨q2,jX⟩:∃q:Nat,H.length=q:=⟨_,rfl⟩
 try rw [jX]
 obtain ⟨t8,cr,h⟩:=aq h
 refine bz ak (Aw (q2:=q2) (Fr.app hfr) uC bX cr ?_)
 intro H hfr ai
 have hle:=hfr.le
 have aM:=aQ ai
 refine az ai ?_
 obtain rfl:=aC h
 exact aO _ _ _ bh (aT hfr hcl (aW aZ (.bool t8)) bf aX ⟨rfl,rfl⟩)
abbrev vk:ax:=(.cond (.t 14) (.seq (.rg [(au 15 5),(aj 16 (.call (.c (.fn 94 [])) [(.t 15)]))]) (.seq (.rg [(au 17 5),(aj 18 (.call (.c (.fn 95 [])) [(.t 17)])),(aj 19 (.cF (.t 6) 0)),(cR (.st (.t 19) (.t 18) 1))]) (.seq (.rg [(au 20 5),(aj 21 (.call (.c (.fn 92 [])) [(.t 20),(.c (b8 64))]))]) (.seq (.rg [(au 22 5),(aj 23 (.call (.c (.fn 96 [])) [(.t 22)])),(aj 24 (.cF (.t 6) 1)),(cR (.st (.t 24) (.t 23) 1))]) (.rg [(au 25 5),(aj 26 (.call (.c (.fn 92 [])) [(.t 25),(.c (b8 62))]))]))))) .skip)
abbrev vl:ax:=(.rg [(aj 38 (.E9 (.t 6) (some 2))),(au 39 0),(au 40 5),(aj 41 (.iy (.t 40))),(aj 42 (.cF (.t 41) 1)),(aj 43 (.E9 (.t 42) none)),(aj 44 (.gR (.t 39) (some (.t 43)) none)),(cR (.st (.t 2) (.t 38) 2)),(aR 3 44),(aj 4 (.aP (.c (.int .i64 0))))])
abbrev Ij:ax:=(.seq (.rg [(aj 2 (.alloc [(.str []),(.str [])])),(aj 3 (.aP (.c (.str [])))),(aj 4 (.aP (.c (.int .i64 0))))]) (.seq (.rg [(au 7 0),(aj 8 (.build [(.str []),(.int .i64 0),(.bool false)] [(0,(1,(.t 7)))])),(aj 9 (.box (.t 8))),(aR 5 9)]) (.seq (.rg [(au 10 5),(aj 11 (.call (.c (.fn 92 [])) [(.t 10),(.c (b8 60))]))]) (.seq (.rg [(aj 6 (.alloc [(.str []),(.str [])]))]) (.seq (.seq (.rg [(au 12 5),(aj 13 (.call (.c (.fn 93 [])) [(.t 12),(.c (b8 62))])),(aj 14 (.un .not (.t 13)))]) (.sem (erase vk))) (.seq (.blk 0 (.seq (.rg [(au 28 5),(aj 29 (.iy (.t 28))),(aj 30 (.cF (.t 29) 2)),(aj 31 (.ld (.t 30) none)),(aR 27 31)]) (.cond (.t 27) (.seq (.rg [(aj 32 (.build [(.str []),(.str [])] [])),(cR (.st (.t 2) (.t 32) 2)),(aj 3 (.aP (.c (.str [])))),(aj 4 (.aP (.c (.int .i64 3))))]) .ret) (.seq (.rg [(aj 34 (.ld (.t 6) (some 2))),(aj 35 (.call (.c (.fn 10 [])) [(.t 34)])),(aj 36 (.un .not (.t 35))),(aR 33 36)]) (.cond (.t 33) (.seq (.rg [(aj 37 (.build [(.str []),(.str [])] [])),(cR (.st (.t 2) (.t 37) 2)),(aj 3 (.aP (.c (.str [])))),(aj 4 (.aP (.c (.int .i64 5))))]) .ret) .skip))))) (.seq (.sem (erase vl)) .ret)))))))
theorem Ik:bN Tryz.prog 64 45 [(.cell 2 24),(.tmp 3),(.tmp 4)] (erase Ij):=⟨Tryz.f64,_,rfl,by decide,rfl,by kernel_rfl,rfl,rfl⟩
abbrev uP:List Nat:=[0,2,3,4,5,6,14,27,33]
def ff (F:Nat) (r3:Bool) (r4:aD):Option (aD×aB):=
 (if (!r3) then
  (dh F r4).bind fun r8=>
  (di F r8).bind fun (r9,dM)=>
  (bp dM 64).bind fun lD=>
  (bT F lD).bind fun (iz,kX)=>
  (bp kX 62).bind fun iB=>some (iB,(aB.mk r9 iz))
 else
  some (r4,(aB.mk ([]:List UInt8) ([]:List UInt8))))
def jK (s1:List UInt8) (sR:aD) (sV:aB):Option ((List UInt8)×Int×aB):=
 (sub s1 sR.cJ (s1.length:Int)).bind fun BL=>some (BL,0,sV)
def pI (F:Nat) (s1:List UInt8):Option (aB×(List UInt8)×Int):=
 (bp (aD.mk s1 0 false) 60).bind fun r2=>
 (bE r2 62).bind fun (r3,r4)=>
 (ff F r3 r4).bind fun (sR,sV)=>
 (if sR.bad then
  some ((aB.mk ([]:List UInt8) ([]:List UInt8)),([]:List UInt8),3)
 else
  (iR F sV).bind fun og=>
  (if (!og) then
   some ((aB.mk ([]:List UInt8) ([]:List UInt8)),([]:List UInt8),5)
  else
   (jK s1 sR sV).bind fun (t25,t26,Rk)=>
   some (Rk,t25,t26)))
theorem BO {F:Nat} {r3:Bool} {r4:aD} {s1:List UInt8} {q5:Nat} {q6:Nat} {q7:Nat} {H0 H:AH} (hfr:Fr H0 H0.length [] H) (ai:H[q5]? =some [(.str ([]:List UInt8)),(.str ([]:List UInt8))]) (aN:H[q6]? =some [(.str r4.s),(.int .i64 r4.cJ),(.bool r4.bad)]) (br:H[q7]? =some [(.str ([]:List UInt8)),(.str ([]:List UInt8))]) (dL:H0.length≤q5) (hi1:H0.length≤q6) (hi2:q5≠q6) (hi3:H0.length≤q7) (hi4:q5≠q7) (hi5:q6≠q7) {K:Exit→Env→AH→Prop} {Ng:aD} {Ri:aB}
 (h:ff F r3 r4=some (Ng,Ri))
 (kn:∀H':AH,Fr H0 H0.length [] H'→H'[q5]? =some [(.str ([]:List UInt8)),(.str ([]:List UInt8))]→H'[q6]? =some [(.str Ng.s),(.int .i64 Ng.cJ),(.bool Ng.bad)]→H'[q7]? =some [(.str Ri.av),(.str Ri.domain)]→K .normal [(0,(.str s1)),(2,(.ptr q5 0)),(5,(.ptr q6 0)),(6,(.ptr q7 0))] H'):
 AX Tryz.prog uP 45 H0.length (erase vk) K [(0,(.str s1)),(2,(.ptr q5 0)),(5,(.ptr q6 0)),(6,(.ptr q7 0)),(14,(.bool (!r3)))] H:=by
 refine bY fun K' hK=> ?_
 have hle:=hfr.le
 have aM:=aQ ai
 have lI:=aQ aN
 have yG:=aQ br
 rw [ff.eq_1] at h
 refine az (aA ai (aA aN br)) ?_
 refine bk h (fun hy3 h=> ?_) fun hy3 h=> ?_
 · refine az (aA ai (aA aN br)) ?_
   obtain ⟨r8,hy4,h⟩:=aq h
   refine bC ak (uK (aN.trans rfl) hy4) ?_
   refine az (aA ai (aA aN br)) ?_
   obtain ⟨⟨r9,dM⟩,bJ,h⟩:=aq h
   dsimp only at h
   refine bC ak (uN (q1:=q6) cA bJ) ?_
   refine az (aA ai (aA aN br)) ?_
   obtain ⟨lD,b6,h⟩:=aq h
   refine bC ak (dn (q1:=q6) (fN cA) b6) ?_
   refine az (aA ai (aA aN br)) ?_
   obtain ⟨⟨iz,kX⟩,cC,h⟩:=aq h
   dsimp only at h
   refine bC ak (j3 (q1:=q6) cA cC) ?_
   refine az (aA ai (aA aN br)) ?_
   obtain ⟨iB,cr,h⟩:=aq h
   refine bC ak (dn (q1:=q6) (fN cA) cr) ?_
   refine az (aA ai (aA aN br)) ?_
   obtain ⟨rfl,rfl⟩:=cB h
   exact hK _ _ _ _ _ aJ ak (kn _ (bW _ (bW _ (bW _ (bW _ (bW _ (bW _ (bW _ hfr))))))) (fN (fN (fN (fN (fN (fN (fN (ai.trans rfl)))))))) cA (fN cA))
 · refine az (aA ai (aA aN br)) ?_
   obtain ⟨rfl,rfl⟩:=cB h
   exact hK _ _ _ _ _ aJ ak (kn _ hfr (ai.trans rfl) (aN.trans rfl) (br.trans rfl))
theorem BP {s1:List UInt8} {sR:aD} {sV:aB} {Rl:Nat} {H0 H:AH} (hfr:Fr H0 H0.length [] H) (ai:H[Rl]? =some [(.str ([]:List UInt8)),(.str ([]:List UInt8))]) (dL:H0.length≤Rl) {K:Exit→Env→AH→Prop} {t22:List UInt8} {t23:Int} {s24:aB}
 (h:jK s1 sR sV=some (t22,t23,s24))
 (kn:∀H':AH,Fr H0 H0.length [] H'→H'[Rl]? =some [(.str s24.av),(.str s24.domain)]→K .normal [(2,(.ptr Rl 0)),(3,(.str t22)),(4,(.int .i64 t23))] H'):
 AX Tryz.prog uP 45 H0.length (erase vl) K [(0,(.str s1)),(2,(.ptr Rl 0)),(5,(.ep (.agg [(.str sR.s),(.int .i64 sR.cJ),(.bool sR.bad)]) 0)),(6,(.ep (.agg [(.str sV.av),(.str sV.domain)]) 0))] H:=by
 refine bY fun K' hK=> ?_
 have hle:=hfr.le
 have aM:=aQ ai
 rw [jK.eq_1] at h
 obtain ⟨BL,cH,h⟩:=aq h
 refine az (aA cH ai) ?_
 obtain ⟨rfl,rfl,rfl⟩:=oQ h
 exact hK _ _ _ _ _ aJ ak (kn _ (bW _ hfr) cA)
theorem FM {F:Nat} {s1:List UInt8} {H0:AH} {aS:aB} {eL:List UInt8} {Kq:Int} (h:pI F s1=some (aS,eL,Kq)):
 aG Tryz.prog 64 [(.str s1)] H0 fun v H'=>v=(.bB [(.agg [(.str aS.av),(.str aS.domain)]),(.str eL),(.int .i64 Kq)])∧H'=H0:=by
 refine l7 Ik uP [] fun hcl K0 aO H hH hfr=> ?_
 clear hH
 have hle:=hfr.le
 rw [pI.eq_1] at h
 refine cM ?_
 obtain ⟨r2,hy1,h⟩:=aq h
 refine bC ak (dn (q1:=(H.length+1)) uC hy1) ?_
 refine cM ?_
 obtain ⟨⟨r3,r4⟩,hy2,h⟩:=aq h
 dsimp only at h
 refine bC ak (dS (q1:=(H.length+1)) (kz cA) hy2) ?_
 refine cM ?_
 obtain ⟨q6,yH⟩:∃q:Nat,(H.length+1)=q:=⟨_,rfl⟩
 try rw [yH]
 obtain ⟨q7,aaT⟩:∃q:Nat,(H.length+2)=q:=⟨_,rfl⟩
 try rw [aaT]
 obtain ⟨q5,yI⟩:∃q:Nat,H.length=q:=⟨_,rfl⟩
 try rw [yI]
 try rw [show q5+1=q6 from by omega]
 try rw [show q6+1=q7 from by omega]
 obtain ⟨⟨sR,sV⟩,cP,h⟩:=aq h
 dsimp only at h
 refine bz ak (BO (s1:=s1) (q5:=q5) (q6:=q6) (q7:=q7) (bW _ (Fr.app (bW _ (Fr.app (Fr.app hfr))))) (fN (kz (fN (kz uC)))) cA (fN uC) bX bX bX bX bX bX cP ?_)
 intro H hfr ai aN br
 have hle:=hfr.le
 have aM:=aQ ai
 have lI:=aQ aN
 have yG:=aQ br
 refine az (aA ai (aA aN br)) ?_
 refine bk h (fun ck h=> ?_) fun ck h=> ?_
 · refine az (aA ai (aA aN br)) ?_
   obtain ⟨rfl,rfl,rfl⟩:=oQ h
   exact aO _ _ _ bh (aT (bW _ hfr) hcl (bn (cs:=[(.str ([]:List UInt8)),(.str ([]:List UInt8))]) (v:=(.agg [(.str ([]:List UInt8)),(.str ([]:List UInt8))])) (by kernel_rfl) (n:=(some 2)) (by kernel_rfl) rfl cA (by simp [bG,bF,dP,aU,AV.flat,bZ,cy,AV.bu,Tg.sh]) (aW (aW aZ (.int .i64 3)) (.str ([]:List UInt8)))) bf aX ⟨rfl,rfl⟩)
 · refine az (aA ai (aA aN br)) ?_
   obtain ⟨og,cx,h⟩:=aq h
   refine bC ak (pH cx) ?_
   refine az (aA ai (aA aN br)) ?_
   refine bk h (fun cN h=> ?_) fun cN h=> ?_
   · refine az (aA ai (aA aN br)) ?_
     obtain ⟨rfl,rfl,rfl⟩:=oQ h
     exact aO _ _ _ bh (aT (bW _ hfr) hcl (bn (cs:=[(.str ([]:List UInt8)),(.str ([]:List UInt8))]) (v:=(.agg [(.str ([]:List UInt8)),(.str ([]:List UInt8))])) (by kernel_rfl) (n:=(some 2)) (by kernel_rfl) rfl cA (by simp [bG,bF,dP,aU,AV.flat,bZ,cy,AV.bu,Tg.sh]) (aW (aW aZ (.int .i64 5)) (.str ([]:List UInt8)))) bf aX ⟨rfl,rfl⟩)
   · refine az (aA ai (aA aN br)) ?_
     refine XT ?_
     apply AX.freeze (s:=q7) (cs:=[(.str sV.av),(.str sV.domain)]) (by exact (br.trans rfl)) (gT.same (gT.same (gT.nil))) (by simp) rfl
     · repeat (first|exact FZ.nil|apply FZ.ep|apply FZ.same)
     apply AX.freeze (s:=q6) (cs:=[(.str sR.s),(.int .i64 sR.cJ),(.bool sR.bad)]) (by exact (fN (aN.trans rfl))) (gT.same (gT.same (gT.same (gT.nil)))) (by simp) rfl
     · repeat (first|exact FZ.nil|apply FZ.ep|apply FZ.same)
     refine ouZ ?_
     obtain ⟨⟨t25,t26,Rk⟩,dV,h⟩:=aq h
     dsimp only at h
     refine bz ak (BP (Rl:=q5) (bW _ (bW _ hfr)) (fN (fN (ai.trans rfl))) bX dV ?_)
     intro H hfr ai
     have hle:=hfr.le
     have aM:=aQ ai
     refine az ai ?_
     obtain ⟨rfl,rfl,rfl⟩:=oQ h
     exact aO _ _ _ bh (aT hfr hcl (bn (cs:=[(.str Rk.av),(.str Rk.domain)]) (v:=(.agg [(.str Rk.av),(.str Rk.domain)])) (by kernel_rfl) (n:=(some 2)) (by kernel_rfl) rfl (ai.trans rfl) (by simp [bG,bF,dP,aU,AV.flat,bZ,cy,AV.bu,Tg.sh]) (aW (aW aZ (.int .i64 t26)) (.str t25))) bf aX ⟨rfl,rfl⟩)
abbrev wU:ax:=(.rg [(au 10 0),(aj 11 (.lens (.t 10))),(au 12 1),(aj 13 (.lens (.t 12))),(aj 14 (.bin .lss (.t 11) (.t 13))),(au 15 14),(ay 16 (.mv (.t 0)) 15 false),(ay 17 (.mv (.t 1)) 15 false),(ay 18 (.lens (.t 17)) 15 false),(ay 19 (.gR (.t 16) none (some (.t 18))) 15 false),(ay 20 (.call (.c (.fn 22 [])) [(.t 19)]) 15 false),(ay 21 (.mv (.t 1)) 15 false),(ay 22 (.bin .neq (.t 20) (.t 21)) 15 false),(aj 23 (.pick (.t 15) (.c (.bool true)) (.t 22)))])
abbrev Kr:ax:=(.seq (.rg [(aj 4 (.alloc [(.str []),(.str [])])),(aj 5 (.aP (.c (.str [])))),(aj 6 (.aP (.c (.bool false))))]) (.seq (.seq (.sem (erase wU)) (.cond (.t 23) (.seq (.rg [(aj 24 (.build [(.str []),(.str [])] [])),(cR (.st (.t 4) (.t 24) 2)),(aj 5 (.aP (.c (.str [])))),(aj 6 (.aP (.c (.bool false))))]) .ret) .skip)) (.seq (.rg [(au 26 0),(au 27 1),(aj 28 (.lens (.t 27))),(aj 29 (.gR (.t 26) (some (.t 28)) none)),(aj 30 (.call (.c (.fn 65 [])) [(.t 29),(.c (.str [32]))])),(aj 31 (.call (.c (.fn 64 [])) [(.t 30)])),(au 25 31),(aj 32 (.ext (.t 25) 0)),(aj 33 (.ext (.t 25) 1)),(aj 34 (.ext (.t 25) 2)),(aj 7 (.alloc [(.str []),(.str [])])),(cR (.st (.t 7) (.t 32) 2)),(aR 8 33),(aR 9 34)]) (.seq (.rg [(aj 35 (.ld (.t 7) (some 2))),(au 36 8),(au 37 9),(aj 38 (.bin .eql (.t 37) (.c (.int .i64 0)))),(cR (.st (.t 4) (.t 35) 2)),(aR 5 36),(aR 6 38)]) .ret))))
theorem Ks:bN Tryz.prog 42 39 [(.cell 4 24),(.tmp 5),(.tmp 6)] (erase Kr):=⟨Tryz.f42,_,rfl,by decide,rfl,by kernel_rfl,rfl,rfl⟩
abbrev Cn:List Nat:=[0,1,4,5,6,7,8,9,23]
def kG (F:Nat) (s1:List UInt8) (jd:List UInt8):Option (Bool):=
 (if (decide ((s1.length:Int)<(jd.length:Int))) then
  some true
 else
  (sub s1 0 (jd.length:Int)).bind fun x4=>
  (fP F x4).bind fun r5=>some (!decide (r5=jd)))
def oF (F:Nat) (s1:List UInt8) (jd:List UInt8):Option (aB×(List UInt8)×Bool):=
 (kG F s1 jd).bind fun t7=>
 (if t7 then
  some ((aB.mk ([]:List UInt8) ([]:List UInt8)),([]:List UInt8),false)
 else
  (sub s1 (jd.length:Int) (s1.length:Int)).bind fun x8=>
  (fO x8 ([32]:List UInt8)).bind fun r9=>
  (pI F r9).bind fun (dM,lD,iz)=>some (dM,lD,(decide (iz=0))))
theorem CN {F:Nat} {s1:List UInt8} {jd:List UInt8} {q3:Nat} {H0 H:AH} (hfr:Fr H0 H0.length [] H) (ai:H[q3]? =some [(.str ([]:List UInt8)),(.str ([]:List UInt8))]) (dL:H0.length≤q3) {K:Exit→Env→AH→Prop} {t6:Bool}
 (h:kG F s1 jd=some t6)
 (kn:∀H':AH,Fr H0 H0.length [] H'→H'[q3]? =some [(.str ([]:List UInt8)),(.str ([]:List UInt8))]→K .normal [(0,(.str s1)),(1,(.str jd)),(4,(.ptr q3 0)),(23,(.bool t6))] H'):
 AX Tryz.prog Cn 39 H0.length (erase wU) K [(0,(.str s1)),(1,(.str jd)),(4,(.ptr q3 0))] H:=by
 refine bY fun K' hK=> ?_
 have hle:=hfr.le
 have aM:=aQ ai
 rw [kG.eq_1] at h
 refine az ai ?_
 refine bP h (fun hy1 h=> ?_) fun hy1 h=> ?_
 · refine az (aA hy1 ai) ?_
   obtain rfl:=aC h
   exact hK _ _ _ _ _ aJ ak (kn _ hfr (ai.trans rfl))
 · obtain ⟨x4,hy2,h⟩:=aq h
   refine az (aA hy1 (aA hy2 ai)) ?_
   obtain ⟨r5,hy3,h⟩:=aq h
   refine bC ak (kA hy3) ?_
   refine az ai ?_
   obtain rfl:=aC h
   exact hK _ _ _ _ _ aJ ak (kn _ hfr (ai.trans rfl))
theorem Ax {F:Nat} {s1:List UInt8} {jd:List UInt8} {H0:AH} {aS:aB} {eL:List UInt8} {Kq:Bool} (h:oF F s1 jd=some (aS,eL,Kq)):
 aG Tryz.prog 42 [(.str s1),(.str jd)] H0 fun v H'=>v=(.bB [(.agg [(.str aS.av),(.str aS.domain)]),(.str eL),(.bool Kq)])∧H'=H0:=by
 refine l7 Ks Cn [] fun hcl K0 aO H hH hfr=> ?_
 clear hH
 have hle:=hfr.le
 rw [oF.eq_1] at h
 refine cM ?_
 obtain ⟨q3,Ea⟩:∃q:Nat,H.length=q:=⟨_,rfl⟩
 try rw [Ea]
 obtain ⟨t7,hy4,h⟩:=aq h
 refine bz ak (CN (q3:=q3) (Fr.app hfr) uC bX hy4 ?_)
 intro H hfr ai
 have hle:=hfr.le
 have aM:=aQ ai
 refine az ai ?_
 refine bk h (fun bJ h=> ?_) fun bJ h=> ?_
 · refine az ai ?_
   obtain ⟨rfl,rfl,rfl⟩:=oQ h
   exact aO _ _ _ bh (aT (bW _ hfr) hcl (bn (cs:=[(.str ([]:List UInt8)),(.str ([]:List UInt8))]) (v:=(.agg [(.str ([]:List UInt8)),(.str ([]:List UInt8))])) (by kernel_rfl) (n:=(some 2)) (by kernel_rfl) rfl cA (by simp [bG,bF,dP,aU,AV.flat,bZ,cy,AV.bu,Tg.sh]) (aW (aW aZ (.bool false)) (.str ([]:List UInt8)))) bf aX ⟨rfl,rfl⟩)
 · obtain ⟨x8,b6,h⟩:=aq h
   refine az (aA b6 ai) ?_
   obtain ⟨r9,cC,h⟩:=aq h
   refine bC ak (wL (s1:=x8) (s2:=([32]:List UInt8)) cC) ?_
   refine az ai ?_
   obtain ⟨⟨dM,lD,iz⟩,cr,h⟩:=aq h
   dsimp only at h
   refine bC ak (FM cr) ?_
   refine az ai ?_
   obtain ⟨rfl,rfl,rfl⟩:=oQ h
   exact aO _ _ _ bh (aT (bW _ (bW _ (Fr.app hfr))) hcl (bn (cs:=[(.str dM.av),(.str dM.domain)]) (v:=(.agg [(.str dM.av),(.str dM.domain)])) (by kernel_rfl) (n:=(some 2)) (by kernel_rfl) rfl cA (by simp [bG,bF,dP,aU,AV.flat,bZ,cy,AV.bu,Tg.sh]) (aW (aW aZ (.bool (decide (iz=0)))) (.str lD))) bf aX ⟨rfl,rfl⟩)
abbrev wV:ax:=(.rg [(au 7 0),(aj 8 (.lens (.t 7))),(aj 9 (.bin .lss (.t 8) (.c (.int .i64 6)))),(au 10 9),(ay 11 (.mv (.t 0)) 10 false),(ay 12 (.gR (.t 11) none (some (.c (.int .i64 6)))) 10 false),(ay 13 (.call (.c (.fn 22 [])) [(.t 12)]) 10 false),(ay 14 (.bin .neq (.t 13) (.c (.str [32,115,105,122,101,61]))) 10 false),(aj 15 (.pick (.t 10) (.c (.bool true)) (.t 14)))])
abbrev wW:ax:=(.rg [(au 23 5),(au 24 6),(aj 25 (.iq false (.t 24) (.c (.v .nilIface)))),(au 26 25),(ay 27 (.mv (.t 4)) 26 true),(ay 28 (.lens (.t 27)) 26 true),(ay 29 (.bin .leq (.t 28) (.c (.int .i64 9))) 26 true),(aj 30 (.pick (.t 26) (.t 29) (.c (.bool false)))),(au 31 30),(ay 32 (.mv (.t 4)) 31 true),(ay 33 (.call (.c (.fn 67 [])) [(.t 32),(.c (.str [48,49,50,51,52,53,54,55,56,57]))]) 31 true),(ay 34 (.bin .eql (.t 33) (.c (.str []))) 31 true),(aj 35 (.pick (.t 31) (.t 34) (.c (.bool false)))),(aR 2 23),(aR 3 35)])
abbrev Kt:ax:=(.seq (.rg [(aj 2 (.aP (.c (.int .i64 0)))),(aj 3 (.aP (.c (.bool false))))]) (.seq (.seq (.sem (erase wV)) (.cond (.t 15) (.seq (.rg [(aj 2 (.aP (.c (.int .i64 0)))),(aj 3 (.aP (.c (.bool false))))]) .ret) .skip)) (.seq (.rg [(au 16 0),(aj 17 (.gR (.t 16) (some (.c (.int .i64 6))) none)),(aR 4 17)]) (.seq (.rg [(au 19 4),(aj 20 (.call (.c (.fn 66 [])) [(.t 19)])),(au 18 20),(aj 21 (.ext (.t 18) 0)),(aj 22 (.ext (.t 18) 1)),(aR 5 21),(aR 6 22)]) (.seq (.sem (erase wW)) .ret)))))
theorem Ku:bN Tryz.prog 43 36 [(.tmp 2),(.tmp 3)] (erase Kt):=⟨Tryz.f43,_,rfl,by decide,rfl,by kernel_rfl,rfl,rfl⟩
abbrev wX:List Nat:=[0,2,3,4,5,6,15]
def kH (F:Nat) (s1:List UInt8):Option (Bool):=
 (if (decide ((s1.length:Int)<6)) then
  some true
 else
  (sub s1 0 6).bind fun x2=>
  (fP F x2).bind fun r3=>
  some (!decide (r3=([32,115,105,122,101,61]:List UInt8))))
def oh (r8:Bool) (x6:List UInt8) (r7:Int):Option (Int×Bool):=
 (if (!r8) then
  (if (decide ((x6.length:Int)≤9)) then
   (ig x6 ([48,49,50,51,52,53,54,55,56,57]:List UInt8)).bind fun r9=>some (r7,(decide (r9=([]:List UInt8))))
  else
   some (r7,false))
 else
  some (r7,false))
def tK (F:Nat) (s1:List UInt8):Option (Int×Bool):=
 (kH F s1).bind fun t5=>
 (if t5 then
  some (0,false)
 else
  (sub s1 6 (s1.length:Int)).bind fun x6=>
  (strconv_Atoi x6).bind fun (r7,r8)=>
  (oh r8 x6 r7).bind fun (t12,t13)=>
  some (t12,t13))
theorem CO {F:Nat} {s1:List UInt8} {H:AH} {K:Exit→Env→AH→Prop} {t4:Bool}
 (h:kH F s1=some t4)
 (kn:K .normal [(0,(.str s1)),(15,(.bool t4))] H):
 AX Tryz.prog wX 36 H.length (erase wV) K [(0,(.str s1))] H:=by
 refine bY fun K' hK=> ?_
 rw [kH.eq_1] at h
 refine aE ?_
 refine bP h (fun hy1 h=> ?_) fun hy1 h=> ?_
 · refine aV hy1 ?_
   obtain rfl:=aC h
   exact hK _ _ _ _ _ aJ ak kn
 · obtain ⟨x2,hy2,h⟩:=aq h
   refine aV (aA hy1 hy2) ?_
   obtain ⟨r3,hy3,h⟩:=aq h
   refine bC ak (kA hy3) ?_
   refine aE ?_
   obtain rfl:=aC h
   exact hK _ _ _ _ _ aJ ak kn
theorem CP {r8:Bool} {x6:List UInt8} {r7:Int} {H:AH} {K:Exit→Env→AH→Prop} {t10:Int} {t11:Bool}
 (h:oh r8 x6 r7=some (t10,t11))
 (kn:K .normal [(2,(.int .i64 t10)),(3,(.bool t11))] H):
 AX Tryz.prog wX 36 H.length (erase wW) K [(4,(.str x6)),(5,(.int .i64 r7)),(6,(dN r8))] H:=by
 refine bY fun K' hK=> ?_
 rw [oh.eq_1] at h
 refine aE ?_
 refine bP h (fun cr h=> ?_) fun cr h=> ?_
 · refine aV cr ?_
   refine bP h (fun cP h=> ?_) fun cP h=> ?_
   · refine aV cP ?_
     obtain ⟨r9,ck,h⟩:=aq h
     refine bC ak (Bt (s1:=x6) (s2:=([48,49,50,51,52,53,54,55,56,57]:List UInt8)) ck) ?_
     refine aE ?_
     obtain ⟨rfl,rfl⟩:=cB h
     exact hK _ _ _ _ _ aJ ak kn
   · refine aV cP ?_
     obtain ⟨rfl,rfl⟩:=cB h
     exact hK _ _ _ _ _ aJ ak kn
 · refine aV cr ?_
   obtain ⟨rfl,rfl⟩:=cB h
   exact hK _ _ _ _ _ aJ ak kn
theorem Il {F:Nat} {s1:List UInt8} {H0:AH} {aS:Int} {eL:Bool} (h:tK F s1=some (aS,eL)):
 aG Tryz.prog 43 [(.str s1)] H0 fun v H'=>v=(.bB [(.int .i64 aS),(.bool eL)])∧H'=H0:=by
 refine fF Ku wX fun hcl K0 aO=> ?_
 rw [tK.eq_1] at h
 refine aE ?_
 obtain ⟨t5,hy4,h⟩:=aq h
 refine bz ak (CO hy4 ?_)
 refine aE ?_
 refine bk h (fun bJ h=> ?_) fun bJ h=> ?_
 · refine aE ?_
   obtain ⟨rfl,rfl⟩:=cB h
   exact aO _ _ _ bh (aK hcl (aW (aW aZ (.bool false)) (.int .i64 0)) bf aX ⟨rfl,rfl⟩)
 · obtain ⟨x6,b6,h⟩:=aq h
   refine aV b6 ?_
   obtain ⟨⟨r7,r8⟩,cC,h⟩:=aq h
   dsimp only at h
   refine bC ak (strconv_Atoi_ok (s1:=x6) cC) ?_
   refine aE ?_
   obtain ⟨⟨t12,t13⟩,cx,h⟩:=aq h
   dsimp only at h
   refine bz ak (CP cx ?_)
   refine aE ?_
   obtain ⟨rfl,rfl⟩:=cB h
   exact aO _ _ _ bh (aK hcl (aW (aW aZ (.bool t13)) (.int .i64 t12)) bf aX ⟨rfl,rfl⟩)
abbrev wY:ax:=(.cond (.t 18) (.rg [(au 20 5),(aj 21 (.call (.c (.fn 43 [])) [(.t 20)])),(au 19 21),(aj 22 (.ext (.t 19) 0)),(aj 23 (.ext (.t 19) 1)),(aR 7 22),(aR 8 23)]) .skip)
abbrev wZ:ax:=(.rg [(au 25 6),(aj 26 (.un .not (.t 25))),(au 27 26),(ay 28 (.mv (.t 5)) 27 false),(ay 29 (.bin .neq (.t 28) (.c (.str []))) 27 false),(ay 30 (.mv (.t 29)) 27 false),(ay 31 (.mv (.t 5)) 30 true),(ay 32 (.ixs (.t 31) (.c (.int .i64 0))) 30 true),(ay 33 (.bin .neq (.t 32) (.c (b8 32))) 30 true),(ay 34 (.pick (.t 30) (.t 33) (.c (.bool false))) 27 false),(aj 35 (.pick (.t 27) (.c (.bool true)) (.t 34))),(aR 24 35)])
abbrev Kv:ax:=(.seq (.rg [(aj 2 (.alloc [(.int .i64 0),(.str []),(.str []),(.str []),(.int .i64 0)])),(aj 3 (.aP (.c (.int .i64 0))))]) (.seq (.rg [(au 10 0),(aj 11 (.call (.c (.fn 42 [])) [(.t 10),(.c (.str [32,102,114,111,109,58]))])),(au 9 11),(aj 12 (.ext (.t 9) 0)),(aj 13 (.ext (.t 9) 1)),(aj 14 (.ext (.t 9) 2)),(aj 4 (.alloc [(.str []),(.str [])])),(cR (.st (.t 4) (.t 12) 2)),(aR 5 13),(aR 6 14)]) (.seq (.rg [(au 15 5),(aj 16 (.bin .eql (.t 15) (.c (.str [])))),(aj 7 (.aP (.c (.int .i64 (-1))))),(aR 8 16)]) (.seq (.seq (.rg [(au 17 8),(aj 18 (.un .not (.t 17)))]) (.sem (erase wY))) (.seq (.blk 0 (.seq (.sem (erase wZ)) (.cond (.t 24) (.seq (.rg [(aj 36 (.build [(.int .i64 0),(.str []),(.str []),(.str []),(.int .i64 0)] [])),(cR (.st (.t 2) (.t 36) 5)),(aj 3 (.aP (.c (.int .i64 501))))]) .ret) (.seq (.rg [(au 38 8),(aj 39 (.un .not (.t 38))),(aR 37 39)]) (.cond (.t 37) (.seq (.rg [(aj 40 (.build [(.int .i64 0),(.str []),(.str []),(.str []),(.int .i64 0)] [])),(cR (.st (.t 2) (.t 40) 5)),(aj 3 (.aP (.c (.int .i64 555))))]) .ret) .skip))))) (.seq (.rg [(aj 41 (.ld (.t 4) (some 2))),(au 42 7),(aj 43 (.build [(.int .i64 0),(.str []),(.str []),(.str []),(.int .i64 0)] [(0,(1,(.c (.int .i64 3)))),(2,(2,(.t 41))),(4,(1,(.t 42)))])),(cR (.st (.t 2) (.t 43) 5)),(aj 3 (.aP (.c (.int .i64 0))))]) .ret))))))
theorem Kw:bN Tryz.prog 23 44 [(.cell 2 26),(.tmp 3)] (erase Kv):=⟨Tryz.f23,_,rfl,by decide,rfl,by kernel_rfl,rfl,rfl⟩
abbrev w5:List Nat:=[0,2,3,4,5,6,7,8,18,24,37]
def om (F:Nat) (r3:List UInt8):Option (Int×Bool):=
 (if (!(decide (r3=([]:List UInt8)))) then
  (tK F r3).bind fun (r7,r8)=>some (r7,r8)
 else
  some ((-1),(decide (r3=([]:List UInt8)))))
def oq (r4:Bool) (r3:List UInt8):Option (Bool):=
 (if (!r4) then
  some true
 else
  (if (!decide (r3=([]:List UInt8))) then
   (idx r3 0).bind fun kY=>some (!decide (kY=32))
  else
   some false))
def tL (F:Nat) (s1:List UInt8):Option (aF×Int):=
 (oF F s1 ([32,102,114,111,109,58]:List UInt8)).bind fun (r2,r3,r4)=>
 (om F r3).bind fun (tM,Eb)=>
 (oq r4 r3).bind fun t17=>
 (if t17 then
  some ((aF.mk 0 ([]:List UInt8) (aB.mk ([]:List UInt8) ([]:List UInt8)) 0),501)
 else
  (if (!Eb) then
   some ((aF.mk 0 ([]:List UInt8) (aB.mk ([]:List UInt8) ([]:List UInt8)) 0),555)
  else
   some ((aF.mk 3 ([]:List UInt8) r2 tM),0)))
theorem CQ {F:Nat} {r3:List UInt8} {q5:Nat} {q6:Nat} {r4:Bool} {r2:aB} {H0 H:AH} (hfr:Fr H0 H0.length [] H) (ai:H[q5]? =some [(.int .i64 0),(.str ([]:List UInt8)),(.str ([]:List UInt8)),(.str ([]:List UInt8)),(.int .i64 0)]) (aN:H[q6]? =some [(.str r2.av),(.str r2.domain)]) (dL:H0.length≤q5) (hi1:H0.length≤q6) (hi2:q5≠q6) {K:Exit→Env→AH→Prop} {Rm:Int} {YS:Bool}
 (h:om F r3=some (Rm,YS))
 (kn:∀H':AH,Fr H0 H0.length [] H'→H'[q5]? =some [(.int .i64 0),(.str ([]:List UInt8)),(.str ([]:List UInt8)),(.str ([]:List UInt8)),(.int .i64 0)]→H'[q6]? =some [(.str r2.av),(.str r2.domain)]→K .normal [(2,(.ptr q5 0)),(4,(.ptr q6 0)),(5,(.str r3)),(6,(.bool r4)),(7,(.int .i64 Rm)),(8,(.bool YS))] H'):
 AX Tryz.prog w5 44 H0.length (erase wY) K [(2,(.ptr q5 0)),(4,(.ptr q6 0)),(5,(.str r3)),(6,(.bool r4)),(7,(.int .i64 (-1))),(8,(.bool (decide (r3=([]:List UInt8))))),(18,(.bool (!(decide (r3=([]:List UInt8))))))] H:=by
 refine bY fun K' hK=> ?_
 have hle:=hfr.le
 have aM:=aQ ai
 have lI:=aQ aN
 rw [om.eq_1] at h
 refine az (aA ai aN) ?_
 refine bk h (fun hy2 h=> ?_) fun hy2 h=> ?_
 · refine az (aA ai aN) ?_
   obtain ⟨⟨r7,r8⟩,hy3,h⟩:=aq h
   dsimp only at h
   refine bC ak (Il hy3) ?_
   refine az (aA ai aN) ?_
   obtain ⟨rfl,rfl⟩:=cB h
   exact hK _ _ _ _ _ aJ ak (kn _ hfr (ai.trans rfl) (aN.trans rfl))
 · refine az (aA ai aN) ?_
   obtain ⟨rfl,rfl⟩:=cB h
   exact hK _ _ _ _ _ aJ ak (kn _ hfr (ai.trans rfl) (aN.trans rfl))
theorem CS {r4:Bool} {r3:List UInt8} {k5:Nat} {yJ:Nat} {tM:Int} {Eb:Bool} {r2:aB} {H0 H:AH} (hfr:Fr H0 H0.length [] H) (ai:H[k5]? =some [(.int .i64 0),(.str ([]:List UInt8)),(.str ([]:List UInt8)),(.str ([]:List UInt8)),(.int .i64 0)]) (aN:H[yJ]? =some [(.str r2.av),(.str r2.domain)]) (dL:H0.length≤k5) (hi1:H0.length≤yJ) (hi2:k5≠yJ) {K:Exit→Env→AH→Prop} {t16:Bool}
 (h:oq r4 r3=some t16)
 (kn:∀H':AH,Fr H0 H0.length [] H'→H'[k5]? =some [(.int .i64 0),(.str ([]:List UInt8)),(.str ([]:List UInt8)),(.str ([]:List UInt8)),(.int .i64 0)]→H'[yJ]? =some [(.str r2.av),(.str r2.domain)]→K .normal [(2,(.ptr k5 0)),(4,(.ptr yJ 0)),(7,(.int .i64 tM)),(8,(.bool Eb)),(24,(.bool t16))] H'):
 AX Tryz.prog w5 44 H0.length (erase wZ) K [(2,(.ptr k5 0)),(4,(.ptr yJ 0)),(5,(.str r3)),(6,(.bool r4)),(7,(.int .i64 tM)),(8,(.bool Eb))] H:=by
 refine bY fun K' hK=> ?_
 have hle:=hfr.le
 have aM:=aQ ai
 have lI:=aQ aN
 rw [oq.eq_1] at h
 refine az (aA ai aN) ?_
 refine bP h (fun bJ h=> ?_) fun bJ h=> ?_
 · refine az (aA bJ (aA ai aN)) ?_
   obtain rfl:=aC h
   exact hK _ _ _ _ _ aJ ak (kn _ hfr (ai.trans rfl) (aN.trans rfl))
 · refine az (aA bJ (aA ai aN)) ?_
   refine bP h (fun b6 h=> ?_) fun b6 h=> ?_
   · obtain ⟨kY,cC,h⟩:=aq h
     refine az (aA b6 (aA cC (aA ai aN))) ?_
     obtain rfl:=aC h
     exact hK _ _ _ _ _ aJ ak (kn _ hfr (ai.trans rfl) (aN.trans rfl))
   · refine az (aA b6 (aA ai aN)) ?_
     obtain rfl:=aC h
     exact hK _ _ _ _ _ aJ ak (kn _ hfr (ai.trans rfl) (aN.trans rfl))
theorem Im {F:Nat} {s1:List UInt8} {H0:AH} {aS:aF} {eL:Int} (h:tL F s1=some (aS,eL)):
 aG Tryz.prog 23 [(.str s1)] H0 fun v H'=>v=(.bB [(.agg [(.int .i64 aS.kind),(.str aS.arg),(.str aS.path.av),(.str aS.path.domain),(.int .i64 aS.size)]),(.int .i64 eL)])∧H'=H0:=by
 refine l7 Kw w5 [] fun hcl K0 aO H hH hfr=> ?_
 clear hH
 have hle:=hfr.le
 rw [tL.eq_1] at h
 refine cM ?_
 obtain ⟨⟨r2,r3,r4⟩,hy1,h⟩:=aq h
 dsimp only at h
 refine bC ak (Ax hy1) ?_
 refine cM ?_
 obtain ⟨q6,yH⟩:∃q:Nat,(H.length+1)=q:=⟨_,rfl⟩
 try rw [yH]
 obtain ⟨q5,yI⟩:∃q:Nat,H.length=q:=⟨_,rfl⟩
 try rw [yI]
 try rw [show q5+1=q6 from by omega]
 obtain ⟨⟨tM,Eb⟩,hy4,h⟩:=aq h
 dsimp only at h
 refine bz ak (CQ (r4:=r4) (r2:=r2) (q5:=q5) (q6:=q6) (bW _ (Fr.app (Fr.app hfr))) (fN (kz uC)) cA bX bX bX hy4 ?_)
 intro H hfr ai aN
 have hle:=hfr.le
 have aM:=aQ ai
 have lI:=aQ aN
 refine az (aA ai aN) ?_
 obtain ⟨t17,cr,h⟩:=aq h
 refine bz ak (CS (tM:=tM) (Eb:=Eb) (r2:=r2) (k5:=q5) (yJ:=q6) hfr (ai.trans rfl) (aN.trans rfl) bX bX bX cr ?_)
 intro H hfr ai aN
 have hle:=hfr.le
 have aM:=aQ ai
 have lI:=aQ aN
 refine az (aA ai aN) ?_
 refine bk h (fun cP h=> ?_) fun cP h=> ?_
 · refine az (aA ai aN) ?_
   obtain ⟨rfl,rfl⟩:=cB h
   exact aO _ _ _ bh (aT (bW _ hfr) hcl (bn (cs:=[(.int .i64 0),(.str ([]:List UInt8)),(.str ([]:List UInt8)),(.str ([]:List UInt8)),(.int .i64 0)]) (v:=(.agg [(.int .i64 0),(.str ([]:List UInt8)),(.str ([]:List UInt8)),(.str ([]:List UInt8)),(.int .i64 0)])) (by kernel_rfl) (n:=(some 5)) (by kernel_rfl) rfl cA (by simp [bG,bF,dP,aU,AV.flat,bZ,cy,AV.bu,Tg.sh]) (aW aZ (.int .i64 501))) bf aX ⟨rfl,rfl⟩)
 · refine az (aA ai aN) ?_
   refine bk h (fun ck h=> ?_) fun ck h=> ?_
   · refine az (aA ai aN) ?_
     obtain ⟨rfl,rfl⟩:=cB h
     exact aO _ _ _ bh (aT (bW _ hfr) hcl (bn (cs:=[(.int .i64 0),(.str ([]:List UInt8)),(.str ([]:List UInt8)),(.str ([]:List UInt8)),(.int .i64 0)]) (v:=(.agg [(.int .i64 0),(.str ([]:List UInt8)),(.str ([]:List UInt8)),(.str ([]:List UInt8)),(.int .i64 0)])) (by kernel_rfl) (n:=(some 5)) (by kernel_rfl) rfl cA (by simp [bG,bF,dP,aU,AV.flat,bZ,cy,AV.bu,Tg.sh]) (aW aZ (.int .i64 555))) bf aX ⟨rfl,rfl⟩)
   · refine az (aA ai aN) ?_
     obtain ⟨rfl,rfl⟩:=cB h
     exact aO _ _ _ bh (aT (bW _ hfr) hcl (bn (cs:=[(.int .i64 3),(.str ([]:List UInt8)),(.str r2.av),(.str r2.domain),(.int .i64 tM)]) (v:=(.agg [(.int .i64 3),(.str ([]:List UInt8)),(.str r2.av),(.str r2.domain),(.int .i64 tM)])) (by kernel_rfl) (n:=(some 5)) (by kernel_rfl) rfl cA (by simp [bG,bF,dP,aU,AV.flat,bZ,cy,AV.bu,Tg.sh]) (aW aZ (.int .i64 0))) bf aX ⟨rfl,rfl⟩)
abbrev w6:ax:=(.rg [(au 14 6),(aj 15 (.un .not (.t 14))),(au 16 15),(ay 17 (.ld (.t 4) (some 2)) 16 false),(ay 18 (.build [(.str []),(.str [])] []) 16 false),(ay 19 (.seq [.s, .s] false (.t 17) (.t 18)) 16 false),(aj 20 (.pick (.t 16) (.c (.bool true)) (.t 19))),(au 21 20),(ay 22 (.mv (.t 5)) 21 false),(ay 23 (.bin .neq (.t 22) (.c (.str []))) 21 false),(ay 24 (.mv (.t 23)) 21 false),(ay 25 (.mv (.t 5)) 24 true),(ay 26 (.ixs (.t 25) (.c (.int .i64 0))) 24 true),(ay 27 (.bin .neq (.t 26) (.c (b8 32))) 24 true),(ay 28 (.pick (.t 24) (.t 27) (.c (.bool false))) 21 false),(aj 29 (.pick (.t 21) (.c (.bool true)) (.t 28))),(aR 13 29)])
abbrev Kx:ax:=(.seq (.rg [(aj 2 (.alloc [(.int .i64 0),(.str []),(.str []),(.str []),(.int .i64 0)])),(aj 3 (.aP (.c (.int .i64 0))))]) (.seq (.rg [(au 8 0),(aj 9 (.call (.c (.fn 42 [])) [(.t 8),(.c (.str [32,116,111,58]))])),(au 7 9),(aj 10 (.ext (.t 7) 0)),(aj 11 (.ext (.t 7) 1)),(aj 12 (.ext (.t 7) 2)),(aj 4 (.alloc [(.str []),(.str [])])),(cR (.st (.t 4) (.t 10) 2)),(aR 5 11),(aR 6 12)]) (.seq (.blk 0 (.seq (.sem (erase w6)) (.cond (.t 13) (.seq (.rg [(aj 30 (.build [(.int .i64 0),(.str []),(.str []),(.str []),(.int .i64 0)] [])),(cR (.st (.t 2) (.t 30) 5)),(aj 3 (.aP (.c (.int .i64 501))))]) .ret) (.seq (.rg [(au 32 5),(aj 33 (.bin .neq (.t 32) (.c (.str [])))),(aR 31 33)]) (.cond (.t 31) (.seq (.rg [(aj 34 (.build [(.int .i64 0),(.str []),(.str []),(.str []),(.int .i64 0)] [])),(cR (.st (.t 2) (.t 34) 5)),(aj 3 (.aP (.c (.int .i64 555))))]) .ret) .skip))))) (.seq (.rg [(aj 35 (.ld (.t 4) (some 2))),(aj 36 (.build [(.int .i64 0),(.str []),(.str []),(.str []),(.int .i64 0)] [(0,(1,(.c (.int .i64 4)))),(2,(2,(.t 35)))])),(cR (.st (.t 2) (.t 36) 5)),(aj 3 (.aP (.c (.int .i64 0))))]) .ret))))
theorem Ky:bN Tryz.prog 24 37 [(.cell 2 26),(.tmp 3)] (erase Kx):=⟨Tryz.f24,_,rfl,by decide,rfl,by kernel_rfl,rfl,rfl⟩
abbrev Co:List Nat:=[0,2,3,4,5,6,13,31]
def ot (r4:Bool) (r2:aB) (r3:List UInt8):Option (Bool):=
 (if (!r4) then
  some true
 else
  (if (decide (r2.av=([]:List UInt8))&&decide (r2.domain=([]:List UInt8))) then
   some true
  else
   (if (!decide (r3=([]:List UInt8))) then
    (idx r3 0).bind fun x7=>some (!decide (x7=32))
   else
    some false)))
def tN (F:Nat) (s1:List UInt8):Option (aF×Int):=
 (oF F s1 ([32,116,111,58]:List UInt8)).bind fun (r2,r3,r4)=>
 (ot r4 r2 r3).bind fun t9=>
 (if t9 then
  some ((aF.mk 0 ([]:List UInt8) (aB.mk ([]:List UInt8) ([]:List UInt8)) 0),501)
 else
  (if (!decide (r3=([]:List UInt8))) then
   some ((aF.mk 0 ([]:List UInt8) (aB.mk ([]:List UInt8) ([]:List UInt8)) 0),555)
  else
   some ((aF.mk 4 ([]:List UInt8) r2 0),0)))
theorem CT {r4:Bool} {r2:aB} {r3:List UInt8} {q5:Nat} {q6:Nat} {H0 H:AH} (hfr:Fr H0 H0.length [] H) (ai:H[q5]? =some [(.int .i64 0),(.str ([]:List UInt8)),(.str ([]:List UInt8)),(.str ([]:List UInt8)),(.int .i64 0)]) (aN:H[q6]? =some [(.str r2.av),(.str r2.domain)]) (dL:H0.length≤q5) (hi1:H0.length≤q6) (hi2:q5≠q6) {K:Exit→Env→AH→Prop} {t8:Bool}
 (h:ot r4 r2 r3=some t8)
 (kn:∀H':AH,Fr H0 H0.length [] H'→H'[q5]? =some [(.int .i64 0),(.str ([]:List UInt8)),(.str ([]:List UInt8)),(.str ([]:List UInt8)),(.int .i64 0)]→H'[q6]? =some [(.str r2.av),(.str r2.domain)]→K .normal [(2,(.ptr q5 0)),(4,(.ptr q6 0)),(5,(.str r3)),(13,(.bool t8))] H'):
 AX Tryz.prog Co 37 H0.length (erase w6) K [(2,(.ptr q5 0)),(4,(.ptr q6 0)),(5,(.str r3)),(6,(.bool r4))] H:=by
 refine bY fun K' hK=> ?_
 have hle:=hfr.le
 have aM:=aQ ai
 have lI:=aQ aN
 rw [ot.eq_1] at h
 refine az (aA ai aN) ?_
 refine bP h (fun hy2 h=> ?_) fun hy2 h=> ?_
 · refine az (aA hy2 (aA ai aN)) ?_
   obtain rfl:=aC h
   exact hK _ _ _ _ _ aJ ak (kn _ hfr (ai.trans rfl) (aN.trans rfl))
 · refine az (aA hy2 (aA ai aN)) ?_
   refine bP h (fun hy3 h=> ?_) fun hy3 h=> ?_
   · refine az (aA hy3 (aA ai aN)) ?_
     obtain rfl:=aC h
     exact hK _ _ _ _ _ aJ ak (kn _ hfr (ai.trans rfl) (aN.trans rfl))
   · refine az (aA hy3 (aA ai aN)) ?_
     refine bP h (fun hy4 h=> ?_) fun hy4 h=> ?_
     · obtain ⟨x7,bJ,h⟩:=aq h
       refine az (aA hy4 (aA bJ (aA ai aN))) ?_
       obtain rfl:=aC h
       exact hK _ _ _ _ _ aJ ak (kn _ hfr (ai.trans rfl) (aN.trans rfl))
     · refine az (aA hy4 (aA ai aN)) ?_
       obtain rfl:=aC h
       exact hK _ _ _ _ _ aJ ak (kn _ hfr (ai.trans rfl) (aN.trans rfl))
theorem Io {F:Nat} {s1:List UInt8} {H0:AH} {aS:aF} {eL:Int} (h:tN F s1=some (aS,eL)):
 aG Tryz.prog 24 [(.str s1)] H0 fun v H'=>v=(.bB [(.agg [(.int .i64 aS.kind),(.str aS.arg),(.str aS.path.av),(.str aS.path.domain),(.int .i64 aS.size)]),(.int .i64 eL)])∧H'=H0:=by
 refine l7 Ky Co [] fun hcl K0 aO H hH hfr=> ?_
 clear hH
 have hle:=hfr.le
 rw [tN.eq_1] at h
 refine cM ?_
 obtain ⟨⟨r2,r3,r4⟩,hy1,h⟩:=aq h
 dsimp only at h
 refine bC ak (Ax hy1) ?_
 refine cM ?_
 obtain ⟨q6,yH⟩:∃q:Nat,(H.length+1)=q:=⟨_,rfl⟩
 try rw [yH]
 obtain ⟨q5,yI⟩:∃q:Nat,H.length=q:=⟨_,rfl⟩
 try rw [yI]
 try rw [show q5+1=q6 from by omega]
 obtain ⟨t9,b6,h⟩:=aq h
 refine bz ak (CT (q5:=q5) (q6:=q6) (bW _ (Fr.app (Fr.app hfr))) (fN (kz uC)) cA bX bX bX b6 ?_)
 intro H hfr ai aN
 have hle:=hfr.le
 have aM:=aQ ai
 have lI:=aQ aN
 refine az (aA ai aN) ?_
 refine bk h (fun cC h=> ?_) fun cC h=> ?_
 · refine az (aA ai aN) ?_
   obtain ⟨rfl,rfl⟩:=cB h
   exact aO _ _ _ bh (aT (bW _ hfr) hcl (bn (cs:=[(.int .i64 0),(.str ([]:List UInt8)),(.str ([]:List UInt8)),(.str ([]:List UInt8)),(.int .i64 0)]) (v:=(.agg [(.int .i64 0),(.str ([]:List UInt8)),(.str ([]:List UInt8)),(.str ([]:List UInt8)),(.int .i64 0)])) (by kernel_rfl) (n:=(some 5)) (by kernel_rfl) rfl cA (by simp [bG,bF,dP,aU,AV.flat,bZ,cy,AV.bu,Tg.sh]) (aW aZ (.int .i64 501))) bf aX ⟨rfl,rfl⟩)
 · refine az (aA ai aN) ?_
   refine bk h (fun cr h=> ?_) fun cr h=> ?_
   · refine az (aA ai aN) ?_
     obtain ⟨rfl,rfl⟩:=cB h
     exact aO _ _ _ bh (aT (bW _ hfr) hcl (bn (cs:=[(.int .i64 0),(.str ([]:List UInt8)),(.str ([]:List UInt8)),(.str ([]:List UInt8)),(.int .i64 0)]) (v:=(.agg [(.int .i64 0),(.str ([]:List UInt8)),(.str ([]:List UInt8)),(.str ([]:List UInt8)),(.int .i64 0)])) (by kernel_rfl) (n:=(some 5)) (by kernel_rfl) rfl cA (by simp [bG,bF,dP,aU,AV.flat,bZ,cy,AV.bu,Tg.sh]) (aW aZ (.int .i64 555))) bf aX ⟨rfl,rfl⟩)
   · refine az (aA ai aN) ?_
     obtain ⟨rfl,rfl⟩:=cB h
     exact aO _ _ _ bh (aT (bW _ hfr) hcl (bn (cs:=[(.int .i64 4),(.str ([]:List UInt8)),(.str r2.av),(.str r2.domain),(.int .i64 0)]) (v:=(.agg [(.int .i64 4),(.str ([]:List UInt8)),(.str r2.av),(.str r2.domain),(.int .i64 0)])) (by kernel_rfl) (n:=(some 5)) (by kernel_rfl) rfl cA (by simp [bG,bF,dP,aU,AV.flat,bZ,cy,AV.bu,Tg.sh]) (aW aZ (.int .i64 0))) bf aX ⟨rfl,rfl⟩)
end Go.Proofs.dO
end
