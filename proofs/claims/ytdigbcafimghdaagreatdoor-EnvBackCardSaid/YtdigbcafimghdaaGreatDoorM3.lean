import Derived.Test.YtdigbcafimghdaaGreatDoorM2
import Derived.Shelf.Strconv.Itoa3
import Derived.Shelf.Small.Strs
import Derived.Shelf.Utf8.RuneCount
import Derived.Shelf.Strconv.Atoi
import Derived.Shelf.Strconv.Itoa0
import Derived.Shelf.Strconv.Itoa1
import Derived.Shelf.LaysM
import Derived.Shelf.Strconv.Itoa2
import Derived.Shelf.Strconv.AtoiErrFast
import Derived.Shelf.Strconv.ParseIntEmpty
import Derived.Shelf.Strconv.AtoiFail
import Derived.Shelf.Strconv.Clone
import Derived.Shelf.Strconv.SyntaxError
import Derived.Shelf.LaysC
import Derived.Shelf.Strconv.ToError
import Derived.Shelf.Strconv.Lower
import Derived.Shelf.Strconv.ParseUint10
import Derived.Shelf.Strconv.ParseUint10Empty
import Derived.Shelf.Strconv.ParseUint10Any
import Derived.Shelf.Strconv.ParseInt10
import Derived.Shelf.Strconv.AtoiLong
import Derived.Shelf.Strconv.AtoiInnerAll
import Derived.Shelf.Strconv.RangeError
import Derived.Shelf.Strconv.ToErrorRange
import Derived.Shelf.Strconv.AtoiAll
import Derived.Shelf.Strconv.ErrVarAll
import Derived.Shelf.Strconv.ParseUintEmpty
import Derived.Shelf.Strconv.ParseUint10b64
import Derived.Shelf.Strconv.ParseUint10b32
import Derived.Shelf.Strconv.ParseUint10b16
import Derived.Shelf.Strconv.ParseUint10b8
import Derived.Shelf.Strings.Search1
import Derived.Shelf.Strings.Search2
import Derived.Shelf.Strings.Search3
import Derived.Shelf.Strings.Count
import Derived.Shelf.Strings.Shaped
import Derived.Shelf.Strings.Split
import Derived.Shelf.Strings.SplitShaped
import Derived.Shelf.Unicode.Decode
import Derived.Shelf.Strings.RuneCount
import Derived.Shelf.Strings.Explode
import Derived.Shelf.Unicode.DecodeSlow
import Derived.Shelf.Unicode.DecodeAny
import Derived.Shelf.Bytes.Small
import Derived.Test.YtdigbcafimghdaaGreatDoorProg
import Derived.Lib.Split
set_option linter.unusedSimpArgs false
set_option linter.unusedVariables false
set_option linter.unusedSectionVars false
set_option linter.defProp false
section
namespace Go.Am
open Go
variable [Tabs]
def EK (k:Nat) (xs:List AV):Prop:=∀(i:Nat) (a:AV),xs[i]? =some a→a.cells.length=k∧b5 a.cells=true∧fY a.cells=true∧bZ a.cells=true
theorem EK.ml {α:Type} {f:α→AV} {k:Nat} (h:∀x,(f x).cells.length=k∧b5 (f x).cells=true∧fY (f x).cells=true∧bZ (f x).cells=true) (l:List α):EK k (ml f l):=by
 intro i a hi
 simp only [Am.ml,List.getElem?_map,Option.map_eq_some_iff] at hi
 obtain ⟨x, -,rfl⟩:=hi
 exact h x
def fla (xs:List AV):List AV:=(xs.map fun a=>a.cells.map AV.s1).flatten
theorem mT (a:AV) (xs:List AV):fla (a::xs)=a.cells.map AV.s1++fla xs:=rfl
theorem KE (xs ys:List AV):fla (xs++ys)=fla xs++fla ys:=by simp [fla]
theorem EK.tail {k:Nat} {a:AV} {xs:List AV} (h:EK k (a::xs)):EK k xs:=fun i b hb=>h (i+1) b (by simpa using hb)
theorem nJ {k:Nat}:∀ {xs:List AV},EK k xs→(fla xs).length=xs.length*k:=by
 intro xs
 induction xs with
 |nil=>intro _;simp [fla]
 |cons a r ih=>intro h;rw [mT,List.length_append,List.length_map,ih h.tail,(h 0 a rfl).1,List.length_cons,Nat.succ_mul];omega
theorem KF {k:Nat}:∀ {xs:List AV},EK k xs→∀(i j:Nat) (a:AV),xs[i]? =some a→j<k→(fla xs)[i*k+j]? =(a.cells.map AV.s1)[j]? :=by
 intro xs
 induction xs with
 |nil=>intro _ i j a h;simp at h
 |cons y r ih=>
  intro h i j a hi hj
  have hy:=(h 0 y rfl).1
  rw [mT]
  cases i with
  |zero=>
   simp at hi;subst hi
   rw [List.getElem?_append_left (by simp;omega)];simp
  |succ i=>
   rw [List.getElem?_append_right (by simp only [List.length_map,hy,Nat.succ_mul];omega)]
   rw [show (i+1)*k+j - (y.cells.map AV.s1).length=i*k+j by simp only [List.length_map,hy,Nat.succ_mul];omega]
   exact ih h.tail i j a (by simpa using hi) hj
theorem Vl {k:Nat}:∀ {xs:List AV},EK k xs→∀(i j:Nat) (a a' w:AV),xs[i]? =some a→j<k→a'.cells.map AV.s1=(a.cells.map AV.s1).set j w→fla (xs.set i a')=(fla xs).set (i*k+j) w:=by
 intro xs
 induction xs with
 |nil=>intro _ i j a a' w h;simp at h
 |cons y r ih=>
  intro h i j a a' w hi hj hw
  have hy:=(h 0 y rfl).1
  cases i with
  |zero=>
   simp at hi;subst hi
   rw [List.set_cons_zero,mT,mT,hw,List.set_append_left _ _ (by simp;omega)];simp
  |succ i=>
   rw [List.set_cons_succ,mT,mT,ih h.tail i j a a' w (by simpa using hi) hj hw,List.set_append_right _ _ (by simp only [List.length_map,hy,Nat.succ_mul];omega)]
   rw [show (i+1)*k+j - (y.cells.map AV.s1).length=i*k+j by simp only [List.length_map,hy,Nat.succ_mul];omega]
theorem abu (a:AV):a.s1.s1=a.s1:=by cases a<;>rfl
theorem YK (xs:List AV):(fla xs).map AV.s1=fla xs:=by
 unfold fla
 rw [List.map_flatten,List.map_map]
 congr 1
 apply List.map_congr_left
 intro a _
 simp [List.map_map,Function.comp_def,abu]
theorem D9 {k:Nat}:∀ {xs:List AV},EK k xs→∀(q:Nat) (a:AV),(fla xs)[q]? =some a→a.flat=true∧a.np=true∧a.ja=true:=by
 intro xs
 induction xs with
 |nil=>intro _ q a h;simp [fla] at h
 |cons y r ih=>
  intro h q a hq
  rw [mT] at hq
  by_cases hlt:q<(y.cells.map AV.s1).length
  · rw [List.getElem?_append_left hlt,List.getElem?_map,Option.map_eq_some_iff] at hq
    obtain ⟨z,hz,rfl⟩:=hq
    have h1:=jr (h 0 y rfl).2.2.2 hz
    have h2:=tT (h 0 y rfl).2.2.1 hz
    have h3:z.ja=true:=by
     have:=(h 0 y rfl).2.1
     generalize y.cells=l at this hz
     clear hlt
     induction l generalizing q with
     |nil=>simp at hz
     |cons b l ihl=>
      simp only [b5,Bool.and_eq_true] at this
      cases q with
      |zero=>simp at hz;subst hz;exact this.1
      |succ q=>exact ihl q this.2 (by simpa using hz)
    cases z<;>simp_all [AV.s1,AV.flat,AV.np,AV.ja]
  · rw [List.getElem?_append_right (by omega)] at hq
    exact ih h.tail _ a hq
theorem KG {l:List AV} (h:∀(q:Nat) (a:AV),l[q]? =some a→a.flat=true):bZ l=true:=by
 induction l with
 |nil=>rfl
 |cons a r ih=>simp only [bZ,Bool.and_eq_true];exact ⟨h 0 a rfl,ih fun q b hb=>h (q+1) b (by simpa using hb)⟩
theorem lQ (k:Nat) (xs:List AV) (c:Nat):kO k xs c=fla xs++List.replicate ((c - xs.length)*k) .un:=rfl
theorem z6 {k c:Nat} {xs:List AV} (h:EK k xs) (hc:xs.length≤c):(kO k xs c).length=c*k:=by
 rw [lQ,List.length_append,nJ h,List.length_replicate, ←Nat.add_mul];congr 1;omega
theorem Bw {k c:Nat} {xs:List AV} (h:EK k xs):(kO k xs c).take (xs.length*k)=fla xs:=by
 rw [lQ,List.take_append_of_le_length (by rw [nJ h];exact Nat.le_refl _),List.take_of_length_le (by rw [nJ h];exact Nat.le_refl _)]
theorem Vm {k c i j:Nat} {xs:List AV} {a:AV} (h:EK k xs) (hi:xs[i]? =some a) (hj:j<k):(kO k xs c)[i*k+j]? =(a.cells.map AV.s1)[j]? :=by
 have hlt:i<xs.length:=(List.getElem?_eq_some_iff.1 hi).1
 have:(i+1)*k≤xs.length*k:=Nat.mul_le_mul_right _ hlt
 rw [Nat.succ_mul] at this
 rw [lQ,List.getElem?_append_left (by rw [nJ h];omega),KF h i j a hi hj]
theorem Se {k c i j:Nat} {xs:List AV} {a a' w:AV} (h:EK k xs) (hi:xs[i]? =some a) (hj:j<k) (hw:a'.cells.map AV.s1=(a.cells.map AV.s1).set j w):
 over (kO k xs c) (i*k+j) [w]=some (kO k (xs.set i a') c):=by
 have hlt:i<xs.length:=(List.getElem?_eq_some_iff.1 hi).1
 have hm:(i+1)*k≤xs.length*k:=Nat.mul_le_mul_right _ hlt
 rw [Nat.succ_mul] at hm
 have hl:=nJ h
 unfold over
 rw [if_pos (by rw [lQ,List.length_append,hl,List.length_singleton];omega)]
 congr 1
 rw [lQ k (xs.set i a'),List.length_set,Vl h i j a a' w hi hj hw,lQ]
 rw [←List.set_append_left _ _ (by rw [hl];omega)]
 rw [List.set_eq_take_append_cons_drop,if_pos (by rw [List.length_append,hl];omega)]
 simp
def GF (k n0 q:Nat) (xs:List AV) (c:Nat) (ah:AH):Prop:=
 (c=0∧xs=[])∨(n0≤q∧0<c∧xs.length≤c∧ah[q]? =some (kO k xs c))
theorem GF.lt {k n0 q c:Nat} {xs:List AV} {ah:AH} (h:GF k n0 q xs c ah) (hc:0<c):q<ah.length∧n0≤q:=by
 rcases h with ⟨h, -⟩|⟨h1, -, -,h2⟩
 · omega
 · exact ⟨(List.getElem?_eq_some_iff.1 h2).1,h1⟩
theorem GF.nil {k n0 q:Nat} {ah:AH}:GF k n0 q [] 0 ah:= .inl ⟨rfl,rfl⟩
theorem GF.at {k n0 q c i:Nat} {xs:List AV} {ah:AH} {a:AV} (h:GF k n0 q xs c ah) (hi:xs[i]? =some a):n0≤q∧ah[q]? =some (kO k xs c):=by
 rcases h with ⟨-,rfl⟩|⟨h1, -, -,h2⟩
 · simp at hi
 · exact ⟨h1,h2⟩
theorem GF.of {k n0 q c:Nat} {xs:List AV} {ah aH:AH} (h:GF k n0 q xs c ah) (he:q<ah.length→n0≤q→aH[q]? =ah[q]?):GF k n0 q xs c aH:=by
 rcases h with h|⟨h1,h2,h3,h4⟩
 · exact .inl h
 · exact .inr ⟨h1,h2,h3,by rw [he (List.getElem?_eq_some_iff.1 h4).1 h1];exact h4⟩
theorem GF.set {k n0 q c i:Nat} {xs:List AV} {ah:AH} {a a':AV} (h:GF k n0 q xs c ah) (hi:xs[i]? =some a):GF k n0 q (xs.set i a') c (ah.set q (kO k (xs.set i a') c)):=by
 rcases h with ⟨-,rfl⟩|⟨h1,h2,h3,h4⟩
 · simp at hi
 · exact .inr ⟨h1,h2,by simpa using h3,List.getElem?_set_self (List.getElem?_eq_some_iff.1 h4).1⟩
section
variable {P:Program} {L:List Nat} {N n0:Nat} {e:Env} {ah:AH} {t:List It} {Q:Exit→Env→AH→Prop} {r:List aQ} {d:Option Nat} {g:Option (Nat×Bool)}
theorem Vn {α:Type} {f:α→AV} {k b q c n1:Nat} {x y:Ar} {tg:Tg} {X Y Z:List α} {ys:List AV} (hf:∀x,(f x).cells.length=k∧b5 (f x).cells=true∧fY (f x).cells=true∧bZ (f x).cells=true)
 (zR:0<k) (hx:ev e x= .cy q k X.length c) (hy:ev e y= .sl tg k ys) (hys:ys=ml f Y) (hY:Y≠[]) (hz:cC b X Y=some Z) (hG:GF k n1 q (ml f X) c ah) (hn:n1≤ah.length)
 (hK:∀q' c' aH,GF k n1 q' (ml f Z) c' aH→(∀s,s<ah.length→s<n1∨(0<c→s≠q)→aH[s]? =ah[s]?)→ah.length≤aH.length→(q'=q∨ah.length≤q')→
  U P L N n0 (.ops r::t) Q .normal (aI L e d (.cy q' k Z.length c')) aH):
 UG P L N n0 ⟨d, .mI k b x y,g⟩ r t Q e ah (some true):=by
 subst hys
 obtain ⟨hc,hZ⟩:=TP hz
 injection hZ with hZ
 subst hZ
 have eX:=EK.ml hf X
 have eY:=EK.ml hf Y
 have eXY:EK k (ml f (X++Y)):=EK.ml hf _
 have hap:ml f (X++Y)=ml f X++ml f Y:=by simp [ml]
 have lX:(ml f X).length=X.length:=by simp [ml]
 have lY:(ml f Y).length=Y.length:=by simp [ml]
 have hyp:0<Y.length:=List.length_pos_iff.2 hY
 show pz L d k b x y e ah fun e ah=>U P L N n0 (.ops r::t) Q .normal e ah
 unfold pz
 rw [hx,hy]
 refine ⟨rfl,rfl,by simpa [ml] using hY,by rw [lY];exact hc.1,by rw [lY];exact hc.2, ?_⟩
 have lXY:(X++Y).length=X.length+Y.length:=List.length_append
 rcases hG with ⟨rfl,hX⟩|⟨h1,h2,h3,h4⟩
 · have hX:X=[]:=by simpa [ml] using hX
   subst hX
   refine .inl ⟨rfl,rfl,fun c' cj=> ?_⟩
   rw [lY] at cj ⊢
   have:=hK ah.length c' (ah++[kO k (ml f Y) c']) (.inr ⟨hn,by omega,by simpa [ml] using cj,by simp⟩) (fun s hs _=>List.getElem?_append_left hs) (by simp) (.inr (Nat.le_refl _))
   simpa using this
 · rw [lX] at h3
   have hlt:=(List.getElem?_eq_some_iff.1 h4).1
   refine .inr ⟨_,h4,fun h0=> ?_,z6 eX (by rw [lX];exact h3),h3, ?_,fun hr=> ?_,fun hr c' cj=> ?_⟩
   · have:=z6 eX (c:=c) (by rw [lX];exact h3)
     rw [h0] at this
     have h5:=Nat.mul_pos h2 zR
     simp at this
     omega
   · rw [←lX,Bw eX];exact KG fun q a hq=>(D9 eX q a hq).1
   · rw [lY] at hr ⊢
     have e1:(kO k (ml f X) c).take (X.length*k)++((ml f Y).map fun a=>a.cells.map AV.s1).flatten++(kO k (ml f X) c).drop ((X.length+Y.length)*k)=kO k (ml f (X++Y)) c:=by
      have t1:=Bw (c:=c) eX
      rw [lX] at t1
      rw [t1,lQ k (ml f (X++Y)),hap,KE]
      show fla (ml f X)++fla (ml f Y)++_=_
      congr 1
      rw [lQ,List.drop_append,List.drop_of_length_le (by rw [nJ eX,lX];exact Nat.mul_le_mul_right _ (by omega)),List.nil_append,List.drop_replicate]
      congr 1
      rw [nJ eX,List.length_append,lX,lY, ←Nat.sub_mul, ←Nat.sub_mul]
      congr 1
      omega
     rw [e1]
     have:=hK q c (ah.set q (kO k (ml f (X++Y)) c)) (.inr ⟨h1,h2,by simpa [ml] using hr,List.getElem?_set_self hlt⟩) (fun s hs hq=>List.getElem?_set_ne (hq.elim (fun h=>by omega) (fun h=>Ne.symm (h h2)))) (by simp) (.inl rfl)
     rw [lXY] at this
     exact this
   · rw [lY] at cj hr ⊢
     have e1:((kO k (ml f X) c).take (X.length*k)).map AV.s1++kO k (ml f Y) (c' - X.length)=kO k (ml f (X++Y)) c':=by
      have t1:=Bw (c:=c) eX
      rw [lX] at t1
      rw [t1,YK,lQ,lQ,hap,KE,List.append_assoc]
      congr 3
      rw [List.length_append,lX,lY];congr 1;omega
     rw [e1]
     have:=hK ah.length c' (ah++[kO k (ml f (X++Y)) c']) (.inr ⟨hn,by omega,by simpa [ml] using cj,by simp⟩) (fun s hs _=>List.getElem?_append_left hs) (by simp) (.inr (Nat.le_refl _))
     rw [lXY] at this
     exact this
theorem abv {q k n c:Nat}:O7 L e ah d (.cy q k n c)=some (aI L e d (.int .i64 n),ah):=rfl
theorem adF {q k n c:Nat} {ki:IntKind} {i:Int}:sS L e ah d k (.cy q k n c) (.int ki i)=(z1 n i).map fun j=>(aI L e d (.ptr q (j*k)),ah):=by
 simp only [sS,z1,and_true]
 split<;>simp
theorem abw {k m s p:Nat} {ki:IntKind} {i:Int}:JH L e ah d k m (.ptr s p) (.int ki i)=(z1 m i).map fun j=>(aI L e d (.ptr s (p+j*k)),ah):=by
 simp only [JH,z1]
 split<;>simp
theorem abx {k m p:Nat} {a:AV} {ki:IntKind} {i:Int}:JH L e ah d k m (.ep a p) (.int ki i)=(z1 m i).map fun j=>(aI L e d (.ep a (p+j*k)),ah):=by
 simp only [JH,z1]
 split<;>simp
theorem aby {k:Nat}:JI L e ah d k (.sl .ex k [])=some (aI L e d (.cy 0 k 0 0),ah):=by simp [JI]
theorem abz {s k n c j:Nat}:JI L e ah d j (.cy s k n c)=some (aI L e d (.cy s k n c),ah):=rfl
theorem abA {u k j:Nat} {xs:List AV}:JI L e ah d j (.sl (.fr (.tmp u)) k xs)=OY L e ah d u k xs (Am.get e u):=rfl
theorem YL {u k:Nat} {xs zs:List AV}:OY L e ah d u k xs (.sl .own k zs)=some (aI L (put e u (.sl .n k zs)) d (.sl .own k xs),ah):=by simp [OY]
end
theorem Wx.ae7 {s k n m c:Nat} (h:n=m):Wx (.cy s k n c) (.cy s k m c):=by subst h;exact .same (by simp)
theorem Wx.cy {s k n c:Nat}:Wx (.cy s k n c) (.cy s k n c):= .same (by simp)
def WG:=And.intro @abA<|And.intro @YL<|And.intro @X8<|And.intro @X9<|And.intro @Ya<|And.intro @Yb<|And.intro @Yc<|And.intro @Yd<|And.intro @Ye<|And.intro @Yf<|And.intro @Yg<|And.intro @Yh<|And.intro @Yi<|And.intro @Yj<|And.intro @Yk<|And.intro @Yl<|And.intro @Ym<|And.intro @Yn<|And.intro @T6<|And.intro @T7<|And.intro @T8<|And.intro @T9<|And.intro @abv<|And.intro @adF<|And.intro @abw<|And.intro @abx<|And.intro @aby<|And.intro @abz<|And.intro @aau<|And.intro @aav<|And.intro @Nat.add_zero<|And.intro @Nat.zero_add @Nat.mul_one
section
variable {P:Program} {L:List Nat} {N n0:Nat} {F:Nat→Prop} {γ:List Nat} {C:Nat→List Value} {e e':Env} {ah:AH} {ts:Array Value} {w:World} {Q K:Exit→Env→AH→Prop}
theorem VR.one' {x:AV} {u:Value} (hx:VR C γ x u) (hk:x.ja=true):u.oneCell'=true:=by
 cases hx<;>first|rfl|cases hk|skip
 rename_i hs
 cases u<;>first|rfl|cases hs
theorem SR.ZC (h:SR L N F γ C e ah ts w) {s k n1 c:Nat} {xs:List AV} (hkp:0<k) (hk:EK k xs) (hG:GF k n1 s xs c ah)
 (he:∀t,get e' t=get e t∨(get e t= .cy s k xs.length c∧get e' t= .sl .n k xs)):∃C',SR L N F γ C' e' (if c=0 then ah else ah.set s []) ts w∧Ext F C w C' w:=by
 rcases hG with ⟨rfl,rfl⟩|⟨-,hc0,hcl,hs⟩
 · refine ⟨C, ?_,Ext.refl ..⟩
   rw [if_pos rfl]
   have hbk:∀p b,blk γ e' ah ts w p b→blk γ e ah ts w p b:=by
    intro p b hp
    cases p with
    |tmp t=>
     simp only [blk] at hp ⊢
     rcases he t with h1|⟨h1,h2⟩
     · rwa [h1] at hp
     · rw [h2] at hp;simp [bR] at hp
    |obj s=>exact hp
    |cell s i=>exact hp
   refine ⟨h.mem,h.sz,fun t=> ?_,fun p q b hp hq=>h.dF p q b (hbk p b hp) (hbk q b hq),fun p b hp=>h.nf p b (hbk p b hp),h.jV,fun t l k' xs' ht=> ?_⟩
   · rcases he t with h1|⟨h1,h2⟩
     · rw [h1];exact h.env t
     · rw [h2]
       have hv:=(h.env t).1
       rw [h1] at hv
       obtain ⟨a,hv, -⟩:=hv.vG
       rw [hv]
       exact ⟨.sg ..,by simp [TC]⟩
   · rcases he t with h1|⟨h1,h2⟩
     · rw [h1] at ht
       have hf:=h.fr t l k' xs' ht
       cases l with
       |tmp u=>
        refine ⟨hf.1,fun hu=>hf.2 ?_⟩
        rcases he u with g1|⟨g1,g2⟩
        · rwa [g1] at hu
        · rw [g2] at hu;cases hu
       |cell s' o=>exact hf
     · rw [h2] at ht;cases ht
 rw [if_neg (by omega)]
 have hlt:s<γ.length:=by rw [h.mem.len];exact (List.getElem?_eq_some_iff.1 hs).1
 obtain ⟨b,hb⟩:∃b,γ[s]? =some b:=⟨_,List.getElem?_eq_getElem hlt⟩
 obtain ⟨vs,ty,hh,hsz,hcell⟩:=h.mem.obj s b _ hs hb
 have qH:blk γ e ah ts w (.obj s) b:=hb
 have zR:kO k xs c≠[]:=by
  intro h0
  have:=z6 (c:=c) hk hcl
  rw [h0] at this
  have h5:=Nat.mul_pos hc0 hkp
  simp at this
  omega
 have Fu:=h.mem.pG s b _ hs zR hb
 refine ⟨fun x=>if x=b then vs.toList.take (xs.length*k) else C x, ?_⟩
 generalize u0:(fun x=>if x=b then vs.toList.take (xs.length*k) else C x)=C'
 have c0:C' b=vs.toList.take (xs.length*k):=by rw [←u0];simp
 have c1:∀x,x≠b→C' x=C x:=fun x hx=>by rw [←u0];simp [hx]
 have hgl:=z6 (c:=c) hk hcl
 have hmul:xs.length*k≤c*k:=Nat.mul_le_mul_right _ hcl
 have hvl:(C' b).length=xs.length*k:=by rw [c0,List.length_take,show vs.toList.length=vs.size from Array.length_toList];omega
 have hpre:∀x,C x <+: C' x:=by
  intro x
  by_cases hx:x=b
  · subst hx;rw [Fu];exact List.nil_prefix
  · rw [c1 x hx];exact List.prefix_refl _
 have gU:∀(s':Nat),s'≠s→(ah.set s [])[s']? =ah[s']? :=fun s' hn=>List.getElem?_set_ne (Ne.symm hn)
 have fO:(ah.set s [])[s]? =some []:=List.getElem?_set_self (by rw [←h.mem.len];exact hlt)
 have tR:∀(s':Nat),γ[s']? =some b→s'=s:=fun s' hs'=>by
  have:=h.dF (.obj s') (.obj s) b hs' hb;injection this
 have hbk:∀p x,blk γ e' (ah.set s []) ts w p x→blk γ e ah ts w p x:=by
  intro p x hp
  cases p with
  |obj s'=>exact hp
  |cell s' i=>
   obtain ⟨ds,a,b0,h1,h2,h3,h4⟩:=hp
   by_cases hn:s'=s
   · subst hn;rw [fO] at h1;injection h1 with h1;subst h1;simp at h2
   · rw [gU s' hn] at h1;exact ⟨ds,a,b0,h1,h2,h3,h4⟩
  |tmp t=>
   simp only [blk] at hp ⊢
   rcases he t with h1|⟨h1,h2⟩
   · rwa [h1] at hp
   · rw [h2] at hp;simp [bR] at hp
 have nI:∀(a:AV) (v:Value),TC w C a v→(∀x,bR a v=some x→x≠b)→TC w C' a v:=fun a v ht hn=>ht.mono fun x hx=>⟨rfl,c1 x (hn x hx)⟩
 refine ⟨⟨⟨by simp [h.mem.len],fun s' x ds h1 h2=> ?_,fun x hx=> ?_,fun s' x ds h1 h0 h2=> ?_,fun s' x ds us ty' fr h1 h2 h3=> ?_⟩,h.sz,fun t=> ?_,fun p q x hp hq=>h.dF p q x (hbk p x hp) (hbk q x hq),fun p x hp=>h.nf p x (hbk p x hp),h.jV,fun t l k xs ht=> ?_⟩,
  ⟨hpre,fun x hx=>⟨rfl,c1 x (fun e=>h.nf _ _ qH (e▸hx))⟩,Nat.le_refl _,rfl,rfl,rfl⟩⟩
 · by_cases hn:s'=s
   · subst hn
     rw [fO] at h1;injection h1 with h1;subst h1
     rw [hb] at h2;injection h2 with h2;subst h2
     exact ⟨vs,ty,hh,by simp,by simp⟩
   · rw [gU s' hn] at h1
     obtain ⟨us,ty',g1,g2,g3⟩:=h.mem.obj s' x ds h1 h2
     refine ⟨us,ty',g1,g2,fun i a hi=>⟨(g3 i a hi).1.mono hpre _ (fun _ _ h=>h),nI _ _ (g3 i a hi).2 fun y hy e=> ?_⟩⟩
     subst e
     obtain ⟨v,hv, -, -⟩:=cellAt h.mem h1 hi h2
     have Hh:v=us.getD i undef:=by
      have hlt:i<us.size:=Nat.lt_of_lt_of_le (List.getElem?_eq_some_iff.1 hi).1 g2
      rw [dc g1,Array.getElem?_eq_getElem hlt] at hv
      simp [Array.getD_eq_getD_getElem?,Array.getElem?_eq_getElem hlt,Option.some.inj hv]
     have:blk γ e ah ts w (.cell s' i) y:=⟨ds,a,x,h1,hi,h2,by rw [hv,Hh];exact hy⟩
     have:=h.dF _ _ _ this qH
     cases this
 · by_cases KD:x=b
   · subst KD;exact ⟨vs,ty.1,ty.2,hh,by rw [c0];exact List.take_prefix _ _⟩
   · rw [c1 x KD] at hx ⊢;exact h.mem.tN x hx
 · have hn:s'≠s:=by
    rintro rfl
    rw [fO] at h1;injection h1 with h1;exact h0 h1.symm
   rw [gU s' hn] at h1
   rw [c1 x (fun e=>hn (tR s' (e▸h2)))]
   exact h.mem.pG s' x ds h1 h0 h2
 · by_cases hn:s'=s
   · subst hn
     rw [fO] at h1;injection h1 with h1;subst h1
     intro i hi;simp at hi
   · rw [gU s' hn] at h1
     exact h.mem.Bj s' x ds us ty' fr h1 h2 h3
 · rcases he t with h1|⟨h1,h2⟩
   · rw [h1]
     refine ⟨(h.env t).1.mono hpre _ (fun _ _ h=>h),nI _ _ (h.env t).2 fun y hy e=> ?_⟩
     subst e
     have:=h.dF (.tmp t) (.obj s) y hy qH
     cases this
   · have hv:=(h.env t).1
     rw [h1] at hv
     obtain ⟨ad,hv,hnc,hcase⟩:=hv.vG
     have hcase:ad=some ⟨b,0,none⟩:=by
      rcases hcase with ⟨-,h0⟩|⟨b',hb',e⟩
      · omega
      · rw [hb] at hb';injection hb' with hb';subst hb';exact e
     subst hcase
     rw [h2,hv]
     have hval:∀q,q<xs.length*k→(C' b).getD q undef=vs.getD q undef:=by
      intro q hq
      rw [c0]
      simp [List.getD_eq_getElem?_getD,Array.getD_eq_getD_getElem?,List.getElem?_take_of_lt hq]
     have oJ:∀q a,(fla xs)[q]? =some a→VR C γ a (vs.getD q undef):=by
      intro q a hq
      refine (hcell q a ?_).1
      rw [lQ,List.getElem?_append_left (List.getElem?_eq_some_iff.1 hq).1];exact hq
     have hfl:=nJ hk
     refine ⟨.sl _ _ _ _ _ _ _ _ rfl hnc (fun i a hi=>(hk i a hi).1) (by omega) (fun q _ hq=> ?_) (fun i a hi j y hj=> ?_),by simp [TC]⟩
     · rw [Nat.zero_add] at hq
       rw [hval q hq]
       have S9:(fla xs)[q]? =some ((fla xs)[q]'(by omega)):=List.getElem?_eq_getElem (by omega)
       have h3:=oJ q _ S9
       have h4:=(D9 hk q _ S9).2.2
       exact VR.one' h3 h4
     · have hlt':i<xs.length:=(List.getElem?_eq_some_iff.1 hi).1
       have G3:j<k:=by rw [←(hk i a hi).1];exact (List.getElem?_eq_some_iff.1 hj).1
       have hm:(i+1)*k≤xs.length*k:=Nat.mul_le_mul_right _ hlt'
       rw [Nat.succ_mul] at hm
       rw [Nat.zero_add,hval _ (by omega)]
       have hg:=KF hk i j a hi G3
       rw [List.getElem?_map,hj] at hg
       have h3:=oJ _ _ hg
       have hnp:=tT (hk i a hi).2.2.1 hj
       have h4:VR C [] y.s1 (vs.getD (i*k+j) undef):=h3.np (D9 hk _ _ hg).2.1
       have h5:VR C' [] y.s1 (vs.getD (i*k+j) undef):=h4.mono hpre [] (fun _ _ h=>h)
       cases y with
       |sl t k xs=>exact h5.jR _
       |_=>exact h5
 · rcases he t with h1|⟨h1,h2⟩
   · have hf:=h.fr t l k xs (by rw [←h1];exact ht)
     cases l with
     |tmp u=>
      refine ⟨hf.1,fun hu=>hf.2 ?_⟩
      rcases he u with g1|⟨g1,g2⟩
      · rwa [g1] at hu
      · rw [g2] at hu;cases hu
     |cell s' o=>
      intro ds a x g1 g2 g3 g4
      by_cases hn:s'=s
      · subst hn;rw [fO] at g1;injection g1 with g1;subst g1;simp at g2
      · rw [gU s' hn] at g1;exact hf ds a x g1 g2 g3 g4
   · rw [h2] at ht;cases ht
end
end Go.Am
namespace Go.Am
open Go
variable [Tabs]
section
variable {P:Program} {L:List Nat} {N n0:Nat} {e e':Env} {ah:AH} {K:Exit→Env→AH→Prop}
inductive FG (s k c:Nat) (xs:List AV):Env→Env→Prop
 |nil:FG s k c xs [] []
 |same (i:Nat) (a:AV) (r r':Env):FG s k c xs r r'→FG s k c xs ((i,a)::r) ((i,a)::r')
 |lay (i n:Nat) (r r':Env):n=xs.length→FG s k c xs r r'→FG s k c xs ((i, .cy s k n c)::r) ((i, .sl .n k xs)::r')
theorem FG.get {s k c:Nat} {xs:List AV} {e e':Env} (h:FG s k c xs e e') (t:Nat):Am.get e' t=Am.get e t∨(Am.get e t= .cy s k xs.length c∧Am.get e' t= .sl .n k xs):=by
 induction h with
 |nil=>exact .inl rfl
 |same i a r r' _ ih=>
  simp only [Am.get]
  by_cases hi:i=t
  · simp [hi]
  · simpa [hi] using ih
 |lay i n r r' hn _ ih=>
  simp only [Am.get]
  by_cases hi:i=t
  · exact .inr ⟨by simp [hi,hn],by simp [hi]⟩
  · simpa [hi] using ih
theorem AX.ZC {c0:aD} {s k n1 c:Nat} {xs:List AV} (hkp:0<k) (hk:EK k xs) (hG:GF k n1 s xs c ah) (he:FG s k c xs e e')
 (h:∀H',(∀s',s'<n1∨(0<c→s'≠s)→H'[s']? =ah[s']?)→H'.length=ah.length→AX P L N n0 c0 K e' H'):AX P L N n0 c0 K e ah:=by
 intro c' cj F γ C ts w kP hn
 obtain ⟨C',h1,h2⟩:=kP.ZC hkp hk hG he.get
 have hsame:∀s',s'<n1∨(0<c→s'≠s)→(if c=0 then ah else ah.set s [])[s']? =ah[s']? :=by
  intro s' hs'
  rcases hG with ⟨rfl, -⟩|⟨g1,g2, -, -⟩
  · rw [if_pos rfl]
  · rw [if_neg (by omega),List.getElem?_set_ne]
    rcases hs' with h|h
    · omega
    · exact Ne.symm (h g2)
 refine wp_mono (h _ hsame (by split<;>simp) c' cj F γ C' ts w h1 hn) ?_
 rintro x a w' ⟨q1,q2,e2,qI,γ2,C2,q3,q4,q5,q6⟩
 exact ⟨q1,q2,e2,qI,γ2,C2,q3,q4,q5,h2.trans q6⟩
end
end Go.Am
namespace Go.Am
open Go
variable [Tabs]
def EF {α:Type} (k:Nat) (f:α→AV):Prop:=∀x,(f x).cells.length=k∧b5 (f x).cells=true∧fY (f x).cells=true∧bZ (f x).cells=true
section
variable {α:Type} {f:α→AV} {k c j o n q:Nat} {X:List α} {x x':α} {w:AV} {ah:AH}
theorem tW (h:X[j]? =some x):(ml f X)[j]? =some (f x):=by simp [ml,h]
theorem Pa:(ml f X).set j (f x')=ml f (X.set j x'):=by simp [ml,List.map_set]
theorem Sf (he:EF k f) (h:X[j]? =some x) (ho:o<k):(kO k (ml f X) c)[j*k+o]? =((f x).cells.map AV.s1)[o]? :=Vm (EK.ml he X) (tW h) ho
theorem abB (he:EF k f) (h:X[j]? =some x) (ho:0<k):(kO k (ml f X) c)[j*k]? =((f x).cells.map AV.s1)[0]? :=Sf (o:=0) he h ho
theorem NQ (he:EF k f) (h:X[j]? =some x) (ho:o<k) (hw:(f x').cells.map AV.s1=((f x).cells.map AV.s1).set o w):over (kO k (ml f X) c) (j*k+o) [w]=some (kO k (ml f (X.set j x')) c):=by
 rw [Se (EK.ml he X) (tW h) ho hw,Pa]
theorem ZD (he:EF k f) (h:X[j]? =some x) (ho:0<k) (hw:(f x').cells.map AV.s1=((f x).cells.map AV.s1).set 0 w):over (kO k (ml f X) c) (j*k) [w]=some (kO k (ml f (X.set j x')) c):=NQ (o:=0) he h ho hw
theorem GF.Pb (h:GF k n q (ml f X) c ah) (hj:X[j]? =some x):GF k n q (ml f (X.set j x')) c (ah.set q (kO k (ml f (X.set j x')) c)):=by
 have:=h.set (a':=f x') (tW hj)
 rwa [Pa] at this
theorem GF.atM (h:GF k n q (ml f X) c ah) (hj:X[j]? =some x):ah[q]? =some (kO k (ml f X) c):=(h.at (tW hj)).2
theorem GF.geM (h:GF k n q (ml f X) c ah) (hj:X[j]? =some x):n≤q:=(h.at (tW hj)).1
end
theorem Fr.grow {H0 H H':AH} {S:List Nat} {n q c:Nat} (h:Fr H0 n S H) (hs:∀s,s<H.length→s<n∨(0<c→s≠q)→H'[s]? =H[s]?) (hl:H.length≤H'.length):Fr H0 n S H':=
 ⟨Nat.le_trans h.le hl,fun j hj D8=>(hs j (Nat.lt_of_lt_of_le hj h.le) (.inl hj)).trans (h.eq j hj D8)⟩
theorem Fr.lay {H0 H H':AH} {S:List Nat} {n q c:Nat} (h:Fr H0 n S H) (hs:∀s,s<n∨(0<c→s≠q)→H'[s]? =H[s]?) (hl:H'.length=H.length):Fr H0 n S H':=
 ⟨by rw [hl];exact h.le,fun j hj D8=>(hs j (.inl hj)).trans (h.eq j hj D8)⟩
end Go.Am
end
section
namespace Go.Am
open Go
variable [Tabs]
theorem adG {e:Env} {n:Nat}:ev e (.t n)=Am.get e n:=rfl
theorem adH {e:Env} {a:AV}:ev e (.c a)=a:=rfl
theorem Vo {e:Env} {n:Int}:bI e n none= .int .i64 n:=rfl
theorem Vp {e:Env} {n:Int} {x:Ar}:bI e n (some x)=ev e x:=rfl
def WU:=And.intro @aaa<|And.intro @XG<|And.intro @aab<|And.intro @XH<|And.intro @aac<|And.intro @aad<|And.intro @acK<|And.intro @XI<|And.intro @aae<|And.intro @XJ<|And.intro @XK<|And.intro @Tw<|And.intro @Tx<|And.intro @Ty<|And.intro @P4<|And.intro @P5<|And.intro @L5<|And.intro @aaf<|And.intro @Tz<|And.intro @P6<|And.intro @TA<|And.intro @P7<|And.intro @aag<|And.intro @XR<|And.intro @XS<|And.intro @P8<|And.intro @XT<|And.intro @acP<|And.intro @aaj<|And.intro @XU<|And.intro @TB<|And.intro @aak<|And.intro @TD<|And.intro @aal<|And.intro @TE<|And.intro @aaC<|And.intro @aam<|And.intro @aan<|And.intro @O9<|And.intro @acQ<|And.intro @Vh<|And.intro @ZA<|And.intro @aao<|And.intro @acR<|And.intro @acS<|And.intro @aap<|And.intro @acT<|And.intro @aaq<|And.intro @aar<|And.intro @aas<|And.intro @aat<|And.intro @XZ<|And.intro @aaw<|And.intro @aax<|And.intro @Vg<|And.intro @Ve<|And.intro @O8<|And.intro @aaA<|And.intro @X0<|@X1
def WV:=And.intro @adG<|And.intro @adH<|And.intro @O1<|And.intro @O2<|And.intro @X3<|And.intro @X4<|And.intro @TQ<|And.intro @X5<|And.intro @TR<|And.intro @X6<|And.intro @TS<|And.intro @Vo<|And.intro @Vp<|And.intro @TT<|And.intro @TU<|And.intro @aaD<|And.intro @aaE<|And.intro @TV<|And.intro @TW<|And.intro @Zt<|And.intro @TX<|And.intro @TY<|And.intro @TZ<|And.intro @T0<|And.intro @T3<|And.intro @T4<|And.intro @T5<|And.intro @aaF<|And.intro @aaG<|And.intro @aaH<|And.intro @aaI<|And.intro @aaJ<|And.intro @aaK<|And.intro @ac0<|And.intro @aaL<|And.intro @aaM<|And.intro @aaN<|And.intro @aaO<|And.intro @aaP<|And.intro @aaQ<|And.intro @aaR<|And.intro @aaS<|And.intro @ac1<|And.intro @ac2<|And.intro @ac3<|And.intro @ac4<|And.intro @aaT<|And.intro @aaU<|And.intro @aaV<|And.intro @aaW<|And.intro @aaX<|And.intro @aaY<|And.intro @ac5<|And.intro @ac6<|And.intro @ac7<|And.intro @aaZ<|And.intro @aa0<|And.intro @aa1<|And.intro @Ma<|And.intro @HB<|And.intro @Cs<|And.intro @Q_i<|And.intro @Q_s<|And.intro @Q_b<|And.intro @Q_n<|And.intro @ac8<|And.intro @ac9<|And.intro @ada<|And.intro @adb<|And.intro @O5<|And.intro @aa2<|And.intro @aa3<|And.intro @aa4<|And.intro @O0<|And.intro @Hw<|And.intro @JO<|And.intro @Hx<|And.intro @aa5<|And.intro @pM<|And.intro @pN<|And.intro @aay<|And.intro @aaz<|And.intro @jb<|@jc
theorem AX.Vq {P:Program} {L:List Nat} {N n0:Nat} {K:Exit→Env→AH→Prop} {e:Env} {ah:AH} {m c:aD} (hm:erase m=c) (ho:qJ N c=true) (h:U P L N n0 [.code m] K .normal e ah):AX P L N n0 c K e ah:=by
 subst hm
 exact fun c' cj=>oY c' m _ e ah cj ho h
theorem Wx.abC {a b:Bool} (h:a=b):Wx (.bool a) (.bool b):=by subst h;exact Wx.bool
theorem Wx.adI {k:IntKind} {a b:Int} (h:a=b):Wx (.int k a) (.int k b):=by subst h;exact Wx.int
theorem Wx.ae8 {a b:List UInt8} (h:a=b):Wx (.str a) (.str b):=by subst h;exact Wx.str
theorem eR.ae9 {ah:AH} {q:Nat} {cs:List AV} (hq:ah[q]? =some cs):eR ah (ah.set q cs):=by
 rw [Qc hq];exact eR.refl _
theorem abD {α:Type} {f:α→AV} {xs:List α} {i:Int} {x:α} (h:idx xs i=some x):idx (ml f xs) i=some (f x):=by rw [O0,h];rfl
theorem yt {α:Type} {f:α→AV} {xs ys:List α} {i j:Int} (h:sub xs i j=some ys):sub (ml f xs) i j=some (ml f ys):=by rw [Hw,h];rfl
theorem YM {α:Type} {f:α→AV} {xs ys:List α} {i j m:Int} (h:vW xs i j m=some ys):vW (ml f xs) i j m=some (ml f ys):=by rw [JO,h];rfl
end Go.Am
namespace Go.Am
open Go
variable [Tabs]
section
variable {P:Program} {L:List Nat} {N n0:Nat} {e:Env} {ah:AH} {t:List It} {Q:Exit→Env→AH→Prop} {r:List aQ}
theorem adJ {a b:aD} {B:Bool} (h:B=true) (hk:U P L N n0 (.code a::t) Q .normal e ah):UC P L N n0 a b t Q e ah (.bool B):=by subst h;exact hk
theorem adK {a b:aD} {B:Bool} (h:B=false) (hk:U P L N n0 (.code b::t) Q .normal e ah):UC P L N n0 a b t Q e ah (.bool B):=by subst h;exact hk
theorem aeS {o:aQ} {B want:Bool} (h:B=want) (hk:UG P L N n0 o r t Q e ah (some true)):UG P L N n0 o r t Q e ah (some (B==want)):=by subst h;simpa using hk
theorem Vr {o:aQ} {B want:Bool} (h:B= !want) (hk:U P L N n0 (.ops r::t) Q .normal (pK e o.d) ah):UG P L N n0 o r t Q e ah (some (B==want)):=by
 subst h;cases want<;>exact hk
theorem aeT {o:aQ} {B:Bool} (h:B=false) (hk:U P L N n0 (.ops r::t) Q .normal (pK e o.d) ah):UG P L N n0 o r t Q e ah (some (B==true)):=Vr h hk
theorem aeU {o:aQ} {B:Bool} (h:B=true) (hk:U P L N n0 (.ops r::t) Q .normal (pK e o.d) ah):UG P L N n0 o r t Q e ah (some (B==false)):=Vr h hk
end
theorem aew (B:Bool):B=true∨B=false:=by cases B<;>simp
theorem bq1:(true==true)=true:=rfl
theorem bq2:(true==false)=false:=rfl
theorem bq3:(false==true)=false:=rfl
theorem bq4:(false==false)=true:=rfl
def WB:=And.intro @bq1<|And.intro @bq2<|And.intro @bq3<|And.intro @bq4<|And.intro @Bool.and_true<|And.intro @Bool.true_and<|And.intro @Bool.and_false<|And.intro @Bool.false_and<|And.intro @Bool.or_true<|And.intro @Bool.true_or<|And.intro @Bool.or_false<|And.intro @Bool.false_or<|And.intro @Bool.not_true<|And.intro @Bool.not_false<|And.intro @decide_true<|And.intro @decide_false<|And.intro @and_true<|And.intro @true_and<|And.intro @and_self<|And.intro @and_false<|And.intro @false_and<|And.intro @Nat.zero_add<|And.intro @Nat.add_zero<|And.intro @Nat.succ_ne_zero<|And.intro @Nat.lt_irrefl<|And.intro @Bool.false_eq_true<|And.intro @List.contains_cons.{0}<|And.intro @List.contains_nil.{0}<|And.intro @List.take_succ_cons.{0}<|And.intro @List.take_zero.{0}<|And.intro @List.drop_succ_cons.{0}<|And.intro @List.drop_zero.{0}<|And.intro @List.length_cons.{0}<|And.intro @List.length_nil.{0}<|And.intro @List.getElem?_cons_zero.{0}<|And.intro @List.getElem?_cons_succ.{0}<|And.intro @List.getElem?_nil.{0}<|And.intro @List.cons_append.{0}<|And.intro @List.nil_append.{0}<|And.intro @List.append_nil.{0}<|And.intro @List.all_cons.{0}<|And.intro @List.all_nil.{0}<|And.intro @List.set_cons_zero.{0}<|And.intro @List.set_cons_succ.{0}<|And.intro @List.isEmpty_cons.{0}<|And.intro @List.isEmpty_nil.{0}<|And.intro @List.map_cons.{0,0}<|And.intro @List.map_nil.{0,0}<|And.intro @Option.map_some.{0,0}<|And.intro @Option.map_none.{0,0}<|@Option.bind_some.{0,0}
end Go.Am
namespace Go.Am
open Go
variable [Tabs]
section
variable {P:Program} {e':Env} {H0 H':AH} {rs:List ResultVar} {vs:List AV} {r':AV} {R:AV→AH→Prop}
theorem aW (hcl:mF H0.length H0) (hr:gL P e' H0 rs=some vs) (hc:Cl H0.length (fin vs)) (hw:Wx (fin vs) r') (hR:R r' H0):vV P H0 rs R e' H0:=
 ⟨vs,r',H0,hr,hw,hR, .inl ⟨hc,by rw [List.take_length];exact hcl,Nat.le_refl _,by rw [List.take_length];exact eR.refl _⟩⟩
theorem bp (hf:Fr H0 H0.length [] H') (hcl:mF H0.length H0) (hr:gL P e' H' rs=some vs) (hc:Cl H0.length (fin vs)) (hw:Wx (fin vs) r') (hR:R r' H0):vV P H0 rs R e' H':=
 ⟨vs,r',H0,hr,hw,hR, .inl ⟨hc,by rw [hf.Zx];exact hcl,hf.le,by rw [hf.Zx];exact eR.refl _⟩⟩
theorem KH (hr:gL P e' H' rs=some vs) (hw:Wx (fin vs) r') {aH:AH} (hh:eR H' aH) (hR:R r' aH):vV P H0 rs R e' H':=
 ⟨vs,r',aH,hr,hw,hR, .inr hh⟩
theorem cc {s:Nat} {c c':List AV} (hf:Fr H0 H0.length [s] H') (hcl:mF H0.length H0) (hr:gL P e' H' rs=some vs) (hc:Cl H0.length (fin vs)) (hw:Wx (fin vs) r')
 (hs:H'[s]? =some c) (hl:s<H0.length) (Vs:∀a∈c,Cl H0.length a) (hwc:u6 c c') (hR:R r' (H0.set s c')):vV P H0 rs R e' H':=by
 refine ⟨vs,r',H0.set s c',hr,hw,hR, .inl ⟨hc,by rw [hf.Zy hs hl];exact hcl.set Vs,hf.le, ?_⟩⟩
 rw [hf.Zy hs hl]
 have:=eR.set (ah:=H0.set s c) (q:=s) (cs':=c') (h_eq hl) hwc
 rwa [List.set_set] at this
theorem eR.trans {a b c:AH} (h1:eR a b) (h2:∀(s:Nat) (cs':List AV),c[s]? =some cs'→∃cs,b[s]? =some cs∧(cs'=cs∨(u6 cs cs'∧a[s]? =some cs))) (hl:c.length=b.length):eR a c:=by
 refine ⟨by rw [hl,h1.1],fun s cs' hs=> ?_⟩
 obtain ⟨cs,hb,rfl|⟨hw,ha⟩⟩:=h2 s cs' hs
 · exact h1.2 s _ hb
 · exact ⟨cs,ha, .inr hw⟩
theorem eR.adL {ah:AH} {q q2:Nat} {cs cs' ds ds':List AV} (hne:q≠q2) (hq:ah[q]? =some cs) (hc:u6 cs cs') (Fx:ah[q2]? =some ds) (hd:u6 ds ds'):eR ah ((ah.set q cs').set q2 ds'):=by
 refine eR.trans (eR.set hq hc) (fun s es hs=> ?_) (by simp)
 rw [List.getElem?_set] at hs
 split at hs
 · rename_i h;subst h
   split at hs
   · injection hs with hs;subst hs
     exact ⟨ds,by rw [List.getElem?_set_ne hne];exact Fx, .inr ⟨hd,Fx⟩⟩
   · cases hs
 · exact ⟨es,hs, .inl rfl⟩
theorem adM {s s2:Nat} {c c' d d':List AV} (hf:Fr H0 H0.length [s,s2] H') (hcl:mF H0.length H0) (hr:gL P e' H' rs=some vs) (hc:Cl H0.length (fin vs)) (hw:Wx (fin vs) r')
 (hs:H'[s]? =some c) (hl:s<H0.length) (Vs:∀a∈c,Cl H0.length a) (hwc:u6 c c') (hs2:H'[s2]? =some d) (zW:s2<H0.length) (adN:∀a∈d,Cl H0.length a) (adO:u6 d d') (hne:s≠s2)
 (hR:R r' ((H0.set s c').set s2 d')):vV P H0 rs R e' H':=by
 refine ⟨vs,r',(H0.set s c').set s2 d',hr,hw,hR, .inl ⟨hc,by rw [hf.Zz hs hs2 hl zW hne];exact (hcl.set Vs).set adN,hf.le, ?_⟩⟩
 rw [hf.Zz hs hs2 hl zW hne]
 have:=eR.adL (ah:=(H0.set s c).set s2 d) (q:=s) (q2:=s2) (cs:=c) (cs':=c') (ds:=d) (ds':=d') hne (by rw [List.getElem?_set_ne (Ne.symm hne)];exact h_eq hl) hwc (h_eq (by simpa using zW)) adO
 have e1:(((H0.set s c).set s2 d).set s c').set s2 d'=(H0.set s c').set s2 d':=by
  rw [List.set_comm d c' (Ne.symm hne),List.set_set,List.set_set]
 rwa [e1] at this
end
theorem Fr.trans {ah H H':AH} {n0:Nat} {S S2:List Nat} (h:Fr ah n0 S H) (h2:Fr H H.length S2 H') (hs:∀s∈S2,s∈S∨n0≤s):Fr ah n0 S H':=by
 have h3:=h.le
 refine ⟨Nat.le_trans h.le h2.le,fun j hj D8=> ?_⟩
 rw [h2.eq j (by omega),h.eq j hj D8]
 intro hm
 rcases hs j hm with h4|h4
 · exact D8 h4
 · omega
end Go.Am
namespace Go.Am
open Go
variable [Tabs]
theorem ZE {P:Program} {L:List Nat} {N n0:Nat} {e:Env} {ah:AH} {t:List It} {Q:Exit→Env→AH→Prop} {r:List aQ} {d:Option Nat} {f:Nat} {zq zq':List AV} {b6 HE:AH} {V:AV}
 (h:aG P f zq' b6 fun v H'=>v=V∧H'=HE) (hw:WL zq zq') (hh:eR ah b6) (hk:U P L N n0 (.ops r::t) Q .normal (aI L (vR e) d V.df) HE):UK P L N n0 f zq d r t Q e ah:=by
 refine Zs h hw hh ?_
 rintro _ _ ⟨rfl,rfl⟩
 exact hk
end Go.Am
namespace Go.Am
open Go
variable [Tabs]
def WW:=And.intro WG<|And.intro WM<|And.intro WU<|And.intro WV<|And.intro WB<|And.intro WA0<|And.intro WA1<|And.intro WA2<|And.intro WA3<|And.intro WA4<|And.intro WA5 WA6
def WH:=And.intro @h_eq<|And.intro @Zw<|And.intro @Ub @O6
theorem tg1:Tg.sh .ex= .ex:=rfl
theorem X7:Tg.sh .own= .n:=rfl
theorem tg3:Tg.sh .n= .n:=rfl
end Go.Am
end
section
namespace Go.Am
open Go
variable [Tabs]
theorem SR.Pc {L:List Nat} {N:Nat} {F:Nat→Prop} {γ:List Nat} {C:Nat→List Value} {e:Env} {ah:AH} {ts:Array Value} {w:World} (h:SR L N F γ C e ah ts w) {r:AV} {v:Value} (hv:VR C γ r v) (ht:TC w C r v)
 (ho:r.bT=false) (hf:∀l k xs,r≠ .sl (.fr l) k xs):SR [] 1 F γ C [(0,r)] ah #[v] w:=by
 have hbk:∀p b,blk γ [(0,r)] ah #[v] w p b→blk γ e ah ts w p b∧∀t,p≠ .tmp t:=by
  intro p b hp
  cases p with
  |obj s=>exact ⟨hp,by simp⟩
  |cell s i=>exact ⟨hp,by simp⟩
  |tmp t=>
   simp only [blk,get] at hp
   split at hp
   · rename_i h0;subst h0;rw [iI _ ho] at hp;cases hp
   · simp [bR] at hp
 refine ⟨h.mem,rfl,fun t=> ?_,fun p q b hp hq=>h.dF p q b (hbk p b hp).1 (hbk q b hq).1,fun p b hp=>h.nf p b (hbk p b hp).1,h.jV,fun t l k xs htl=> ?_⟩
 · by_cases h0:0=t
   · subst h0;simp only [get,if_true];exact ⟨hv,ht⟩
   · simp only [get,if_neg h0];exact ⟨.un ..,by generalize (#[v]:Array Value).getD t undef=u;cases u<;>trivial⟩
 · simp only [get] at htl
   split at htl
   · exact absurd htl (hf l k xs)
   · cases htl
theorem aG.YN {P:Program} {f:Nat} {args:List AV} {ah:AH} {l:List UInt8} (hc:jt P f=true)
 (h:∀(F:Nat→Prop) (C:Nat→List Value) (γ:List Nat) (w:World) (vs:Array Value),FL F w→vs.size=args.length→(∀(i:Nat) (a:AV),args[i]? =some a→VR C γ a (vs.getD i undef))→
  Calls P f vs w fun en w'=>en= .returned (.string ⟨l.toArray⟩)∧(∀b,b<w.heap.size→w'.heap[b]? =w.heap[b]?)∧w.heap.size≤w'.heap.size∧lO w w'):
 aG P f args ah fun r aH=>r= .str l∧aH=ah:=by
 refine ⟨hc,fun F γ C w vs hs=> ?_⟩
 refine (h F C γ w vs hs.jV hs.sz fun i a hi=> ?_).mono ?_
 · have:=(hs.env i).1
   rw [eC] at this
   simpa [hi] using this
 · rintro en w' ⟨rfl,h1,h2,h3⟩
   have hg:=hs.grow (C':=C) h1 h2 (fun _ _=>rfl) (fun b hb hne=>by
    exfalso
    obtain ⟨vs',ty,fr,hh, -⟩:=hs.mem.tN b hne
    have:b<w.heap.size:=by
     rcases Nat.lt_or_ge b w.heap.size with h4|h4
     · exact h4
     · rw [Array.getElem?_eq_none h4] at hh;cases hh
    omega) h3
   exact ⟨.str l, .string ⟨l.toArray⟩,ah,γ,C,rfl,⟨rfl,rfl⟩,List.prefix_refl _,hg.1.Pc (.str ..) (by simp [TC]) rfl (by simp),hg.2⟩
theorem aG.ZF {P:Program} {f:Nat} {args:List AV} {ah:AH} {r:AV} (ho:r.bT=false) (hf:∀l k xs,r≠ .sl (.fr l) k xs) (hc:jt P f=true)
 (h:∀(F:Nat→Prop) (C:Nat→List Value) (γ:List Nat) (w:World) (vs:Array Value),FL F w→vs.size=args.length→(∀(i:Nat) (a:AV),args[i]? =some a→VR C γ a (vs.getD i undef))→
  Calls P f vs w fun en w'=>∃v,en= .returned v∧VR C γ r v∧TC w' C r v∧(∀b,b<w.heap.size→w'.heap[b]? =w.heap[b]?)∧w.heap.size≤w'.heap.size∧lO w w'):
 aG P f args ah fun r' aH=>r'=r∧aH=ah:=by
 refine ⟨hc,fun F γ C w vs hs=> ?_⟩
 refine (h F C γ w vs hs.jV hs.sz fun i a hi=> ?_).mono ?_
 · have:=(hs.env i).1
   rw [eC] at this
   simpa [hi] using this
 · rintro en w' ⟨v,rfl,hv,ht,h1,h2,h3⟩
   have hg:=hs.grow (C':=C) h1 h2 (fun _ _=>rfl) (fun b hb hne=>by
    exfalso
    obtain ⟨vs',ty,fr,hh, -⟩:=hs.mem.tN b hne
    have:b<w.heap.size:=by
     rcases Nat.lt_or_ge b w.heap.size with h4|h4
     · exact h4
     · rw [Array.getElem?_eq_none h4] at hh;cases hh
    omega) h3
   exact ⟨r,v,ah,γ,C,rfl,⟨rfl,rfl⟩,List.prefix_refl _,hg.1.Pc hv ht ho hf,hg.2⟩
theorem aG.Vt {P:Program} {f:Nat} {args:List AV} {ah:AH} {ps:List (List UInt8)} (hc:jt P f=true)
 (h:∀(F:Nat→Prop) (C:Nat→List Value) (γ:List Nat) (w:World) (vs:Array Value),FL F w→vs.size=args.length→(∀(i:Nat) (a:AV),args[i]? =some a→VR C γ a (vs.getD i undef))→
  Calls P f vs w fun en w'=>∃t fr,en= .returned (.slice (some ⟨w.heap.size,0,none⟩) ps.length ps.length)∧w'=w.alloc (.cells (ps.map fun l=>Value.string ⟨l.toArray⟩).toArray t fr)∧fr.2≤fr.1):
 aG P f args ah fun r' aH=>r'= .sl .n 1 (ml .str ps)∧aH=ah:=by
 refine ⟨hc,fun F γ C w vs hs=> ?_⟩
 refine (h F C γ w vs hs.jV hs.sz fun i a hi=> ?_).mono ?_
 · have:=(hs.env i).1
   rw [eC] at this
   simpa [hi] using this
 · rintro en w' ⟨t,fr,rfl,rfl,hfr⟩
   obtain ⟨C', -,he,hg,hv⟩:=vO (w':=w.alloc (.cells (ps.map fun l=>Value.string ⟨l.toArray⟩).toArray t fr)) (ds:=[]) hs (d:=none) (by simp) (cs:=(ps.map fun l=>Value.string ⟨l.toArray⟩).toArray) (t:=t) (fr:=fr)
    (CJ:=ps.map fun l=>Value.string ⟨l.toArray⟩) (xs:=ml .str ps) (k:=1) (n:=ps.length) (c:=ps.length)
    (fun b hb=>by show (w.heap.push _)[b]? =_;rw [Array.getElem?_push_lt hb,Array.getElem?_eq_getElem hb]) (by show (w.heap.push _).size=_;simp) (by show (w.heap.push _)[w.heap.size]? =_;simp)
    (by simp) (by simp only [List.mem_map];rintro v ⟨l, -,rfl⟩;rfl) (by simp) (by simp [ml]) (Nat.le_refl _) (by simp) (by intro i _;omega)
    (by intro i a hi;simp only [ml,List.getElem?_map,Option.map_eq_some_iff] at hi;obtain ⟨l, -,rfl⟩:=hi;rfl)
    (by
     intro i a hi j y hj
     simp only [ml,List.getElem?_map,Option.map_eq_some_iff] at hi
     obtain ⟨l,hl,rfl⟩:=hi
     cases j with
     |succ j=>simp [AV.cells] at hj
     |zero=>
      simp only [AV.cells,List.getElem?_cons_zero,Option.some.injEq] at hj
      subst hj
      simp only [Nat.mul_one,Nat.add_zero,List.getD_eq_getElem?_getD,List.getElem?_map,hl,Option.map_some,Option.getD_some]
      exact .str ..)
   exact ⟨.sl .n 1 (ml .str ps),_,ah,γ,C',rfl,⟨rfl,rfl⟩,List.prefix_refl _,hg.Pc (hv.jR _) (by simp [TC]) rfl (by simp),he⟩
theorem KI {P:Program} {f:Nat} {ah:AH} (n:Int) (hc:jt P f=true) (htab:∀F w,FL F w→Lib.TabIs P w "internal/strconv.uint64pow10" .u64 Lib.pow10Tab)
 (adP:∀w,Lib.TabIs P w "internal/strconv.uint64pow10" .u64 Lib.pow10Tab→Calls P f #[.int .i64 n] w fun e w'=>e= .returned (.string ⟨(Lib.itoa n).toArray⟩)∧∃k os,w'=Go.Sort.grow (w.drewN k) os):
 aG P f [.int .i64 n] ah fun r aH=>r= .str (Lib.itoa n)∧aH=ah:=by
 refine aG.YN hc fun F C γ w vs hF hl hv=> ?_
 have h0:=(hv 0 _ rfl).cS
 have hvs:vs= #[.int .i64 n]:=by
  apply Array.ext
  · simpa using hl
  · intro i h1 h2
    simp at h2;subst h2
    simpa [Array.getD_eq_getD_getElem?,Array.getElem?_eq_getElem h1] using h0
 subst hvs
 refine (adP w (htab F w hF)).mono ?_
 rintro e w' ⟨rfl,k,os,rfl⟩
 refine ⟨rfl,fun b hb=> ?_, ?_,rfl,rfl,rfl⟩
 · show (w.heap++os)[b]? =_
   rw [Array.getElem?_append_left hb]
 · show w.heap.size≤(w.heap++os).size
   simp
theorem Sg {P:Program} {w:World} {F:Nat→Prop} {name:String} {k:IntKind} {zs:List Int} {g:Nat} (hF:FL F w) (hm:(g,fun cs=>cs=(zs.map fun z=>Value.int k z).toArray)∈Tabs.l) (hg:P.globalNamed name=some g):Lib.TabIs P w name k zs:=by
 obtain ⟨-,cs,ty,fr,h,hcs⟩:=hF.Jk _ hm
 simp only at h hcs
 subst hcs
 unfold Lib.TabIs World.var?
 rw [hg]
 simp [h]
end Go.Am
end
section
namespace Go.Am
open Go
variable [Tabs]
def AV.z7:AV→Bool
 | .int _ _| .bool _| .str _| .v _=>true
 |_=>false
def Ik:List AV→Bool
 |[]=>true
 |a::r=>a.z7&&Ik r
def AV.Il:AV→Bool
 | .agg cs=>Ik cs
 |a=>a.z7
def DB:List AV→Bool
 |[]=>true
 |a::r=>a.Il&&DB r
def AV.FF:AV→Bool
 | .bK cs=>DB cs
 |a=>a.Il
theorem tX {l:List AV} (h:Ik l=true) {i:Nat} {a:AV} (hi:l[i]? =some a):a.z7=true:=by
 induction l generalizing i with
 |nil=>simp at hi
 |cons b r ih=>
  simp only [Ik,Bool.and_eq_true] at h
  cases i with
  |zero=>simp at hi;subst hi;exact h.1
  |succ i=>exact ih h.2 (by simpa using hi)
theorem Ct {l:List AV} (h:DB l=true) {i:Nat} {a:AV} (hi:l[i]? =some a):a.Il=true:=by
 induction l generalizing i with
 |nil=>simp at hi
 |cons b r ih=>
  simp only [DB,Bool.and_eq_true] at h
  cases i with
  |zero=>simp at hi;subst hi;exact h.1
  |succ i=>exact ih h.2 (by simpa using hi)
theorem VR.z7 {C C':Nat→List Value} {γ γ':List Nat} {a:AV} {v:Value} (h:VR C γ a v) (hs:a.z7=true):VR C' γ' a v:=by
 cases h with
 |v _ _ hv=>exact .v _ _ hv
 |int=>exact .int ..
 |bool=>exact .bool ..
 |str=>exact .str ..
 |_=>cases hs
theorem VR.Il {C C':Nat→List Value} {γ γ':List Nat} {a:AV} {v:Value} (h:VR C γ a v) (hs:a.Il=true):VR C' γ' a v:=by
 cases h with
 |agg _ cs vs h1 h2=>exact .agg _ _ _ h1 fun i a hi=>(h2 i a hi).z7 (tX hs hi)
 |v _ _ hv=>exact .v _ _ hv
 |int=>exact .int ..
 |bool=>exact .bool ..
 |str=>exact .str ..
 |_=>cases hs
theorem VR.FF {C C':Nat→List Value} {γ γ':List Nat} {a:AV} {v:Value} (h:VR C γ a v) (hs:a.FF=true):VR C' γ' a v:=by
 cases h with
 |bK _ cs vs h1 h2=>exact .bK _ _ _ h1 fun i a hi=>(h2 i a hi).Il (Ct hs hi)
 |agg _ cs vs h1 h2=>exact .agg _ _ _ h1 fun i a hi=>(h2 i a hi).z7 (tX hs hi)
 |v _ _ hv=>exact .v _ _ hv
 |int=>exact .int ..
 |bool=>exact .bool ..
 |str=>exact .str ..
 |_=>cases hs
theorem lD.z7 {a:AV} (hs:a.z7=true) (v:Value):lD a v:=by
 cases a<;>first|(cases hs;done)|(cases v<;>trivial)
theorem G6.Il {a:AV} (hs:a.Il=true) (v:Value):G6 a v:=by
 cases a with
 |agg cs=>cases v<;>first|trivial|exact fun i a hi=>lD.z7 (tX hs hi) _
 |_=>first|(cases hs;done)|(cases v<;>trivial)
theorem TC.FF {w:World} {C:Nat→List Value} {a:AV} (hs:a.FF=true) (v:Value):TC w C a v:=by
 cases a with
 |bK cs=>cases v<;>first|trivial|exact fun i a hi=>G6.Il (Ct hs hi) _
 |agg cs=>cases v<;>first|trivial|exact fun i a hi=>lD.z7 (tX hs hi) _
 |_=>first|(cases hs;done)|(cases v<;>trivial)
theorem Vu {a:AV} (hs:a.FF=true):a.bT=false:=by
 cases a<;>first|rfl|cases hs
theorem YO {a:AV} (hs:a.FF=true) (l:Loc) (k:Nat) (xs:List AV):a≠ .sl (.fr l) k xs:=by
 rintro rfl;cases hs
inductive jX (ah:AH):AV→AV→Prop
 |same (a):a.z7=true→jX ah a a
 |ep (a p):Cl 0 (.ep a p)→jX ah (.ep a p) (.ep a p)
 |sl (t k xs):jX ah (.sl t k xs) (.sl .n k xs)
 |ptr (s o:Nat) (cs cs':List AV):ah[s]? =some cs→cs'.length=cs.length→(∀(i:Nat) (a a':AV),cs[i]? =some a→cs'[i]? =some a'→jX ah a a')→jX ah (.ptr s o) (.ep (.agg cs') o)
inductive PE (ah:AH):AV→AV→Prop
 |one (a a'):jX ah a a'→PE ah a a'
 |fn (f:Nat) (cs:List AV):PE ah (.fn f []) (.fn f [])
 |agg (cs cs':List AV):cs'.length=cs.length→(∀(i:Nat) (a a':AV),cs[i]? =some a→cs'[i]? =some a'→jX ah a a')→PE ah (.agg cs) (.agg cs')
def Ea (w:World) (b:Nat):List Value:=match w.heap[b]? with|some (.cells vs _ _)=>vs.toList|_=>[]
open Classical in
noncomputable def Cx (w:World) (γ:List Nat) (C:Nat→List Value):Nat→List Value:=fun b=>if b∈γ then Ea w b else C b
section
variable {L:List Nat} {N:Nat} {F:Nat→Prop} {γ:List Nat} {C:Nat→List Value} {e:Env} {ah:AH} {ts:Array Value} {w:World}
theorem Pd (h:Mem γ C ah w) (b:Nat):C b <+: Cx w γ C b:=by
 unfold Cx
 split
 · rename_i hb
   by_cases hne:C b=[]
   · rw [hne];exact List.nil_prefix
   · obtain ⟨vs,ty,fr,hh,hp⟩:=h.tN b hne
     unfold Ea;rw [hh];exact hp
 · exact List.prefix_refl _
theorem Pe {s b:Nat} {vs:Array Value} {ty:TypeId} {fr:Nat×Nat} (hs:γ[s]? =some b) (hb:w.heap[b]? =some (.cells vs ty fr)):Cx w γ C b=vs.toList:=by
 unfold Cx Ea
 rw [if_pos (List.mem_of_getElem? hs),hb]
theorem VR.YP {C:Nat→List Value} {γ:List Nat} {t:Tg} {k:Nat} {xs:List AV} {v:Value} (h:VR C γ (.sl t k xs) v) (γ':List Nat):VR C γ' (.sl .n k xs) v:=by
 cases h with
 |sg=>exact .sg ..
 |sl _ _ _ _ b o n c hn hc hk hl ho hx=>exact .sl _ _ _ _ _ _ _ _ hn hc hk hl ho hx
theorem jX.vr (hm:Mem γ C ah w) {a a':AV} (hp:jX ah a a'):∀ {v:Value},VR C γ a v→VR (Cx w γ C) [] a' v:=by
 induction hp with
 |same a hs=>intro v h;exact h.z7 hs
 |ep a p hc=>
  intro v h
  have h':=h.take hc
  rw [List.take_zero] at h'
  exact h'.mono (Pd hm) [] (fun _ _ h=>h)
 |sl t k xs=>
  intro v h
  exact (h.YP []).mono (Pd hm) [] (fun _ _ h=>h)
 |ptr s o cs cs' hs hl hc ih=>
  intro v h
  obtain ⟨b,hb,rfl⟩:=h.gK
  obtain ⟨vs,ty,hh,hsz,hcell⟩:=hm.obj s b cs hs hb
  have hx:Cx w γ C b=vs.toList:=Pe hb hh
  suffices hS:VR (Cx w γ C) [] (.ep (.agg cs') o) (.pointer (some ⟨b,0+o,none⟩)) by rwa [Nat.zero_add] at hS
  refine VR.ep [] (.agg cs') o b 0 (by rw [hx];simpa [AV.cells,hl] using hsz) fun j a' hj=> ?_
  simp only [AV.cells] at hj
  have hlt:j<cs.length:=by rw [←hl];exact (List.getElem?_eq_some_iff.1 hj).1
  have h0:cs[j]? =some cs[j]:=List.getElem?_eq_getElem hlt
  have:=ih j _ _ h0 hj (hcell j _ h0).1
  rw [hx,Nat.zero_add]
  have e1:vs.toList.getD j undef=vs.getD j undef:=by simp [List.getD_eq_getElem?_getD,Array.getD_eq_getD_getElem?]
  rw [e1];exact this
theorem jX.flat {a a':AV} (hp:jX ah a a') (v:Value):lD a' v∧a'.plain=true:=by
 cases hp with
 |same _ hs=>exact ⟨lD.z7 hs v,by cases a<;>first|rfl|cases hs⟩
 |ep=>exact ⟨by cases v<;>trivial,rfl⟩
 |sl=>exact ⟨G7 ..,rfl⟩
 |ptr=>exact ⟨by cases v<;>trivial,rfl⟩
theorem PE.vr (hm:Mem γ C ah w) {a a':AV} (hp:PE ah a a') {v:Value} (h:VR C γ a v):VR (Cx w γ C) [] a' v:=by
 cases hp with
 |one _ _ h1=>exact h1.vr hm h
 |fn f cs=>
  obtain ⟨vs,rfl,h1,h2⟩:=h.Dw
  exact .fn _ _ _ _ h1 (by simp)
 |agg cs cs' hl hc=>
  obtain ⟨vs,rfl,h1,h2⟩:=h.lN
  refine .agg _ _ _ (by omega) fun i a' hi=> ?_
  have hlt:i<cs.length:=by rw [←hl];exact (List.getElem?_eq_some_iff.1 hi).1
  have h0:cs[i]? =some cs[i]:=List.getElem?_eq_getElem hlt
  exact (hc i _ _ h0 hi).vr hm (h2 i _ h0)
theorem PE.tc {a a':AV} (hp:PE ah a a') {C':Nat→List Value} (v:Value):TC w C' a' v∧a'.plain=true:=by
 cases hp with
 |one _ _ h1=>
  cases h1 with
  |same _ hs=>exact ⟨by cases a<;>first|(cases hs;done)|(cases v<;>trivial),by cases a<;>first|rfl|cases hs⟩
  |ep=>exact ⟨by cases v<;>trivial,rfl⟩
  |sl=>exact ⟨by cases v<;>trivial,rfl⟩
  |ptr=>exact ⟨by cases v<;>trivial,rfl⟩
 |fn=>exact ⟨by cases v<;>trivial,rfl⟩
 |agg cs cs' hl hc=>
  refine ⟨?_,rfl⟩
  cases v with
  |agg vs=>
   intro i a' hi
   have hlt:i<cs.length:=by rw [←hl];exact (List.getElem?_eq_some_iff.1 hi).1
   exact ((hc i _ _ (List.getElem?_eq_getElem hlt) hi).flat _).1
  |_=>trivial
def z8 (ah:AH):List AV→List AV→Prop
 |[],[]=>True
 |a::r,a'::r'=>PE ah a a'∧z8 ah r r'
 |_,_=>False
theorem z8.len:∀ {xs ys:List AV},z8 ah xs ys→ys.length=xs.length:=by
 intro xs
 induction xs with
 |nil=>intro ys h;cases ys with|nil=>rfl|cons=>exact h.elim
 |cons a r ih=>intro ys h;cases ys with|nil=>exact h.elim|cons a' r'=>simp [ih h.2]
theorem z8.get:∀ {xs ys:List AV},z8 ah xs ys→∀(i:Nat) (a a':AV),xs[i]? =some a→ys[i]? =some a'→PE ah a a':=by
 intro xs
 induction xs with
 |nil=>intro ys _ i a a' h;simp at h
 |cons a r ih=>
  intro ys h i b b' h1 h2
  cases ys with
  |nil=>exact h.elim
  |cons a' r'=>
   rcases i with _|i
   · simp at h1 h2;subst h1;subst h2;exact h.1
   · exact ih h.2 i b b' (by simpa using h1) (by simpa using h2)
def ov (ah:AH):List AV→List AV→Prop
 |[],[]=>True
 |a::r,a'::r'=>jX ah a a'∧ov ah r r'
 |_,_=>False
theorem ov.len:∀ {xs ys:List AV},ov ah xs ys→ys.length=xs.length:=by
 intro xs
 induction xs with
 |nil=>intro ys h;cases ys with|nil=>rfl|cons=>exact h.elim
 |cons a r ih=>intro ys h;cases ys with|nil=>exact h.elim|cons a' r'=>simp [ih h.2]
theorem ov.get:∀ {xs ys:List AV},ov ah xs ys→∀(i:Nat) (a a':AV),xs[i]? =some a→ys[i]? =some a'→jX ah a a':=by
 intro xs
 induction xs with
 |nil=>intro ys _ i a a' h;simp at h
 |cons a r ih=>
  intro ys h i b b' h1 h2
  cases ys with
  |nil=>exact h.elim
  |cons a' r'=>
   rcases i with _|i
   · simp at h1 h2;subst h1;subst h2;exact h.1
   · exact ih h.2 i b b' (by simpa using h1) (by simpa using h2)
theorem z8.nil:z8 ah [] []:=trivial
theorem z8.cons {a a':AV} {r r':List AV} (h:PE ah a a') (hr:z8 ah r r'):z8 ah (a::r) (a'::r'):=⟨h,hr⟩
theorem ov.nil:ov ah [] []:=trivial
theorem ov.cons {a a':AV} {r r':List AV} (h:jX ah a a') (hr:ov ah r r'):ov ah (a::r) (a'::r'):=⟨h,hr⟩
theorem jX.int {k:IntKind} {i:Int}:jX ah (.int k i) (.int k i):= .same _ rfl
theorem jX.b8 {c:UInt8}:jX ah (Am.b8 c) (Am.b8 c):= .same _ rfl
theorem jX.bool {b:Bool}:jX ah (.bool b) (.bool b):= .same _ rfl
theorem jX.str {l:List UInt8}:jX ah (.str l) (.str l):= .same _ rfl
theorem jX.v {x:Value}:jX ah (.v x) (.v x):= .same _ rfl
theorem jX.adQ {s o:Nat} {cs cs':List AV} (hs:ah[s]? =some cs) (h:ov ah cs cs'):jX ah (.ptr s o) (.ep (.agg cs') o):= .ptr _ _ _ _ hs h.len h.get
theorem PE.afa {cs cs':List AV} (h:ov ah cs cs'):PE ah (.agg cs) (.agg cs'):= .agg _ _ h.len h.get
theorem aG.ofE {P:Program} {f:Nat} {args args':List AV} {R:AV→Prop} (h:aG P f args' [] fun r aH=>R r∧aH=[]) (hp:z8 ah args args') (hs:∀r,R r→r.FF=true):
 aG P f args ah fun r aH=>R r∧aH=ah:=by
 refine ⟨h.1,fun F γ C w vs kP=> ?_⟩
 have PY:∀(l:List AV) (t:Nat),get (fm 0 l) t=(l[t]?).getD .un:=fun l t=>by rw [eC];simp
 have Pf:∀t,VR (Cx w γ C) [] (get (fm 0 args') t) (vs.getD t undef)∧TC w (Cx w γ C) (get (fm 0 args') t) (vs.getD t undef)∧(get (fm 0 args') t).plain=true:=by
  intro t
  rw [PY]
  cases ht:args'[t]? with
  |none=>exact ⟨.un ..,by cases vs.getD t undef<;>trivial,rfl⟩
  |some a'=>
   have hlt:t<args.length:=by rw [←hp.len];exact (List.getElem?_eq_some_iff.1 ht).1
   have h0:args[t]? =some args[t]:=List.getElem?_eq_getElem hlt
   have h1:=(kP.env t).1
   rw [PY,h0] at h1
   have hpe:=hp.get t _ _ h0 ht
   exact ⟨hpe.vr kP.mem h1,hpe.tc _⟩
 have hnb:∀p b,¬blk [] (fm 0 args') [] vs w p b:=by
  intro p b hb
  cases p with
  |obj s=>simp [blk] at hb
  |cell s i=>obtain ⟨cs,a,b0,h1, -⟩:=hb;simp at h1
  |tmp t=>simp only [blk] at hb;rw [iI _ (hO (Pf t).2.2)] at hb;cases hb
 have hs0:SR [] args'.length (fun b=>b<w.heap.size) [] (Cx w γ C) (fm 0 args') [] vs w:=by
  refine ⟨⟨rfl,fun s b cs h1=>by simp at h1,fun b hne=> ?_,fun s b cs h1=>by simp at h1,fun s b cs us ty fr h1=>by simp at h1⟩,by rw [kP.sz,hp.len],fun t=>⟨(Pf t).1,(Pf t).2.1⟩,fun p q b h1=>absurd h1 (hnb p b),fun p b h1=>absurd h1 (hnb p b),
   ⟨fun b hb=>hb,fun e he=>⟨kP.jV.lt _ (kP.jV.Jk e he).1,(kP.jV.Jk e he).2⟩⟩,fun t l k xs ht=>absurd ht (wY (Pf t).2.2 l k xs)⟩
  by_cases hb:b∈γ
  · obtain ⟨s,hsb⟩:=List.getElem?_of_mem hb
    have hlt:s<ah.length:=by rw [←kP.mem.len];exact (List.getElem?_eq_some_iff.1 hsb).1
    obtain ⟨xs,ty,hh, -⟩:=kP.mem.obj s b _ (List.getElem?_eq_getElem hlt) hsb
    exact ⟨xs,ty.1,ty.2,hh,by rw [Pe hsb hh];exact List.prefix_refl _⟩
  · have:Cx w γ C b=C b:=by unfold Cx;rw [if_neg hb]
    rw [this] at hne ⊢
    exact kP.mem.tN b hne
 refine (h.2 _ [] (Cx w γ C) w vs hs0).mono ?_
 rintro en w' ⟨r,v,aH,γ',ZS,rfl,⟨hR,rfl⟩,hγ,adR,hx⟩
 have hold:∀b,b<w.heap.size→w'.heap[b]? =w.heap[b]? :=fun b hb=>(hx.keep b hb).1
 have hg:=kP.grow (w':=w') (C':=C) hold hx.size (fun _ _=>rfl) (fun b hb hne=>by
  exfalso
  obtain ⟨vs',ty,fr,hh, -⟩:=kP.mem.tN b hne
  exact absurd (vL hh) (by omega)) hx.out
 have hv:=(adR.env 0).1
 simp only [get,if_true] at hv
 have hsc:=hs r hR
 exact ⟨r,v,ah,γ,C,rfl,⟨hR,rfl⟩,List.prefix_refl _,hg.1.Pc (hv.FF hsc) (TC.FF hsc _) (Vu hsc) (YO hsc),hg.2⟩
end
end Go.Am
end
section
set_option maxRecDepth 100000
namespace Go.Am
open Go
open Nat renaming reduceEqDiff→nA,reduceLT→nB,reduceLeDiff→nC,reduceAdd→nD,reduceSub→nE,reduceMul→nF,reduceBEq→nG
variable [Tabs]
theorem abE {P:Program} {L:List Nat} {N n0:Nat} {e:Env} {ah:AH} {t:List It} {Q:Exit→Env→AH→Prop} {r:List aQ} {d:Option Nat} {g:Option (Nat×Bool)} {n:Bool} {x:Ar} {tg:Tg} {k:Nat} {xs:List AV}
 (hx:ev e x= .sl tg k xs) (h1:xs=[]→∀b,U P L N n0 (.ops r::t) Q .normal (aI L e d (.bool b)) ah) (h2:xs≠[]→U P L N n0 (.ops r::t) Q .normal (aI L e d (.bool n)) ah):
 UG P L N n0 ⟨d, .nq n x,g⟩ r t Q e ah (some true):=by
 show DG L d n x e ah _
 unfold DG
 rw [hx]
 exact ⟨h1,h2⟩
def Aa (k b:Nat):aD:= .seq (.rg [⟨some 2, .aY (.c (.sl .ex k [])),none⟩]) (.seq (.seq (.rg [⟨some 3, .mv (.t 0),none⟩,⟨some 4, .nq false (.t 3),none⟩]) (.cond (.t 4) (.seq (.rg [⟨some 2, .aY (.c (.sl .ex k [])),none⟩]) .ret) .skip))
 (.seq (.rg [⟨some 5, .jQ k [],none⟩,⟨some 6, .mv (.t 0),none⟩,⟨some 7, .app k b (.t 5) (.t 6),none⟩,⟨some 2, .aY (.t 7),none⟩]) .ret))
theorem Im {P:Program} {f k b:Nat} {xs ys:List AV} {H0:AH} (hF:bw P f 8 [.tmp 2] (Aa k b)) (hz:cC b [] xs=some ys):aG P f [.sl .n k xs] H0 fun v H'=>v= .sl .own k ys∧H'=H0:=by
 refine aG.goX hF (m:=Aa k b) rfl [0,2,4] rfl (by simp) fun hcl K0 aP=> ?_
 refine AX.Vq (m:=Aa k b) rfl rfl ?_
 have hys:ys=xs:=by unfold cC at hz;split at hz<;>simp_all
 subst hys
 simp only [WW, ↓reduceIte,nA,nB,nC,nD,nE,nF,nG,reduceCtorEq,Aa]
 have step:U P [0,2,4] 8 H0.length [.code .skip, .code (.seq (.rg [⟨some 5, .jQ k [],none⟩,⟨some 6, .mv (.t 0),none⟩,⟨some 7, .app k b (.t 5) (.t 6),none⟩,⟨some 2, .aY (.t 7),none⟩]) .ret)] K0 .normal
  [(0, .sl .n k ys),(2, .sl .ex k []),(4, .bool false)] H0:=by
  simp only [WW, ↓reduceIte,nA,nB,nC,nD,nE,nF,nG,reduceCtorEq,hz,List.all_nil,List.map_nil]
  refine aP _ _ _ (.inr rfl) ?_
  exact aW hcl (w5 (a:= .sl .own k ys) rfl rfl Bv) (by simp [fin,AV.df]) Wx.oo (r':= .sl .own k ys) ⟨rfl,rfl⟩
 refine abE (by rfl) (fun h0 b=> ?_) (fun h0=> ?_)
 · subst h0
   simp only [WW, ↓reduceIte,nA,nB,nC,nD,nE,nF,nG,reduceCtorEq]
   cases b
   · refine adK rfl ?_
     exact step
   · refine adJ rfl ?_
     simp only [WW, ↓reduceIte,nA,nB,nC,nD,nE,nF,nG,reduceCtorEq]
     refine aP _ _ _ (.inr rfl) ?_
     exact aW hcl (w5 (a:= .sl .ex k []) rfl rfl Bv) (by simp [fin,AV.df]) (Wx.own ..) (r':= .sl .own k []) ⟨rfl,rfl⟩
 · simp only [WW, ↓reduceIte,nA,nB,nC,nD,nE,nF,nG,reduceCtorEq,hz,List.all_nil,List.map_nil]
   refine aP _ _ _ (.inr rfl) ?_
   exact aW hcl (w5 (a:= .sl .own k ys) rfl rfl Bv) (by simp [fin,AV.df]) Wx.oo (r':= .sl .own k ys) ⟨rfl,rfl⟩
end Go.Am
namespace Go.Am
open Go
variable [Tabs]
theorem SR.ZG {L:List Nat} {N:Nat} {F:Nat→Prop} {γ:List Nat} {C:Nat→List Value} {e:Env} {ah:AH} {ts:Array Value} {w:World} (h:SR L N F γ C e ah ts w) {r:AV} {v:Value} (hr:Am.get e 0=r) (hv:ts.getD 0 undef=v)
 (hf:∀l k xs,r≠ .sl (.fr l) k xs):SR [] 1 F γ C [(0,r)] ah #[v] w:=by
 subst hr;subst hv
 have hbk:∀p b,blk γ [(0,Am.get e 0)] ah #[ts.getD 0 undef] w p b→blk γ e ah ts w p b:=by
  intro p b hp
  cases p with
  |obj s=>exact hp
  |cell s i=>exact hp
  |tmp t=>
   simp only [blk,Am.get] at hp ⊢
   split at hp
   · rename_i h0;subst h0;exact hp
   · simp [bR] at hp
 refine ⟨h.mem,rfl,fun t=> ?_,fun p q b hp hq=>h.dF p q b (hbk p b hp) (hbk q b hq),fun p b hp=>h.nf p b (hbk p b hp),h.jV,fun t l k xs htl=> ?_⟩
 · by_cases h0:0=t
   · subst h0;simp only [Am.get,if_true];exact h.env 0
   · simp only [Am.get,if_neg h0];exact ⟨.un ..,by generalize (#[ts.getD 0 undef]:Array Value).getD t undef=u;cases u<;>trivial⟩
 · simp only [Am.get] at htl
   split at htl
   · exact absurd htl (hf l k xs)
   · cases htl
theorem ZH {P:Program} {f:Nat} {n:Int} {H0:AH} {el:TypeId} {z:Value} (hc:jt P f=true) (hz:z.cells.size=1) (h0:0≤n)
 (hroom:∀(base:Option Addr) (w:World),n=0→Calls P f #[.slice base 0 0, .int .i64 n] w fun e w'=>e= .returned (.slice base 0 0)∧w'=w)
 (hgrow:∀(base:Option Addr) (w:World),0<n→Calls P f #[.slice base 0 0, .int .i64 n] w fun e w'=>e= .returned (.slice (some ⟨w.heap.size,0,none⟩) 0 (grownCap w n.toNat 0 el))∧
  w'=w.drew.alloc (.cells ((#[]:Array Value)++Builtin.zeroCells z.cells n.toNat++Builtin.zeroCells z.cells (grownCap w n.toNat 0 el - n.toNat)) el)):
 aG P f [.sl .ex 1 [], .int .i64 n] H0 fun v H'=>v= .sl .own 1 []∧H'=H0:=by
 refine ⟨hc,fun F γ C w vs hs=> ?_⟩
 have h1:=hs.env 0
 have h2:=(hs.env 1).1
 rw [eC] at h1 h2
 simp only [Nat.zero_le,if_true,Nat.sub_zero,List.getElem?_cons_zero,Option.getD_some] at h1
 simp only [Nat.zero_le,if_true,Nat.sub_zero,List.getElem?_cons_succ,List.getElem?_cons_zero,Option.getD_some] at h2
 obtain ⟨a,c,e1, -⟩:=h1.1.fA
 rw [e1] at h1
 have hc0:c=0:=h1.2
 subst hc0
 have e2:=h2.cS
 have hvs:vs= #[.slice a 0 0, .int .i64 n]:=by
  have hsz:vs.size=2:=hs.sz
  apply Array.ext
  · simpa using hsz
  · intro i g1 g2
    have:i=0∨i=1:=by omega
    rcases this with rfl|rfl
    · simpa [Array.getD_eq_getD_getElem?,Array.getElem?_eq_getElem g1] using e1
    · simpa [Array.getD_eq_getD_getElem?,Array.getElem?_eq_getElem g1] using e2
 by_cases hn:n=0
 · rw [hvs]
   refine (hroom a w hn).mono ?_
   rintro en w' ⟨rfl,rfl⟩
   have hw:SR [] 2 F γ C (Am.put (fm 0 [.sl .ex 1 [], .int .i64 n]) 0 (.sl .own 1 [])) H0 vs w':=by
    refine hs.wx ⟨fun t=> ?_,eR.refl _⟩
    rw [fk]
    split
    · rename_i ht;subst ht
      rw [eC]
      exact Wx.own _ _
    · refine Wx.same fun l k xs=> ?_
      rw [eC]
      match t with
      |0=>simp
      |1=>simp
      |t+2=>simp
   exact ⟨.sl .own 1 [],_,H0,γ,C,rfl,⟨rfl,rfl⟩,List.prefix_refl _,hw.ZG (by rw [fk];simp) (by rw [hvs];rfl) (by simp),Ext.refl ..⟩
 · have hpos:0<n:=by omega
   rw [hvs]
   refine (hgrow a w hpos).mono ?_
   rintro en w' ⟨rfl,rfl⟩
   generalize hcap:grownCap w n.toNat 0 el=cap
   have hge:n.toNat≤cap:=by rw [←hcap];exact grownCap_ge w _ _ _
   generalize hrow:(#[]:Array Value)++Builtin.zeroCells z.cells n.toNat++Builtin.zeroCells z.cells (cap - n.toNat)=row
   have hrl:row.size=cap:=by
    rw [←hrow];simp only [Array.size_append,size_zeroCells,hz];simp;omega
   obtain ⟨q1,q2,q3⟩:=heap_alloc w.drew (.cells row el)
   obtain ⟨C',g1,g2, -, -⟩:=vO (ds:=[]) (w':=w.drew.alloc (.cells row el)) (d:=some 0) (CJ:=[]) (xs:=[]) (k:=1) (n:=0) (c:=cap)
    hs (by intro x hx;injection hx with hx;subst hx;simp) q2 q3 q1 (by simp) (by simp) (by simp) rfl (Nat.zero_le _) (by omega) (fun q hq=>by simp) (by simp) (by simp)
   refine ⟨.sl .own 1 [],_,H0,γ,C',rfl,⟨rfl,rfl⟩,List.prefix_refl _,g1.ZG ?_ ?_ (by simp),g2⟩
   · simp [Am.aI,fk,AV.bT,AV.df]
   · rw [hvs];rfl
end Go.Am
end
section
set_option maxRecDepth 100000
namespace Go.Am
open Go
open Nat renaming reduceEqDiff→nA,reduceLT→nB,reduceLeDiff→nC,reduceAdd→nD,reduceSub→nE,reduceMul→nF,reduceBEq→nG
variable [Tabs]
theorem br {p:Prop} (h:p:=by first|assumption|omega|(simp only [pM,pN]<;>omega)):p:=h
section
variable {H T:AH} {q s:Nat} {c c':List AV}
theorem bL (h:q<H.length:=by first|assumption|omega|(simp only [pM,pN]<;>omega)) (hc:c=c':=by rfl):(H.set q c)[q]? =some c':=hc▸h_eq h
theorem aX {r:Option (List AV)} (hx:H[q]? =r) (h:s≠q:=by first|assumption|omega|(simp only [pM,pN]<;>omega)):(H.set s c)[q]? =r:=(Zw h).trans hx
theorem ez {r:Option (List AV)} (hx:H[q]? =r) (h:q<H.length:=by first|assumption|omega|(simp only [pM,pN]<;>omega)):(H++T)[q]? =r:=(Ub h).trans hx
theorem jY (h:q=H.length:=by first|assumption|omega|(simp only [pM,pN]<;>omega)) (hc:c=c':=by rfl):(H++[c])[q]? =some c':=hc▸O6 h
theorem bn {ah:AH} {n0:Nat} {S:List Nat} (s:Nat) (h:Fr ah n0 S H) (hs:s∈S∨n0≤s:=by first|exact .inr (by first|assumption|omega|(simp only [pM,pN]<;>omega))|exact .inl (by simp)):Fr ah n0 S (H.set s c):=Fr.set h hs
end
theorem ax {H:AH}:eR H H:=eR.refl _
theorem aS {g g':Prop} (k:g') (h:g=g':=by
 first|(conv=>lhs;simp only [WW, ↓reduceIte,nA,nB,nC,nD,nE,nF,nG,reduceCtorEq])|rfl):g:=h▸k
theorem bO {p g g':Prop} (f:p) (k:g') (h:p→g=g':=by
 intro f;first|(conv=>lhs;simp only [WW, ↓reduceIte,nA,nB,nC,nD,nE,nF,nG,reduceCtorEq,f])|rfl):g:=h f▸k
theorem bV {g g':Prop} (k:g') (h:g=g':=by
 first|(conv=>lhs;simp (disch:=first|assumption|omega|(simp only [pM,pN]<;>omega)|fail) only [WW,WH, ↓reduceIte,nA,nB,nC,nD,nE,nF,nG,reduceCtorEq])|rfl):g:=h▸k
theorem aE {p g g':Prop} (f:p) (k:g') (h:p→g=g':=by
 intro f;first|(conv=>lhs;simp (disch:=first|assumption|omega|(simp only [pM,pN]<;>omega)|fail) only [WW,WH, ↓reduceIte,nA,nB,nC,nD,nE,nF,nG,reduceCtorEq,f])|rfl):g:=h f▸k
structure GZ (p:Prop):Prop where
 out:p
section
variable {P:Program} {L:List Nat} {N n0:Nat} {e:Env} {ah:AH} {t:List It} {Q:Exit→Env→AH→Prop} {r:List aQ}
theorem cr {β:Type} {x y:Option β} {z:β} {o:aQ} {B want:Bool} (h:(if B=true then x else y)=some z) (k1:B=true→x=some z→GZ (UG P L N n0 o r t Q e ah (some (true==want))))
 (k2:B=false→y=some z→GZ (UG P L N n0 o r t Q e ah (some (false==want)))):GZ (UG P L N n0 o r t Q e ah (some (B==want))):=by
 cases B
 · exact k2 rfl h
 · exact k1 rfl h
theorem jZ {o:aQ} {B want:Bool} (k1:B=true→GZ (UG P L N n0 o r t Q e ah (some (true==want))))
 (k2:B=false→GZ (UG P L N n0 o r t Q e ah (some (false==want)))):GZ (UG P L N n0 o r t Q e ah (some (B==want))):=by
 cases B
 · exact k2 rfl
 · exact k1 rfl
theorem b7 {β:Type} {x y:Option β} {z:β} {a b:aD} {B:Bool} (h:(if B=true then x else y)=some z) (k1:B=true→x=some z→GZ (U P L N n0 (.code a::t) Q .normal e ah))
 (k2:B=false→y=some z→GZ (U P L N n0 (.code b::t) Q .normal e ah)):GZ (UC P L N n0 a b t Q e ah (.bool B)):=by
 cases B
 · exact k2 rfl h
 · exact k1 rfl h
end
def AV.adS:AV→Bool
 | .sl (.fr _) _ _=>false
 |_=>true
theorem Wx.smZ {a:AV} (h:a.adS=true):Wx a a:= .same fun l k xs e=>by subst e;cases h
theorem Wx.gsZ {s k n n' c:Nat} (h:n=n'):Wx (.cy s k n c) (.cy s k n' c):=by subst h;exact Wx.smZ rfl
theorem wAZ {cs cs':List AV} (h:cv cs cs':=by repeat (first|exact cv.nil|apply cv.same|apply cv.n)):cv cs cs':=h
theorem wBZ {cs cs':List AV} (h:oK cs cs':=by repeat (first|exact oK.nil|apply oK.same|apply oK.n|refine oK.agg wAZ ?_)):oK cs cs':=h
theorem bt {a a':AV} (h:Wx a a':=by
 first|exact Wx.smZ rfl|exact Wx.n|exact Wx.own .. |exact Wx.un _|exact Wx.agg wAZ|exact Wx.err|exact Wx.gsZ (by simp)|exact Wx.acZ wBZ):Wx a a':=h
theorem aZ {e e1:Env} (h:WE e e1:=by
 repeat (refine WE.cons bt ?_)
 exact WE.nil):WE e e1:=h
theorem dy {p:Prop} {e e1:Env} (f:p) (h:p→WE e e1:=by
 intro f
 repeat (refine WE.cons (by first|exact bt|exact Wx.abC (by simp only [f,WB])|exact Wx.adI (by simp only [f,WB])|exact Wx.epE (by simp only [f])) ?_)
 exact WE.nil):WE e e1:=h f
theorem wlZ {a a':List AV} (h:WL a a':=by
 repeat (refine WL.cons bt ?_)
 exact WL.nil):WL a a':=h
theorem gE {a a':List AV} (h:u6 a a':=by
 repeat (refine u6.cons bt ?_)
 exact u6.nil):u6 a a':=h
theorem eK {x:Exit} (h:x≠ .normal:=by simp):x≠ .normal:=h
section
variable {P:Program} {L:List Nat} {N n0:Nat} {e:Env} {ah:AH} {t:List It} {Q:Exit→Env→AH→Prop} {r:List aQ} {d:Option Nat} {f:Nat}
theorem bg {zs zs':List AV} {b6 HE:AH} {V:AV} (hh:eR ah b6) (h:aG P f zs' b6 fun v H'=>v=V∧H'=HE) (hk:GZ (U P L N n0 (.ops r::t) Q .normal (aI L (vR e) d V.df) HE))
 (hw:WL zs zs':=by
 repeat (refine WL.cons bt ?_)
 exact WL.nil):GZ (UK P L N n0 f zs d r t Q e ah):=⟨ZE h hw hh hk.out⟩
theorem YQ {zs zs':List AV} {b6:AH} {R:AV→AH→Prop} (hh:eR ah b6) (h:aG P f zs' b6 R) (hk:∀v aH,R v aH→GZ (U P L N n0 (.ops r::t) Q .normal (aI L (vR e) d v.df) aH))
 (hw:WL zs zs':=by
 repeat (refine WL.cons bt ?_)
 exact WL.nil):GZ (UK P L N n0 f zs d r t Q e ah):=⟨Zs h hw hh fun v aH hR=>(hk v aH hR).out⟩
theorem ueZ {zs zs':List AV} {V:AV} (h:aG P f zs' [] fun v H'=>v=V∧H'=[]) (hp:z8 ah zs zs') (hk:GZ (U P L N n0 (.ops r::t) Q .normal (aI L (vR e) d V.df) ah)) (hs:V.FF=true:=by rfl) (hw:WL zs zs:=by
 repeat (refine WL.cons (Wx.smZ rfl) ?_)
 exact WL.nil):GZ (UK P L N n0 f zs d r t Q e ah):=
 ⟨ZE (aG.ofE h hp (by rintro _ rfl;exact hs)) hw (eR.refl _) hk.out⟩
theorem pZZ {cs cs':List AV} (h:ov ah cs cs':=by
 repeat (first|exact ov.nil|refine ov.cons (by first|exact jX.int|exact jX.b8|exact jX.bool|exact jX.str|exact jX.v|exact .sl _ _ _|exact .ep _ _) ?_)):ov ah cs cs':=h
theorem NR {c:aD} (h:AX P L N n0 c (fun x e ah=>GZ (U P L N n0 t Q x e ah)) e ah):GZ (UX P L N n0 c t Q e ah):=⟨aaB (AX.mono h fun _ _ _ h=>h.out)⟩
theorem Vv {c:aD} (h:GZ (UX P L N n0 c t Q e ah)):AX P L N n0 c (fun x e ah=>GZ (U P L N n0 t Q x e ah)) e ah:=AX.mono h.out fun _ _ _ h=>⟨h⟩
theorem cg {c:aD} {e1:Env} {b6:AH} (hh:eR ah b6) (h:AX P L N n0 c (fun x e ah=>GZ (U P L N n0 t Q x e ah)) e1 b6) (he:WE e e1:=by
 repeat (refine WE.cons bt ?_)
 exact WE.nil):GZ (UX P L N n0 c t Q e ah):=NR (AX.weak he hh h)
theorem gaZ {α:Type} {f:α→AV} {k b q c n1:Nat} {x y:Ar} {tg:Tg} {X Y Z:List α} {ys:List AV} {g:Option (Nat×Bool)} (hf:∀x,(f x).cells.length=k∧b5 (f x).cells=true∧fY (f x).cells=true∧bZ (f x).cells=true)
 (zR:0<k) (hx:ev e x= .cy q k X.length c) (hy:ev e y= .sl tg k ys) (hys:ys=ml f Y) (hY:Y≠[]) (hz:cC b X Y=some Z) (hG:GF k n1 q (ml f X) c ah) (hn:n1≤ah.length)
 (hK:∀q' c' aH,GF k n1 q' (ml f Z) c' aH→(∀s,s<ah.length→s<n1∨(0<c→s≠q)→aH[s]? =ah[s]?)→ah.length≤aH.length→(q'=q∨ah.length≤q')→
  GZ (U P L N n0 (.ops r::t) Q .normal (aI L e d (.cy q' k Z.length c')) aH)):
 GZ (UG P L N n0 ⟨d, .mI k b x y,g⟩ r t Q e ah (some true)):=⟨Vn hf zR hx hy hys hY hz hG hn fun q' c' aH h1 h2 h3 h4=>(hK q' c' aH h1 h2 h3 h4).out⟩
end
theorem aK {α:Type} {a b:α} (h:some a=some b):a=b:=Option.some.inj h
theorem de {α β:Type} {a b:α} {c d:β} (h:some (a,c)=some (b,d)):a=b∧c=d:=Prod.mk.inj (Option.some.inj h)
theorem adT {α β γ:Type} {a b:α} {c d:β} {e f:γ} (h:some (a,c,e)=some (b,d,f)):a=b∧c=d∧e=f:=by
 obtain ⟨h1,h2⟩:=de h;exact ⟨h1,Prod.mk.inj h2⟩
theorem adU {α β γ δ:Type} {a b:α} {c d:β} {e f:γ} {g i:δ} (h:some (a,c,e,g)=some (b,d,f,i)):a=b∧c=d∧e=f∧g=i:=by
 obtain ⟨h1,h2,h3⟩:=adT h;exact ⟨h1,h2,Prod.mk.inj h3⟩
theorem adV {α β γ δ ε:Type} {a b:α} {c d:β} {e f:γ} {g i:δ} {j k:ε} (h:some (a,c,e,g,j)=some (b,d,f,i,k)):a=b∧c=d∧e=f∧g=i∧j=k:=by
 obtain ⟨h1,h2,h3,h4⟩:=adU h;exact ⟨h1,h2,h3,Prod.mk.inj h4⟩
theorem afb {α β γ δ ε ζ:Type} {a b:α} {c d:β} {e f:γ} {g i:δ} {j k:ε} {l m:ζ} (h:some (a,c,e,g,j,l)=some (b,d,f,i,k,m)):a=b∧c=d∧e=f∧g=i∧j=k∧l=m:=by
 obtain ⟨h1,h2,h3,h4,h5⟩:=adV h;exact ⟨h1,h2,h3,h4,Prod.mk.inj h5⟩
theorem bx {P:Program} {e:Env} {ah:AH}:gL P e ah []=some []:=rfl
theorem bD {P:Program} {e:Env} {ah:AH} {t:Nat} {rs:List ResultVar} {vs:List AV} (hr:gL P e ah rs=some vs) (a:AV) (h:Am.get e t=a:=by rfl) (ht:a.eO=false:=by rfl):gL P e ah (.tmp t::rs)=some (a::vs):=w5 h ht hr
theorem bB {n:Nat} {a:AV} (h:Cl n a:=by first|(simp [fin,Zv,Zu,oa,O5];done)|(simp [fin,AV.df,AV.sh,AV.bS,Zv,Zu,oa,O5];done)):Cl n a:=h
theorem jv {n:Nat} {c:List AV} (h:∀a∈c,Cl n a:=by simp [O5];try omega):∀a∈c,Cl n a:=h
theorem aB {p q:Prop} (a:p) (b:q):p∧q:=⟨a,b⟩
theorem bG:Exit.ret= .normal∨Exit.ret= .ret:= .inr rfl
theorem Io:Exit.normal= .normal∨Exit.normal= .ret:= .inl rfl
theorem ef {P:Program} {N f:Nat} {rs:List ResultVar} {m:aD} (hF:bw P f N rs (erase m)) (L:List Nat) {args:List AV} {R:AV→AH→Prop} {H0:AH} (S:List Nat)
 (h:mF H0.length H0→∀K0:Exit→Env→AH→Prop,(∀x e' H,x= .normal∨x= .ret→vV P H0 rs R e' H→GZ (K0 x e' H))→
  ∀H,H=H0→Fr H0 H0.length S H→GZ (U P L N H0.length [.code m] K0 .normal (fm 0 args) H)) (ho:qJ N (erase m)=true:=by kernel_rfl) (hN:args.length≤N:=by simp):aG P f args H0 R:=by
 refine aG.goX hF (m:=m) rfl L ho hN fun hcl K0 aP=> ?_
 refine AX.Vq (m:=m) rfl ho ?_
 exact (h hcl K0 (fun x e' H h1 h2=>⟨aP x e' H h1 h2⟩) H0 rfl (Fr.refl H0 S)).out
theorem gx {P:Program} {N f:Nat} {rs:List ResultVar} {m:aD} (hF:bw P f N rs (erase m)) (L:List Nat) {args:List AV} {R:AV→AH→Prop} {H0:AH}
 (h:mF H0.length H0→∀K0:Exit→Env→AH→Prop,(∀x e' H,x= .normal∨x= .ret→vV P H0 rs R e' H→GZ (K0 x e' H))→
  GZ (U P L N H0.length [.code m] K0 .normal (fm 0 args) H0)) (ho:qJ N (erase m)=true:=by kernel_rfl) (hN:args.length≤N:=by simp):aG P f args H0 R:=by
 refine aG.goX hF (m:=m) rfl L ho hN fun hcl K0 aP=> ?_
 exact AX.Vq (m:=m) rfl ho (h hcl K0 (fun x e' H h1 h2=>⟨aP x e' H h1 h2⟩)).out
theorem dz {P:Program} {L:List Nat} {N n0:Nat} {e:Env} {ah:AH} {K:Exit→Env→AH→Prop} {m:aD}
 (h:∀K':Exit→Env→AH→Prop,(∀x e ah e1 b6,WE e e1→eR ah b6→K x e1 b6→GZ (K' x e ah))→GZ (U P L N n0 [.code m] K' .normal e ah)) (ho:qJ N (erase m)=true:=by kernel_rfl):AX P L N n0 (erase m) K e ah:=
 AX.go rfl ho fun K' hK=>(h K' fun x e ah e1 b6 h1 h2 h3=>⟨hK x e ah e1 b6 h1 h2 h3⟩).out
theorem iZ {P:Program} {L:List Nat} {N n0:Nat} {e:Env} {ah:AH} {K:Exit→Env→AH→Prop} {m:aD} {ρ τ σ:Type} {body:σ→Option (St ρ τ σ)} (J:σ→Env→AH→Prop) {F:Nat} {s0:σ} {o:ρ⊕τ} (hit:Am.iter body F s0=some o) (h0:J s0 e ah)
 (round:∀(K':Exit→Env→AH→Prop) s st e ah,J s e ah→body s=some st→
 (∀s',st= .cT s'→∀e' aH e1 b6,WE e' e1→eR aH b6→J s' e1 b6→GZ (K' .normal e' aH))→
 (∀t,st= .fI t→o= .inr t)→(∀r,st= .ret r→o= .inl r)→
 (∀x e' aH e1 b6,x≠ .normal→WE e' e1→eR aH b6→K x e1 b6→GZ (K' x e' aH))→GZ (U P L N n0 [.code m] K' .normal e ah)) (ho:qJ N (erase m)=true:=by kernel_rfl):AX P L N n0 (.loop (erase m)) K e ah:=
 AX.iter rfl ho J hit h0 fun K' s st e ah h1 h2 h3 h4 h5 h6=>(round K' s st e ah h1 h2 (fun s' h e' aH e1 b6 g1 g2 g3=>⟨h3 s' h e' aH e1 b6 g1 g2 g3⟩) h4 h5 fun x e' aH e1 b6 hx g1 g2 g3=>⟨h6 x e' aH e1 b6 hx g1 g2 g3⟩).out
abbrev aj (d:Nat) (p:fH):aQ:=⟨some d,p,none⟩
abbrev aF (d:Nat) (p:fH) (g:Nat) (w:Bool):aQ:=⟨some d,p,some (g,w)⟩
abbrev cZ (p:fH):aQ:=⟨none,p,none⟩
abbrev aA (d x:Nat):aQ:=⟨some d, .mv (.t x),none⟩
abbrev bk (d x:Nat):aQ:=⟨some d, .aY (.t x),none⟩
end Go.Am
end
section
namespace Go.Am
open Go
variable [Tabs]
theorem eR.Pb {ah aH:AH} {q:Nat} {cs cs':List AV} (h:eR ah aH) (hq:ah[q]? =some cs) (hc:u6 cs cs'):eR ah (aH.set q cs'):=by
 refine ⟨by simpa using h.1,fun s ds hs=> ?_⟩
 by_cases hqs:q=s
 · subst hqs
   have hl:q<aH.length:=by rw [h.1];exact (List.getElem?_eq_some_iff.1 hq).1
   rw [List.getElem?_set_self hl] at hs
   injection hs with hs
   subst hs
   exact ⟨cs,hq, .inr hc⟩
 · rw [List.getElem?_set_ne hqs] at hs
   exact h.2 s ds hs
def KJ (k:IntKind) (i j:Int):Option Int:=if j<0 then none else some (k.wrap (i*2 ^ (min j.toNat k.bits)))
def ZI (k:IntKind) (i j:Int):Option Int:=if j<0 then none else some (i.fdiv (2 ^ (min j.toNat k.bits)))
theorem Vw {k k':IntKind} {i j r:Int} (h:KJ k i j=some r):bC .shl (.int k i) (.int k' j)=some (.int k r):=by
 unfold KJ at h
 split at h
 · cases h
 · rename_i hj
   injection h with h
   simp only [bC,if_neg hj,h]
theorem adW {k k':IntKind} {i j r:Int} (h:ZI k i j=some r):bC .shr (.int k i) (.int k' j)=some (.int k r):=by
 unfold ZI at h
 split at h
 · cases h
 · rename_i hj
   injection h with h
   simp only [bC,if_neg hj,h]
end Go.Am
end
section
namespace Go.Am
open Go
variable [Tabs]
section
variable {P:Program} {L:List Nat} {N n0:Nat} {F:Nat→Prop} {γ:List Nat} {C:Nat→List Value} {e e':Env} {ah:AH} {ts:Array Value} {w:World} {Q K:Exit→Env→AH→Prop}
theorem SR.Vx (h:SR L N F γ C e ah ts w) {s:Nat} {cs ds:List AV} (hs:ah[s]? =some cs) (hne:cs≠[]) (hw:cv cs ds)
 (he:∀t,get e' t=get e t∨∃o,get e t= .ptr s o∧get e' t= .ep (.agg ds) o):∃C',(SR L N F γ C' e' (ah.set s []) ts w∧Ext F C w C' w)∧∃b,γ[s]? =some b∧ds.length≤(C' b).length∧∀(j:Nat) (a:AV),ds[j]? =some a→VR C' γ a ((C' b).getD j undef):=by
 have hlt:s<γ.length:=by rw [h.mem.len];exact (List.getElem?_eq_some_iff.1 hs).1
 obtain ⟨b,hb⟩:∃b,γ[s]? =some b:=⟨_,List.getElem?_eq_getElem hlt⟩
 obtain ⟨vs,ty,hh,hsz,hcell⟩:=h.mem.obj s b cs hs hb
 have Fu:=h.mem.pG s b cs hs hne hb
 have qH:blk γ e ah ts w (.obj s) b:=hb
 refine ⟨fun x=>if x=b then vs.toList else C x, ?_⟩
 generalize u0:(fun x=>if x=b then vs.toList else C x)=C'
 have c0:C' b=vs.toList:=by rw [←u0];simp
 have c1:∀x,x≠b→C' x=C x:=fun x hx=>by rw [←u0];simp [hx]
 have hpre:∀x,C x <+: C' x:=by
  intro x
  by_cases hx:x=b
  · subst hx;rw [Fu];exact List.nil_prefix
  · rw [c1 x hx];exact List.prefix_refl _
 refine ⟨?_,b,hb,by rw [c0,hw.len];simpa using hsz,fun j a hj=> ?_⟩
 rotate_left
 · have hjl:j<cs.length:=by rw [←hw.len];exact (List.getElem?_eq_some_iff.1 hj).1
   have hj':cs[j]? =some cs[j]:=List.getElem?_eq_getElem hjl
   have:=(Wk.iP (hw.get j _ _ hj' hj)).vr ((hcell j _ hj').1.mono hpre γ (fun _ _ h=>h))
   rw [c0]
   have e1:vs.toList.getD j undef=vs.getD j undef:=by simp [List.getD_eq_getElem?_getD,Array.getD_eq_getD_getElem?]
   rw [e1];exact this
 have gU:∀(s':Nat),s'≠s→(ah.set s [])[s']? =ah[s']? :=fun s' hn=>List.getElem?_set_ne (Ne.symm hn)
 have fO:(ah.set s [])[s]? =some []:=List.getElem?_set_self (by rw [←h.mem.len];exact hlt)
 have tR:∀(s':Nat),γ[s']? =some b→s'=s:=fun s' hs'=>by
  have:=h.dF (.obj s') (.obj s) b hs' hb;injection this
 have hbk:∀p x,blk γ e' (ah.set s []) ts w p x→blk γ e ah ts w p x:=by
  intro p x hp
  cases p with
  |obj s'=>exact hp
  |cell s' i=>
   obtain ⟨ds,a,b0,h1,h2,h3,h4⟩:=hp
   by_cases hn:s'=s
   · subst hn;rw [fO] at h1;injection h1 with h1;subst h1;simp at h2
   · rw [gU s' hn] at h1;exact ⟨ds,a,b0,h1,h2,h3,h4⟩
  |tmp t=>
   simp only [blk] at hp ⊢
   rcases he t with h1|⟨o,h1,h2⟩
   · rwa [h1] at hp
   · rw [h2] at hp;simp [bR] at hp
 have nI:∀(a:AV) (v:Value),TC w C a v→(∀x,bR a v=some x→x≠b)→TC w C' a v:=fun a v ht hn=>ht.mono fun x hx=>⟨rfl,c1 x (hn x hx)⟩
 refine ⟨⟨⟨by simp [h.mem.len],fun s' x ds h1 h2=> ?_,fun x hx=> ?_,fun s' x ds h1 h0 h2=> ?_,fun s' x ds us ty' fr h1 h2 h3=> ?_⟩,h.sz,fun t=> ?_,fun p q x hp hq=>h.dF p q x (hbk p x hp) (hbk q x hq),fun p x hp=>h.nf p x (hbk p x hp),h.jV,fun t l k xs ht=> ?_⟩,
  ⟨hpre,fun x hx=>⟨rfl,c1 x (fun e=>h.nf _ _ qH (e▸hx))⟩,Nat.le_refl _,rfl,rfl,rfl⟩⟩
 · by_cases hn:s'=s
   · subst hn
     rw [fO] at h1;injection h1 with h1;subst h1
     rw [hb] at h2;injection h2 with h2;subst h2
     exact ⟨vs,ty,hh,by simp,by simp⟩
   · rw [gU s' hn] at h1
     obtain ⟨us,ty',g1,g2,g3⟩:=h.mem.obj s' x ds h1 h2
     refine ⟨us,ty',g1,g2,fun i a hi=>⟨(g3 i a hi).1.mono hpre _ (fun _ _ h=>h),nI _ _ (g3 i a hi).2 fun y hy e=> ?_⟩⟩
     subst e
     obtain ⟨v,hv, -, -⟩:=cellAt h.mem h1 hi h2
     have Hh:v=us.getD i undef:=by
      have hlt:i<us.size:=Nat.lt_of_lt_of_le (List.getElem?_eq_some_iff.1 hi).1 g2
      rw [dc g1,Array.getElem?_eq_getElem hlt] at hv
      simp [Array.getD_eq_getD_getElem?,Array.getElem?_eq_getElem hlt,Option.some.inj hv]
     have:blk γ e ah ts w (.cell s' i) y:=⟨ds,a,x,h1,hi,h2,by rw [hv,Hh];exact hy⟩
     have:=h.dF _ _ _ this qH
     cases this
 · by_cases KD:x=b
   · subst KD;exact ⟨vs,ty.1,ty.2,hh,by rw [c0];exact List.prefix_refl _⟩
   · rw [c1 x KD] at hx ⊢;exact h.mem.tN x hx
 · have hn:s'≠s:=by
    rintro rfl
    rw [fO] at h1;injection h1 with h1;exact h0 h1.symm
   rw [gU s' hn] at h1
   rw [c1 x (fun e=>hn (tR s' (e▸h2)))]
   exact h.mem.pG s' x ds h1 h0 h2
 · by_cases hn:s'=s
   · subst hn
     rw [fO] at h1;injection h1 with h1;subst h1
     intro i hi;simp at hi
   · rw [gU s' hn] at h1
     exact h.mem.Bj s' x ds us ty' fr h1 h2 h3
 · rcases he t with h1|⟨o,h1,h2⟩
   · rw [h1]
     refine ⟨(h.env t).1.mono hpre _ (fun _ _ h=>h),nI _ _ (h.env t).2 fun y hy e=> ?_⟩
     subst e
     have:=h.dF (.tmp t) (.obj s) y hy qH
     cases this
   · have hv:=(h.env t).1
     rw [h1] at hv
     obtain ⟨b',hb',hv⟩:=hv.gK
     rw [hb] at hb';injection hb' with hb';subst hb'
     rw [h2,hv]
     refine ⟨?_,by trivial⟩
     have hep:=VR.ep (C:=C') γ (.agg ds) o b 0 (by rw [c0];simpa [AV.cells,hw.len] using hsz) (fun j a hj=>by
      have hj2:ds[j]? =some a:=hj
      have hjl:j<cs.length:=by rw [←hw.len];exact (List.getElem?_eq_some_iff.1 hj2).1
      have hj':cs[j]? =some cs[j]:=List.getElem?_eq_getElem hjl
      have:=(Wk.iP (hw.get j _ _ hj' hj2)).vr ((hcell j _ hj').1.mono hpre γ (fun _ _ h=>h))
      rw [c0,Nat.zero_add]
      have e1:vs.toList.getD j undef=vs.getD j undef:=by simp [List.getD_eq_getElem?_getD,Array.getD_eq_getD_getElem?]
      rw [e1];exact this)
     rwa [Nat.zero_add] at hep
 · rcases he t with h1|⟨o,h1,h2⟩
   · have hf:=h.fr t l k xs (by rw [←h1];exact ht)
     cases l with
     |tmp u=>
      refine ⟨hf.1,fun hu=>hf.2 ?_⟩
      rcases he u with g1|⟨o,g1,g2⟩
      · rwa [g1] at hu
      · rw [g2] at hu;cases hu
     |cell s' o=>
      intro ds a x g1 g2 g3 g4
      by_cases hn:s'=s
      · subst hn;rw [fO] at g1;injection g1 with g1;subst g1;simp at g2
      · rw [gU s' hn] at g1;exact hf ds a x g1 g2 g3 g4
   · rw [h2] at ht;cases ht
def Rw (C:Nat→List Value) (γ:List Nat) (w:World) (a a':AV):Prop:=
 (∀v,VR C γ a v→VR C γ a' v)∧(∀v,VR C γ a v→TC w C a v→TC w C a' v)∧(∀v b,VR C γ a v→TC w C a v→bR a' v=some b→bR a v=some b)∧(a'.bT=true→a.bT=true)
theorem Rw.refl (a:AV):Rw C γ w a a:=⟨fun _ h=>h,fun _ _ h=>h,fun _ _ _ _ h=>h,fun h=>h⟩
theorem SR.YR (h:SR L N F γ C e ah ts w) {aH:AH} (hl:aH.length=ah.length)
 (hh:∀(s:Nat) (cs':List AV),aH[s]? =some cs'→∃cs,ah[s]? =some cs∧cs'.length=cs.length∧∀(i:Nat) (a a':AV),cs[i]? =some a→cs'[i]? =some a'→Rw C γ w a a'):SR L N F γ C e aH ts w:=by
 have hcl:∀(s i b0:Nat) (cs':List AV) (a':AV) (x:Nat),aH[s]? =some cs'→cs'[i]? =some a'→γ[s]? =some b0→bR a' ((w.cell? ⟨b0,i,none⟩).getD undef)=some x→
  ∃cs a,ah[s]? =some cs∧cs[i]? =some a∧bR a ((w.cell? ⟨b0,i,none⟩).getD undef)=some x:=by
  intro s i b0 cs' a' x h1 h2 h3 h4
  obtain ⟨cs,g1,g2,g3⟩:=hh s cs' h1
  have hlt:i<cs.length:=by rw [←g2];exact (List.getElem?_eq_some_iff.1 h2).1
  have h0:cs[i]? =some cs[i]:=List.getElem?_eq_getElem hlt
  refine ⟨cs,cs[i],g1,h0, ?_⟩
  obtain ⟨vs,ty,q1,q2,q3⟩:=h.mem.obj s b0 cs g1 h3
  have hc:(w.cell? ⟨b0,i,none⟩).getD undef=vs.getD i undef:=by
   rw [dc q1];simp [Array.getD_eq_getD_getElem?]
  rw [hc] at h4 ⊢
  exact (g3 i _ _ h0 h2).2.2.1 _ _ (q3 i _ h0).1 (q3 i _ h0).2 h4
 have hb:∀p b,blk γ e aH ts w p b→blk γ e ah ts w p b:=by
  intro p b hp
  cases p with
  |obj s=>exact hp
  |tmp t=>exact hp
  |cell s i=>
   obtain ⟨cs',a',b0,h1,h2,h3,h4⟩:=hp
   obtain ⟨cs,a,g1,g2,g3⟩:=hcl s i b0 cs' a' b h1 h2 h3 h4
   exact ⟨cs,a,b0,g1,g2,h3,g3⟩
 refine ⟨⟨by rw [h.mem.len,hl],fun s b cs' h1 h2=> ?_,h.mem.tN,fun s b cs' h1 hne h2=> ?_,fun s b cs' us ty fr h1 h2 h3=> ?_⟩,h.sz,h.env,fun p q b h1 h2=>h.dF p q b (hb p b h1) (hb q b h2),
  fun p b hp=>h.nf p b (hb p b hp),h.jV,fun t l k xs ht=> ?_⟩
 · obtain ⟨cs,g1,g2,g3⟩:=hh s cs' h1
   obtain ⟨vs,ty,q1,q2,q3⟩:=h.mem.obj s b cs g1 h2
   refine ⟨vs,ty,q1,by omega,fun i a' hi=> ?_⟩
   have hlt:i<cs.length:=by rw [←g2];exact (List.getElem?_eq_some_iff.1 hi).1
   have h0:cs[i]? =some cs[i]:=List.getElem?_eq_getElem hlt
   exact ⟨(g3 i _ _ h0 hi).1 _ (q3 i _ h0).1,(g3 i _ _ h0 hi).2.1 _ (q3 i _ h0).1 (q3 i _ h0).2⟩
 · obtain ⟨cs,g1,g2,g3⟩:=hh s cs' h1
   refine h.mem.pG s b cs g1 ?_ h2
   rintro rfl
   exact hne (List.eq_nil_of_length_eq_zero g2)
 · obtain ⟨cs,g1,g2,g3⟩:=hh s cs' h1
   rw [g2]
   exact h.mem.Bj s b cs us ty fr g1 h2 h3
 · have hf:=h.fr t l k xs ht
   cases l with
   |tmp u=>exact hf
   |cell s' o=>
    intro ds a x g1 g2 g3 g4
    obtain ⟨cs,r1,r2,r3⟩:=hh s' ds g1
    have hlt:o<cs.length:=by rw [←r2];exact (List.getElem?_eq_some_iff.1 g2).1
    have h0:cs[o]? =some cs[o]:=List.getElem?_eq_getElem hlt
    exact hf cs cs[o] x r1 h0 ((r3 o _ _ h0 g2).2.2.2 g3) g4
inductive Fc (s:Nat) (ds:List AV):AV→AV→Prop
 |same (a):Fc s ds a a
 |fn (f o):Fc s ds (.fn f [.ptr s o]) (.fn f [.ep (.agg ds) o])
 |cF (k n:Nat) (xs:List AV):xs.length=n→(∀(i:Nat) (e:AV),xs[i]? =some e→e.cells.length=k)→ds=(xs.map AV.cells).flatten→b5 ds=true→fY ds=true→Fc s ds (.cF s k 0 n) (.sl .n k xs)
inductive u7 (s:Nat) (ds:List AV):List AV→List AV→Prop
 |nil:u7 s ds [] []
 |cons (a a' r r'):Fc s ds a a'→u7 s ds r r'→u7 s ds (a::r) (a'::r')
theorem u7.len {s:Nat} {ds cs cs':List AV} (h:u7 s ds cs cs'):cs'.length=cs.length:=by
 induction h with
 |nil=>rfl
 |cons _ _ _ _ _ _ ih=>simp [ih]
theorem u7.get {s:Nat} {ds cs cs':List AV} (h:u7 s ds cs cs'):∀(i:Nat) (a a':AV),cs[i]? =some a→cs'[i]? =some a'→Fc s ds a a':=by
 induction h with
 |nil=>intro i a a' h;simp at h
 |cons x x' r r' hx _ ih=>
  intro i a a' h1 h2
  cases i with
  |zero=>simp at h1 h2;subst h1;subst h2;exact hx
  |succ i=>exact ih i a a' (by simpa using h1) (by simpa using h2)
theorem NS {k:Nat}:∀ {xs:List AV},(∀(i:Nat) (e:AV),xs[i]? =some e→e.cells.length=k)→((xs.map AV.cells).flatten).length=xs.length*k:=by
 intro xs
 induction xs with
 |nil=>intro _;simp
 |cons x r ih=>
  intro h
  have h0:=h 0 x rfl
  have:=ih fun i e hi=>h (i+1) e (by simpa using hi)
  simp only [List.map_cons,List.flatten_cons,List.length_append,this,h0,List.length_cons,Nat.succ_mul]
  omega
theorem NT {k:Nat}:∀ {xs:List AV},(∀(i:Nat) (e:AV),xs[i]? =some e→e.cells.length=k)→∀(i j:Nat) (e:AV),xs[i]? =some e→j<k→((xs.map AV.cells).flatten)[i*k+j]? =e.cells[j]? :=by
 intro xs
 induction xs with
 |nil=>intro _ i j e h;simp at h
 |cons x r ih=>
  intro h i j e hi hj
  have h0:=h 0 x rfl
  simp only [List.map_cons,List.flatten_cons]
  cases i with
  |zero=>
   simp at hi;subst hi
   rw [Nat.zero_mul,Nat.zero_add,List.getElem?_append_left (by omega)]
  |succ i=>
   have hik:(i+1)*k+j=k+(i*k+j):=by rw [Nat.succ_mul];omega
   rw [hik,List.getElem?_append_right (by omega),h0,Nat.add_sub_cancel_left]
   exact ih (fun i e hi=>h (i+1) e (by simpa using hi)) i j e (by simpa using hi) hj
theorem Fc.rw {s b:Nat} {ds:List AV} (hb:γ[s]? =some b) (hl:ds.length≤(C b).length) (hd:∀(j:Nat) (a:AV),ds[j]? =some a→VR C γ a ((C b).getD j undef)) {a a':AV} (h:Fc s ds a a'):Rw C γ w a a':=by
 cases h with
 |same=>exact Rw.refl _
 |fn f o=>
  refine ⟨fun v hv=> ?_,fun v _ _=>by cases v<;>trivial,fun v b _ _ h=>by simp [bR] at h,fun h=>by cases h⟩
  obtain ⟨vs,rfl,h1,h2⟩:=hv.Dw
  refine .fn _ _ _ _ (by simpa using h1) fun i a hi=> ?_
  cases i with
  |succ i=>simp at hi
  |zero=>
   simp at hi
   subst hi
   obtain ⟨b',hb',hv⟩:=(h2 0 _ rfl).gK
   rw [hb] at hb';injection hb' with hb';subst hb'
   rw [hv]
   have:=VR.ep (C:=C) γ (.agg ds) o b 0 (by simpa [AV.cells] using hl) (fun j a hj=>by rw [Nat.zero_add];exact hd j a hj)
   rwa [Nat.zero_add] at this
 |cF k n xs hn hk hds hok hnp=>
  refine ⟨fun v hv=> ?_,fun v _ _=>by cases v<;>trivial,fun v b _ _ h=>by simp [bR] at h,fun h=>by cases h⟩
  obtain ⟨b',c,hb',hc,rfl⟩:=hv.zO
  rw [hb] at hb';injection hb' with hb';subst hb'
  have hlen:ds.length=n*k:=by rw [hds,NS hk,hn]
  refine .sl _ _ _ _ _ _ _ _ hn.symm hc hk (by omega) (fun q h1 h2=> ?_) fun i e hi j a hj=> ?_
  · have hq:q<ds.length:=by omega
    have h0:ds[q]? =some ds[q]:=List.getElem?_eq_getElem hq
    exact VR.one' (hd q _ h0) (yl hok h0)
  · have G3:j<k:=by rw [←hk i e hi];exact (List.getElem?_eq_some_iff.1 hj).1
    have hg:ds[i*k+j]? =some a:=by rw [hds,NT hk i j e hi G3];exact hj
    rw [Nat.zero_add]
    exact (hd _ _ hg).np (tT hnp hg)
theorem AW.Ab {c:Code} {s s2:Nat} {cs ds zs zs':List AV} (hs:ah[s]? =some cs) (hne:cs≠[]) (hw:cv cs ds) (hs2:ah[s2]? =some zs) (hn2:s2≠s) (hz:u7 s ds zs zs')
 (he:∀t,get e' t=get e t∨∃o,get e t= .ptr s o∧get e' t= .ep (.agg ds) o) (h:AW P L N n0 c Q e' ((ah.set s []).set s2 zs')):AW P L N n0 c Q e ah:=by
 intro F γ C ts w kP hn
 obtain ⟨C',⟨h1,h2⟩,b,hb,hl,hd⟩:=kP.Vx hs hne hw he
 have JD:(ah.set s [])[s2]? =some zs:=by rw [List.getElem?_set_ne (Ne.symm hn2)];exact hs2
 have h3:SR L N F γ C' e' ((ah.set s []).set s2 zs') ts w:=h1.YR (by simp) fun s' cs' hs'=>by
  by_cases hq:s2=s'
  · subst hq
    rw [List.getElem?_set_self (List.getElem?_eq_some_iff.1 JD).1] at hs'
    injection hs' with hs'
    subst hs'
    exact ⟨zs,JD,hz.len,fun i a a' ha Sh=>(hz.get i a a' ha Sh).rw hb hl hd⟩
  · rw [List.getElem?_set_ne hq] at hs'
    exact ⟨cs',hs',rfl,fun i a a' ha Sh=>by rw [ha] at Sh;injection Sh with Sh;subst Sh;exact Rw.refl _⟩
 refine wp_mono (h F γ C' ts w h3 hn) ?_
 rintro x a w' ⟨q1,q2,e2,qI,γ2,C2,q3,q4,q5,q6⟩
 exact ⟨q1,q2,e2,qI,γ2,C2,q3,q4,q5,h2.trans q6⟩
theorem AX.Ab {c:aD} {s s2:Nat} {cs ds zs zs':List AV} (hs:ah[s]? =some cs) (hw:cv cs ds) (hne:cs≠[]) (hs2:ah[s2]? =some zs) (hn2:s2≠s) (hz:u7 s ds zs zs') (he:FZ s ds e e')
 (h:AX P L N n0 c K e' ((ah.set s []).set s2 zs')):AX P L N n0 c K e ah:=
 fun c' cj=>AW.Ab hs hne hw hs2 hn2 hz he.get (h c' cj)
end
end Go.Am
namespace Go.Am
open Go
variable [Tabs]
theorem Vy {L:List Nat} {e:Env} {ah:AH} {d:Option Nat} {k s n j:Nat} {ki:IntKind} {i:Int} (h:z1 n i=some j):sS L e ah d k (.cF s k 0 n) (.int ki i)=some (aI L e d (.ptr s (j*k)),ah):=by
 unfold z1 at h
 split at h
 · rename_i hq
   injection h with h
   subst h
   simp [sS,hq]
 · cases h
end Go.Am
namespace Go.Am
open Go
def Vz (c:UInt8) (j:Int):Option UInt8:=if j<0 then none else some (UInt8.ofInt (IntKind.wrap .u8 ((c.toNat:Int)*2 ^ (min j.toNat 8))))
theorem adX {k':IntKind} {c r:UInt8} {j:Int} (h:Vz c j=some r):bC .shl (b8 c) (.int k' j)=some (b8 r):=by
 unfold Vz at h
 split at h
 · cases h
 · rename_i hj
   injection h with h
   subst h
   simp only [bC,b8,if_neg hj,IntKind.bits]
   generalize (c.toNat:Int)*2 ^ (min j.toNat 8)=z
   congr 2
   have h1:IntKind.wrap .u8 z=z % 256:=by
    simp [IntKind.wrap,IntKind.bits,IntKind.signed]
   rw [h1]
   have h2:0≤z % 256:=by omega
   have h3:z % 256<256:=by omega
   obtain ⟨n,hn⟩:∃n:Nat,z % 256=(n:Int):=⟨(z % 256).toNat,by omega⟩
   rw [hn]
   have:n<256:=by omega
   simp [UInt8.ofInt]
   omega
end Go.Am
end
section
namespace Go.Proofs
open Go.Shelf
def Tryz.Ip:Go.Shelf.Ren:=⟨fun|137=>104|217=>112|266=>123|n=>n,fun|9=>9|5=>5|3=>3|n=>n,fun|n=>n⟩
theorem Tryz.VA:Go.Proofs.Lays.n137 Tryz.prog Tryz.Ip:= {
 mixed:=by kernel_rfl
 f137:=Tryz.func104.trans (congrArg some (by kernel_rfl))
 f217:=Tryz.func112.trans (congrArg some (by kernel_rfl))
 f266:=Tryz.func123.trans (congrArg some (by kernel_rfl))
 t3:=Tryz.underlying3
 a3:=Tryz.isAgg3
 z3:=Tryz.sizeOf3
 v3:=Tryz.zeroValue3
 t5:=Tryz.underlying5
 a5:=Tryz.isAgg5
 z5:=Tryz.sizeOf5
 v5:=Tryz.zeroValue5
 t9:=Tryz.underlying9
 a9:=Tryz.isAgg9
 z9:=Tryz.sizeOf9
 v9:=Tryz.zeroValue9}
open Go.RowKit in
theorem Tryz.strings_IndexByte (s:ByteArray) (c:Int) (w:World):
 Calls Tryz.prog 104 #[.string s, .int .u8 c] w fun e w'=>e= .returned (.int .i64 (Lib.indexByte s.data.toList c.toNat.toUInt8))∧w'=w:=Any.strings_IndexByte Tryz.VA s c w
def Tryz.FH:Go.Shelf.Ren:=⟨fun|171=>98|243=>107|246=>118|283=>127|284=>128|285=>129|286=>130|129=>135|317=>134|318=>136|319=>137|320=>138|337=>139|338=>140|n=>n,fun|3=>3|9=>9|2=>2|4=>4|171=>140|0=>0|53=>104|37=>34|5=>5|173=>143|212=>157|51=>24|20=>20|213=>158|46=>51|232=>162|233=>163|n=>n,fun|17=>5|18=>6|19=>7|n=>n⟩
theorem Tryz.Si:Go.Proofs.LaysM.n171 Tryz.prog Tryz.FH:= {
 mixed:=by kernel_rfl
 f129:=Tryz.func135.trans (congrArg some (by kernel_rfl))
 f171:=Tryz.func98.trans (congrArg some (by kernel_rfl))
 f243:=Tryz.func107.trans (congrArg some (by kernel_rfl))
 f246:=Tryz.func118.trans (congrArg some (by kernel_rfl))
 f283:=Tryz.func127.trans (congrArg some (by kernel_rfl))
 f284:=Tryz.func128.trans (congrArg some (by kernel_rfl))
 f285:=Tryz.func129.trans (congrArg some (by kernel_rfl))
 f286:=Tryz.func130.trans (congrArg some (by kernel_rfl))
 f317:=Tryz.func134.trans (congrArg some (by kernel_rfl))
 f318:=Tryz.func136.trans (congrArg some (by kernel_rfl))
 f319:=Tryz.func137.trans (congrArg some (by kernel_rfl))
 f320:=Tryz.func138.trans (congrArg some (by kernel_rfl))
 f337:=Tryz.func139.trans (congrArg some (by kernel_rfl))
 f338:=Tryz.func140.trans (congrArg some (by kernel_rfl))
 t0:=Tryz.underlying0
 a0:=Tryz.isAgg0
 z0:=Tryz.sizeOf0
 v0:=Tryz.zeroValue0
 t2:=Tryz.underlying2
 a2:=Tryz.isAgg2
 z2:=Tryz.sizeOf2
 v2:=Tryz.zeroValue2
 t3:=Tryz.underlying3
 a3:=Tryz.isAgg3
 z3:=Tryz.sizeOf3
 v3:=Tryz.zeroValue3
 t4:=Tryz.underlying4
 a4:=Tryz.isAgg4
 z4:=Tryz.sizeOf4
 v4:=Tryz.zeroValue4
 t5:=Tryz.underlying5
 a5:=Tryz.isAgg5
 z5:=Tryz.sizeOf5
 v5:=Tryz.zeroValue5
 t9:=Tryz.underlying9
 a9:=Tryz.isAgg9
 z9:=Tryz.sizeOf9
 v9:=Tryz.zeroValue9
 t20:=Tryz.underlying20
 a20:=Tryz.isAgg20
 z20:=Tryz.sizeOf20
 v20:=Tryz.zeroValue20
 t37:=Tryz.underlying34
 a37:=Tryz.isAgg34
 z37:=Tryz.sizeOf34
 v37:=Tryz.zeroValue34
 t46:=Tryz.underlying51
 a46:=Tryz.isAgg51
 z46:=Tryz.sizeOf51
 v46:=Tryz.zeroValue51
 t51:=Tryz.underlying24
 a51:=Tryz.isAgg24
 z51:=Tryz.sizeOf24
 v51:=Tryz.zeroValue24
 t53:=Tryz.underlying104
 a53:=Tryz.isAgg104
 z53:=Tryz.sizeOf104
 v53:=Tryz.zeroValue104
 t171:=Tryz.underlying140
 a171:=Tryz.isAgg140
 z171:=Tryz.sizeOf140
 v171:=Tryz.zeroValue140
 t173:=Tryz.underlying143
 a173:=Tryz.isAgg143
 z173:=Tryz.sizeOf143
 v173:=Tryz.zeroValue143
 t212:=Tryz.underlying157
 a212:=Tryz.isAgg157
 z212:=Tryz.sizeOf157
 v212:=Tryz.zeroValue157
 t213:=Tryz.underlying158
 a213:=Tryz.isAgg158
 z213:=Tryz.sizeOf158
 t232:=Tryz.underlying162
 a232:=Tryz.isAgg162
 z232:=Tryz.sizeOf162
 v232:=Tryz.zeroValue162
 t233:=Tryz.underlying163
 a233:=Tryz.isAgg163
 z233:=Tryz.sizeOf163
 v233:=Tryz.zeroValue163
 g17:=by kernel_rfl
 g18:=by kernel_rfl
 g19:=by kernel_rfl
 i0:=by kernel_rfl
 i2:=by kernel_rfl
 i3:=by kernel_rfl
 i4:=by kernel_rfl
 i5:=by kernel_rfl
 i9:=by kernel_rfl
 i20:=by kernel_rfl
 i37:=by kernel_rfl
 i46:=by kernel_rfl
 i51:=by kernel_rfl
 i53:=by kernel_rfl
 i171:=by kernel_rfl
 i173:=by kernel_rfl
 i212:=by kernel_rfl
 i232:=by kernel_rfl
 i233:=by kernel_rfl
 m17:=by kernel_rfl
 m18:=by kernel_rfl
 m19:=by kernel_rfl}
open Go.RowKit Go.Sort Go.Lib in
theorem Tryz.strconv_Itoa (n:Int) (h0: -9223372036854775808≤n) (h1:n≤9223372036854775807) (w:World) (htab:Lib.TabIs Tryz.prog w "internal/strconv.uint64pow10" .u64 Lib.pow10Tab):
 Calls Tryz.prog 98 #[.int .i64 n] w fun e w'=>e= .returned (.string ⟨(Lib.itoa n).toArray⟩)∧∃k os,w'=grow (w.drewN k) os:=Any.strconv_Itoa Tryz.Si n h0 h1 w htab
def Tryz.FI:Go.Shelf.Ren:=⟨fun|172=>97|244=>105|245=>106|247=>113|279=>114|280=>115|281=>116|282=>117|287=>124|316=>125|171=>98|205=>126|321=>132|322=>133|243=>107|246=>118|283=>127|284=>128|285=>129|286=>130|129=>135|317=>134|318=>136|319=>137|320=>138|337=>139|338=>140|n=>n,fun|9=>9|3=>3|75=>116|76=>117|4=>4|5=>5|167=>127|37=>34|0=>0|85=>128|2=>2|168=>130|53=>104|175=>134|46=>51|210=>138|127=>152|145=>155|143=>153|21=>21|171=>140|173=>143|212=>157|51=>24|20=>20|213=>158|232=>162|233=>163|80=>85|n=>n,fun|15=>1|16=>2|17=>5|18=>6|19=>7|n=>n⟩
theorem Tryz.Bx:Go.Proofs.LaysC.n172 Tryz.prog Tryz.FI:= {
 mixed:=by kernel_rfl
 f129:=Tryz.func135.trans (congrArg some (by kernel_rfl))
 f171:=Tryz.func98.trans (congrArg some (by kernel_rfl))
 f172:=Tryz.func97.trans (congrArg some (by kernel_rfl))
 f205:=Tryz.func126.trans (congrArg some (by kernel_rfl))
 f243:=Tryz.func107.trans (congrArg some (by kernel_rfl))
 f244:=Tryz.func105.trans (congrArg some (by kernel_rfl))
 f245:=Tryz.func106.trans (congrArg some (by kernel_rfl))
 f246:=Tryz.func118.trans (congrArg some (by kernel_rfl))
 f247:=Tryz.func113.trans (congrArg some (by kernel_rfl))
 f279:=Tryz.func114.trans (congrArg some (by kernel_rfl))
 f280:=Tryz.func115.trans (congrArg some (by kernel_rfl))
 f281:=Tryz.func116.trans (congrArg some (by kernel_rfl))
 f282:=Tryz.func117.trans (congrArg some (by kernel_rfl))
 f283:=Tryz.func127.trans (congrArg some (by kernel_rfl))
 f284:=Tryz.func128.trans (congrArg some (by kernel_rfl))
 f285:=Tryz.func129.trans (congrArg some (by kernel_rfl))
 f286:=Tryz.func130.trans (congrArg some (by kernel_rfl))
 f287:=Tryz.func124.trans (congrArg some (by kernel_rfl))
 f316:=Tryz.func125.trans (congrArg some (by kernel_rfl))
 f317:=Tryz.func134.trans (congrArg some (by kernel_rfl))
 f318:=Tryz.func136.trans (congrArg some (by kernel_rfl))
 f319:=Tryz.func137.trans (congrArg some (by kernel_rfl))
 f320:=Tryz.func138.trans (congrArg some (by kernel_rfl))
 f321:=Tryz.func132.trans (congrArg some (by kernel_rfl))
 f322:=Tryz.func133.trans (congrArg some (by kernel_rfl))
 f337:=Tryz.func139.trans (congrArg some (by kernel_rfl))
 f338:=Tryz.func140.trans (congrArg some (by kernel_rfl))
 t0:=Tryz.underlying0
 a0:=Tryz.isAgg0
 z0:=Tryz.sizeOf0
 v0:=Tryz.zeroValue0
 t2:=Tryz.underlying2
 a2:=Tryz.isAgg2
 z2:=Tryz.sizeOf2
 v2:=Tryz.zeroValue2
 t3:=Tryz.underlying3
 a3:=Tryz.isAgg3
 z3:=Tryz.sizeOf3
 v3:=Tryz.zeroValue3
 t4:=Tryz.underlying4
 a4:=Tryz.isAgg4
 z4:=Tryz.sizeOf4
 v4:=Tryz.zeroValue4
 t5:=Tryz.underlying5
 a5:=Tryz.isAgg5
 z5:=Tryz.sizeOf5
 v5:=Tryz.zeroValue5
 t9:=Tryz.underlying9
 a9:=Tryz.isAgg9
 z9:=Tryz.sizeOf9
 v9:=Tryz.zeroValue9
 t20:=Tryz.underlying20
 a20:=Tryz.isAgg20
 z20:=Tryz.sizeOf20
 v20:=Tryz.zeroValue20
 t21:=Tryz.underlying21
 a21:=Tryz.isAgg21
 z21:=Tryz.sizeOf21
 v21:=Tryz.zeroValue21
 t37:=Tryz.underlying34
 a37:=Tryz.isAgg34
 z37:=Tryz.sizeOf34
 v37:=Tryz.zeroValue34
 t46:=Tryz.underlying51
 a46:=Tryz.isAgg51
 z46:=Tryz.sizeOf51
 v46:=Tryz.zeroValue51
 t51:=Tryz.underlying24
 a51:=Tryz.isAgg24
 z51:=Tryz.sizeOf24
 v51:=Tryz.zeroValue24
 t53:=Tryz.underlying104
 a53:=Tryz.isAgg104
 z53:=Tryz.sizeOf104
 v53:=Tryz.zeroValue104
 t75:=Tryz.underlying116
 a75:=Tryz.isAgg116
 z75:=Tryz.sizeOf116
 v75:=Tryz.zeroValue116
 t76:=Tryz.underlying117
 a76:=Tryz.isAgg117
 z76:=Tryz.sizeOf117
 v76:=Tryz.zeroValue117
 t85:=Tryz.underlying128
 a85:=Tryz.isAgg128
 z85:=Tryz.sizeOf128
 v85:=Tryz.zeroValue128
 t127:=Tryz.underlying152
 a127:=Tryz.isAgg152
 z127:=Tryz.sizeOf152
 v127:=Tryz.zeroValue152
 t143:=Tryz.underlying153
 a143:=Tryz.isAgg153
 z143:=Tryz.sizeOf153
 v143:=Tryz.zeroValue153
 t145:=Tryz.underlying155
 a145:=Tryz.isAgg155
 z145:=Tryz.sizeOf155
 v145:=Tryz.zeroValue155
 t167:=Tryz.underlying127
 a167:=Tryz.isAgg127
 z167:=Tryz.sizeOf127
 v167:=Tryz.zeroValue127
 t168:=Tryz.underlying130
 a168:=Tryz.isAgg130
 z168:=Tryz.sizeOf130
 v168:=Tryz.zeroValue130
 t171:=Tryz.underlying140
 a171:=Tryz.isAgg140
 z171:=Tryz.sizeOf140
 v171:=Tryz.zeroValue140
 t173:=Tryz.underlying143
 a173:=Tryz.isAgg143
 z173:=Tryz.sizeOf143
 v173:=Tryz.zeroValue143
 t175:=Tryz.underlying134
 a175:=Tryz.isAgg134
 z175:=Tryz.sizeOf134
 v175:=Tryz.zeroValue134
 t210:=Tryz.underlying138
 a210:=Tryz.isAgg138
 z210:=Tryz.sizeOf138
 v210:=Tryz.zeroValue138
 t212:=Tryz.underlying157
 a212:=Tryz.isAgg157
 z212:=Tryz.sizeOf157
 v212:=Tryz.zeroValue157
 t213:=Tryz.underlying158
 a213:=Tryz.isAgg158
 z213:=Tryz.sizeOf158
 t232:=Tryz.underlying162
 a232:=Tryz.isAgg162
 z232:=Tryz.sizeOf162
 v232:=Tryz.zeroValue162
 t233:=Tryz.underlying163
 a233:=Tryz.isAgg163
 z233:=Tryz.sizeOf163
 v233:=Tryz.zeroValue163
 g15:=by kernel_rfl
 g16:=by kernel_rfl
 g17:=by kernel_rfl
 g18:=by kernel_rfl
 g19:=by kernel_rfl
 t80:=Tryz.underlying85
 a80:=Tryz.isAgg85
 z80:=Tryz.sizeOf85
 v80:=Tryz.zeroValue85
 i0:=by kernel_rfl
 i2:=by kernel_rfl
 i3:=by kernel_rfl
 i4:=by kernel_rfl
 i5:=by kernel_rfl
 i9:=by kernel_rfl
 i20:=by kernel_rfl
 i21:=by kernel_rfl
 i37:=by kernel_rfl
 i46:=by kernel_rfl
 i51:=by kernel_rfl
 i53:=by kernel_rfl
 i75:=by kernel_rfl
 i76:=by kernel_rfl
 i80:=by kernel_rfl
 i85:=by kernel_rfl
 i127:=by kernel_rfl
 i143:=by kernel_rfl
 i145:=by kernel_rfl
 i167:=by kernel_rfl
 i168:=by kernel_rfl
 i171:=by kernel_rfl
 i173:=by kernel_rfl
 i175:=by kernel_rfl
 i210:=by kernel_rfl
 i212:=by kernel_rfl
 i232:=by kernel_rfl
 i233:=by kernel_rfl
 m15:=by kernel_rfl
 m16:=by kernel_rfl
 m17:=by kernel_rfl
 m18:=by kernel_rfl
 m19:=by kernel_rfl
 c0:=by kernel_rfl
 c2:=by kernel_rfl
 c3:=by kernel_rfl
 c4:=by kernel_rfl
 c5:=by kernel_rfl
 c9:=by kernel_rfl
 c20:=by kernel_rfl
 c21:=by kernel_rfl
 c37:=by kernel_rfl
 c46:=by kernel_rfl
 c51:=by kernel_rfl
 c53:=by kernel_rfl
 c75:=by kernel_rfl
 c76:=by kernel_rfl
 c80:=by kernel_rfl
 c85:=by kernel_rfl
 c127:=by kernel_rfl
 c143:=by kernel_rfl
 c145:=by kernel_rfl
 c167:=by kernel_rfl
 c168:=by kernel_rfl
 c171:=by kernel_rfl
 c173:=by kernel_rfl
 c175:=by kernel_rfl
 c210:=by kernel_rfl
 c212:=by kernel_rfl
 c213:=by kernel_rfl
 c232:=by kernel_rfl
 c233:=by kernel_rfl}
open Go.RowKit in
theorem Tryz.strconv_Atoi_ok (s:ByteArray) (hmax:s.size≤9223372036854775806) (v:Int) (h:Lib.atoiAll s.data.toList= .ok v) (w:World):
 Calls Tryz.prog 97 #[.string s] w fun e w'=>e= .returned (.tuple #[.int .i64 v, .nilIface])∧(w'=w∨∃t,w'=Lib.bytesWorld w 5 t):=Any.strconv_Atoi_ok Tryz.Bx s hmax v h w
open Go.RowKit in
theorem Tryz.strconv_Atoi_syntax (s:ByteArray) (hlim:s.size≤281474976710656) (h:Lib.atoiAll s.data.toList=Go.Lib.NumEnd.syntax) (ev:Value) (w:World) (hv:w.cell? ⟨1,0,none⟩=some ev) (hev:ev= .nilIface∨∃te pe,ev= .iface te pe):
 Calls Tryz.prog 97 #[.string s] w fun e w'=>∃N,e= .returned (.tuple #[.int .i64 (0), .iface 130 (.pointer (some ⟨N,0,none⟩))])∧w.heap.size≤N∧w'.heap[N]? =some (.cells #[.string ⟨#[65,116,111,105]⟩, .string s,ev] 138 (0,0))∧Below w.heap.size w w':=Any.strconv_Atoi_syntax Tryz.Bx s hlim h ev w hv hev
open Go.RowKit in
theorem Tryz.strconv_Atoi_range (s:ByteArray) (hlim:s.size≤281474976710656) (h:Lib.atoiAll s.data.toList= .range) (ev:Value) (w:World) (hv:w.cell? ⟨2,0,none⟩=some ev) (hev:ev= .nilIface∨∃te pe,ev= .iface te pe):
 Calls Tryz.prog 97 #[.string s] w fun e w'=>∃N,e= .returned (.tuple #[.int .i64 (Lib.atoiSat s.data.toList), .iface 130 (.pointer (some ⟨N,0,none⟩))])∧w.heap.size≤N∧w'.heap[N]? =some (.cells #[.string ⟨#[65,116,111,105]⟩, .string s,ev] 138 (0,0))∧Below w.heap.size w w':=Any.strconv_Atoi_range Tryz.Bx s hlim h ev w hv hev
def Tryz.Iq:Go.Shelf.Ren:=⟨fun|146=>80|221=>91|268=>101|138=>102|143=>103|195=>108|197=>109|218=>110|219=>111|260=>119|217=>112|225=>120|224=>121|267=>122|266=>123|314=>131|n=>n,fun|9=>9|31=>111|3=>3|4=>4|0=>0|105=>125|21=>21|5=>5|46=>51|119=>145|139=>148|138=>147|146=>149|51=>24|n=>n,fun|1=>0|3=>3|4=>4|n=>n⟩
theorem Tryz.VB:Go.Proofs.Lays.n146 Tryz.prog Tryz.Iq:= {
 mixed:=by kernel_rfl
 f138:=Tryz.func102.trans (congrArg some (by kernel_rfl))
 f143:=Tryz.func103.trans (congrArg some (by kernel_rfl))
 f146:=Tryz.func80.trans (congrArg some (by kernel_rfl))
 f195:=Tryz.func108.trans (congrArg some (by kernel_rfl))
 f197:=Tryz.func109.trans (congrArg some (by kernel_rfl))
 f217:=Tryz.func112.trans (congrArg some (by kernel_rfl))
 f218:=Tryz.func110.trans (congrArg some (by kernel_rfl))
 f219:=Tryz.func111.trans (congrArg some (by kernel_rfl))
 f221:=Tryz.func91.trans (congrArg some (by kernel_rfl))
 f224:=Tryz.func121.trans (congrArg some (by kernel_rfl))
 f225:=Tryz.func120.trans (congrArg some (by kernel_rfl))
 f260:=Tryz.func119.trans (congrArg some (by kernel_rfl))
 f266:=Tryz.func123.trans (congrArg some (by kernel_rfl))
 f267:=Tryz.func122.trans (congrArg some (by kernel_rfl))
 f268:=Tryz.func101.trans (congrArg some (by kernel_rfl))
 f314:=Tryz.func131.trans (congrArg some (by kernel_rfl))
 t0:=Tryz.underlying0
 a0:=Tryz.isAgg0
 z0:=Tryz.sizeOf0
 v0:=Tryz.zeroValue0
 t3:=Tryz.underlying3
 a3:=Tryz.isAgg3
 z3:=Tryz.sizeOf3
 v3:=Tryz.zeroValue3
 t4:=Tryz.underlying4
 a4:=Tryz.isAgg4
 z4:=Tryz.sizeOf4
 v4:=Tryz.zeroValue4
 t5:=Tryz.underlying5
 a5:=Tryz.isAgg5
 z5:=Tryz.sizeOf5
 v5:=Tryz.zeroValue5
 t9:=Tryz.underlying9
 a9:=Tryz.isAgg9
 z9:=Tryz.sizeOf9
 v9:=Tryz.zeroValue9
 t21:=Tryz.underlying21
 a21:=Tryz.isAgg21
 z21:=Tryz.sizeOf21
 v21:=Tryz.zeroValue21
 t31:=Tryz.underlying111
 a31:=Tryz.isAgg111
 z31:=Tryz.sizeOf111
 v31:=Tryz.zeroValue111
 t46:=Tryz.underlying51
 a46:=Tryz.isAgg51
 z46:=Tryz.sizeOf51
 v46:=Tryz.zeroValue51
 t51:=Tryz.underlying24
 a51:=Tryz.isAgg24
 z51:=Tryz.sizeOf24
 v51:=Tryz.zeroValue24
 t105:=Tryz.underlying125
 a105:=Tryz.isAgg125
 z105:=Tryz.sizeOf125
 v105:=Tryz.zeroValue125
 t119:=Tryz.underlying145
 a119:=Tryz.isAgg145
 z119:=Tryz.sizeOf145
 t138:=Tryz.underlying147
 a138:=Tryz.isAgg147
 z138:=Tryz.sizeOf147
 v138:=Tryz.zeroValue147
 t139:=Tryz.underlying148
 a139:=Tryz.isAgg148
 z139:=Tryz.sizeOf148
 v139:=Tryz.zeroValue148
 t146:=Tryz.underlying149
 a146:=Tryz.isAgg149
 z146:=Tryz.sizeOf149
 v146:=Tryz.zeroValue149
 g1:=by kernel_rfl
 g3:=by kernel_rfl
 g4:=by kernel_rfl}
open Go.RowKit Go.Lib in
theorem Tryz.strings_Split (s sep:ByteArray) (m:Int) (w:World) (hs:s.size<4294967281) (hm:w.cell? ⟨0,0,none⟩=some (.int .i64 m)) (h1:1≤sep.size):
 Calls Tryz.prog 80 #[.string s, .string sep] w fun e w'=>
  e= .returned (.slice (some ⟨w.heap.size,0,none⟩) (Lib.countB s sep+1) (Lib.countB s sep+1))∧w'=w.alloc (.cells ((Lib.splitB sep 0 (Lib.countB s sep) s).map Value.string).toArray 9):=Any.strings_Split Tryz.VB (by kernel_rfl) s sep m w hs hm h1
end Go.Proofs
end
section
set_option maxRecDepth 100000
namespace Go.Proofs.cL
open Go Go.Am Go.Proofs
def Eb (cs:Array Value):Prop:=∃ev,cs= #[ev]∧(ev= .nilIface∨∃te pe,ev= .iface te pe)
instance w6:Tabs:=⟨[(0,fun cs=>∃m,cs= #[.int .i64 m]),(5,fun cs=>cs=(Lib.pow10Tab.map fun z=>Value.int .u64 z).toArray),(1,Eb),(2,Eb)]⟩
theorem acn {F:Nat→Prop} {w:World} (hF:FL F w) {g:Nat} {p:Array Value→Prop} (hm:(g,p)∈Tabs.l) {v:Value} (hp:∀cs,p cs→cs[0]? =some v∨True):∃cs ty fr,w.heap[g]? =some (.cells cs ty fr)∧p cs:=(hF.Jk _ hm).2
theorem cell_of {w:World} {g:Nat} {v:Value} {ty:TypeId} {fr:Nat×Nat} (h:w.heap[g]? =some (.cells #[v] ty fr)):w.cell? ⟨g,0,none⟩=some v:=by
 simp [World.cell?,h]
theorem Sj {F:Nat→Prop} {w:World} (hF:FL F w):∃m,w.cell? ⟨0,0,none⟩=some (.int .i64 m):=by
 obtain ⟨-,cs,ty,fr,h,m,rfl⟩:=hF.Jk (0,fun cs=>∃m,cs= #[.int .i64 m]) (by simp [Tabs.l,w6])
 exact ⟨m,cell_of h⟩
theorem GK {F:Nat→Prop} {w:World} (hF:FL F w) {g:Nat} (hm:(g,Eb)∈Tabs.l):∃ev,w.cell? ⟨g,0,none⟩=some ev∧(ev= .nilIface∨∃te pe,ev= .iface te pe):=by
 obtain ⟨-,cs,ty,fr,h,ev,rfl,he⟩:=hF.Jk _ hm
 exact ⟨ev,cell_of h,he⟩
theorem args1 {γ:List Nat} {C:Nat→List Value} {vs:Array Value} {a:AV} {v:Value} (hl:vs.size=[a].length) (h:vs.getD 0 undef=v):vs= #[v]:=by
 apply Array.ext
 · simpa using hl
 · intro i h1 h2
   simp at h2;subst h2
   simpa [Array.getD_eq_getD_getElem?,Array.getElem?_eq_getElem h1] using h
theorem args2 {vs:Array Value} {a b:AV} {v u:Value} (hl:vs.size=[a,b].length) (h:vs.getD 0 undef=v) (h':vs.getD 1 undef=u):vs= #[v,u]:=by
 apply Array.ext
 · simpa using hl
 · intro i h1 h2
   have:i=0∨i=1:=by simp at h2;omega
   rcases this with rfl|rfl
   · simpa [Array.getD_eq_getD_getElem?,Array.getElem?_eq_getElem h1] using h
   · simpa [Array.getD_eq_getD_getElem?,Array.getElem?_eq_getElem h1] using h'
def strconv_Itoa (n:Int):Option (List UInt8):=if -9223372036854775808≤n∧n≤9223372036854775807 then some (Lib.itoa n) else none
theorem By {i1:Int} {H0:AH} {r0:List UInt8} (h:strconv_Itoa i1=some r0):aG Tryz.prog 98 [(.int .i64 i1)] H0 fun v H'=>v=(.str r0)∧H'=H0:=by
 unfold strconv_Itoa at h
 obtain ⟨⟨h0,h1⟩,h⟩:=TP h
 injection h with h
 subst h
 exact KI i1 (by kernel_rfl) (fun F w hF=>Sg hF (g:=5) (by simp [Tabs.l,w6]) (by kernel_rfl)) (fun w ht=>Tryz.strconv_Itoa i1 h0 h1 w ht)
def strings_IndexByte (s:List UInt8) (c:UInt8):Option Int:=some (Lib.indexByte s c)
theorem u9 {s1:List UInt8} {c2:UInt8} {H0:AH} {r0:Int} (h:strings_IndexByte s1 c2=some r0):aG Tryz.prog 104 [(.str s1),(b8 c2)] H0 fun v H'=>v=(.int .i64 r0)∧H'=H0:=by
 unfold strings_IndexByte at h
 injection h with h
 subst h
 refine aG.ZF rfl (by simp) (by kernel_rfl) fun F C γ w vs hF hl hv=> ?_
 have h0:=(hv 0 _ rfl).eN
 have h1:=VR.cS (hv 1 _ rfl)
 obtain rfl:=args2 hl h0 h1
 refine (Tryz.strings_IndexByte ⟨s1.toArray⟩ _ w).mono ?_
 rintro e w' ⟨rfl,rfl⟩
 refine ⟨_,rfl, ?_,by simp [TC],fun _ _=>rfl,Nat.le_refl _,rfl,rfl,rfl⟩
 have:(c2.toNat:Int).toNat.toUInt8=c2:=by simp
 rw [this]
 exact .int ..
def strconv_Atoi (s:List UInt8):Option (Int×Bool):=if s.length≤281474976710656 then some (match Lib.atoiAll s with| .ok v=>(v,false)|Go.Lib.NumEnd.syntax=>(0,true)| .range=>(Lib.atoiSat s,true)) else none
theorem strconv_Atoi_ok {s1:List UInt8} {H0:AH} {r0:Int} {r1:Bool} (h:strconv_Atoi s1=some (r0,r1)):aG Tryz.prog 97 [(.str s1)] H0 fun v H'=>v=(.bK [(.int .i64 r0),(dS r1)])∧H'=H0:=by
 unfold strconv_Atoi at h
 obtain ⟨hs,h⟩:=TP h
 injection h with h
 refine aG.ZF rfl (by simp) (by kernel_rfl) fun F C γ w vs hF hl hv=> ?_
 have h0:=(hv 0 _ rfl).eN
 obtain rfl:=args1 (γ:=γ) (C:=C) hl h0
 have hsz:(⟨s1.toArray⟩:ByteArray).size=s1.length:=by simp [ByteArray.size]
 have hd:(⟨s1.toArray⟩:ByteArray).data.toList=s1:=by simp
 rcases CL:Lib.atoiAll s1 with v|_|_
 · rw [CL] at h
   injection h with ha hb
   subst ha hb
   refine (Tryz.strconv_Atoi_ok ⟨s1.toArray⟩ (by omega) v (by rw [hd];exact CL) w).mono ?_
   rintro e w' ⟨rfl,hw⟩
   refine ⟨_,rfl, ?_, ?_, ?_⟩
   · refine .bK _ _ _ rfl fun i a hi=> ?_
     match i,hi with
     |0,hi=>injection hi with hi;subst hi;exact .int ..
     |1,hi=>injection hi with hi;subst hi;exact .v _ _ rfl
   · intro i a hi
     match i,hi with
     |0,hi=>injection hi with hi;subst hi;trivial
     |1,hi=>injection hi with hi;subst hi;trivial
   · rcases hw with rfl|⟨t,rfl⟩
     · exact ⟨fun _ _=>rfl,Nat.le_refl _,rfl,rfl,rfl⟩
     · exact ⟨fun b hb=>Lib.bytesWorld_at_old _ _ _ _ hb,by rw [Lib.bytesWorld_size];omega,rfl,rfl,rfl⟩
 · rw [CL] at h
   injection h with ha hb
   subst ha hb
   obtain ⟨ev,hc,he⟩:=GK hF (g:=1) (by simp [Tabs.l,w6])
   refine (Tryz.strconv_Atoi_syntax ⟨s1.toArray⟩ (by omega) (by rw [hd];exact CL) ev w hc he).mono ?_
   rintro e w' ⟨N,rfl, -, -,hb⟩
   refine ⟨_,rfl, ?_, ?_,hb.block,hb.size,hb.os,hb.tape,hb.output⟩
   · refine .bK _ _ _ rfl fun i a hi=> ?_
     match i,hi with
     |0,hi=>injection hi with hi;subst hi;exact .int ..
     |1,hi=>injection hi with hi;subst hi;exact .dQ ..
   · intro i a hi
     match i,hi with
     |0,hi=>injection hi with hi;subst hi;trivial
     |1,hi=>injection hi with hi;subst hi;trivial
 · rw [CL] at h
   injection h with ha hb
   subst ha hb
   obtain ⟨ev,hc,he⟩:=GK hF (g:=2) (by simp [Tabs.l,w6])
   refine (Tryz.strconv_Atoi_range ⟨s1.toArray⟩ (by omega) (by rw [hd];exact CL) ev w hc he).mono ?_
   rintro e w' ⟨N,rfl, -, -,hb⟩
   refine ⟨_,rfl, ?_, ?_,hb.block,hb.size,hb.os,hb.tape,hb.output⟩
   · refine .bK _ _ _ rfl fun i a hi=> ?_
     match i,hi with
     |0,hi=>injection hi with hi;subst hi;simp only [hd];exact .int ..
     |1,hi=>injection hi with hi;subst hi;exact .dQ ..
   · intro i a hi
     match i,hi with
     |0,hi=>injection hi with hi;subst hi;trivial
     |1,hi=>injection hi with hi;subst hi;trivial
theorem vY {sep:List UInt8} (h1:sep≠[]):∀(n:Nat) (l:List UInt8),Lib.count l sep=n→(Lib.splitK sep 0 n l).length=n+1
 |0,_,_=>rfl
 |n+1,l,h=>by
  rcases Lib.index_spec l sep with ⟨hi, -⟩|⟨i,hi, -, -, -⟩
  · rw [Lib.count_miss hi] at h;cases h
  · have hc:=Lib.count_hit h1 hi
    unfold Lib.splitK
    rw [if_neg (by rw [hi];simp),List.length_cons,vY h1 n _ (by rw [hi,Int.toNat_natCast];omega)]
def strings_Split (s sep:List UInt8):Option (List (List UInt8)):=if s.length<4294967281∧1≤sep.length then some (Lib.split s sep) else none
theorem iT {s1 s2:List UInt8} {H0:AH} {r0:List (List UInt8)} (h:strings_Split s1 s2=some r0):aG Tryz.prog 80 [(.str s1),(.str s2)] H0 fun v H'=>v=(.sl .n 1 (ml AV.str r0))∧H'=H0:=by
 unfold strings_Split at h
 obtain ⟨⟨hs,hs2⟩,h⟩:=TP h
 injection h with h
 subst h
 refine aG.Vt (by kernel_rfl) fun F C γ w vs hF hl hv=> ?_
 obtain rfl:=args2 hl (hv 0 _ rfl).eN (hv 1 _ rfl).eN
 obtain ⟨m,hm⟩:=Sj hF
 have hsz:(⟨s1.toArray⟩:ByteArray).size=s1.length:=by simp [ByteArray.size]
 have afc:(⟨s2.toArray⟩:ByteArray).size=s2.length:=by simp [ByteArray.size]
 refine (Tryz.strings_Split ⟨s1.toArray⟩ ⟨s2.toArray⟩ m w (by omega) hm (by omega)).mono ?_
 rintro e w' ⟨rfl,rfl⟩
 have hd:(Lib.splitB ⟨s2.toArray⟩ 0 (Lib.countB ⟨s1.toArray⟩ ⟨s2.toArray⟩) ⟨s1.toArray⟩).map (·.data.toList)=Lib.split s1 s2:=by
  rw [Lib.splitB_data];simp [Lib.split,Lib.countB]
 have hlen:(Lib.split s1 s2).length=Lib.countB ⟨s1.toArray⟩ ⟨s2.toArray⟩+1:=by
  exact vY (by intro h;rw [h] at hs2;simp at hs2) _ _ rfl
 refine ⟨9,(0,0),by rw [hlen], ?_,by simp⟩
 rw [←hd,List.map_map]
 congr 3
end Go.Proofs.cL
end
section
set_option maxRecDepth 100000
namespace Go.Proofs.cL
open Go Go.Am Go.Proofs
open Nat renaming reduceEqDiff→nA,reduceLT→nB,reduceLeDiff→nC,reduceAdd→nD,reduceSub→nE,reduceMul→nF,reduceBEq→nG
set_option maxHeartbeats 2000000
structure aJ where
 au:List UInt8
 domain:List UInt8
 deriving DecidableEq
structure bl where
 ct:aJ
 state:Int
 tries:Int
 next:Int
 code:Int
 why:List UInt8
 deriving DecidableEq
structure ak where
 av:aJ
 born:Int
 size:Int
 sum:Int
 az:List bl
 deriving DecidableEq
structure aT where
 b:List UInt8
 deriving DecidableEq
structure aN where
 b:List UInt8
 err:Int
 deriving DecidableEq
structure aO where
 b:List UInt8
 ei:Int
 err:Int
 deriving DecidableEq
abbrev aC (x:bl):AV:= .agg [(.str x.ct.au),(.str x.ct.domain),(.int .i64 x.state),(.int .i64 x.tries),(.int .i64 x.next),(.int .i64 x.code),(.str x.why)]
abbrev Ir:aD:=(.seq (.rg [(aj 1 (.box (.t 0))),(aj 2 (.aY (.c (.bool false))))]) (.seq (.rg [(aj 3 (.ld (.t 1) (some 2))),(aj 4 (.build [(.str []),(.str [])] [])),(aj 5 (.seq [.s, .s] false (.t 3) (.t 4))),(bk 2 5)]) .ret))
theorem Is:bw Tryz.prog 62 6 [(.tmp 2)] (erase Ir):=⟨Tryz.f62,_,rfl,by decide,rfl,by kernel_rfl,rfl,rfl⟩
abbrev Iu:List Nat:=[0,1,2]
def pO (a1:aJ):Option (Bool):=
 some (decide (a1.au=([]:List UInt8))&&decide (a1.domain=([]:List UInt8)))
theorem FJ {a1:aJ} {H0:AH} {aM:Bool} (h:pO a1=some aM):
 aG Tryz.prog 62 [(.agg [(.str a1.au),(.str a1.domain)])] H0 fun v H'=>v=(.bool aM)∧H'=H0:=by
 refine ef Is Iu [] fun hcl K0 aP H hH hfr=> ?_
 clear hH
 have hle:=hfr.le
 rw [pO.eq_1] at h
 refine bV ?_
 obtain rfl:=aK h
 exact aP _ _ _ bG (bp (Fr.app hfr) hcl (bD bx (.bool (decide (a1.au=([]:List UInt8))&&decide (a1.domain=([]:List UInt8))))) bB bt ⟨rfl,rfl⟩)
abbrev pP:aD:=(.rg [(aA 3 0),(aj 4 (.bin .geq (.t 3) (.c (b8 32)))),(aA 5 4),(aF 6 (.mv (.t 0)) 5 true),(aF 7 (.bin .leq (.t 6) (.c (b8 126))) 5 true),(aj 8 (.pick (.t 5) (.t 7) (.c (.bool false)))),(bk 2 8)])
abbrev CM:aD:=(.seq (.rg [(aj 2 (.aY (.c (.bool false))))]) (.seq (.sem (erase pP)) .ret))
theorem CN:bw Tryz.prog 76 9 [(.tmp 2)] (erase CM):=⟨Tryz.f76,_,rfl,by decide,rfl,by kernel_rfl,rfl,rfl⟩
abbrev uD:List Nat:=[0,2]
def nh (c1:UInt8):Option (Bool):=
 some ((decide (32≤c1))&&(decide (c1≤126)))
theorem xh {c1:UInt8} {H:AH} {K:Exit→Env→AH→Prop}
 (kn:K .normal [(2,(.bool ((decide (32≤c1))&&(decide (c1≤126)))))] H):
 AX Tryz.prog uD 9 H.length (erase pP) K [(0,(b8 c1)),(2,(.bool false))] H:=by
 refine dz fun K' hK=> ?_
 refine aS ?_
 refine jZ (fun hy1=> ?_) fun hy1=> ?_
 · refine bO hy1 ?_
   exact hK _ _ _ _ _ (dy hy1) ax kn
 · refine bO hy1 ?_
   exact hK _ _ _ _ _ (dy hy1) ax kn
theorem Bz {c1:UInt8} {H0:AH} {aM:Bool} (h:nh c1=some aM):
 aG Tryz.prog 76 [(b8 c1)] H0 fun v H'=>v=(.bool aM)∧H'=H0:=by
 refine gx CN uD fun hcl K0 aP=> ?_
 rw [nh.eq_1] at h
 refine aS ?_
 refine cg ax (xh (c1:=c1) ?_)
 refine aS ?_
 obtain rfl:=aK h
 exact aP _ _ _ bG (aW hcl (bD bx (.bool ((decide (32≤c1))&&(decide (c1≤126))))) bB bt ⟨rfl,rfl⟩)
abbrev ow:aD:=(.seq (.rg [(aj 9 (.bin .lss (.t 8) (.t 7)))]) (.seq (.cond (.t 9) .skip (.exit 0)) (.seq (.blk 1 (.seq (.rg [(aA 10 8),(bk 5 10)]) (.seq (.rg [(aA 11 1),(aA 12 0),(aA 13 5),(aj 14 (.ixs (.t 12) (.t 13))),(aj 15 (.call (.t 11) [(.t 14)])),(aj 16 (.un .not (.t 15)))]) (.cond (.t 16) (.seq (.rg [(aj 4 (.aY (.c (.bool false))))]) .ret) .skip)))) (.rg [(aj 17 (.bin .add (.t 8) (.c (.int .i64 1)))),(aA 8 17)]))))
abbrev CO:aD:=(.seq (.rg [(aj 4 (.aY (.c (.bool false))))]) (.seq (.seq (.rg [(aA 6 0),(aj 7 (.lens (.t 6))),(aj 8 (.mv (.c (.int .i64 0))))]) (.blk 0 (.loop (erase ow)))) (.seq (.rg [(aj 4 (.aY (.c (.bool true))))]) .ret)))
theorem CP:bw Tryz.prog 75 18 [(.tmp 4)] (erase CO):=⟨Tryz.f75,_,rfl,by decide,rfl,by kernel_rfl,rfl,rfl⟩
abbrev uE:List Nat:=[0,1,4,5,7,8,9,16]
def eD (s1:List UInt8):(Bool×Int)→Option (St Bool Unit (Bool×Int))
 |(t2,t3)=>
  (if (decide (t3<(s1.length:Int))) then
   (idx s1 t3).bind fun x4=>
   (nh x4).bind fun r5=>
   (if (!r5) then
    some (.ret false)
   else
    some (.cT (t2,(IntKind.wrap .i64 (t3+1)))))
  else
   some (.fI ()))
def j0 (F:Nat) (s1:List UInt8):Option (Bool):=
 ((iter (eD s1) F (false,0)).bind fun o8=>
 match o8 with
 | .inr ()=>
   some true
 | .inl r7=>
   some r7)
theorem xj {F:Nat} {t3:Int} {s1:List UInt8} {t2:Bool} {H:AH} {K:Exit→Env→AH→Prop} {o:(Bool)⊕(Unit)}
 (h:iter (eD s1) F (t2,t3)=some o)
 (dj:∀o':Unit,o= .inr o'→K (.exit 0) [] H)
 (kr:∀o':Bool,o= .inl o'→K .ret [(4,(.bool o'))] H):
 AX Tryz.prog uE 18 H.length (.loop (erase ow)) K [(0,(.str s1)),(1,(.fn 76 [])),(4,(.bool t2)),(7,(.int .i64 (s1.length:Int))),(8,(.int .i64 t3))] H:=by
 refine iZ (fun s e H1=>match s with|(t2,t3)=>e=[(0,(.str s1)),(1,(.fn 76 [])),(4,(.bool t2)),(7,(.int .i64 (s1.length:Int))),(8,(.int .i64 t3))]∧H1=H) h ⟨rfl,rfl⟩ ?_
 rintro K' ⟨t2,t3⟩ st e H ⟨rfl,rfl⟩ h hN hB hR hX
 rw [eD.eq_1] at h
 refine aS ?_
 refine b7 h (fun hy1 h=> ?_) fun hy1 h=> ?_
 · obtain ⟨x4,bf,h⟩:=ay h
   refine bO bf ?_
   obtain ⟨r5,bz,h⟩:=ay h
   refine bg ax (Bz bz) ?_
   refine aS ?_
   refine b7 h (fun bu h=> ?_) fun bu h=> ?_
   · refine aS ?_
     obtain rfl:=aK h
     exact hX _ _ _ _ _ eK aZ ax (kr _ (hR _ rfl))
   · refine aS ?_
     obtain rfl:=aK h
     exact hN _ rfl _ _ _ _ aZ ax ⟨rfl,rfl⟩
 · refine aS ?_
   obtain rfl:=aK h
   exact hX _ _ _ _ _ eK WE.nil ax (dj _ (hB _ rfl))
theorem BA {F:Nat} {s1:List UInt8} {H0:AH} {aM:Bool} (h:j0 F s1=some aM):
 aG Tryz.prog 75 [(.str s1),(.fn 76 [])] H0 fun v H'=>v=(.bool aM)∧H'=H0:=by
 refine gx CP uE fun hcl K0 aP=> ?_
 rw [j0.eq_1] at h
 refine aS ?_
 obtain ⟨o8,bW,h⟩:=ay h
 refine cg ax (xj bW ?_ ?_)
 · rintro ⟨⟩ rfl
   try dsimp only at h
   refine aS ?_
   obtain rfl:=aK h
   exact aP _ _ _ bG (aW hcl (bD bx (.bool true)) bB bt ⟨rfl,rfl⟩)
 · rintro r7 rfl
   try dsimp only at h
   refine aS ?_
   obtain rfl:=aK h
   exact aP _ _ _ bG (aW hcl (bD bx (.bool r7)) bB bt ⟨rfl,rfl⟩)
abbrev sV:aD:=(.rg [(aA 3 0),(aj 4 (.bin .neq (.t 3) (.c (.str [])))),(aA 5 4),(aF 6 (.mv (.t 0)) 5 true),(aF 7 (.lens (.t 6)) 5 true),(aF 8 (.bin .leq (.t 7) (.c (.int .i64 64))) 5 true),(aj 9 (.pick (.t 5) (.t 8) (.c (.bool false)))),(aA 10 9),(aF 11 (.mv (.t 0)) 10 true),(aF 12 (.call (.c (.fn 75 [])) [(.t 11),(.c (.fn 76 []))]) 10 true),(aj 13 (.pick (.t 10) (.t 12) (.c (.bool false)))),(bk 2 13)])
abbrev FK:aD:=(.seq (.rg [(aj 2 (.aY (.c (.bool false))))]) (.seq (.sem (erase sV)) .ret))
theorem FM:bw Tryz.prog 63 14 [(.tmp 2)] (erase FK):=⟨Tryz.f63,_,rfl,by decide,rfl,by kernel_rfl,rfl,rfl⟩
abbrev xX:List Nat:=[0,2]
def lR (F:Nat) (s1:List UInt8):Option (Bool):=
 (if (!decide (s1=([]:List UInt8))) then
  (if (decide ((s1.length:Int)≤64)) then
   (j0 F s1).bind fun r2=>some r2
  else
   some false)
 else
  some false)
def nK (F:Nat) (s1:List UInt8):Option (Bool):=
 (lR F s1).bind fun t4=>
 some t4
theorem Ac {F:Nat} {s1:List UInt8} {H:AH} {K:Exit→Env→AH→Prop} {t3:Bool}
 (h:lR F s1=some t3)
 (kn:K .normal [(2,(.bool t3))] H):
 AX Tryz.prog xX 14 H.length (erase sV) K [(0,(.str s1)),(2,(.bool false))] H:=by
 refine dz fun K' hK=> ?_
 rw [lR.eq_1] at h
 refine aS ?_
 refine cr h (fun hy1 h=> ?_) fun hy1 h=> ?_
 · refine bO hy1 ?_
   refine cr h (fun bf h=> ?_) fun bf h=> ?_
   · refine bO bf ?_
     obtain ⟨r2,bz,h⟩:=ay h
     refine bg ax (BA bz) ?_
     refine aS ?_
     obtain rfl:=aK h
     exact hK _ _ _ _ _ aZ ax kn
   · refine bO bf ?_
     obtain rfl:=aK h
     exact hK _ _ _ _ _ aZ ax kn
 · refine bO hy1 ?_
   obtain rfl:=aK h
   exact hK _ _ _ _ _ aZ ax kn
theorem Ec {F:Nat} {s1:List UInt8} {H0:AH} {aM:Bool} (h:nK F s1=some aM):
 aG Tryz.prog 63 [(.str s1)] H0 fun v H'=>v=(.bool aM)∧H'=H0:=by
 refine gx FM xX fun hcl K0 aP=> ?_
 rw [nK.eq_1] at h
 refine aS ?_
 obtain ⟨t4,bu,h⟩:=ay h
 refine cg ax (Ac bu ?_)
 refine aS ?_
 obtain rfl:=aK h
 exact aP _ _ _ bG (aW hcl (bD bx (.bool t4)) bB bt ⟨rfl,rfl⟩)
abbrev ru:aD:=(.rg [(aA 10 4),(aj 11 (.iq false (.t 10) (.c (.v .nilIface)))),(aA 12 11),(aF 13 (.mv (.t 3)) 12 true),(aF 14 (.bin .geq (.t 13) (.c (.int .i64 0))) 12 true),(aj 15 (.pick (.t 12) (.t 14) (.c (.bool false)))),(aA 16 15),(aF 17 (.mv (.t 3)) 16 true),(aF 18 (.bin .leq (.t 17) (.c (.int .i64 255))) 16 true),(aj 19 (.pick (.t 16) (.t 18) (.c (.bool false)))),(aA 20 19),(aF 21 (.mv (.t 3)) 20 true),(aF 22 (.call (.c (.fn 98 [])) [(.t 21)]) 20 true),(aF 23 (.mv (.t 0)) 20 true),(aF 24 (.bin .eql (.t 22) (.t 23)) 20 true),(aj 25 (.pick (.t 20) (.t 24) (.c (.bool false)))),(bk 2 25)])
abbrev Ed:aD:=(.seq (.rg [(aj 2 (.aY (.c (.bool false))))]) (.seq (.rg [(aA 6 0),(aj 7 (.call (.c (.fn 97 [])) [(.t 6)])),(aA 5 7),(aj 8 (.ext (.t 5) 0)),(aj 9 (.ext (.t 5) 1)),(bk 3 8),(bk 4 9)]) (.seq (.sem (erase ru)) .ret)))
theorem Ee:bw Tryz.prog 87 26 [(.tmp 2)] (erase Ed):=⟨Tryz.f87,_,rfl,by decide,rfl,by kernel_rfl,rfl,rfl⟩
abbrev vZ:List Nat:=[0,2,3,4]
def fZ (r3:Bool) (r2:Int) (s1:List UInt8):Option (Bool):=
 (if (!r3) then
  (if (decide (0≤r2)) then
   (if (decide (r2≤255)) then
    (strconv_Itoa r2).bind fun r4=>some (decide (r4=s1))
   else
    some false)
  else
   some false)
 else
  some false)
def jx (s1:List UInt8):Option (Bool):=
 (strconv_Atoi s1).bind fun (r2,r3)=>(fZ r3 r2 s1).bind fun t6=>
 some t6
theorem yu {r3:Bool} {r2:Int} {s1:List UInt8} {H:AH} {K:Exit→Env→AH→Prop} {t5:Bool}
 (h:fZ r3 r2 s1=some t5)
 (kn:K .normal [(2,(.bool t5))] H):
 AX Tryz.prog vZ 26 H.length (erase ru) K [(0,(.str s1)),(2,(.bool false)),(3,(.int .i64 r2)),(4,(dS r3))] H:=by
 refine dz fun K' hK=> ?_
 rw [fZ.eq_1] at h
 refine aS ?_
 refine cr h (fun bf h=> ?_) fun bf h=> ?_
 · refine bO bf ?_
   refine cr h (fun bz h=> ?_) fun bz h=> ?_
   · refine bO bz ?_
     refine cr h (fun bu h=> ?_) fun bu h=> ?_
     · refine bO bu ?_
       obtain ⟨r4,bW,h⟩:=ay h
       refine bg ax (By (i1:=r2) bW) ?_
       refine aS ?_
       obtain rfl:=aK h
       exact hK _ _ _ _ _ aZ ax kn
     · refine bO bu ?_
       obtain rfl:=aK h
       exact hK _ _ _ _ _ aZ ax kn
   · refine bO bz ?_
     obtain rfl:=aK h
     exact hK _ _ _ _ _ aZ ax kn
 · refine bO bf ?_
   obtain rfl:=aK h
   exact hK _ _ _ _ _ aZ ax kn
theorem CQ {s1:List UInt8} {H0:AH} {aM:Bool} (h:jx s1=some aM):
 aG Tryz.prog 87 [(.str s1)] H0 fun v H'=>v=(.bool aM)∧H'=H0:=by
 refine gx Ee vZ fun hcl K0 aP=> ?_
 rw [jx.eq_1] at h
 refine aS ?_
 obtain ⟨⟨r2,r3⟩,hy1,h⟩:=ay h
 dsimp only at h
 refine bg ax (strconv_Atoi_ok (s1:=s1) hy1) ?_
 refine aS ?_
 obtain ⟨t6,cw,h⟩:=ay h
 refine cg ax (yu cw ?_)
 refine aS ?_
 obtain rfl:=aK h
 exact aP _ _ _ bG (aW hcl (bD bx (.bool t6)) bB bt ⟨rfl,rfl⟩)
abbrev BB:aD:=(.seq (.rg [(aj 2 (.aY (.c (.bool false))))]) (.seq (.rg [(aA 3 0),(aj 4 (.call (.c (.fn 87 [])) [(.t 3)])),(aj 5 (.un .not (.t 4))),(bk 2 5)]) .ret))
theorem BC:bw Tryz.prog 86 6 [(.tmp 2)] (erase BB):=⟨Tryz.f86,_,rfl,by decide,rfl,by kernel_rfl,rfl,rfl⟩
abbrev BD:List Nat:=[0,2]
def je (x1:List UInt8):Option (Bool):=
 (jx x1).bind fun r2=>some (!r2)
theorem Ad {x1:List UInt8} {H0:AH} {aM:Bool} (h:je x1=some aM):
 aG Tryz.prog 86 [(.str x1)] H0 fun v H'=>v=(.bool aM)∧H'=H0:=by
 refine gx BC BD fun hcl K0 aP=> ?_
 rw [je.eq_1] at h
 refine aS ?_
 obtain ⟨r2,hy1,h⟩:=ay h
 refine bg ax (CQ hy1) ?_
 refine aS ?_
 obtain rfl:=aK h
 exact aP _ _ _ bG (aW hcl (bD bx (.bool (!r2))) bB bt ⟨rfl,rfl⟩)
abbrev jL:aD:=(.seq (.rg [(aj 9 (.bin .lss (.t 8) (.t 7)))]) (.seq (.cond (.t 9) .skip (.exit 0)) (.seq (.blk 1 (.seq (.rg [(aA 10 8),(bk 5 10)]) (.seq (.rg [(aA 11 1),(aA 12 0),(aA 13 5),(aj 14 (.lC 1 (.t 12) (.t 13))),(aj 15 (.ld (.t 14) none)),(aj 16 (.call (.t 11) [(.t 15)]))]) (.cond (.t 16) (.seq (.rg [(aA 17 5),(bk 4 17)]) .ret) .skip)))) (.rg [(aj 18 (.bin .add (.t 8) (.c (.int .i64 1)))),(aA 8 18)]))))
abbrev vb:aD:=(.seq (.rg [(aj 4 (.aY (.c (.int .i64 0))))]) (.seq (.seq (.rg [(aA 6 0),(aj 7 (.len (.t 6))),(aj 8 (.mv (.c (.int .i64 0))))]) (.blk 0 (.loop (erase jL)))) (.seq (.rg [(aj 4 (.aY (.c (.int .i64 (-1)))))]) .ret)))
theorem vc:bw Tryz.prog 90 19 [(.tmp 4)] (erase vb):=⟨Tryz.f90,_,rfl,by decide,rfl,by kernel_rfl,rfl,rfl⟩
abbrev mJ:List Nat:=[0,1,4,5,7,8,9,16]
def cP (s1:List (List UInt8)):(Int×Int)→Option (St Int Unit (Int×Int))
 |(t2,t3)=>
  (if (decide (t3<(s1.length:Int))) then
   (idx s1 t3).bind fun x4=>
   (je x4).bind fun r5=>
   (if r5 then
    some (.ret t3)
   else
    some (.cT (t2,(IntKind.wrap .i64 (t3+1)))))
  else
   some (.fI ()))
def gF (F:Nat) (s1:List (List UInt8)):Option (Int):=
 ((iter (cP s1) F (0,0)).bind fun o8=>
 match o8 with
 | .inr ()=>
   some (-1)
 | .inl r7=>
   some r7)
theorem qK {F:Nat} {t3:Int} {s1:List (List UInt8)} {t2:Int} {H:AH} {K:Exit→Env→AH→Prop} {o:(Int)⊕(Unit)}
 (h:iter (cP s1) F (t2,t3)=some o)
 (dj:∀o':Unit,o= .inr o'→K (.exit 0) [] H)
 (kr:∀o':Int,o= .inl o'→K .ret [(4,(.int .i64 o'))] H):
 AX Tryz.prog mJ 19 H.length (.loop (erase jL)) K [(0,(.sl .n 1 (ml AV.str s1))),(1,(.fn 86 [])),(4,(.int .i64 t2)),(7,(.int .i64 (s1.length:Int))),(8,(.int .i64 t3))] H:=by
 refine iZ (fun s e H1=>match s with|(t2,t3)=>e=[(0,(.sl .n 1 (ml AV.str s1))),(1,(.fn 86 [])),(4,(.int .i64 t2)),(7,(.int .i64 (s1.length:Int))),(8,(.int .i64 t3))]∧H1=H) h ⟨rfl,rfl⟩ ?_
 rintro K' ⟨t2,t3⟩ st e H ⟨rfl,rfl⟩ h hN hB hR hX
 rw [cP.eq_1] at h
 refine aS ?_
 refine b7 h (fun hy1 h=> ?_) fun hy1 h=> ?_
 · obtain ⟨x4,bf,h⟩:=ay h
   refine bO bf ?_
   obtain ⟨r5,bz,h⟩:=ay h
   refine bg ax (Ad bz) ?_
   refine aS ?_
   refine b7 h (fun bu h=> ?_) fun bu h=> ?_
   · refine aS ?_
     obtain rfl:=aK h
     exact hX _ _ _ _ _ eK aZ ax (kr _ (hR _ rfl))
   · refine aS ?_
     obtain rfl:=aK h
     exact hN _ rfl _ _ _ _ aZ ax ⟨rfl,rfl⟩
 · refine aS ?_
   obtain rfl:=aK h
   exact hX _ _ _ _ _ eK WE.nil ax (dj _ (hB _ rfl))
theorem tY {F:Nat} {s1:List (List UInt8)} {H0:AH} {aM:Int} (h:gF F s1=some aM):
 aG Tryz.prog 90 [(.sl .n 1 (ml AV.str s1)),(.fn 86 [])] H0 fun v H'=>v=(.int .i64 aM)∧H'=H0:=by
 refine gx vc mJ fun hcl K0 aP=> ?_
 rw [gF.eq_1] at h
 refine aS ?_
 obtain ⟨o8,bW,h⟩:=ay h
 refine cg ax (qK bW ?_ ?_)
 · rintro ⟨⟩ rfl
   try dsimp only at h
   refine aS ?_
   obtain rfl:=aK h
   exact aP _ _ _ bG (aW hcl (bD bx (.int .i64 (-1))) bB bt ⟨rfl,rfl⟩)
 · rintro r7 rfl
   try dsimp only at h
   refine aS ?_
   obtain rfl:=aK h
   exact aP _ _ _ bG (aW hcl (bD bx (.int .i64 r7)) bB bt ⟨rfl,rfl⟩)
abbrev sw:aD:=(.seq (.rg [(aj 4 (.aY (.c (.bool false))))]) (.seq (.rg [(aA 5 0),(aA 6 1),(aj 7 (.call (.c (.fn 90 [])) [(.t 5),(.t 6)])),(aj 8 (.bin .geq (.t 7) (.c (.int .i64 0)))),(bk 4 8)]) .ret))
theorem sx:bw Tryz.prog 79 9 [(.tmp 4)] (erase sw):=⟨Tryz.f79,_,rfl,by decide,rfl,by kernel_rfl,rfl,rfl⟩
abbrev sy:List Nat:=[0,1,4]
def dU (F:Nat) (s1:List (List UInt8)):Option (Bool):=
 (gF F s1).bind fun r2=>some (decide (0≤r2))
theorem qM {F:Nat} {s1:List (List UInt8)} {H0:AH} {aM:Bool} (h:dU F s1=some aM):
 aG Tryz.prog 79 [(.sl .n 1 (ml AV.str s1)),(.fn 86 [])] H0 fun v H'=>v=(.bool aM)∧H'=H0:=by
 refine gx sx sy fun hcl K0 aP=> ?_
 rw [dU.eq_1] at h
 refine aS ?_
 obtain ⟨r2,hy1,h⟩:=ay h
 refine bg ax (tY hy1) ?_
 refine aS ?_
 obtain rfl:=aK h
 exact aP _ _ _ bG (aW hcl (bD bx (.bool (decide (0≤r2)))) bB bt ⟨rfl,rfl⟩)
abbrev ry:aD:=(.rg [(aA 3 0),(aj 4 (.bin .or (.t 3) (.c (b8 32)))),(aj 5 (.bin .geq (.t 4) (.c (b8 97)))),(aA 6 5),(aF 7 (.mv (.t 0)) 6 true),(aF 8 (.bin .or (.t 7) (.c (b8 32))) 6 true),(aF 9 (.bin .leq (.t 8) (.c (b8 122))) 6 true),(aj 10 (.pick (.t 6) (.t 9) (.c (.bool false)))),(aA 11 10),(aF 12 (.mv (.t 0)) 11 false),(aF 13 (.bin .geq (.t 12) (.c (b8 48))) 11 false),(aF 14 (.mv (.t 13)) 11 false),(aF 15 (.mv (.t 0)) 14 true),(aF 16 (.bin .leq (.t 15) (.c (b8 57))) 14 true),(aF 17 (.pick (.t 14) (.t 16) (.c (.bool false))) 11 false),(aj 18 (.pick (.t 11) (.c (.bool true)) (.t 17))),(bk 2 18)])
abbrev Ef:aD:=(.seq (.rg [(aj 2 (.aY (.c (.bool false))))]) (.seq (.sem (erase ry)) .ret))
theorem Eg:bw Tryz.prog 100 19 [(.tmp 2)] (erase Ef):=⟨Tryz.f100,_,rfl,by decide,rfl,by kernel_rfl,rfl,rfl⟩
abbrev v7:List Nat:=[0,2]
def jy (c1:UInt8):Option (Bool):=
 some (((decide (97≤(c1 ||| 32)))&&(decide ((c1 ||| 32)≤122)))||((decide (48≤c1))&&(decide (c1≤57))))
theorem yw {c1:UInt8} {H:AH} {K:Exit→Env→AH→Prop}
 (kn:K .normal [(2,(.bool (((decide (97≤(c1 ||| 32)))&&(decide ((c1 ||| 32)≤122)))||((decide (48≤c1))&&(decide (c1≤57))))))] H):
 AX Tryz.prog v7 19 H.length (erase ry) K [(0,(b8 c1)),(2,(.bool false))] H:=by
 refine dz fun K' hK=> ?_
 refine aS ?_
 refine jZ (fun hy1=> ?_) fun hy1=> ?_
 · refine bO hy1 ?_
   refine jZ (fun bf=> ?_) fun bf=> ?_
   · refine bO bf ?_
     exact hK _ _ _ _ _ (dy (aB hy1 bf)) ax kn
   · refine bO bf ?_
     refine jZ (fun bz=> ?_) fun bz=> ?_
     · refine bO bz ?_
       exact hK _ _ _ _ _ (dy (aB hy1 (aB bf bz))) ax kn
     · refine bO bz ?_
       exact hK _ _ _ _ _ (dy (aB hy1 (aB bf bz))) ax kn
 · refine bO hy1 ?_
   refine jZ (fun bu=> ?_) fun bu=> ?_
   · refine bO bu ?_
     exact hK _ _ _ _ _ (dy (aB hy1 bu)) ax kn
   · refine bO bu ?_
     exact hK _ _ _ _ _ (dy (aB hy1 bu)) ax kn
theorem uF {c1:UInt8} {H0:AH} {aM:Bool} (h:jy c1=some aM):
 aG Tryz.prog 100 [(b8 c1)] H0 fun v H'=>v=(.bool aM)∧H'=H0:=by
 refine gx Eg v7 fun hcl K0 aP=> ?_
 rw [jy.eq_1] at h
 refine aS ?_
 refine cg ax (yw (c1:=c1) ?_)
 refine aS ?_
 obtain rfl:=aK h
 exact aP _ _ _ bG (aW hcl (bD bx (.bool (((decide (97≤(c1 ||| 32)))&&(decide ((c1 ||| 32)≤122)))||((decide (48≤c1))&&(decide (c1≤57)))))) bB bt ⟨rfl,rfl⟩)
abbrev pQ:aD:=(.rg [(aA 3 0),(aj 4 (.call (.c (.fn 100 [])) [(.t 3)])),(aA 5 4),(aF 6 (.mv (.t 0)) 5 false),(aF 7 (.bin .eql (.t 6) (.c (b8 45))) 5 false),(aj 8 (.pick (.t 5) (.c (.bool true)) (.t 7))),(bk 2 8)])
abbrev CS:aD:=(.seq (.rg [(aj 2 (.aY (.c (.bool false))))]) (.seq (.sem (erase pQ)) .ret))
theorem CT:bw Tryz.prog 99 9 [(.tmp 2)] (erase CS):=⟨Tryz.f99,_,rfl,by decide,rfl,by kernel_rfl,rfl,rfl⟩
abbrev uG:List Nat:=[0,2]
def mU (c1:UInt8):Option (Bool):=
 (jy c1).bind fun r2=>(if r2 then
  some true
 else
  some (decide (c1=45)))
def j3 (c1:UInt8):Option (Bool):=
 (mU c1).bind fun t4=>
 some t4
theorem xk {c1:UInt8} {H:AH} {K:Exit→Env→AH→Prop} {t3:Bool}
 (h:mU c1=some t3)
 (kn:K .normal [(2,(.bool t3))] H):
 AX Tryz.prog uG 9 H.length (erase pQ) K [(0,(b8 c1)),(2,(.bool false))] H:=by
 refine dz fun K' hK=> ?_
 rw [mU.eq_1] at h
 refine aS ?_
 obtain ⟨r2,hy1,h⟩:=ay h
 refine bg ax (uF hy1) ?_
 refine aS ?_
 refine cr h (fun bf h=> ?_) fun bf h=> ?_
 · refine bO bf ?_
   obtain rfl:=aK h
   exact hK _ _ _ _ _ aZ ax kn
 · refine bO bf ?_
   obtain rfl:=aK h
   exact hK _ _ _ _ _ aZ ax kn
theorem BF {c1:UInt8} {H0:AH} {aM:Bool} (h:j3 c1=some aM):
 aG Tryz.prog 99 [(b8 c1)] H0 fun v H'=>v=(.bool aM)∧H'=H0:=by
 refine gx CT uG fun hcl K0 aP=> ?_
 rw [j3.eq_1] at h
 refine aS ?_
 obtain ⟨t4,bz,h⟩:=ay h
 refine cg ax (xk bz ?_)
 refine aS ?_
 obtain rfl:=aK h
 exact aP _ _ _ bG (aW hcl (bD bx (.bool t4)) bB bt ⟨rfl,rfl⟩)
abbrev nL:aD:=(.seq (.rg [(aj 9 (.bin .lss (.t 8) (.t 7)))]) (.seq (.cond (.t 9) .skip (.exit 0)) (.seq (.blk 1 (.seq (.rg [(aA 10 8),(bk 5 10)]) (.seq (.rg [(aA 11 1),(aA 12 0),(aA 13 5),(aj 14 (.ixs (.t 12) (.t 13))),(aj 15 (.call (.t 11) [(.t 14)])),(aj 16 (.un .not (.t 15)))]) (.cond (.t 16) (.seq (.rg [(aj 4 (.aY (.c (.bool false))))]) .ret) .skip)))) (.rg [(aj 17 (.bin .add (.t 8) (.c (.int .i64 1)))),(aA 8 17)]))))
abbrev BG:aD:=(.seq (.rg [(aj 4 (.aY (.c (.bool false))))]) (.seq (.seq (.rg [(aA 6 0),(aj 7 (.lens (.t 6))),(aj 8 (.mv (.c (.int .i64 0))))]) (.blk 0 (.loop (erase nL)))) (.seq (.rg [(aj 4 (.aY (.c (.bool true))))]) .ret)))
theorem BH:bw Tryz.prog 75 18 [(.tmp 4)] (erase BG):=⟨Tryz.f75,_,rfl,by decide,rfl,by kernel_rfl,rfl,rfl⟩
abbrev sW:List Nat:=[0,1,4,5,7,8,9,16]
def dV (s1:List UInt8):(Bool×Int)→Option (St Bool Unit (Bool×Int))
 |(t2,t3)=>
  (if (decide (t3<(s1.length:Int))) then
   (idx s1 t3).bind fun x4=>
   (j3 x4).bind fun r5=>
   (if (!r5) then
    some (.ret false)
   else
    some (.cT (t2,(IntKind.wrap .i64 (t3+1)))))
  else
   some (.fI ()))
def jf (F:Nat) (s1:List UInt8):Option (Bool):=
 ((iter (dV s1) F (false,0)).bind fun o8=>
 match o8 with
 | .inr ()=>
   some true
 | .inl r7=>
   some r7)
theorem v8 {F:Nat} {t3:Int} {s1:List UInt8} {t2:Bool} {H:AH} {K:Exit→Env→AH→Prop} {o:(Bool)⊕(Unit)}
 (h:iter (dV s1) F (t2,t3)=some o)
 (dj:∀o':Unit,o= .inr o'→K (.exit 0) [] H)
 (kr:∀o':Bool,o= .inl o'→K .ret [(4,(.bool o'))] H):
 AX Tryz.prog sW 18 H.length (.loop (erase nL)) K [(0,(.str s1)),(1,(.fn 99 [])),(4,(.bool t2)),(7,(.int .i64 (s1.length:Int))),(8,(.int .i64 t3))] H:=by
 refine iZ (fun s e H1=>match s with|(t2,t3)=>e=[(0,(.str s1)),(1,(.fn 99 [])),(4,(.bool t2)),(7,(.int .i64 (s1.length:Int))),(8,(.int .i64 t3))]∧H1=H) h ⟨rfl,rfl⟩ ?_
 rintro K' ⟨t2,t3⟩ st e H ⟨rfl,rfl⟩ h hN hB hR hX
 rw [dV.eq_1] at h
 refine aS ?_
 refine b7 h (fun hy1 h=> ?_) fun hy1 h=> ?_
 · obtain ⟨x4,bf,h⟩:=ay h
   refine bO bf ?_
   obtain ⟨r5,bz,h⟩:=ay h
   refine bg ax (BF bz) ?_
   refine aS ?_
   refine b7 h (fun bu h=> ?_) fun bu h=> ?_
   · refine aS ?_
     obtain rfl:=aK h
     exact hX _ _ _ _ _ eK aZ ax (kr _ (hR _ rfl))
   · refine aS ?_
     obtain rfl:=aK h
     exact hN _ rfl _ _ _ _ aZ ax ⟨rfl,rfl⟩
 · refine aS ?_
   obtain rfl:=aK h
   exact hX _ _ _ _ _ eK WE.nil ax (dj _ (hB _ rfl))
theorem Ae {F:Nat} {s1:List UInt8} {H0:AH} {aM:Bool} (h:jf F s1=some aM):
 aG Tryz.prog 75 [(.str s1),(.fn 99 [])] H0 fun v H'=>v=(.bool aM)∧H'=H0:=by
 refine gx BH sW fun hcl K0 aP=> ?_
 rw [jf.eq_1] at h
 refine aS ?_
 obtain ⟨o8,bW,h⟩:=ay h
 refine cg ax (v8 bW ?_ ?_)
 · rintro ⟨⟩ rfl
   try dsimp only at h
   refine aS ?_
   obtain rfl:=aK h
   exact aP _ _ _ bG (aW hcl (bD bx (.bool true)) bB bt ⟨rfl,rfl⟩)
 · rintro r7 rfl
   try dsimp only at h
   refine aS ?_
   obtain rfl:=aK h
   exact aP _ _ _ bG (aW hcl (bD bx (.bool r7)) bB bt ⟨rfl,rfl⟩)
abbrev sX:aD:=(.rg [(aA 3 0),(aj 4 (.bin .neq (.t 3) (.c (.str [])))),(aA 5 4),(aF 6 (.mv (.t 0)) 5 true),(aF 7 (.ixs (.t 6) (.c (.int .i64 0))) 5 true),(aF 8 (.bin .neq (.t 7) (.c (b8 45))) 5 true),(aj 9 (.pick (.t 5) (.t 8) (.c (.bool false)))),(aA 10 9),(aF 11 (.mv (.t 0)) 10 true),(aF 12 (.mv (.t 0)) 10 true),(aF 13 (.lens (.t 12)) 10 true),(aF 14 (.bin .sub (.t 13) (.c (.int .i64 1))) 10 true),(aF 15 (.ixs (.t 11) (.t 14)) 10 true),(aF 16 (.bin .neq (.t 15) (.c (b8 45))) 10 true),(aj 17 (.pick (.t 10) (.t 16) (.c (.bool false)))),(aA 18 17),(aF 19 (.mv (.t 0)) 18 true),(aF 20 (.call (.c (.fn 75 [])) [(.t 19),(.c (.fn 99 []))]) 18 true),(aj 21 (.pick (.t 18) (.t 20) (.c (.bool false)))),(bk 2 21)])
abbrev FN:aD:=(.seq (.rg [(aj 2 (.aY (.c (.bool false))))]) (.seq (.sem (erase sX)) .ret))
theorem FO:bw Tryz.prog 89 22 [(.tmp 2)] (erase FN):=⟨Tryz.f89,_,rfl,by decide,rfl,by kernel_rfl,rfl,rfl⟩
abbrev xY:List Nat:=[0,2]
def lS (F:Nat) (s1:List UInt8):Option (Bool):=
 (if (!decide (s1=([]:List UInt8))) then
  (idx s1 0).bind fun x2=>
  (if (!decide (x2=45)) then
   (idx s1 (IntKind.wrap .i64 ((s1.length:Int) - 1))).bind fun x3=>
   (if (!decide (x3=45)) then
    (jf F s1).bind fun r4=>some r4
   else
    some false)
  else
   some false)
 else
  some false)
def nM (F:Nat) (s1:List UInt8):Option (Bool):=
 (lS F s1).bind fun t6=>
 some t6
theorem Af {F:Nat} {s1:List UInt8} {H:AH} {K:Exit→Env→AH→Prop} {t5:Bool}
 (h:lS F s1=some t5)
 (kn:K .normal [(2,(.bool t5))] H):
 AX Tryz.prog xY 22 H.length (erase sX) K [(0,(.str s1)),(2,(.bool false))] H:=by
 refine dz fun K' hK=> ?_
 rw [lS.eq_1] at h
 refine aS ?_
 refine cr h (fun hy1 h=> ?_) fun hy1 h=> ?_
 · obtain ⟨x2,bf,h⟩:=ay h
   refine bO (aB hy1 bf) ?_
   refine cr h (fun bz h=> ?_) fun bz h=> ?_
   · obtain ⟨x3,bu,h⟩:=ay h
     refine bO (aB bz bu) ?_
     refine cr h (fun bW h=> ?_) fun bW h=> ?_
     · refine bO bW ?_
       obtain ⟨r4,cw,h⟩:=ay h
       refine bg ax (Ae cw) ?_
       refine aS ?_
       obtain rfl:=aK h
       exact hK _ _ _ _ _ aZ ax kn
     · refine bO bW ?_
       obtain rfl:=aK h
       exact hK _ _ _ _ _ aZ ax kn
   · refine bO bz ?_
     obtain rfl:=aK h
     exact hK _ _ _ _ _ aZ ax kn
 · refine bO hy1 ?_
   obtain rfl:=aK h
   exact hK _ _ _ _ _ aZ ax kn
theorem Eh {F:Nat} {s1:List UInt8} {H0:AH} {aM:Bool} (h:nM F s1=some aM):
 aG Tryz.prog 89 [(.str s1)] H0 fun v H'=>v=(.bool aM)∧H'=H0:=by
 refine gx FO xY fun hcl K0 aP=> ?_
 rw [nM.eq_1] at h
 refine aS ?_
 obtain ⟨t6,dB,h⟩:=ay h
 refine cg ax (Af dB ?_)
 refine aS ?_
 obtain rfl:=aK h
 exact aP _ _ _ bG (aW hcl (bD bx (.bool t6)) bB bt ⟨rfl,rfl⟩)
abbrev BI:aD:=(.seq (.rg [(aj 2 (.aY (.c (.bool false))))]) (.seq (.rg [(aA 3 0),(aj 4 (.call (.c (.fn 89 [])) [(.t 3)])),(aj 5 (.un .not (.t 4))),(bk 2 5)]) .ret))
theorem BJ:bw Tryz.prog 88 6 [(.tmp 2)] (erase BI):=⟨Tryz.f88,_,rfl,by decide,rfl,by kernel_rfl,rfl,rfl⟩
abbrev BK:List Nat:=[0,2]
def jg (F:Nat) (x1:List UInt8):Option (Bool):=
 (nM F x1).bind fun r2=>some (!r2)
theorem Ag {F:Nat} {x1:List UInt8} {H0:AH} {aM:Bool} (h:jg F x1=some aM):
 aG Tryz.prog 88 [(.str x1)] H0 fun v H'=>v=(.bool aM)∧H'=H0:=by
 refine gx BJ BK fun hcl K0 aP=> ?_
 rw [jg.eq_1] at h
 refine aS ?_
 obtain ⟨r2,hy1,h⟩:=ay h
 refine bg ax (Eh hy1) ?_
 refine aS ?_
 obtain rfl:=aK h
 exact aP _ _ _ bG (aW hcl (bD bx (.bool (!r2))) bB bt ⟨rfl,rfl⟩)
abbrev jh:aD:=(.seq (.rg [(aj 9 (.bin .lss (.t 8) (.t 7)))]) (.seq (.cond (.t 9) .skip (.exit 0)) (.seq (.blk 1 (.seq (.rg [(aA 10 8),(bk 5 10)]) (.seq (.rg [(aA 11 1),(aA 12 0),(aA 13 5),(aj 14 (.lC 1 (.t 12) (.t 13))),(aj 15 (.ld (.t 14) none)),(aj 16 (.call (.t 11) [(.t 15)]))]) (.cond (.t 16) (.seq (.rg [(aA 17 5),(bk 4 17)]) .ret) .skip)))) (.rg [(aj 18 (.bin .add (.t 8) (.c (.int .i64 1)))),(aA 8 18)]))))
abbrev tZ:aD:=(.seq (.rg [(aj 4 (.aY (.c (.int .i64 0))))]) (.seq (.seq (.rg [(aA 6 0),(aj 7 (.len (.t 6))),(aj 8 (.mv (.c (.int .i64 0))))]) (.blk 0 (.loop (erase jh)))) (.seq (.rg [(aj 4 (.aY (.c (.int .i64 (-1)))))]) .ret)))
theorem ua:bw Tryz.prog 90 19 [(.tmp 4)] (erase tZ):=⟨Tryz.f90,_,rfl,by decide,rfl,by kernel_rfl,rfl,rfl⟩
abbrev lT:List Nat:=[0,1,4,5,7,8,9,16]
def cD (F:Nat) (s1:List (List UInt8)):(Int×Int)→Option (St Int Unit (Int×Int))
 |(t2,t3)=>
  (if (decide (t3<(s1.length:Int))) then
   (idx s1 t3).bind fun x4=>
   (jg F x4).bind fun r5=>
   (if r5 then
    some (.ret t3)
   else
    some (.cT (t2,(IntKind.wrap .i64 (t3+1)))))
  else
   some (.fI ()))
def gi (F:Nat) (s1:List (List UInt8)):Option (Int):=
 ((iter (cD F s1) F (0,0)).bind fun o8=>
 match o8 with
 | .inr ()=>
   some (-1)
 | .inl r7=>
   some r7)
theorem pR {F:Nat} {t3:Int} {s1:List (List UInt8)} {t2:Int} {H:AH} {K:Exit→Env→AH→Prop} {o:(Int)⊕(Unit)}
 (h:iter (cD F s1) F (t2,t3)=some o)
 (dj:∀o':Unit,o= .inr o'→K (.exit 0) [] H)
 (kr:∀o':Int,o= .inl o'→K .ret [(4,(.int .i64 o'))] H):
 AX Tryz.prog lT 19 H.length (.loop (erase jh)) K [(0,(.sl .n 1 (ml AV.str s1))),(1,(.fn 88 [])),(4,(.int .i64 t2)),(7,(.int .i64 (s1.length:Int))),(8,(.int .i64 t3))] H:=by
 refine iZ (fun s e H1=>match s with|(t2,t3)=>e=[(0,(.sl .n 1 (ml AV.str s1))),(1,(.fn 88 [])),(4,(.int .i64 t2)),(7,(.int .i64 (s1.length:Int))),(8,(.int .i64 t3))]∧H1=H) h ⟨rfl,rfl⟩ ?_
 rintro K' ⟨t2,t3⟩ st e H ⟨rfl,rfl⟩ h hN hB hR hX
 rw [cD.eq_1] at h
 refine aS ?_
 refine b7 h (fun hy1 h=> ?_) fun hy1 h=> ?_
 · obtain ⟨x4,bf,h⟩:=ay h
   refine bO bf ?_
   obtain ⟨r5,bz,h⟩:=ay h
   refine bg ax (Ag bz) ?_
   refine aS ?_
   refine b7 h (fun bu h=> ?_) fun bu h=> ?_
   · refine aS ?_
     obtain rfl:=aK h
     exact hX _ _ _ _ _ eK aZ ax (kr _ (hR _ rfl))
   · refine aS ?_
     obtain rfl:=aK h
     exact hN _ rfl _ _ _ _ aZ ax ⟨rfl,rfl⟩
 · refine aS ?_
   obtain rfl:=aK h
   exact hX _ _ _ _ _ eK WE.nil ax (dj _ (hB _ rfl))
theorem sY {F:Nat} {s1:List (List UInt8)} {H0:AH} {aM:Int} (h:gi F s1=some aM):
 aG Tryz.prog 90 [(.sl .n 1 (ml AV.str s1)),(.fn 88 [])] H0 fun v H'=>v=(.int .i64 aM)∧H'=H0:=by
 refine gx ua lT fun hcl K0 aP=> ?_
 rw [gi.eq_1] at h
 refine aS ?_
 obtain ⟨o8,bW,h⟩:=ay h
 refine cg ax (pR bW ?_ ?_)
 · rintro ⟨⟩ rfl
   try dsimp only at h
   refine aS ?_
   obtain rfl:=aK h
   exact aP _ _ _ bG (aW hcl (bD bx (.int .i64 (-1))) bB bt ⟨rfl,rfl⟩)
 · rintro r7 rfl
   try dsimp only at h
   refine aS ?_
   obtain rfl:=aK h
   exact aP _ _ _ bG (aW hcl (bD bx (.int .i64 r7)) bB bt ⟨rfl,rfl⟩)
abbrev qN:aD:=(.seq (.rg [(aj 4 (.aY (.c (.bool false))))]) (.seq (.rg [(aA 5 0),(aA 6 1),(aj 7 (.call (.c (.fn 90 [])) [(.t 5),(.t 6)])),(aj 8 (.bin .geq (.t 7) (.c (.int .i64 0)))),(bk 4 8)]) .ret))
theorem qO:bw Tryz.prog 79 9 [(.tmp 4)] (erase qN):=⟨Tryz.f79,_,rfl,by decide,rfl,by kernel_rfl,rfl,rfl⟩
abbrev qP:List Nat:=[0,1,4]
def dJ (F:Nat) (s1:List (List UInt8)):Option (Bool):=
 (gi F s1).bind fun r2=>some (decide (0≤r2))
theorem pS {F:Nat} {s1:List (List UInt8)} {H0:AH} {aM:Bool} (h:dJ F s1=some aM):
 aG Tryz.prog 79 [(.sl .n 1 (ml AV.str s1)),(.fn 88 [])] H0 fun v H'=>v=(.bool aM)∧H'=H0:=by
 refine gx qO qP fun hcl K0 aP=> ?_
 rw [dJ.eq_1] at h
 refine aS ?_
 obtain ⟨r2,hy1,h⟩:=ay h
 refine bg ax (sY hy1) ?_
 refine aS ?_
 obtain rfl:=aK h
 exact aP _ _ _ bG (aW hcl (bD bx (.bool (decide (0≤r2)))) bB bt ⟨rfl,rfl⟩)
abbrev rz:aD:=(.rg [(aA 4 0),(aj 5 (.lens (.t 4))),(aj 6 (.bin .gtr (.t 5) (.c (.int .i64 1)))),(aA 7 6),(aF 8 (.mv (.t 0)) 7 true),(aF 9 (.ixs (.t 8) (.c (.int .i64 0))) 7 true),(aF 10 (.bin .eql (.t 9) (.c (b8 91))) 7 true),(aj 11 (.pick (.t 7) (.t 10) (.c (.bool false)))),(aA 12 11),(aF 13 (.mv (.t 0)) 12 true),(aF 14 (.mv (.t 0)) 12 true),(aF 15 (.lens (.t 14)) 12 true),(aF 16 (.bin .sub (.t 15) (.c (.int .i64 1))) 12 true),(aF 17 (.ixs (.t 13) (.t 16)) 12 true),(aF 18 (.bin .eql (.t 17) (.c (b8 93))) 12 true),(aj 19 (.pick (.t 12) (.t 18) (.c (.bool false))))])
abbrev rA:aD:=(.rg [(aA 26 3),(aj 27 (.len (.t 26))),(aj 28 (.bin .eql (.t 27) (.c (.int .i64 4)))),(aA 29 28),(aF 30 (.mv (.t 3)) 29 true),(aF 31 (.call (.c (.fn 79 [])) [(.t 30),(.c (.fn 86 []))]) 29 true),(aF 32 (.un .not (.t 31)) 29 true),(aj 33 (.pick (.t 29) (.t 32) (.c (.bool false)))),(bk 2 33)])
abbrev Ei:aD:=(.seq (.rg [(aj 2 (.aY (.c (.bool false))))]) (.seq (.seq (.sem (erase rz)) (.cond (.t 19) (.seq (.rg [(aA 20 0),(aA 21 0),(aj 22 (.lens (.t 21))),(aj 23 (.bin .sub (.t 22) (.c (.int .i64 1)))),(aj 24 (.Jf (.t 20) (some (.c (.int .i64 1))) (some (.t 23)))),(aj 25 (.call (.c (.fn 80 [])) [(.t 24),(.c (.str [46]))])),(bk 3 25)]) (.seq (.sem (erase rA)) .ret)) .skip)) (.seq (.rg [(aA 34 0),(aj 35 (.call (.c (.fn 80 [])) [(.t 34),(.c (.str [46]))])),(aj 36 (.call (.c (.fn 79 [])) [(.t 35),(.c (.fn 88 []))])),(aj 37 (.un .not (.t 36))),(bk 2 37)]) .ret)))
theorem Ej:bw Tryz.prog 78 38 [(.tmp 2)] (erase Ei):=⟨Tryz.f78,_,rfl,by decide,rfl,by kernel_rfl,rfl,rfl⟩
abbrev pT:List Nat:=[0,2,3,19]
def iz (s1:List UInt8):Option (Bool):=
 (if (decide (1<(s1.length:Int))) then
  (idx s1 0).bind fun x2=>
  (if (decide (x2=91)) then
   (idx s1 (IntKind.wrap .i64 ((s1.length:Int) - 1))).bind fun x3=>some (decide (x3=93))
  else
   some false)
 else
  some false)
def kE (F:Nat) (r7:List (List UInt8)):Option (Bool):=
 (if (decide ((r7.length:Int)=4)) then
  (dU F r7).bind fun r8=>some (!r8)
 else
  some false)
def lU (F:Nat) (s1:List UInt8):Option (Bool):=
 (iz s1).bind fun t5=>
 (if t5 then
  (sub s1 1 (IntKind.wrap .i64 ((s1.length:Int) - 1))).bind fun x6=>
  (strings_Split x6 ([46]:List UInt8)).bind fun r7=>(kE F r7).bind fun t10=>
  some t10
 else
  (strings_Split s1 ([46]:List UInt8)).bind fun gy=>(dJ F gy).bind fun nN=>some (!nN))
theorem yx {s1:List UInt8} {H:AH} {K:Exit→Env→AH→Prop} {t4:Bool}
 (h:iz s1=some t4)
 (kn:K .normal [(0,(.str s1)),(19,(.bool t4))] H):
 AX Tryz.prog pT 38 H.length (erase rz) K [(0,(.str s1))] H:=by
 refine dz fun K' hK=> ?_
 rw [iz.eq_1] at h
 refine aS ?_
 refine cr h (fun hy1 h=> ?_) fun hy1 h=> ?_
 · obtain ⟨x2,bf,h⟩:=ay h
   refine bO (aB hy1 bf) ?_
   refine cr h (fun bz h=> ?_) fun bz h=> ?_
   · obtain ⟨x3,bu,h⟩:=ay h
     refine bO (aB bz bu) ?_
     obtain rfl:=aK h
     exact hK _ _ _ _ _ aZ ax kn
   · refine bO bz ?_
     obtain rfl:=aK h
     exact hK _ _ _ _ _ aZ ax kn
 · refine bO hy1 ?_
   obtain rfl:=aK h
   exact hK _ _ _ _ _ aZ ax kn
theorem yy {F:Nat} {r7:List (List UInt8)} {H:AH} {K:Exit→Env→AH→Prop} {t9:Bool}
 (h:kE F r7=some t9)
 (kn:K .normal [(2,(.bool t9))] H):
 AX Tryz.prog pT 38 H.length (erase rA) K [(3,(.sl .n 1 (ml AV.str r7)))] H:=by
 refine dz fun K' hK=> ?_
 rw [kE.eq_1] at h
 refine aS ?_
 refine cr h (fun eE h=> ?_) fun eE h=> ?_
 · refine bO eE ?_
   obtain ⟨r8,dh,h⟩:=ay h
   refine bg ax (qM dh) ?_
   refine aS ?_
   obtain rfl:=aK h
   exact hK _ _ _ _ _ aZ ax kn
 · refine bO eE ?_
   obtain rfl:=aK h
   exact hK _ _ _ _ _ aZ ax kn
theorem CU {F:Nat} {s1:List UInt8} {H0:AH} {aM:Bool} (h:lU F s1=some aM):
 aG Tryz.prog 78 [(.str s1)] H0 fun v H'=>v=(.bool aM)∧H'=H0:=by
 refine gx Ej pT fun hcl K0 aP=> ?_
 rw [lU.eq_1] at h
 refine aS ?_
 obtain ⟨t5,bW,h⟩:=ay h
 refine cg ax (yx bW ?_)
 refine aS ?_
 refine b7 h (fun cw h=> ?_) fun cw h=> ?_
 · obtain ⟨x6,dB,h⟩:=ay h
   refine bO dB ?_
   obtain ⟨r7,dD,h⟩:=ay h
   refine bg ax (iT (s1:=x6) (s2:=([46]:List UInt8)) dD) ?_
   refine aS ?_
   obtain ⟨t10,cH,h⟩:=ay h
   refine cg ax (yy cH ?_)
   refine aS ?_
   obtain rfl:=aK h
   exact aP _ _ _ bG (aW hcl (bD bx (.bool t10)) bB bt ⟨rfl,rfl⟩)
 · refine aS ?_
   obtain ⟨gy,eA,h⟩:=ay h
   refine bg ax (iT (s1:=s1) (s2:=([46]:List UInt8)) eA) ?_
   refine aS ?_
   obtain ⟨nN,di,h⟩:=ay h
   refine bg ax (pS di) ?_
   refine aS ?_
   obtain rfl:=aK h
   exact aP _ _ _ bG (aW hcl (bD bx (.bool (!nN))) bB bt ⟨rfl,rfl⟩)
abbrev BL:aD:=(.seq (.rg [(aj 2 (.aY (.c (.bool false))))]) (.seq (.rg [(aA 3 0),(aj 4 (.lens (.t 3))),(aj 5 (.bin .gtr (.t 4) (.c (.int .i64 63)))),(bk 2 5)]) .ret))
theorem BM:bw Tryz.prog 77 6 [(.tmp 2)] (erase BL):=⟨Tryz.f77,_,rfl,by decide,rfl,by kernel_rfl,rfl,rfl⟩
abbrev BN:List Nat:=[0,2]
def ji (x1:List UInt8):Option (Bool):=
 some (decide (63<(x1.length:Int)))
theorem Ah {x1:List UInt8} {H0:AH} {aM:Bool} (h:ji x1=some aM):
 aG Tryz.prog 77 [(.str x1)] H0 fun v H'=>v=(.bool aM)∧H'=H0:=by
 refine gx BM BN fun hcl K0 aP=> ?_
 rw [ji.eq_1] at h
 refine aS ?_
 obtain rfl:=aK h
 exact aP _ _ _ bG (aW hcl (bD bx (.bool (decide (63<(x1.length:Int))))) bB bt ⟨rfl,rfl⟩)
abbrev iU:aD:=(.seq (.rg [(aj 9 (.bin .lss (.t 8) (.t 7)))]) (.seq (.cond (.t 9) .skip (.exit 0)) (.seq (.blk 1 (.seq (.rg [(aA 10 8),(bk 5 10)]) (.seq (.rg [(aA 11 1),(aA 12 0),(aA 13 5),(aj 14 (.lC 1 (.t 12) (.t 13))),(aj 15 (.ld (.t 14) none)),(aj 16 (.call (.t 11) [(.t 15)]))]) (.cond (.t 16) (.seq (.rg [(aA 17 5),(bk 4 17)]) .ret) .skip)))) (.rg [(aj 18 (.bin .add (.t 8) (.c (.int .i64 1)))),(aA 8 18)]))))
abbrev sZ:aD:=(.seq (.rg [(aj 4 (.aY (.c (.int .i64 0))))]) (.seq (.seq (.rg [(aA 6 0),(aj 7 (.len (.t 6))),(aj 8 (.mv (.c (.int .i64 0))))]) (.blk 0 (.loop (erase iU)))) (.seq (.rg [(aj 4 (.aY (.c (.int .i64 (-1)))))]) .ret)))
theorem s3:bw Tryz.prog 90 19 [(.tmp 4)] (erase sZ):=⟨Tryz.f90,_,rfl,by decide,rfl,by kernel_rfl,rfl,rfl⟩
abbrev kZ:List Nat:=[0,1,4,5,7,8,9,16]
def cz (s1:List (List UInt8)):(Int×Int)→Option (St Int Unit (Int×Int))
 |(t2,t3)=>
  (if (decide (t3<(s1.length:Int))) then
   (idx s1 t3).bind fun x4=>
   (ji x4).bind fun r5=>
   (if r5 then
    some (.ret t3)
   else
    some (.cT (t2,(IntKind.wrap .i64 (t3+1)))))
  else
   some (.fI ()))
def fU (F:Nat) (s1:List (List UInt8)):Option (Int):=
 ((iter (cz s1) F (0,0)).bind fun o8=>
 match o8 with
 | .inr ()=>
   some (-1)
 | .inl r7=>
   some r7)
theorem oL {F:Nat} {t3:Int} {s1:List (List UInt8)} {t2:Int} {H:AH} {K:Exit→Env→AH→Prop} {o:(Int)⊕(Unit)}
 (h:iter (cz s1) F (t2,t3)=some o)
 (dj:∀o':Unit,o= .inr o'→K (.exit 0) [] H)
 (kr:∀o':Int,o= .inl o'→K .ret [(4,(.int .i64 o'))] H):
 AX Tryz.prog kZ 19 H.length (.loop (erase iU)) K [(0,(.sl .n 1 (ml AV.str s1))),(1,(.fn 77 [])),(4,(.int .i64 t2)),(7,(.int .i64 (s1.length:Int))),(8,(.int .i64 t3))] H:=by
 refine iZ (fun s e H1=>match s with|(t2,t3)=>e=[(0,(.sl .n 1 (ml AV.str s1))),(1,(.fn 77 [])),(4,(.int .i64 t2)),(7,(.int .i64 (s1.length:Int))),(8,(.int .i64 t3))]∧H1=H) h ⟨rfl,rfl⟩ ?_
 rintro K' ⟨t2,t3⟩ st e H ⟨rfl,rfl⟩ h hN hB hR hX
 rw [cz.eq_1] at h
 refine aS ?_
 refine b7 h (fun hy1 h=> ?_) fun hy1 h=> ?_
 · obtain ⟨x4,bf,h⟩:=ay h
   refine bO bf ?_
   obtain ⟨r5,bz,h⟩:=ay h
   refine bg ax (Ah bz) ?_
   refine aS ?_
   refine b7 h (fun bu h=> ?_) fun bu h=> ?_
   · refine aS ?_
     obtain rfl:=aK h
     exact hX _ _ _ _ _ eK aZ ax (kr _ (hR _ rfl))
   · refine aS ?_
     obtain rfl:=aK h
     exact hN _ rfl _ _ _ _ aZ ax ⟨rfl,rfl⟩
 · refine aS ?_
   obtain rfl:=aK h
   exact hX _ _ _ _ _ eK WE.nil ax (dj _ (hB _ rfl))
theorem sA {F:Nat} {s1:List (List UInt8)} {H0:AH} {aM:Int} (h:fU F s1=some aM):
 aG Tryz.prog 90 [(.sl .n 1 (ml AV.str s1)),(.fn 77 [])] H0 fun v H'=>v=(.int .i64 aM)∧H'=H0:=by
 refine gx s3 kZ fun hcl K0 aP=> ?_
 rw [fU.eq_1] at h
 refine aS ?_
 obtain ⟨o8,bW,h⟩:=ay h
 refine cg ax (oL bW ?_ ?_)
 · rintro ⟨⟩ rfl
   try dsimp only at h
   refine aS ?_
   obtain rfl:=aK h
   exact aP _ _ _ bG (aW hcl (bD bx (.int .i64 (-1))) bB bt ⟨rfl,rfl⟩)
 · rintro r7 rfl
   try dsimp only at h
   refine aS ?_
   obtain rfl:=aK h
   exact aP _ _ _ bG (aW hcl (bD bx (.int .i64 r7)) bB bt ⟨rfl,rfl⟩)
abbrev pU:aD:=(.seq (.rg [(aj 4 (.aY (.c (.bool false))))]) (.seq (.rg [(aA 5 0),(aA 6 1),(aj 7 (.call (.c (.fn 90 [])) [(.t 5),(.t 6)])),(aj 8 (.bin .geq (.t 7) (.c (.int .i64 0)))),(bk 4 8)]) .ret))
theorem pV:bw Tryz.prog 79 9 [(.tmp 4)] (erase pU):=⟨Tryz.f79,_,rfl,by decide,rfl,by kernel_rfl,rfl,rfl⟩
abbrev pW:List Nat:=[0,1,4]
def dA (F:Nat) (s1:List (List UInt8)):Option (Bool):=
 (fU F s1).bind fun r2=>some (decide (0≤r2))
theorem oM {F:Nat} {s1:List (List UInt8)} {H0:AH} {aM:Bool} (h:dA F s1=some aM):
 aG Tryz.prog 79 [(.sl .n 1 (ml AV.str s1)),(.fn 77 [])] H0 fun v H'=>v=(.bool aM)∧H'=H0:=by
 refine gx pV pW fun hcl K0 aP=> ?_
 rw [dA.eq_1] at h
 refine aS ?_
 obtain ⟨r2,hy1,h⟩:=ay h
 refine bg ax (sA hy1) ?_
 refine aS ?_
 obtain rfl:=aK h
 exact aP _ _ _ bG (aW hcl (bD bx (.bool (decide (0≤r2)))) bB bt ⟨rfl,rfl⟩)
abbrev rB:aD:=(.rg [(aA 4 0),(aj 5 (.lens (.t 4))),(aj 6 (.bin .leq (.t 5) (.c (.int .i64 255)))),(aA 7 6),(aF 8 (.mv (.t 0)) 7 true),(aF 9 (.call (.c (.fn 78 [])) [(.t 8)]) 7 true),(aj 10 (.pick (.t 7) (.t 9) (.c (.bool false)))),(aA 11 10),(aF 12 (.mv (.t 0)) 11 true),(aF 13 (.call (.c (.fn 80 [])) [(.t 12),(.c (.str [46]))]) 11 true),(aF 14 (.mv (.t 3)) 11 true),(aF 15 (.call (.c (.fn 79 [])) [(.t 13),(.t 14)]) 11 true),(aF 16 (.un .not (.t 15)) 11 true),(aj 17 (.pick (.t 11) (.t 16) (.c (.bool false)))),(bk 2 17)])
abbrev Ek:aD:=(.seq (.rg [(aj 2 (.aY (.c (.bool false))))]) (.seq (.rg [(aj 3 (.aY (.c (.fn 77 []))))]) (.seq (.sem (erase rB)) .ret)))
theorem El:bw Tryz.prog 64 18 [(.tmp 2)] (erase Ek):=⟨Tryz.f64,_,rfl,by decide,rfl,by kernel_rfl,rfl,rfl⟩
abbrev we:List Nat:=[0,2,3]
def kF (F:Nat) (s1:List UInt8):Option (Bool):=
 (if (decide ((s1.length:Int)≤255)) then
  (lU F s1).bind fun r2=>
  (if r2 then
   (strings_Split s1 ([46]:List UInt8)).bind fun r3=>(dA F r3).bind fun r4=>some (!r4)
  else
   some false)
 else
  some false)
def lV (F:Nat) (s1:List UInt8):Option (Bool):=
 (kF F s1).bind fun t6=>
 some t6
theorem yz {F:Nat} {s1:List UInt8} {H:AH} {K:Exit→Env→AH→Prop} {t5:Bool}
 (h:kF F s1=some t5)
 (kn:K .normal [(2,(.bool t5))] H):
 AX Tryz.prog we 18 H.length (erase rB) K [(0,(.str s1)),(2,(.bool false)),(3,(.fn 77 []))] H:=by
 refine dz fun K' hK=> ?_
 rw [kF.eq_1] at h
 refine aS ?_
 refine cr h (fun hy1 h=> ?_) fun hy1 h=> ?_
 · refine bO hy1 ?_
   obtain ⟨r2,bf,h⟩:=ay h
   refine bg ax (CU bf) ?_
   refine aS ?_
   refine cr h (fun bz h=> ?_) fun bz h=> ?_
   · refine bO bz ?_
     obtain ⟨r3,bu,h⟩:=ay h
     refine bg ax (iT (s1:=s1) (s2:=([46]:List UInt8)) bu) ?_
     refine aS ?_
     obtain ⟨r4,bW,h⟩:=ay h
     refine bg ax (oM bW) ?_
     refine aS ?_
     obtain rfl:=aK h
     exact hK _ _ _ _ _ aZ ax kn
   · refine bO bz ?_
     obtain rfl:=aK h
     exact hK _ _ _ _ _ aZ ax kn
 · refine bO hy1 ?_
   obtain rfl:=aK h
   exact hK _ _ _ _ _ aZ ax kn
theorem CV {F:Nat} {s1:List UInt8} {H0:AH} {aM:Bool} (h:lV F s1=some aM):
 aG Tryz.prog 64 [(.str s1)] H0 fun v H'=>v=(.bool aM)∧H'=H0:=by
 refine gx El we fun hcl K0 aP=> ?_
 rw [lV.eq_1] at h
 refine aS ?_
 obtain ⟨t6,cw,h⟩:=ay h
 refine cg ax (yz cw ?_)
 refine aS ?_
 obtain rfl:=aK h
 exact aP _ _ _ bG (aW hcl (bD bx (.bool t6)) bB bt ⟨rfl,rfl⟩)
abbrev uH:aD:=(.rg [(aA 3 0),(aj 4 (.call (.c (.fn 100 [])) [(.t 3)])),(aA 5 4),(aF 6 (.mv (.t 0)) 5 false),(aF 7 (.call (.c (.fn 104 [])) [(.c (.str [33,35,36,37,38,39,42,43,45,47,61,63,94,95,96,123,124,125,126])),(.t 6)]) 5 false),(aF 8 (.bin .geq (.t 7) (.c (.int .i64 0))) 5 false),(aj 9 (.pick (.t 5) (.c (.bool true)) (.t 8))),(bk 2 9)])
abbrev Iv:aD:=(.seq (.rg [(aj 2 (.aY (.c (.bool false))))]) (.seq (.sem (erase uH)) .ret))
theorem Iw:bw Tryz.prog 93 10 [(.tmp 2)] (erase Iv):=⟨Tryz.f93,_,rfl,by decide,rfl,by kernel_rfl,rfl,rfl⟩
abbrev Ai:List Nat:=[0,2]
def sB (c1:UInt8):Option (Bool):=
 (jy c1).bind fun r2=>
 (if r2 then
  some true
 else
  (strings_IndexByte ([33,35,36,37,38,39,42,43,45,47,61,63,94,95,96,123,124,125,126]:List UInt8) c1).bind fun r3=>some (decide (0≤r3)))
def pX (c1:UInt8):Option (Bool):=
 (sB c1).bind fun t5=>
 some t5
theorem BO {c1:UInt8} {H:AH} {K:Exit→Env→AH→Prop} {t4:Bool}
 (h:sB c1=some t4)
 (kn:K .normal [(2,(.bool t4))] H):
 AX Tryz.prog Ai 10 H.length (erase uH) K [(0,(b8 c1)),(2,(.bool false))] H:=by
 refine dz fun K' hK=> ?_
 rw [sB.eq_1] at h
 refine aS ?_
 obtain ⟨r2,hy1,h⟩:=ay h
 refine bg ax (uF hy1) ?_
 refine aS ?_
 refine cr h (fun bf h=> ?_) fun bf h=> ?_
 · refine bO bf ?_
   obtain rfl:=aK h
   exact hK _ _ _ _ _ aZ ax kn
 · refine bO bf ?_
   obtain ⟨r3,bz,h⟩:=ay h
   refine bg ax (u9 (s1:=([33,35,36,37,38,39,42,43,45,47,61,63,94,95,96,123,124,125,126]:List UInt8)) (c2:=c1) bz) ?_
   refine aS ?_
   obtain rfl:=aK h
   exact hK _ _ _ _ _ aZ ax kn
theorem FP {c1:UInt8} {H0:AH} {aM:Bool} (h:pX c1=some aM):
 aG Tryz.prog 93 [(b8 c1)] H0 fun v H'=>v=(.bool aM)∧H'=H0:=by
 refine gx Iw Ai fun hcl K0 aP=> ?_
 rw [pX.eq_1] at h
 refine aS ?_
 obtain ⟨t5,bu,h⟩:=ay h
 refine cg ax (BO bu ?_)
 refine aS ?_
 obtain rfl:=aK h
 exact aP _ _ _ bG (aW hcl (bD bx (.bool t5)) bB bt ⟨rfl,rfl⟩)
abbrev mK:aD:=(.seq (.rg [(aj 9 (.bin .lss (.t 8) (.t 7)))]) (.seq (.cond (.t 9) .skip (.exit 0)) (.seq (.blk 1 (.seq (.rg [(aA 10 8),(bk 5 10)]) (.seq (.rg [(aA 11 1),(aA 12 0),(aA 13 5),(aj 14 (.ixs (.t 12) (.t 13))),(aj 15 (.call (.t 11) [(.t 14)])),(aj 16 (.un .not (.t 15)))]) (.cond (.t 16) (.seq (.rg [(aj 4 (.aY (.c (.bool false))))]) .ret) .skip)))) (.rg [(aj 17 (.bin .add (.t 8) (.c (.int .i64 1)))),(aA 8 17)]))))
abbrev Aj:aD:=(.seq (.rg [(aj 4 (.aY (.c (.bool false))))]) (.seq (.seq (.rg [(aA 6 0),(aj 7 (.lens (.t 6))),(aj 8 (.mv (.c (.int .i64 0))))]) (.blk 0 (.loop (erase mK)))) (.seq (.rg [(aj 4 (.aY (.c (.bool true))))]) .ret)))
theorem Ak:bw Tryz.prog 75 18 [(.tmp 4)] (erase Aj):=⟨Tryz.f75,_,rfl,by decide,rfl,by kernel_rfl,rfl,rfl⟩
abbrev rC:List Nat:=[0,1,4,5,7,8,9,16]
def dG (s1:List UInt8):(Bool×Int)→Option (St Bool Unit (Bool×Int))
 |(t2,t3)=>
  (if (decide (t3<(s1.length:Int))) then
   (idx s1 t3).bind fun x4=>
   (pX x4).bind fun r5=>
   (if (!r5) then
    some (.ret false)
   else
    some (.cT (t2,(IntKind.wrap .i64 (t3+1)))))
  else
   some (.fI ()))
def iA (F:Nat) (s1:List UInt8):Option (Bool):=
 ((iter (dG s1) F (false,0)).bind fun o8=>
 match o8 with
 | .inr ()=>
   some true
 | .inl r7=>
   some r7)
theorem ve {F:Nat} {t3:Int} {s1:List UInt8} {t2:Bool} {H:AH} {K:Exit→Env→AH→Prop} {o:(Bool)⊕(Unit)}
 (h:iter (dG s1) F (t2,t3)=some o)
 (dj:∀o':Unit,o= .inr o'→K (.exit 0) [] H)
 (kr:∀o':Bool,o= .inl o'→K .ret [(4,(.bool o'))] H):
 AX Tryz.prog rC 18 H.length (.loop (erase mK)) K [(0,(.str s1)),(1,(.fn 93 [])),(4,(.bool t2)),(7,(.int .i64 (s1.length:Int))),(8,(.int .i64 t3))] H:=by
 refine iZ (fun s e H1=>match s with|(t2,t3)=>e=[(0,(.str s1)),(1,(.fn 93 [])),(4,(.bool t2)),(7,(.int .i64 (s1.length:Int))),(8,(.int .i64 t3))]∧H1=H) h ⟨rfl,rfl⟩ ?_
 rintro K' ⟨t2,t3⟩ st e H ⟨rfl,rfl⟩ h hN hB hR hX
 rw [dG.eq_1] at h
 refine aS ?_
 refine b7 h (fun hy1 h=> ?_) fun hy1 h=> ?_
 · obtain ⟨x4,bf,h⟩:=ay h
   refine bO bf ?_
   obtain ⟨r5,bz,h⟩:=ay h
   refine bg ax (FP bz) ?_
   refine aS ?_
   refine b7 h (fun bu h=> ?_) fun bu h=> ?_
   · refine aS ?_
     obtain rfl:=aK h
     exact hX _ _ _ _ _ eK aZ ax (kr _ (hR _ rfl))
   · refine aS ?_
     obtain rfl:=aK h
     exact hN _ rfl _ _ _ _ aZ ax ⟨rfl,rfl⟩
 · refine aS ?_
   obtain rfl:=aK h
   exact hX _ _ _ _ _ eK WE.nil ax (dj _ (hB _ rfl))
theorem yA {F:Nat} {s1:List UInt8} {H0:AH} {aM:Bool} (h:iA F s1=some aM):
 aG Tryz.prog 75 [(.str s1),(.fn 93 [])] H0 fun v H'=>v=(.bool aM)∧H'=H0:=by
 refine gx Ak rC fun hcl K0 aP=> ?_
 rw [iA.eq_1] at h
 refine aS ?_
 obtain ⟨o8,bW,h⟩:=ay h
 refine cg ax (ve bW ?_ ?_)
 · rintro ⟨⟩ rfl
   try dsimp only at h
   refine aS ?_
   obtain rfl:=aK h
   exact aP _ _ _ bG (aW hcl (bD bx (.bool true)) bB bt ⟨rfl,rfl⟩)
 · rintro r7 rfl
   try dsimp only at h
   refine aS ?_
   obtain rfl:=aK h
   exact aP _ _ _ bG (aW hcl (bD bx (.bool r7)) bB bt ⟨rfl,rfl⟩)
abbrev pY:aD:=(.rg [(aA 3 0),(aj 4 (.bin .eql (.t 3) (.c (.str [])))),(aA 5 4),(aF 6 (.mv (.t 0)) 5 false),(aF 7 (.call (.c (.fn 75 [])) [(.t 6),(.c (.fn 93 []))]) 5 false),(aF 8 (.un .not (.t 7)) 5 false),(aj 9 (.pick (.t 5) (.c (.bool true)) (.t 8))),(bk 2 9)])
abbrev CW:aD:=(.seq (.rg [(aj 2 (.aY (.c (.bool false))))]) (.seq (.sem (erase pY)) .ret))
theorem CX:bw Tryz.prog 92 10 [(.tmp 2)] (erase CW):=⟨Tryz.f92,_,rfl,by decide,rfl,by kernel_rfl,rfl,rfl⟩
abbrev uI:List Nat:=[0,2]
def jz (F:Nat) (x1:List UInt8):Option (Bool):=
 (if (decide (x1=([]:List UInt8))) then
  some true
 else
  (iA F x1).bind fun r2=>some (!r2))
def j4 (F:Nat) (x1:List UInt8):Option (Bool):=
 (jz F x1).bind fun t4=>
 some t4
theorem xl {F:Nat} {x1:List UInt8} {H:AH} {K:Exit→Env→AH→Prop} {t3:Bool}
 (h:jz F x1=some t3)
 (kn:K .normal [(2,(.bool t3))] H):
 AX Tryz.prog uI 10 H.length (erase pY) K [(0,(.str x1)),(2,(.bool false))] H:=by
 refine dz fun K' hK=> ?_
 rw [jz.eq_1] at h
 refine aS ?_
 refine cr h (fun hy1 h=> ?_) fun hy1 h=> ?_
 · refine bO hy1 ?_
   obtain rfl:=aK h
   exact hK _ _ _ _ _ aZ ax kn
 · refine bO hy1 ?_
   obtain ⟨r2,bf,h⟩:=ay h
   refine bg ax (yA bf) ?_
   refine aS ?_
   obtain rfl:=aK h
   exact hK _ _ _ _ _ aZ ax kn
theorem BP {F:Nat} {x1:List UInt8} {H0:AH} {aM:Bool} (h:j4 F x1=some aM):
 aG Tryz.prog 92 [(.str x1)] H0 fun v H'=>v=(.bool aM)∧H'=H0:=by
 refine gx CX uI fun hcl K0 aP=> ?_
 rw [j4.eq_1] at h
 refine aS ?_
 obtain ⟨t4,bz,h⟩:=ay h
 refine cg ax (xl bz ?_)
 refine aS ?_
 obtain rfl:=aK h
 exact aP _ _ _ bG (aW hcl (bD bx (.bool t4)) bB bt ⟨rfl,rfl⟩)
abbrev iB:aD:=(.seq (.rg [(aj 9 (.bin .lss (.t 8) (.t 7)))]) (.seq (.cond (.t 9) .skip (.exit 0)) (.seq (.blk 1 (.seq (.rg [(aA 10 8),(bk 5 10)]) (.seq (.rg [(aA 11 1),(aA 12 0),(aA 13 5),(aj 14 (.lC 1 (.t 12) (.t 13))),(aj 15 (.ld (.t 14) none)),(aj 16 (.call (.t 11) [(.t 15)]))]) (.cond (.t 16) (.seq (.rg [(aA 17 5),(bk 4 17)]) .ret) .skip)))) (.rg [(aj 18 (.bin .add (.t 8) (.c (.int .i64 1)))),(aA 8 18)]))))
abbrev sC:aD:=(.seq (.rg [(aj 4 (.aY (.c (.int .i64 0))))]) (.seq (.seq (.rg [(aA 6 0),(aj 7 (.len (.t 6))),(aj 8 (.mv (.c (.int .i64 0))))]) (.blk 0 (.loop (erase iB)))) (.seq (.rg [(aj 4 (.aY (.c (.int .i64 (-1)))))]) .ret)))
theorem sD:bw Tryz.prog 90 19 [(.tmp 4)] (erase sC):=⟨Tryz.f90,_,rfl,by decide,rfl,by kernel_rfl,rfl,rfl⟩
abbrev j5:List Nat:=[0,1,4,5,7,8,9,16]
def cu (F:Nat) (s1:List (List UInt8)):(Int×Int)→Option (St Int Unit (Int×Int))
 |(t2,t3)=>
  (if (decide (t3<(s1.length:Int))) then
   (idx s1 t3).bind fun x4=>
   (j4 F x4).bind fun r5=>
   (if r5 then
    some (.ret t3)
   else
    some (.cT (t2,(IntKind.wrap .i64 (t3+1)))))
  else
   some (.fI ()))
def fB (F:Nat) (s1:List (List UInt8)):Option (Int):=
 ((iter (cu F s1) F (0,0)).bind fun o8=>
 match o8 with
 | .inr ()=>
   some (-1)
 | .inl r7=>
   some r7)
theorem ob {F:Nat} {t3:Int} {s1:List (List UInt8)} {t2:Int} {H:AH} {K:Exit→Env→AH→Prop} {o:(Int)⊕(Unit)}
 (h:iter (cu F s1) F (t2,t3)=some o)
 (dj:∀o':Unit,o= .inr o'→K (.exit 0) [] H)
 (kr:∀o':Int,o= .inl o'→K .ret [(4,(.int .i64 o'))] H):
 AX Tryz.prog j5 19 H.length (.loop (erase iB)) K [(0,(.sl .n 1 (ml AV.str s1))),(1,(.fn 92 [])),(4,(.int .i64 t2)),(7,(.int .i64 (s1.length:Int))),(8,(.int .i64 t3))] H:=by
 refine iZ (fun s e H1=>match s with|(t2,t3)=>e=[(0,(.sl .n 1 (ml AV.str s1))),(1,(.fn 92 [])),(4,(.int .i64 t2)),(7,(.int .i64 (s1.length:Int))),(8,(.int .i64 t3))]∧H1=H) h ⟨rfl,rfl⟩ ?_
 rintro K' ⟨t2,t3⟩ st e H ⟨rfl,rfl⟩ h hN hB hR hX
 rw [cu.eq_1] at h
 refine aS ?_
 refine b7 h (fun hy1 h=> ?_) fun hy1 h=> ?_
 · obtain ⟨x4,bf,h⟩:=ay h
   refine bO bf ?_
   obtain ⟨r5,bz,h⟩:=ay h
   refine bg ax (BP bz) ?_
   refine aS ?_
   refine b7 h (fun bu h=> ?_) fun bu h=> ?_
   · refine aS ?_
     obtain rfl:=aK h
     exact hX _ _ _ _ _ eK aZ ax (kr _ (hR _ rfl))
   · refine aS ?_
     obtain rfl:=aK h
     exact hN _ rfl _ _ _ _ aZ ax ⟨rfl,rfl⟩
 · refine aS ?_
   obtain rfl:=aK h
   exact hX _ _ _ _ _ eK WE.nil ax (dj _ (hB _ rfl))
theorem qQ {F:Nat} {s1:List (List UInt8)} {H0:AH} {aM:Int} (h:fB F s1=some aM):
 aG Tryz.prog 90 [(.sl .n 1 (ml AV.str s1)),(.fn 92 [])] H0 fun v H'=>v=(.int .i64 aM)∧H'=H0:=by
 refine gx sD j5 fun hcl K0 aP=> ?_
 rw [fB.eq_1] at h
 refine aS ?_
 obtain ⟨o8,bW,h⟩:=ay h
 refine cg ax (ob bW ?_ ?_)
 · rintro ⟨⟩ rfl
   try dsimp only at h
   refine aS ?_
   obtain rfl:=aK h
   exact aP _ _ _ bG (aW hcl (bD bx (.int .i64 (-1))) bB bt ⟨rfl,rfl⟩)
 · rintro r7 rfl
   try dsimp only at h
   refine aS ?_
   obtain rfl:=aK h
   exact aP _ _ _ bG (aW hcl (bD bx (.int .i64 r7)) bB bt ⟨rfl,rfl⟩)
abbrev oN:aD:=(.seq (.rg [(aj 4 (.aY (.c (.bool false))))]) (.seq (.rg [(aA 5 0),(aA 6 1),(aj 7 (.call (.c (.fn 90 [])) [(.t 5),(.t 6)])),(aj 8 (.bin .geq (.t 7) (.c (.int .i64 0)))),(bk 4 8)]) .ret))
theorem oO:bw Tryz.prog 79 9 [(.tmp 4)] (erase oN):=⟨Tryz.f79,_,rfl,by decide,rfl,by kernel_rfl,rfl,rfl⟩
abbrev oP:List Nat:=[0,1,4]
def eu (F:Nat) (s1:List (List UInt8)):Option (Bool):=
 (fB F s1).bind fun r2=>some (decide (0≤r2))
theorem oc {F:Nat} {s1:List (List UInt8)} {H0:AH} {aM:Bool} (h:eu F s1=some aM):
 aG Tryz.prog 79 [(.sl .n 1 (ml AV.str s1)),(.fn 92 [])] H0 fun v H'=>v=(.bool aM)∧H'=H0:=by
 refine gx oO oP fun hcl K0 aP=> ?_
 rw [eu.eq_1] at h
 refine aS ?_
 obtain ⟨r2,hy1,h⟩:=ay h
 refine bg ax (qQ hy1) ?_
 refine aS ?_
 obtain rfl:=aK h
 exact aP _ _ _ bG (aW hcl (bD bx (.bool (decide (0≤r2)))) bB bt ⟨rfl,rfl⟩)
abbrev FQ:aD:=(.seq (.rg [(aj 2 (.aY (.c (.bool false))))]) (.seq (.rg [(aA 3 0),(aj 4 (.call (.c (.fn 80 [])) [(.t 3),(.c (.str [46]))])),(aj 5 (.call (.c (.fn 79 [])) [(.t 4),(.c (.fn 92 []))])),(aj 6 (.un .not (.t 5))),(bk 2 6)]) .ret))
theorem FR:bw Tryz.prog 81 7 [(.tmp 2)] (erase FQ):=⟨Tryz.f81,_,rfl,by decide,rfl,by kernel_rfl,rfl,rfl⟩
abbrev FT:List Nat:=[0,2]
def nO (F:Nat) (s1:List UInt8):Option (Bool):=
 (strings_Split s1 ([46]:List UInt8)).bind fun r2=>(eu F r2).bind fun r3=>some (!r3)
theorem Em {F:Nat} {s1:List UInt8} {H0:AH} {aM:Bool} (h:nO F s1=some aM):
 aG Tryz.prog 81 [(.str s1)] H0 fun v H'=>v=(.bool aM)∧H'=H0:=by
 refine gx FR FT fun hcl K0 aP=> ?_
 rw [nO.eq_1] at h
 refine aS ?_
 obtain ⟨r2,hy1,h⟩:=ay h
 refine bg ax (iT (s1:=s1) (s2:=([46]:List UInt8)) hy1) ?_
 refine aS ?_
 obtain ⟨r3,bf,h⟩:=ay h
 refine bg ax (oc bf) ?_
 refine aS ?_
 obtain rfl:=aK h
 exact aP _ _ _ bG (aW hcl (bD bx (.bool (!r3))) bB bt ⟨rfl,rfl⟩)
abbrev uJ:aD:=(.rg [(aA 17 3),(aA 18 5),(aj 19 (.ixs (.t 17) (.t 18))),(aj 20 (.bin .eql (.t 19) (.c (b8 34)))),(aA 21 20),(aF 22 (.mv (.t 3)) 21 false),(aF 23 (.mv (.t 5)) 21 false),(aF 24 (.ixs (.t 22) (.t 23)) 21 false),(aF 25 (.bin .eql (.t 24) (.c (b8 92))) 21 false),(aj 26 (.pick (.t 21) (.c (.bool true)) (.t 25)))])
abbrev s4:aD:=(.seq (.rg [(aj 15 (.bin .lss (.t 14) (.t 13)))]) (.seq (.cond (.t 15) .skip (.exit 0)) (.seq (.blk 1 (.seq (.rg [(aA 16 14),(bk 5 16)]) (.seq (.seq (.sem (erase uJ)) (.cond (.t 26) (.rg [(aA 27 4),(aj 28 (.jQ 1 [(.c (b8 92))])),(aj 29 (.app 1 1 (.t 27) (.t 28))),(bk 4 29)]) .skip)) (.rg [(aA 30 4),(aA 31 3),(aA 32 5),(aj 33 (.ixs (.t 31) (.t 32))),(aj 34 (.jQ 1 [(.t 33)])),(aj 35 (.app 1 1 (.t 30) (.t 34))),(bk 4 35)])))) (.rg [(aj 36 (.bin .add (.t 14) (.c (.int .i64 1)))),(aA 14 36)]))))
abbrev Ix:aD:=(.seq (.rg [(aj 1 (.box (.t 0))),(aj 2 (.aY (.c (.str []))))]) (.seq (.rg [(aj 6 (.aV (.t 1) 0)),(aj 7 (.ld (.t 6) none)),(bk 3 7)]) (.seq (.seq (.rg [(aA 8 3),(aj 9 (.call (.c (.fn 81 [])) [(.t 8)])),(aj 10 (.un .not (.t 9)))]) (.cond (.t 10) (.seq (.rg [(aj 11 (.jQ 1 [(.c (b8 34))])),(bk 4 11)]) (.seq (.seq (.rg [(aA 12 3),(aj 13 (.lens (.t 12))),(aj 14 (.mv (.c (.int .i64 0))))]) (.blk 0 (.loop (erase s4)))) (.rg [(aA 37 4),(aj 38 (.jQ 1 [(.c (b8 34))])),(aj 39 (.app 1 1 (.t 37) (.t 38))),(aj 40 (.ec .bs (.t 39))),(bk 3 40)]))) .skip)) (.seq (.rg [(aA 41 3),(aj 42 (.bin .add (.c (.str [60])) (.t 41))),(aj 43 (.bin .add (.t 42) (.c (.str [64])))),(aj 44 (.aV (.t 1) 1)),(aj 45 (.ld (.t 44) none)),(aj 46 (.bin .add (.t 43) (.t 45))),(aj 47 (.bin .add (.t 46) (.c (.str [62])))),(bk 2 47)]) .ret))))
theorem Iy:bw Tryz.prog 65 48 [(.tmp 2)] (erase Ix):=⟨Tryz.f65,_,rfl,by decide,rfl,by kernel_rfl,rfl,rfl⟩
abbrev uc:List Nat:=[0,1,2,3,4,5,10,13,14,15,26]
def ni (a1:aJ) (t5:Int):Option (Bool):=
 (idx a1.au t5).bind fun x7=>
 (if (decide (x7=34)) then
  some true
 else
  some (decide (x7=92)))
def gz (a1:aJ):((List UInt8)×Int)→Option (St (List UInt8) (List UInt8) ((List UInt8)×Int))
 |(b4,t5)=>
  (if (decide (t5<(a1.au.length:Int))) then
   (ni a1 t5).bind fun t9=>
   (if t9 then
    (cC 1 b4 ([92]:List UInt8)).bind fun NU=>
    (idx a1.au t5).bind fun x11=>
    (cC 1 NU ([x11]:List UInt8)).bind fun NV=>some (.cT (NV,(IntKind.wrap .i64 (t5+1))))
   else
    (idx a1.au t5).bind fun Al=>
    (cC 1 b4 ([Al]:List UInt8)).bind fun x14=>some (.cT (x14,(IntKind.wrap .i64 (t5+1)))))
  else
   some (.fI b4))
def pZ (F:Nat) (a1:aJ):Option ((List UInt8)):=
 (nO F a1.au).bind fun r2=>
 (if (!r2) then
  ((iter (gz a1) F (([34]:List UInt8),0)).bind fun o22=>
  match o22 with
  | .inr b16=>
    (cC 1 b16 ([34]:List UInt8)).bind fun NW=>
    (cat ([60]:List UInt8) NW).bind fun Iz=>
    (cat Iz ([64]:List UInt8)).bind fun Sk=>
    (cat Sk a1.domain).bind fun x20=>(cat x20 ([62]:List UInt8)).bind fun x21=>some x21
  | .inl _=>none)
 else
  (cat ([60]:List UInt8) a1.au).bind fun VC=>
  (cat VC ([64]:List UInt8)).bind fun VD=>
  (cat VD a1.domain).bind fun BQ=>(cat BQ ([62]:List UInt8)).bind fun x26=>some x26)
theorem BR {a1:aJ} {t5:Int} {q6:Nat} {b4:List UInt8} {H0 H:AH} (hfr:Fr H0 H0.length [] H) (ai:H[q6]? =some [(.str a1.au),(.str a1.domain)]) (eS:H0.length≤q6) {K:Exit→Env→AH→Prop} {t8:Bool}
 (h:ni a1 t5=some t8)
 (kn:∀H':AH,Fr H0 H0.length [] H'→H'[q6]? =some [(.str a1.au),(.str a1.domain)]→K .normal [(1,(.ptr q6 0)),(3,(.str a1.au)),(4,(.sl .own 1 (ml b8 b4))),(5,(.int .i64 t5)),(13,(.int .i64 (a1.au.length:Int))),(14,(.int .i64 t5)),(26,(.bool t8))] H'):
 AX Tryz.prog uc 48 H0.length (erase uJ) K [(1,(.ptr q6 0)),(3,(.str a1.au)),(4,(.sl .own 1 (ml b8 b4))),(5,(.int .i64 t5)),(13,(.int .i64 (a1.au.length:Int))),(14,(.int .i64 t5))] H:=by
 refine dz fun K' hK=> ?_
 have hle:=hfr.le
 have aU:=aL ai
 rw [ni.eq_1] at h
 obtain ⟨x7,bu,h⟩:=ay h
 refine aE (aB bu ai) ?_
 refine cr h (fun bW h=> ?_) fun bW h=> ?_
 · refine aE (aB bW ai) ?_
   obtain rfl:=aK h
   exact hK _ _ _ _ _ aZ ax (kn _ hfr (ai.trans rfl))
 · refine aE (aB bW (aB bu ai)) ?_
   obtain rfl:=aK h
   exact hK _ _ _ _ _ aZ ax (kn _ hfr (ai.trans rfl))
theorem BS {F:Nat} {t5:Int} {a1:aJ} {b4:List UInt8} {q3:Nat} {H0 H:AH} (hfr:Fr H0 H0.length [] H) (ai:H[q3]? =some [(.str a1.au),(.str a1.domain)]) (eS:H0.length≤q3) {K:Exit→Env→AH→Prop} {o:((List UInt8))⊕((List UInt8))}
 (h:iter (gz a1) F (b4,t5)=some o)
 (dj:∀o':(List UInt8),o= .inr o'→∀H':AH,Fr H0 H0.length [] H'→H'[q3]? =some [(.str a1.au),(.str a1.domain)]→K (.exit 0) [(1,(.ptr q3 0)),(4,(.sl .own 1 (ml b8 o')))] H'):
 AX Tryz.prog uc 48 H0.length (.loop (erase s4)) K [(1,(.ptr q3 0)),(3,(.str a1.au)),(4,(.sl .own 1 (ml b8 b4))),(13,(.int .i64 (a1.au.length:Int))),(14,(.int .i64 t5))] H:=by
 refine iZ (fun s e H1=>match s with|(b4,t5)=>e=[(1,(.ptr q3 0)),(3,(.str a1.au)),(4,(.sl .own 1 (ml b8 b4))),(13,(.int .i64 (a1.au.length:Int))),(14,(.int .i64 t5))]∧Fr H0 H0.length [] H1∧H1[q3]? =some [(.str a1.au),(.str a1.domain)]) h ⟨rfl,hfr,ai⟩ ?_
 rintro K' ⟨b4,t5⟩ st e H ⟨rfl,hfr,ai⟩ h hN hB hR hX
 have hle:=hfr.le
 have aU:=aL ai
 rw [gz.eq_1] at h
 refine aE ai ?_
 refine b7 h (fun bz h=> ?_) fun bz h=> ?_
 · refine aE ai ?_
   obtain ⟨t9,cw,h⟩:=ay h
   refine cg ax (BR (b4:=b4) (q6:=q3) hfr (ai.trans rfl) br cw ?_)
   intro H hfr ai
   have hle:=hfr.le
   have aU:=aL ai
   refine aE ai ?_
   refine b7 h (fun dB h=> ?_) fun dB h=> ?_
   · obtain ⟨NU,dD,h⟩:=ay h
     have eE:cC 1 (ml b8 b4) [(b8 92)]=some (ml b8 NU):=eo (f:=b8) dD
     obtain ⟨x11,dh,h⟩:=ay h
     obtain ⟨NV,cH,h⟩:=ay h
     have eA:cC 1 (ml b8 NU) [(b8 x11)]=some (ml b8 NV):=eo (f:=b8) cH
     refine aE (aB eE (aB dh (aB eA ai))) ?_
     obtain rfl:=aK h
     exact hN _ rfl _ _ _ _ aZ ax ⟨rfl,hfr,(ai.trans rfl)⟩
   · obtain ⟨Al,di,h⟩:=ay h
     obtain ⟨x14,gj,h⟩:=ay h
     have lW:cC 1 (ml b8 b4) [(b8 Al)]=some (ml b8 x14):=eo (f:=b8) gj
     refine aE (aB di (aB lW ai)) ?_
     obtain rfl:=aK h
     exact hN _ rfl _ _ _ _ aZ ax ⟨rfl,hfr,(ai.trans rfl)⟩
 · refine aE ai ?_
   obtain rfl:=aK h
   exact hX _ _ _ _ _ eK aZ ax (dj _ (hB _ rfl) _ hfr (ai.trans rfl))
theorem FU {F:Nat} {a1:aJ} {H0:AH} {aM:List UInt8} (h:pZ F a1=some aM):
 aG Tryz.prog 65 [(.agg [(.str a1.au),(.str a1.domain)])] H0 fun v H'=>v=(.str aM)∧H'=H0:=by
 refine ef Iy uc [] fun hcl K0 aP H hH hfr=> ?_
 clear hH
 have hle:=hfr.le
 rw [pZ.eq_1] at h
 refine bV ?_
 obtain ⟨r2,hy1,h⟩:=ay h
 refine bg ax (Em hy1) ?_
 refine bV ?_
 refine b7 h (fun bf h=> ?_) fun bf h=> ?_
 · refine bV ?_
   obtain ⟨q3,yB⟩:∃q:Nat,H.length=q:=⟨_,rfl⟩
   try rw [yB]
   obtain ⟨o22,gl,h⟩:=ay h
   refine cg ax (BS (q3:=q3) (Fr.app hfr) jY br gl ?_)
   · rintro b16 rfl H hfr ai
     try dsimp only at h ai
     have hle:=hfr.le
     have aU:=aL ai
     refine bV ?_
     obtain ⟨NW,j7,h⟩:=ay h
     have nP:cC 1 (ml b8 b16) [(b8 34)]=some (ml b8 NW):=eo (f:=b8) j7
     obtain ⟨Iz,j9,h⟩:=ay h
     obtain ⟨Sk,kf,h⟩:=ay h
     obtain ⟨x20,p6,h⟩:=ay h
     obtain ⟨x21,k7,h⟩:=ay h
     refine aE (aB nP (aB j9 (aB kf (aB p6 (aB k7 ai))))) ?_
     obtain rfl:=aK h
     exact aP _ _ _ bG (bp hfr hcl (bD bx (.str x21)) bB bt ⟨rfl,rfl⟩)
 · obtain ⟨VC,s5,h⟩:=ay h
   obtain ⟨VD,nQ,h⟩:=ay h
   obtain ⟨BQ,p7,h⟩:=ay h
   obtain ⟨x26,En,h⟩:=ay h
   refine aE (aB s5 (aB nQ (aB p7 En))) ?_
   obtain rfl:=aK h
   exact aP _ _ _ bG (bp (Fr.app hfr) hcl (bD bx (.str x26)) bB bt ⟨rfl,rfl⟩)
abbrev s8:aD:=(.rg [(aj 3 (.ld (.t 1) (some 2))),(aj 4 (.call (.c (.fn 62 [])) [(.t 3)])),(aA 5 4),(aF 6 (.aV (.t 1) 0) 5 false),(aF 7 (.ld (.t 6) none) 5 false),(aF 8 (.call (.c (.fn 63 [])) [(.t 7)]) 5 false),(aF 9 (.mv (.t 8)) 5 false),(aF 10 (.aV (.t 1) 1) 9 true),(aF 11 (.ld (.t 10) none) 9 true),(aF 12 (.call (.c (.fn 64 [])) [(.t 11)]) 9 true),(aF 13 (.pick (.t 9) (.t 12) (.c (.bool false))) 5 false),(aF 14 (.mv (.t 13)) 5 false),(aF 15 (.ld (.t 1) (some 2)) 14 true),(aF 16 (.call (.c (.fn 65 [])) [(.t 15)]) 14 true),(aF 17 (.lens (.t 16)) 14 true),(aF 18 (.bin .leq (.t 17) (.c (.int .i64 256))) 14 true),(aF 19 (.pick (.t 14) (.t 18) (.c (.bool false))) 5 false),(aj 20 (.pick (.t 5) (.c (.bool true)) (.t 19))),(bk 2 20)])
abbrev FV:aD:=(.seq (.rg [(aj 1 (.box (.t 0))),(aj 2 (.aY (.c (.bool false))))]) (.seq (.sem (erase s8)) .ret))
theorem FW:bw Tryz.prog 32 21 [(.tmp 2)] (erase FV):=⟨Tryz.f32,_,rfl,by decide,rfl,by kernel_rfl,rfl,rfl⟩
abbrev xZ:List Nat:=[0,1,2]
def lZ (F:Nat) (a1:aJ):Option (Bool):=
 (pO a1).bind fun r3=>
 (if r3 then
  some true
 else
  (nK F a1.au).bind fun r4=>
  (if r4 then
   (lV F a1.domain).bind fun r5=>
   (if r5 then
    (pZ F a1).bind fun r6=>some (decide ((r6.length:Int)≤256))
   else
    some false)
  else
   some false))
def k8 (F:Nat) (a1:aJ):Option (Bool):=
 (lZ F a1).bind fun t8=>
 some t8
theorem An {F:Nat} {a1:aJ} {q2:Nat} {H0 H:AH} (hfr:Fr H0 H0.length [] H) (ai:H[q2]? =some [(.str a1.au),(.str a1.domain)]) (eS:H0.length≤q2) {K:Exit→Env→AH→Prop} {t7:Bool}
 (h:lZ F a1=some t7)
 (kn:∀H':AH,Fr H0 H0.length [] H'→H'[q2]? =some [(.str a1.au),(.str a1.domain)]→K .normal [(2,(.bool t7))] H'):
 AX Tryz.prog xZ 21 H0.length (erase s8) K [(1,(.ptr q2 0)),(2,(.bool false))] H:=by
 refine dz fun K' hK=> ?_
 have hle:=hfr.le
 have aU:=aL ai
 rw [lZ.eq_1] at h
 refine aE ai ?_
 obtain ⟨r3,hy1,h⟩:=ay h
 refine bg ax (FJ hy1) ?_
 refine aE ai ?_
 refine cr h (fun bf h=> ?_) fun bf h=> ?_
 · refine aE (aB bf ai) ?_
   obtain rfl:=aK h
   exact hK _ _ _ _ _ aZ ax (kn _ hfr (ai.trans rfl))
 · refine aE (aB bf ai) ?_
   obtain ⟨r4,bz,h⟩:=ay h
   refine bg ax (Ec bz) ?_
   refine aE ai ?_
   refine cr h (fun bu h=> ?_) fun bu h=> ?_
   · refine aE (aB bu ai) ?_
     obtain ⟨r5,bW,h⟩:=ay h
     refine bg ax (CV bW) ?_
     refine aE ai ?_
     refine cr h (fun cw h=> ?_) fun cw h=> ?_
     · refine aE (aB cw ai) ?_
       obtain ⟨r6,dB,h⟩:=ay h
       refine bg ax (FU dB) ?_
       refine aE ai ?_
       obtain rfl:=aK h
       exact hK _ _ _ _ _ aZ ax (kn _ hfr (ai.trans rfl))
     · refine aE (aB cw ai) ?_
       obtain rfl:=aK h
       exact hK _ _ _ _ _ aZ ax (kn _ hfr (ai.trans rfl))
   · refine aE (aB bu ai) ?_
     obtain rfl:=aK h
     exact hK _ _ _ _ _ aZ ax (kn _ hfr (ai.trans rfl))
theorem wg {F:Nat} {a1:aJ} {H0:AH} {aM:Bool} (h:k8 F a1=some aM):
 aG Tryz.prog 32 [(.agg [(.str a1.au),(.str a1.domain)])] H0 fun v H'=>v=(.bool aM)∧H'=H0:=by
 refine ef FW xZ [] fun hcl K0 aP H hH hfr=> ?_
 clear hH
 have hle:=hfr.le
 rw [k8.eq_1] at h
 refine bV ?_
 obtain ⟨q2,eF⟩:∃q:Nat,H.length=q:=⟨_,rfl⟩
 try rw [eF]
 obtain ⟨t8,dD,h⟩:=ay h
 refine cg ax (An (q2:=q2) (Fr.app hfr) jY br dD ?_)
 intro H hfr ai
 have hle:=hfr.le
 have aU:=aL ai
 refine aE ai ?_
 obtain rfl:=aK h
 exact aP _ _ _ bG (bp hfr hcl (bD bx (.bool t8)) bB bt ⟨rfl,rfl⟩)
abbrev rD:aD:=(.rg [(aA 7 0),(aA 8 1),(aj 9 (.bin .geq (.t 7) (.t 8))),(aA 10 9),(aF 11 (.mv (.t 0)) 10 true),(aF 12 (.mv (.t 2)) 10 true),(aF 13 (.bin .leq (.t 11) (.t 12)) 10 true),(aj 14 (.pick (.t 10) (.t 13) (.c (.bool false)))),(bk 6 14)])
abbrev Eo:aD:=(.seq (.rg [(aj 6 (.aY (.c (.bool false))))]) (.seq (.sem (erase rD)) .ret))
theorem Ep:bw Tryz.prog 33 15 [(.tmp 6)] (erase Eo):=⟨Tryz.f33,_,rfl,by decide,rfl,by kernel_rfl,rfl,rfl⟩
abbrev wh:List Nat:=[0,1,2,6]
def eL (v1:Int) (FX:Int) (vf:Int):Option (Bool):=
 some ((decide (FX≤v1))&&(decide (v1≤vf)))
theorem yC {v1:Int} {FX:Int} {vf:Int} {H:AH} {K:Exit→Env→AH→Prop}
 (kn:K .normal [(6,(.bool ((decide (FX≤v1))&&(decide (v1≤vf)))))] H):
 AX Tryz.prog wh 15 H.length (erase rD) K [(0,(.int .i64 v1)),(1,(.int .i64 FX)),(2,(.int .i64 vf)),(6,(.bool false))] H:=by
 refine dz fun K' hK=> ?_
 refine aS ?_
 refine jZ (fun hy1=> ?_) fun hy1=> ?_
 · refine bO hy1 ?_
   exact hK _ _ _ _ _ (dy hy1) ax kn
 · refine bO hy1 ?_
   exact hK _ _ _ _ _ (dy hy1) ax kn
theorem eV {v1:Int} {FX:Int} {vf:Int} {H0:AH} {aM:Bool} (h:eL v1 FX vf=some aM):
 aG Tryz.prog 33 [(.int .i64 v1),(.int .i64 FX),(.int .i64 vf)] H0 fun v H'=>v=(.bool aM)∧H'=H0:=by
 refine gx Ep wh fun hcl K0 aP=> ?_
 rw [eL.eq_1] at h
 refine aS ?_
 refine cg ax (yC (v1:=v1) (FX:=FX) (vf:=vf) ?_)
 refine aS ?_
 obtain rfl:=aK h
 exact aP _ _ _ bG (aW hcl (bD bx (.bool ((decide (FX≤v1))&&(decide (v1≤vf))))) bB bt ⟨rfl,rfl⟩)
abbrev uK:aD:=(.rg [(aj 4 (.aV (.t 1) 5)),(aj 5 (.ld (.t 4) none)),(aj 6 (.bin .eql (.t 5) (.c (.int .i64 0)))),(aA 7 6),(aF 8 (.aV (.t 1) 5) 7 false),(aF 9 (.ld (.t 8) none) 7 false),(aF 10 (.call (.c (.fn 33 [])) [(.t 9),(.c (.int .i64 200)),(.c (.int .i64 599))]) 7 false),(aj 11 (.pick (.t 7) (.c (.bool true)) (.t 10))),(bk 3 11)])
abbrev uL:aD:=(.rg ((aA 12 3)::(aA 13 12)::(aF 14 (.aV (.t 1) 0) 13 true)::(aF 15 (.ld (.t 14) (some 2)) 13 true)::(aF 16 (.call (.c (.fn 32 [])) [(.t 15)]) 13 true)::(aj 17 (.pick (.t 13) (.t 16) (.c (.bool false))))::(aA 18 17)::(aF 19 (.aV (.t 1) 0) 18 true)::(aF 20 (.ld (.t 19) (some 2)) 18 true)::(aF 21 (.build [(.str []),(.str [])] []) 18 true)::(aF 22 (.seq [.s, .s] true (.t 20) (.t 21)) 18 true)::(aj 23 (.pick (.t 18) (.t 22) (.c (.bool false))))::(aA 24 23)::(aF 25 (.aV (.t 1) 2) 24 true)::(aF 26 (.ld (.t 25) none) 24 true)::(aF 27 (.call (.c (.fn 33 [])) [(.t 26),(.c (.int .i64 1)),(.c (.int .i64 5))]) 24 true)::(aj 28 (.pick (.t 24) (.t 27) (.c (.bool false))))::(aA 29 28)::(aF 30 (.aV (.t 1) 3) 29 true)::(aF 31 (.ld (.t 30) none) 29 true)::(aF 32 (.call (.c (.fn 33 [])) [(.t 31),(.c (.int .i64 0)),(.c (.int .i64 255))]) 29 true)::(aj 33 (.pick (.t 29) (.t 32) (.c (.bool false))))::(aA 34 33)::(aF 35 (.aV (.t 1) 4) 34 true)::(aF 36 (.ld (.t 35) none) 34 true)::(aF 37 (.call (.c (.fn 33 [])) [(.t 36),(.c (.int .i64 0)),(.c (.int .i64 2147483647))]) 34 true)::(aj 38 (.pick (.t 34) (.t 37) (.c (.bool false))))::(aA 39 38)::(aF 40 (.aV (.t 1) 6) 39 true)::(aF 41 (.ld (.t 40) none) 39 true)::(aF 42 (.lens (.t 41)) 39 true)::(aF 43 (.bin .leq (.t 42) (.c (.int .i64 100))) 39 true)::(aj 44 (.pick (.t 39) (.t 43) (.c (.bool false))))::(bk 2 44)::[]))
abbrev IA:aD:=(.seq (.rg [(aj 1 (.box (.t 0))),(aj 2 (.aY (.c (.bool false))))]) (.seq (.sem (erase uK)) (.seq (.sem (erase uL)) .ret)))
theorem IB:bw Tryz.prog 36 45 [(.tmp 2)] (erase IA):=⟨Tryz.f36,_,rfl,by decide,rfl,by kernel_rfl,rfl,rfl⟩
abbrev ud:List Nat:=[0,1,2,3]
def nj (r1:bl):Option (Bool):=
 (if (decide (r1.code=0)) then
  some true
 else
  (eL r1.code 200 599).bind fun r3=>some r3)
def nk (F:Nat) (yD:Bool) (r1:bl):Option (Bool):=
 (if yD then
  (k8 F r1.ct).bind fun r7=>
  (if r7 then
   (if (!(decide (r1.ct.au=([]:List UInt8))&&decide (r1.ct.domain=([]:List UInt8)))) then
    (eL r1.state 1 5).bind fun r8=>
    (if r8 then
     (eL r1.tries 0 255).bind fun r9=>
     (if r9 then
      (eL r1.next 0 2147483647).bind fun lG=>
      (if lG then
       some (decide ((r1.why.length:Int)≤100))
      else
       some false)
     else
      some false)
    else
     some false)
   else
    some false)
  else
   some false)
 else
  some false)
def p8 (F:Nat) (r1:bl):Option (Bool):=
 (nj r1).bind fun yD=>
 (nk F yD r1).bind fun t12=>
 some t12
theorem BT {r1:bl} {q2:Nat} {H0 H:AH} (hfr:Fr H0 H0.length [] H) (ai:H[q2]? =some [(.str r1.ct.au),(.str r1.ct.domain),(.int .i64 r1.state),(.int .i64 r1.tries),(.int .i64 r1.next),(.int .i64 r1.code),(.str r1.why)]) (eS:H0.length≤q2) {K:Exit→Env→AH→Prop} {VE:Bool}
 (h:nj r1=some VE)
 (kn:∀H':AH,Fr H0 H0.length [] H'→H'[q2]? =some [(.str r1.ct.au),(.str r1.ct.domain),(.int .i64 r1.state),(.int .i64 r1.tries),(.int .i64 r1.next),(.int .i64 r1.code),(.str r1.why)]→K .normal [(1,(.ptr q2 0)),(3,(.bool VE))] H'):
 AX Tryz.prog ud 45 H0.length (erase uK) K [(1,(.ptr q2 0))] H:=by
 refine dz fun K' hK=> ?_
 have hle:=hfr.le
 have aU:=aL ai
 rw [nj.eq_1] at h
 refine aE ai ?_
 refine cr h (fun hy1 h=> ?_) fun hy1 h=> ?_
 · refine aE (aB hy1 ai) ?_
   obtain rfl:=aK h
   exact hK _ _ _ _ _ aZ ax (kn _ hfr (ai.trans rfl))
 · refine aE (aB hy1 ai) ?_
   obtain ⟨r3,bf,h⟩:=ay h
   refine bg ax (eV bf) ?_
   refine aE ai ?_
   obtain rfl:=aK h
   exact hK _ _ _ _ _ aZ ax (kn _ hfr (ai.trans rfl))
theorem BU {F:Nat} {yD:Bool} {r1:bl} {q6:Nat} {H0 H:AH} (hfr:Fr H0 H0.length [] H) (ai:H[q6]? =some [(.str r1.ct.au),(.str r1.ct.domain),(.int .i64 r1.state),(.int .i64 r1.tries),(.int .i64 r1.next),(.int .i64 r1.code),(.str r1.why)]) (eS:H0.length≤q6) {K:Exit→Env→AH→Prop} {t11:Bool}
 (h:nk F yD r1=some t11)
 (kn:∀H':AH,Fr H0 H0.length [] H'→H'[q6]? =some [(.str r1.ct.au),(.str r1.ct.domain),(.int .i64 r1.state),(.int .i64 r1.tries),(.int .i64 r1.next),(.int .i64 r1.code),(.str r1.why)]→K .normal [(2,(.bool t11))] H'):
 AX Tryz.prog ud 45 H0.length (erase uL) K [(1,(.ptr q6 0)),(3,(.bool yD))] H:=by
 refine dz fun K' hK=> ?_
 have hle:=hfr.le
 have aU:=aL ai
 rw [nk.eq_1] at h
 refine aE ai ?_
 refine cr h (fun bu h=> ?_) fun bu h=> ?_
 · refine aE (aB bu ai) ?_
   obtain ⟨r7,bW,h⟩:=ay h
   refine bg ax (wg bW) ?_
   refine aE ai ?_
   refine cr h (fun cw h=> ?_) fun cw h=> ?_
   · refine aE (aB cw ai) ?_
     refine cr h (fun dB h=> ?_) fun dB h=> ?_
     · refine aE (aB dB ai) ?_
       obtain ⟨r8,dD,h⟩:=ay h
       refine bg ax (eV dD) ?_
       refine aE ai ?_
       refine cr h (fun eE h=> ?_) fun eE h=> ?_
       · refine aE (aB eE ai) ?_
         obtain ⟨r9,dh,h⟩:=ay h
         refine bg ax (eV dh) ?_
         refine aE ai ?_
         refine cr h (fun cH h=> ?_) fun cH h=> ?_
         · refine aE (aB cH ai) ?_
           obtain ⟨lG,eA,h⟩:=ay h
           refine bg ax (eV eA) ?_
           refine aE ai ?_
           refine cr h (fun di h=> ?_) fun di h=> ?_
           · refine aE (aB di ai) ?_
             obtain rfl:=aK h
             exact hK _ _ _ _ _ aZ ax (kn _ hfr (ai.trans rfl))
           · refine aE (aB di ai) ?_
             obtain rfl:=aK h
             exact hK _ _ _ _ _ aZ ax (kn _ hfr (ai.trans rfl))
         · refine aE (aB cH ai) ?_
           obtain rfl:=aK h
           exact hK _ _ _ _ _ aZ ax (kn _ hfr (ai.trans rfl))
       · refine aE (aB eE ai) ?_
         obtain rfl:=aK h
         exact hK _ _ _ _ _ aZ ax (kn _ hfr (ai.trans rfl))
     · refine aE (aB dB ai) ?_
       obtain rfl:=aK h
       exact hK _ _ _ _ _ aZ ax (kn _ hfr (ai.trans rfl))
   · refine aE (aB cw ai) ?_
     obtain rfl:=aK h
     exact hK _ _ _ _ _ aZ ax (kn _ hfr (ai.trans rfl))
 · refine aE (aB bu ai) ?_
   obtain rfl:=aK h
   exact hK _ _ _ _ _ aZ ax (kn _ hfr (ai.trans rfl))
theorem FY {F:Nat} {r1:bl} {H0:AH} {aM:Bool} (h:p8 F r1=some aM):
 aG Tryz.prog 36 [(.agg [(.str r1.ct.au),(.str r1.ct.domain),(.int .i64 r1.state),(.int .i64 r1.tries),(.int .i64 r1.next),(.int .i64 r1.code),(.str r1.why)])] H0 fun v H'=>v=(.bool aM)∧H'=H0:=by
 refine ef IB ud [] fun hcl K0 aP H hH hfr=> ?_
 clear hH
 have hle:=hfr.le
 rw [p8.eq_1] at h
 refine bV ?_
 obtain ⟨q2,eF⟩:∃q:Nat,H.length=q:=⟨_,rfl⟩
 try rw [eF]
 obtain ⟨yD,bz,h⟩:=ay h
 refine cg ax (BT (q2:=q2) (Fr.app hfr) jY br bz ?_)
 intro H hfr ai
 have hle:=hfr.le
 have aU:=aL ai
 refine aE ai ?_
 obtain ⟨t12,gj,h⟩:=ay h
 refine cg ax (BU (q6:=q2) hfr (ai.trans rfl) br gj ?_)
 intro H hfr ai
 have hle:=hfr.le
 have aU:=aL ai
 refine aE ai ?_
 obtain rfl:=aK h
 exact aP _ _ _ bG (bp hfr hcl (bD bx (.bool t12)) bB bt ⟨rfl,rfl⟩)
abbrev Er:aD:=(.seq (.rg [(aj 1 (.box (.t 0))),(aj 2 (.aY (.c (.bool false))))]) (.seq (.rg [(aj 3 (.ld (.t 1) (some 7))),(aj 4 (.call (.c (.fn 36 [])) [(.t 3)])),(aj 5 (.un .not (.t 4))),(bk 2 5)]) .ret))
theorem Es:bw Tryz.prog 35 6 [(.tmp 2)] (erase Er):=⟨Tryz.f35,_,rfl,by decide,rfl,by kernel_rfl,rfl,rfl⟩
abbrev Et:List Nat:=[0,1,2]
def l5 (F:Nat) (r1:bl):Option (Bool):=
 (p8 F r1).bind fun r2=>some (!r2)
theorem CY {F:Nat} {r1:bl} {H0:AH} {aM:Bool} (h:l5 F r1=some aM):
 aG Tryz.prog 35 [(.agg [(.str r1.ct.au),(.str r1.ct.domain),(.int .i64 r1.state),(.int .i64 r1.tries),(.int .i64 r1.next),(.int .i64 r1.code),(.str r1.why)])] H0 fun v H'=>v=(.bool aM)∧H'=H0:=by
 refine ef Es Et [] fun hcl K0 aP H hH hfr=> ?_
 clear hH
 have hle:=hfr.le
 rw [l5.eq_1] at h
 refine bV ?_
 obtain ⟨r2,hy1,h⟩:=ay h
 refine bg ax (FY hy1) ?_
 refine bV ?_
 obtain rfl:=aK h
 exact aP _ _ _ bG (bp (Fr.app hfr) hcl (bD bx (.bool (!r2))) bB bt ⟨rfl,rfl⟩)
abbrev gW:aD:=(.seq (.rg [(aj 9 (.bin .lss (.t 8) (.t 7)))]) (.seq (.cond (.t 9) .skip (.exit 0)) (.seq (.blk 1 (.seq (.rg [(aA 10 8),(bk 5 10)]) (.seq (.rg [(aA 11 1),(aA 12 0),(aA 13 5),(aj 14 (.lC 7 (.t 12) (.t 13))),(aj 15 (.ld (.t 14) (some 7))),(aj 16 (.call (.t 11) [(.t 15)]))]) (.cond (.t 16) (.seq (.rg [(aA 17 5),(bk 4 17)]) .ret) .skip)))) (.rg [(aj 18 (.bin .add (.t 8) (.c (.int .i64 1)))),(aA 8 18)]))))
abbrev qR:aD:=(.seq (.rg [(aj 4 (.aY (.c (.int .i64 0))))]) (.seq (.seq (.rg [(aA 6 0),(aj 7 (.len (.t 6))),(aj 8 (.mv (.c (.int .i64 0))))]) (.blk 0 (.loop (erase gW)))) (.seq (.rg [(aj 4 (.aY (.c (.int .i64 (-1)))))]) .ret)))
theorem qS:bw Tryz.prog 66 19 [(.tmp 4)] (erase qR):=⟨Tryz.f66,_,rfl,by decide,rfl,by kernel_rfl,rfl,rfl⟩
abbrev jM:List Nat:=[0,1,4,5,7,8,9,16]
def cm (F:Nat) (s1:List bl):(Int×Int)→Option (St Int Unit (Int×Int))
 |(t2,t3)=>
  (if (decide (t3<(s1.length:Int))) then
   (idx s1 t3).bind fun x4=>
   (l5 F x4).bind fun r5=>
   (if r5 then
    some (.ret t3)
   else
    some (.cT (t2,(IntKind.wrap .i64 (t3+1)))))
  else
   some (.fI ()))
def eT (F:Nat) (s1:List bl):Option (Int):=
 ((iter (cm F s1) F (0,0)).bind fun o8=>
 match o8 with
 | .inr ()=>
   some (-1)
 | .inl r7=>
   some r7)
theorem nR {F:Nat} {t3:Int} {s1:List bl} {t2:Int} {H:AH} {K:Exit→Env→AH→Prop} {o:(Int)⊕(Unit)}
 (h:iter (cm F s1) F (t2,t3)=some o)
 (dj:∀o':Unit,o= .inr o'→K (.exit 0) [] H)
 (kr:∀o':Int,o= .inl o'→K .ret [(4,(.int .i64 o'))] H):
 AX Tryz.prog jM 19 H.length (.loop (erase gW)) K [(0,(.sl .n 7 (ml aC s1))),(1,(.fn 35 [])),(4,(.int .i64 t2)),(7,(.int .i64 (s1.length:Int))),(8,(.int .i64 t3))] H:=by
 refine iZ (fun s e H1=>match s with|(t2,t3)=>e=[(0,(.sl .n 7 (ml aC s1))),(1,(.fn 35 [])),(4,(.int .i64 t2)),(7,(.int .i64 (s1.length:Int))),(8,(.int .i64 t3))]∧H1=H) h ⟨rfl,rfl⟩ ?_
 rintro K' ⟨t2,t3⟩ st e H ⟨rfl,rfl⟩ h hN hB hR hX
 rw [cm.eq_1] at h
 refine aS ?_
 refine b7 h (fun hy1 h=> ?_) fun hy1 h=> ?_
 · obtain ⟨x4,bf,h⟩:=ay h
   refine bO bf ?_
   obtain ⟨r5,bz,h⟩:=ay h
   refine bg ax (CY bz) ?_
   refine aS ?_
   refine b7 h (fun bu h=> ?_) fun bu h=> ?_
   · refine aS ?_
     obtain rfl:=aK h
     exact hX _ _ _ _ _ eK aZ ax (kr _ (hR _ rfl))
   · refine aS ?_
     obtain rfl:=aK h
     exact hN _ rfl _ _ _ _ aZ ax ⟨rfl,rfl⟩
 · refine aS ?_
   obtain rfl:=aK h
   exact hX _ _ _ _ _ eK WE.nil ax (dj _ (hB _ rfl))
theorem p9 {F:Nat} {s1:List bl} {H0:AH} {aM:Int} (h:eT F s1=some aM):
 aG Tryz.prog 66 [(.sl .n 7 (ml aC s1)),(.fn 35 [])] H0 fun v H'=>v=(.int .i64 aM)∧H'=H0:=by
 refine gx qS jM fun hcl K0 aP=> ?_
 rw [eT.eq_1] at h
 refine aS ?_
 obtain ⟨o8,bW,h⟩:=ay h
 refine cg ax (nR bW ?_ ?_)
 · rintro ⟨⟩ rfl
   try dsimp only at h
   refine aS ?_
   obtain rfl:=aK h
   exact aP _ _ _ bG (aW hcl (bD bx (.int .i64 (-1))) bB bt ⟨rfl,rfl⟩)
 · rintro r7 rfl
   try dsimp only at h
   refine aS ?_
   obtain rfl:=aK h
   exact aP _ _ _ bG (aW hcl (bD bx (.int .i64 r7)) bB bt ⟨rfl,rfl⟩)
abbrev od:aD:=(.seq (.rg [(aj 4 (.aY (.c (.bool false))))]) (.seq (.rg [(aA 5 0),(aA 6 1),(aj 7 (.call (.c (.fn 66 [])) [(.t 5),(.t 6)])),(aj 8 (.bin .geq (.t 7) (.c (.int .i64 0)))),(bk 4 8)]) .ret))
theorem oe:bw Tryz.prog 34 9 [(.tmp 4)] (erase od):=⟨Tryz.f34,_,rfl,by decide,rfl,by kernel_rfl,rfl,rfl⟩
abbrev og:List Nat:=[0,1,4]
def cX (F:Nat) (s1:List bl):Option (Bool):=
 (eT F s1).bind fun r2=>some (decide (0≤r2))
theorem nS {F:Nat} {s1:List bl} {H0:AH} {aM:Bool} (h:cX F s1=some aM):
 aG Tryz.prog 34 [(.sl .n 7 (ml aC s1)),(.fn 35 [])] H0 fun v H'=>v=(.bool aM)∧H'=H0:=by
 refine gx oe og fun hcl K0 aP=> ?_
 rw [cX.eq_1] at h
 refine aS ?_
 obtain ⟨r2,hy1,h⟩:=ay h
 refine bg ax (p9 hy1) ?_
 refine aS ?_
 obtain rfl:=aK h
 exact aP _ _ _ bG (aW hcl (bD bx (.bool (decide (0≤r2)))) bB bt ⟨rfl,rfl⟩)
abbrev uM:aD:=(.rg [(aj 3 (.aV (.t 1) 0)),(aj 4 (.ld (.t 3) (some 2))),(aj 5 (.call (.c (.fn 32 [])) [(.t 4)])),(aA 6 5),(aF 7 (.aV (.t 1) 2) 6 true),(aF 8 (.ld (.t 7) none) 6 true),(aF 9 (.call (.c (.fn 33 [])) [(.t 8),(.c (.int .i64 0)),(.c (.int .i64 2147483647))]) 6 true),(aj 10 (.pick (.t 6) (.t 9) (.c (.bool false)))),(aA 11 10),(aF 12 (.aV (.t 1) 3) 11 true),(aF 13 (.ld (.t 12) none) 11 true),(aF 14 (.call (.c (.fn 33 [])) [(.t 13),(.c (.int .i64 0)),(.c (.int .i64 2147483647))]) 11 true),(aj 15 (.pick (.t 11) (.t 14) (.c (.bool false)))),(aA 16 15),(aF 17 (.aV (.t 1) 5) 16 true),(aF 18 (.ld (.t 17) none) 16 true),(aF 19 (.len (.t 18)) 16 true),(aF 20 (.call (.c (.fn 33 [])) [(.t 19),(.c (.int .i64 1)),(.c (.int .i64 100))]) 16 true),(aj 21 (.pick (.t 16) (.t 20) (.c (.bool false)))),(aA 22 21),(aF 23 (.aV (.t 1) 5) 22 true),(aF 24 (.ld (.t 23) none) 22 true),(aF 25 (.call (.c (.fn 34 [])) [(.t 24),(.c (.fn 35 []))]) 22 true),(aF 26 (.un .not (.t 25)) 22 true),(aj 27 (.pick (.t 22) (.t 26) (.c (.bool false)))),(bk 2 27)])
abbrev IC:aD:=(.seq (.rg [(aj 1 (.box (.t 0))),(aj 2 (.aY (.c (.bool false))))]) (.seq (.sem (erase uM)) .ret))
theorem ID:bw Tryz.prog 13 28 [(.tmp 2)] (erase IC):=⟨Tryz.f13,_,rfl,by decide,rfl,by kernel_rfl,rfl,rfl⟩
abbrev Ao:List Nat:=[0,1,2]
def nr (F:Nat) (e1:ak):Option (Bool):=
 (k8 F e1.av).bind fun r3=>
 (if r3 then
  (eL e1.born 0 2147483647).bind fun r4=>
  (if r4 then
   (eL e1.size 0 2147483647).bind fun r5=>
   (if r5 then
    (eL (e1.az.length:Int) 1 100).bind fun r6=>
    (if r6 then
     (cX F e1.az).bind fun r7=>some (!r7)
    else
     some false)
   else
    some false)
  else
   some false)
 else
  some false)
def jj (F:Nat) (e1:ak):Option (Bool):=
 (nr F e1).bind fun t9=>
 some t9
theorem BV {F:Nat} {e1:ak} {q2:Nat} {H0 H:AH} (hfr:Fr H0 H0.length [] H) (ai:H[q2]? =some [(.str e1.av.au),(.str e1.av.domain),(.int .i64 e1.born),(.int .i64 e1.size),(.int .u32 e1.sum),(.sl .n 7 (ml aC e1.az))]) (eS:H0.length≤q2) {K:Exit→Env→AH→Prop} {t8:Bool}
 (h:nr F e1=some t8)
 (kn:∀H':AH,Fr H0 H0.length [] H'→H'[q2]? =some [(.str e1.av.au),(.str e1.av.domain),(.int .i64 e1.born),(.int .i64 e1.size),(.int .u32 e1.sum),(.sl .n 7 (ml aC e1.az))]→K .normal [(2,(.bool t8))] H'):
 AX Tryz.prog Ao 28 H0.length (erase uM) K [(1,(.ptr q2 0)),(2,(.bool false))] H:=by
 refine dz fun K' hK=> ?_
 have hle:=hfr.le
 have aU:=aL ai
 rw [nr.eq_1] at h
 refine aE ai ?_
 obtain ⟨r3,hy1,h⟩:=ay h
 refine bg ax (wg hy1) ?_
 refine aE ai ?_
 refine cr h (fun bf h=> ?_) fun bf h=> ?_
 · refine aE (aB bf ai) ?_
   obtain ⟨r4,bz,h⟩:=ay h
   refine bg ax (eV bz) ?_
   refine aE ai ?_
   refine cr h (fun bu h=> ?_) fun bu h=> ?_
   · refine aE (aB bu ai) ?_
     obtain ⟨r5,bW,h⟩:=ay h
     refine bg ax (eV bW) ?_
     refine aE ai ?_
     refine cr h (fun cw h=> ?_) fun cw h=> ?_
     · refine aE (aB cw ai) ?_
       obtain ⟨r6,dB,h⟩:=ay h
       refine bg ax (eV dB) ?_
       refine aE ai ?_
       refine cr h (fun dD h=> ?_) fun dD h=> ?_
       · refine aE (aB dD ai) ?_
         obtain ⟨r7,eE,h⟩:=ay h
         refine bg ax (nS eE) ?_
         refine aE ai ?_
         obtain rfl:=aK h
         exact hK _ _ _ _ _ aZ ax (kn _ hfr (ai.trans rfl))
       · refine aE (aB dD ai) ?_
         obtain rfl:=aK h
         exact hK _ _ _ _ _ aZ ax (kn _ hfr (ai.trans rfl))
     · refine aE (aB cw ai) ?_
       obtain rfl:=aK h
       exact hK _ _ _ _ _ aZ ax (kn _ hfr (ai.trans rfl))
   · refine aE (aB bu ai) ?_
     obtain rfl:=aK h
     exact hK _ _ _ _ _ aZ ax (kn _ hfr (ai.trans rfl))
 · refine aE (aB bf ai) ?_
   obtain rfl:=aK h
   exact hK _ _ _ _ _ aZ ax (kn _ hfr (ai.trans rfl))
theorem nt {F:Nat} {e1:ak} {H0:AH} {aM:Bool} (h:jj F e1=some aM):
 aG Tryz.prog 13 [(.agg [(.str e1.av.au),(.str e1.av.domain),(.int .i64 e1.born),(.int .i64 e1.size),(.int .u32 e1.sum),(.sl .n 7 (ml aC e1.az))])] H0 fun v H'=>v=(.bool aM)∧H'=H0:=by
 refine ef ID Ao [] fun hcl K0 aP H hH hfr=> ?_
 clear hH
 have hle:=hfr.le
 rw [jj.eq_1] at h
 refine bV ?_
 obtain ⟨q2,eF⟩:∃q:Nat,H.length=q:=⟨_,rfl⟩
 try rw [eF]
 obtain ⟨t9,dh,h⟩:=ay h
 refine cg ax (BV (q2:=q2) (Fr.app hfr) jY br dh ?_)
 intro H hfr ai
 have hle:=hfr.le
 have aU:=aL ai
 refine aE ai ?_
 obtain rfl:=aK h
 exact aP _ _ _ bG (bp hfr hcl (bD bx (.bool t9)) bB bt ⟨rfl,rfl⟩)
abbrev yE:aD:=(.seq (.rg [(aj 0 (.aY (.c (.v (.pointer none)))))]) (.seq (.rg [(aj 1 (.build [(.sl .ex 1 [])] [])),(aj 2 (.box (.t 1))),(bk 0 2)]) .ret))
theorem yF:bw Tryz.prog 23 3 [(.tmp 0)] (erase yE):=⟨Tryz.f23,_,rfl,by decide,rfl,by kernel_rfl,rfl,rfl⟩
abbrev yG:List Nat:=[0]
def fJ:Option ((Option aT)):=
 some (some (aT.mk ([]:List UInt8)))
theorem ox {H0:AH} {aM:Option aT} (h:fJ=some aM):
 aG Tryz.prog 23 [] H0 fun v H'=>match (generalizing:=false) aM with|none=>v=(.v (.pointer none))∧Fr H0 H0.length [] H'|some IE=>∃yH,v=(.ptr yH 0)∧H0.length≤yH∧Fr H0 H0.length [] H'∧H'[yH]? =some [(.sl .own 1 (ml b8 IE.b))]:=by
 refine ef yF yG [] fun hcl K0 aP H hH hfr=> ?_
 clear hH
 have hle:=hfr.le
 rw [fJ.eq_1] at h
 refine bV ?_
 obtain rfl:=aK h
 exact aP _ _ _ bG (KH (bD bx (.ptr H.length 0)) (r':=(.ptr H.length 0)) bt (eR.set (q:=H.length) (cs':=[(.sl .own 1 [])]) jY gE) ⟨H.length,rfl,br,(bn _ (Fr.app hfr)),bL⟩)
abbrev yI:aD:=(.rg [(aA 4 0),(aA 5 0),(aj 6 (.dZ (.t 5))),(aj 7 (.aV (.t 6) 0)),(aj 8 (.ld (.t 7) none)),(aA 9 1),(aj 10 (.ec (.int .u8) (.t 9))),(aj 11 (.jQ 1 [(.t 10)])),(aj 12 (.app 1 1 (.t 8) (.t 11))),(aj 13 (.dZ (.t 4))),(aj 14 (.aV (.t 13) 0)),(cZ (.st (.t 14) (.t 12) 1))])
theorem yJ:bw Tryz.prog 27 15 [] (erase yI):=⟨Tryz.f27,_,rfl,by decide,rfl,by kernel_rfl,rfl,rfl⟩
abbrev yK:List Nat:=[0,1]
def dK (w2:aT) (fC:Int):Option (aT):=
 (cC 1 w2.b ([(UInt8.ofInt fC)]:List UInt8)).bind fun x4=>some (aT.mk x4)
theorem gG {w2:aT} {fC:Int} {q1:Nat} {H0:AH} (ai:H0[q1]? =some [(.sl .own 1 (ml b8 w2.b))]) {aM:aT} (h:dK w2 fC=some aM):
 aG Tryz.prog 27 [(.ptr q1 0),(.int .i64 fC)] H0 fun v H'=>v=(.bK [])∧H'=(H0.set q1 [(.sl .own 1 (ml b8 aM.b))]):=by
 have aU:=aL ai
 refine ef yJ yK [q1] fun hcl K0 aP H hH hfr=> ?_
 rw [←hH] at ai
 clear hH
 have hle:=hfr.le
 have eW:=aL ai
 rw [dK.eq_1] at h
 obtain ⟨x4,hy1,h⟩:=ay h
 have bf:cC 1 (ml b8 w2.b) [(b8 (UInt8.ofInt fC))]=some (ml b8 x4):=eo (f:=b8) hy1
 refine aE (aB bf ai) ?_
 obtain rfl:=aK h
 exact aP _ _ _ Io (cc (bn _ (bn _ hfr)) hcl bx bB bt bL br jv gE ⟨rfl,rfl⟩)
abbrev xm:aD:=(.rg [(aA 4 0),(aA 5 0),(aj 6 (.dZ (.t 5))),(aj 7 (.aV (.t 6) 0)),(aj 8 (.ld (.t 7) none)),(aA 9 1),(aj 10 (.ec (.int .u8) (.t 9))),(aA 11 1),(aj 12 (.bin .shr (.t 11) (.c (.int .u64 8)))),(aj 13 (.ec (.int .u8) (.t 12))),(aA 14 1),(aj 15 (.bin .shr (.t 14) (.c (.int .u64 16)))),(aj 16 (.ec (.int .u8) (.t 15))),(aA 17 1),(aj 18 (.bin .shr (.t 17) (.c (.int .u64 24)))),(aj 19 (.ec (.int .u8) (.t 18))),(aj 20 (.jQ 1 [(.t 10),(.t 13),(.t 16),(.t 19)])),(aj 21 (.app 1 1 (.t 8) (.t 20))),(aj 22 (.dZ (.t 4))),(aj 23 (.aV (.t 22) 0)),(cZ (.st (.t 23) (.t 21) 1))])
theorem xo:bw Tryz.prog 28 24 [] (erase xm):=⟨Tryz.f28,_,rfl,by decide,rfl,by kernel_rfl,rfl,rfl⟩
abbrev xp:List Nat:=[0,1]
def dn (w2:aT) (fC:Int):Option (aT):=
 (cC 1 w2.b ([(UInt8.ofInt fC),(UInt8.ofInt (shr .i64 fC 8)),(UInt8.ofInt (shr .i64 fC 16)),(UInt8.ofInt (shr .i64 fC 24))]:List UInt8)).bind fun x4=>some (aT.mk x4)
theorem gm {w2:aT} {fC:Int} {q1:Nat} {H0:AH} (ai:H0[q1]? =some [(.sl .own 1 (ml b8 w2.b))]) {aM:aT} (h:dn w2 fC=some aM):
 aG Tryz.prog 28 [(.ptr q1 0),(.int .i64 fC)] H0 fun v H'=>v=(.bK [])∧H'=(H0.set q1 [(.sl .own 1 (ml b8 aM.b))]):=by
 have aU:=aL ai
 refine ef xo xp [q1] fun hcl K0 aP H hH hfr=> ?_
 rw [←hH] at ai
 clear hH
 have hle:=hfr.le
 have eW:=aL ai
 rw [dn.eq_1] at h
 obtain ⟨x4,hy1,h⟩:=ay h
 have bf:cC 1 (ml b8 w2.b) [(b8 (UInt8.ofInt fC)),(b8 (UInt8.ofInt (shr .i64 fC 8))),(b8 (UInt8.ofInt (shr .i64 fC 16))),(b8 (UInt8.ofInt (shr .i64 fC 24)))]=some (ml b8 x4):=eo (f:=b8) hy1
 refine aE (aB bf ai) ?_
 obtain rfl:=aK h
 exact aP _ _ _ Io (cc (bn _ (bn _ hfr)) hcl bx bB bt bL br jv gE ⟨rfl,rfl⟩)
abbrev vg:aD:=(.seq (.rg [(aA 4 0),(aA 5 1),(aj 6 (.len (.t 5))),(aj 7 (.call (.c (.fn 28 [])) [(.t 4),(.t 6)]))]) (.rg [(aA 8 0),(aA 9 0),(aj 10 (.dZ (.t 9))),(aj 11 (.aV (.t 10) 0)),(aj 12 (.ld (.t 11) none)),(aA 13 1),(aj 14 (.app 1 1 (.t 12) (.t 13))),(aj 15 (.dZ (.t 8))),(aj 16 (.aV (.t 15) 0)),(cZ (.st (.t 16) (.t 14) 1))]))
theorem vh:bw Tryz.prog 25 17 [] (erase vg):=⟨Tryz.f25,_,rfl,by decide,rfl,by kernel_rfl,rfl,rfl⟩
abbrev vi:List Nat:=[0,1]
def fo (w2:aT) (b3:List UInt8):Option (aT):=
 (dn w2 (b3.length:Int)).bind fun r4=>(cC 1 r4.b b3).bind fun x5=>some (aT.mk x5)
theorem ue {w2:aT} {b3:List UInt8} {q1:Nat} {H0:AH} (ai:H0[q1]? =some [(.sl .own 1 (ml b8 w2.b))]) {aM:aT} (h:fo w2 b3=some aM):
 aG Tryz.prog 25 [(.ptr q1 0),(.sl .n 1 (ml b8 b3))] H0 fun v H'=>v=(.bK [])∧H'=(H0.set q1 [(.sl .own 1 (ml b8 aM.b))]):=by
 have aU:=aL ai
 refine ef vh vi [q1] fun hcl K0 aP H hH hfr=> ?_
 rw [←hH] at ai
 clear hH
 have hle:=hfr.le
 have eW:=aL ai
 rw [fo.eq_1] at h
 refine aE ai ?_
 obtain ⟨r4,hy1,h⟩:=ay h
 refine bg ax (gm (ai.trans rfl) hy1) ?_
 refine aE ai ?_
 obtain ⟨x5,bf,h⟩:=ay h
 have bz:cC 1 (ml b8 r4.b) (ml b8 b3)=some (ml b8 x5):=eo (f:=b8) bf
 refine aE (aB bz ai) ?_
 obtain rfl:=aK h
 exact aP _ _ _ Io (cc (bn _ (bn _ (bn _ hfr))) hcl bx bB bt bL br jv gE ⟨rfl,rfl⟩)
abbrev Ap:aD:=(.rg [(aj 3 (.ld (.t 1) none)),(aA 4 0),(aj 5 (.ec .sb (.t 4))),(aj 6 (.call (.c (.fn 25 [])) [(.t 3),(.t 5)]))])
theorem Aq:bw Tryz.prog 24 7 [] (erase Ap):=⟨Tryz.f24,_,rfl,by decide,rfl,by kernel_rfl,rfl,rfl⟩
abbrev As:List Nat:=[0,1]
def eZ (s1:List UInt8) (v3:aT):Option (aT):=
 (fo v3 s1).bind fun r5=>some r5
theorem kQ {s1:List UInt8} {v3:aT} {q2:Nat} {q4:Nat} {H0:AH} (ai:H0[q2]? =some [(.ptr q4 0)]) (aq:H0[q4]? =some [(.sl .own 1 (ml b8 v3.b))]) (eS:q2≠q4) {aM:aT} (h:eZ s1 v3=some aM):
 aG Tryz.prog 24 [(.str s1),(.ptr q2 0)] H0 fun v H'=>v=(.bK [])∧H'=(H0.set q4 [(.sl .own 1 (ml b8 aM.b))]):=by
 have aU:=aL ai
 have cK:=aL aq
 refine ef Aq As [q4] fun hcl K0 aP H hH hfr=> ?_
 rw [←hH] at ai aq
 clear hH
 have hle:=hfr.le
 have eW:=aL ai
 have IF:=aL aq
 rw [eZ.eq_1] at h
 refine aE (aB ai aq) ?_
 obtain ⟨r5,hy1,h⟩:=ay h
 refine bg ax (ue (aq.trans rfl) hy1) ?_
 refine aE (aB ai aq) ?_
 obtain rfl:=aK h
 exact aP _ _ _ Io (cc (bn _ hfr) hcl bx bB bt bL br jv gE ⟨rfl,rfl⟩)
abbrev Au:aD:=(.seq (.rg [(aj 2 (.box (.t 0)))]) (.seq (.rg [(aj 3 (.ld (.t 1) none)),(aj 4 (.aV (.t 2) 0)),(aj 5 (.ld (.t 4) none)),(aj 6 (.call (.t 3) [(.t 5)]))]) (.rg [(aj 7 (.ld (.t 1) none)),(aj 8 (.aV (.t 2) 1)),(aj 9 (.ld (.t 8) none)),(aj 10 (.call (.t 7) [(.t 9)]))])))
theorem Av:bw Tryz.prog 26 11 [] (erase Au):=⟨Tryz.f26,_,rfl,by decide,rfl,by kernel_rfl,rfl,rfl⟩
abbrev Aw:List Nat:=[0,1,2]
def ga (a1:aJ) (v4:aT):Option (aT):=
 (eZ a1.au v4).bind fun r6=>(eZ a1.domain r6).bind fun r7=>some r7
theorem qa {a1:aJ} {v4:aT} {q2:Nat} {q3:Nat} {q5:Nat} {H0:AH} (ai:H0[q2]? =some [(.fn 24 [(.ptr q3 0)])]) (aq:H0[q3]? =some [(.ptr q5 0)]) (aR:H0[q5]? =some [(.sl .own 1 (ml b8 v4.b))]) (eS:q2≠q3) (hi1:q2≠q5) (hi2:q3≠q5) {aM:aT} (h:ga a1 v4=some aM):
 aG Tryz.prog 26 [(.agg [(.str a1.au),(.str a1.domain)]),(.ptr q2 0)] H0 fun v H'=>v=(.bK [])∧H'=(H0.set q5 [(.sl .own 1 (ml b8 aM.b))]):=by
 have aU:=aL ai
 have cK:=aL aq
 have kR:=aL aR
 refine ef Av Aw [q5] fun hcl K0 aP H hH hfr=> ?_
 rw [←hH] at ai aq aR
 clear hH
 have hle:=hfr.le
 have eW:=aL ai
 have IF:=aL aq
 have abF:=aL aR
 rw [ga.eq_1] at h
 refine aE (aB ai (aB aq aR)) ?_
 obtain ⟨r6,hy1,h⟩:=ay h
 refine bg ax (kQ (q2:=q3) (q4:=q5) (ez (aq.trans rfl)) (ez (aR.trans rfl)) br hy1) ?_
 refine aE (aB ai (aB aq aR)) ?_
 obtain ⟨r7,bf,h⟩:=ay h
 refine bg ax (kQ (q2:=q3) (q4:=q5) (aX (ez (aq.trans rfl))) bL br bf) ?_
 refine aE (aB ai (aB aq aR)) ?_
 obtain rfl:=aK h
 exact aP _ _ _ Io (cc (bn _ (bn _ (Fr.app hfr))) hcl bx bB bt bL br jv gE ⟨rfl,rfl⟩)
abbrev xq:aD:=(.rg [(aA 4 0),(aA 5 0),(aj 6 (.dZ (.t 5))),(aj 7 (.aV (.t 6) 0)),(aj 8 (.ld (.t 7) none)),(aA 9 1),(aj 10 (.ec (.int .u8) (.t 9))),(aA 11 1),(aj 12 (.bin .shr (.t 11) (.c (.int .u64 8)))),(aj 13 (.ec (.int .u8) (.t 12))),(aj 14 (.jQ 1 [(.t 10),(.t 13)])),(aj 15 (.app 1 1 (.t 8) (.t 14))),(aj 16 (.dZ (.t 4))),(aj 17 (.aV (.t 16) 0)),(cZ (.st (.t 17) (.t 15) 1))])
theorem xu:bw Tryz.prog 29 18 [] (erase xq):=⟨Tryz.f29,_,rfl,by decide,rfl,by kernel_rfl,rfl,rfl⟩
abbrev xw:List Nat:=[0,1]
def gp (w2:aT) (fC:Int):Option (aT):=
 (cC 1 w2.b ([(UInt8.ofInt fC),(UInt8.ofInt (shr .i64 fC 8))]:List UInt8)).bind fun x4=>some (aT.mk x4)
theorem wj {w2:aT} {fC:Int} {q1:Nat} {H0:AH} (ai:H0[q1]? =some [(.sl .own 1 (ml b8 w2.b))]) {aM:aT} (h:gp w2 fC=some aM):
 aG Tryz.prog 29 [(.ptr q1 0),(.int .i64 fC)] H0 fun v H'=>v=(.bK [])∧H'=(H0.set q1 [(.sl .own 1 (ml b8 aM.b))]):=by
 have aU:=aL ai
 refine ef xu xw [q1] fun hcl K0 aP H hH hfr=> ?_
 rw [←hH] at ai
 clear hH
 have hle:=hfr.le
 have eW:=aL ai
 rw [gp.eq_1] at h
 obtain ⟨x4,hy1,h⟩:=ay h
 have bf:cC 1 (ml b8 w2.b) [(b8 (UInt8.ofInt fC)),(b8 (UInt8.ofInt (shr .i64 fC 8)))]=some (ml b8 x4):=eo (f:=b8) hy1
 refine aE (aB bf ai) ?_
 obtain rfl:=aK h
 exact aP _ _ _ Io (cc (bn _ (bn _ hfr)) hcl bx bB bt bL br jv gE ⟨rfl,rfl⟩)
theorem CZ:bw Tryz.prog 60 8 [(.tmp 2)] (Aa 1 1):=⟨Tryz.f60,_,rfl,by decide,rfl,by kernel_rfl,rfl,rfl⟩
def fF (s1:List UInt8):Option (List UInt8):=cC 1 [] s1
theorem gM {s1:List UInt8} {H0:AH} {aM:List UInt8} (h:fF s1=some aM):aG Tryz.prog 60 [(.sl .n 1 (ml b8 s1))] H0 fun v H'=>v=(.sl .own 1 (ml b8 aM))∧H'=H0:=Im CZ (eo (f:=b8) h)
abbrev wm:aD:=(.seq (.rg [(aj 2 (.aY (.c (.sl .ex 1 []))))]) (.seq (.rg [(aA 3 0),(aj 4 (.dZ (.t 3))),(aj 5 (.aV (.t 4) 0)),(aj 6 (.ld (.t 5) none)),(aj 7 (.call (.c (.fn 60 [])) [(.t 6)])),(bk 2 7)]) .ret))
theorem wo:bw Tryz.prog 31 8 [(.tmp 2)] (erase wm):=⟨Tryz.f31,_,rfl,by decide,rfl,by kernel_rfl,rfl,rfl⟩
abbrev wq:List Nat:=[0,2]
def ic (w2:aT):Option ((List UInt8)):=
 (fF w2.b).bind fun r3=>some r3
theorem vj {w2:aT} {q1:Nat} {H0:AH} (ai:H0[q1]? =some [(.sl .own 1 (ml b8 w2.b))]) {aM:List UInt8} (h:ic w2=some aM):
 aG Tryz.prog 31 [(.ptr q1 0)] H0 fun v H'=>v=(.sl .own 1 (ml b8 aM))∧H'=H0:=by
 have aU:=aL ai
 refine ef wo wq [] fun hcl K0 aP H hH hfr=> ?_
 rw [←hH] at ai
 clear hH
 have hle:=hfr.le
 have eW:=aL ai
 rw [ic.eq_1] at h
 refine aE ai ?_
 obtain ⟨r3,hy1,h⟩:=ay h
 refine bg ax (gM hy1) ?_
 refine aE ai ?_
 obtain rfl:=aK h
 exact aP _ _ _ bG (bp hfr hcl (bD bx (.sl .own 1 (ml b8 r3))) bB bt ⟨rfl,rfl⟩)
abbrev td:aD:=(.seq (.rg [(aj 11 (.bin .lss (.t 10) (.t 9)))]) (.seq (.cond (.t 11) .skip (.exit 0)) (.seq (.blk 1 (.seq (.rg [(aj 12 (.lC 1 (.t 8) (.t 10))),(aj 13 (.ld (.t 12) none)),(bk 6 13)]) (.seq (.rg [(aA 14 4),(aA 15 6),(aj 16 (.ec (.int .u32) (.t 15))),(aj 17 (.bin .xor (.t 14) (.t 16))),(bk 4 17)]) (.seq (.rg [(aA 18 4),(aj 19 (.bin .shr (.t 18) (.c (.int .u64 4)))),(aA 20 4),(aj 21 (.bin .and (.t 20) (.c (.int .u32 15)))),(aj 22 (.PC 1 16 (.t 3) (.t 21))),(aj 23 (.ld (.t 22) none)),(aj 24 (.bin .xor (.t 19) (.t 23))),(bk 4 24)]) (.rg [(aA 25 4),(aj 26 (.bin .shr (.t 25) (.c (.int .u64 4)))),(aA 27 4),(aj 28 (.bin .and (.t 27) (.c (.int .u32 15)))),(aj 29 (.PC 1 16 (.t 3) (.t 28))),(aj 30 (.ld (.t 29) none)),(aj 31 (.bin .xor (.t 26) (.t 30))),(bk 4 31)]))))) (.rg [(aj 32 (.bin .add (.t 10) (.c (.int .i64 1)))),(aA 10 32)]))))
abbrev IG:aD:=(.seq (.rg [(aj 2 (.aY (.c (.int .u32 0))))]) (.seq (.rg [(aj 7 (.build [(.int .u32 0),(.int .u32 498536548),(.int .u32 997073096),(.int .u32 651767980),(.int .u32 1994146192),(.int .u32 1802195444),(.int .u32 1303535960),(.int .u32 1342533948),(.int .u32 3988292384),(.int .u32 4027552580),(.int .u32 3604390888),(.int .u32 3412177804),(.int .u32 2607071920),(.int .u32 2262029012),(.int .u32 2685067896),(.int .u32 3183342108)] [])),(aj 3 (.alloc [(.int .u32 0),(.int .u32 0),(.int .u32 0),(.int .u32 0),(.int .u32 0),(.int .u32 0),(.int .u32 0),(.int .u32 0),(.int .u32 0),(.int .u32 0),(.int .u32 0),(.int .u32 0),(.int .u32 0),(.int .u32 0),(.int .u32 0),(.int .u32 0)])),(cZ (.st (.t 3) (.t 7) 16))]) (.seq (.rg [(aj 4 (.aY (.c (.int .u32 4294967295))))]) (.seq (.seq (.rg [(aA 8 0),(aj 9 (.len (.t 8))),(aj 10 (.mv (.c (.int .i64 0))))]) (.blk 0 (.loop (erase td)))) (.seq (.rg [(aA 33 4),(aj 34 (.un .xor (.t 33))),(bk 2 34)]) .ret)))))
theorem II:bw Tryz.prog 61 35 [(.tmp 2)] (erase IG):=⟨Tryz.f61,_,rfl,by decide,rfl,by kernel_rfl,rfl,rfl⟩
abbrev Ax:List Nat:=[0,2,3,4,6,8,9,10,11]
def fK:List Int:=[0,498536548,997073096,651767980,1994146192,1802195444,1303535960,1342533948,3988292384,4027552580,3604390888,3412177804,2607071920,2262029012,2685067896,3183342108]
def iK (b1:List UInt8):(Int×Int)→Option (St Int Int (Int×Int))
 |(v3,t4)=>
  (if (decide (t4<(b1.length:Int))) then
   (idx b1 t4).bind fun x5=>
   (z1 16 (xW .u32 (sU .u32 v3 (IntKind.wrap .u32 (x5.toNat:Int))) 15)).bind fun j6=>
   (fK[j6]?).bind fun x7=>
   (z1 16 (xW .u32 (sU .u32 (shr .u32 (sU .u32 v3 (IntKind.wrap .u32 (x5.toNat:Int))) 4) x7) 15)).bind fun j8=>
   (fK[j8]?).bind fun x9=>
   some (.cT ((sU .u32 (shr .u32 (sU .u32 (shr .u32 (sU .u32 v3 (IntKind.wrap .u32 (x5.toNat:Int))) 4) x7) 4) x9),(IntKind.wrap .i64 (t4+1))))
  else
   some (.fI v3))
def mV (F:Nat) (b1:List UInt8):Option (Int):=
 ((iter (iK b1) F (4294967295,0)).bind fun Eu=>
 match Eu with
 | .inr v11=>
   some (vX .u32 v11)
 | .inl _=>none)
theorem BW {F:Nat} {t4:Int} {b1:List UInt8} {v3:Int} {q2:Nat} {H0 H:AH} (hfr:Fr H0 H0.length [] H) (ai:H[q2]? =some (ml (jd .u32) fK)) (eS:H0.length≤q2) {K:Exit→Env→AH→Prop} {o:(Int)⊕(Int)}
 (h:iter (iK b1) F (v3,t4)=some o)
 (dj:∀o':Int,o= .inr o'→∀H':AH,Fr H0 H0.length [] H'→H'[q2]? =some (ml (jd .u32) fK)→K (.exit 0) [(4,(.int .u32 o'))] H'):
 AX Tryz.prog Ax 35 H0.length (.loop (erase td)) K [(3,(.ptr q2 0)),(4,(.int .u32 v3)),(8,(.sl .n 1 (ml b8 b1))),(9,(.int .i64 (b1.length:Int))),(10,(.int .i64 t4))] H:=by
 refine iZ (fun s e H1=>match s with|(v3,t4)=>e=[(3,(.ptr q2 0)),(4,(.int .u32 v3)),(8,(.sl .n 1 (ml b8 b1))),(9,(.int .i64 (b1.length:Int))),(10,(.int .i64 t4))]∧Fr H0 H0.length [] H1∧H1[q2]? =some (ml (jd .u32) fK)) h ⟨rfl,hfr,ai⟩ ?_
 rintro K' ⟨v3,t4⟩ st e H ⟨rfl,hfr,ai⟩ h hN hB hR hX
 have hle:=hfr.le
 have aU:=aL ai
 rw [iK.eq_1] at h
 refine aE ai ?_
 refine b7 h (fun hy1 h=> ?_) fun hy1 h=> ?_
 · obtain ⟨x5,bf,h⟩:=ay h
   obtain ⟨j6,bz,h⟩:=ay h
   obtain ⟨x7,bu,h⟩:=ay h
   have bW:=tW (f:=(jd .u32)) bu
   obtain ⟨j8,cw,h⟩:=ay h
   obtain ⟨x9,dB,h⟩:=ay h
   have dD:=tW (f:=(jd .u32)) dB
   refine aE (aB bf (aB bz (aB bW (aB cw (aB dD ai))))) ?_
   obtain rfl:=aK h
   exact hN _ rfl _ _ _ _ aZ ax ⟨rfl,hfr,(ai.trans rfl)⟩
 · refine aE ai ?_
   obtain rfl:=aK h
   exact hX _ _ _ _ _ eK aZ ax (dj _ (hB _ rfl) _ hfr (ai.trans rfl))
theorem ya {F:Nat} {b1:List UInt8} {H0:AH} {aM:Int} (h:mV F b1=some aM):
 aG Tryz.prog 61 [(.sl .n 1 (ml b8 b1))] H0 fun v H'=>v=(.int .u32 aM)∧H'=H0:=by
 refine ef II Ax [] fun hcl K0 aP H hH hfr=> ?_
 clear hH
 have hle:=hfr.le
 rw [mV.eq_1] at h
 refine bV ?_
 obtain ⟨q2,eF⟩:∃q:Nat,H.length=q:=⟨_,rfl⟩
 try rw [eF]
 obtain ⟨Eu,eE,h⟩:=ay h
 refine cg ax (BW (q2:=q2) (bn _ (Fr.app hfr)) bL br eE ?_)
 · rintro v11 rfl H hfr ai
   try dsimp only at h ai
   have hle:=hfr.le
   have aU:=aL ai
   refine aE ai ?_
   obtain rfl:=aK h
   exact aP _ _ _ bG (bp hfr hcl (bD bx (.int .u32 (vX .u32 v11))) bB bt ⟨rfl,rfl⟩)
abbrev F0:aD:=(.seq (.rg [(aj 2 (.aY (.c (.sl .ex 1 []))))]) (.seq (.rg [(aj 4 (.call (.c (.fn 23 [])) [])),(bk 3 4)]) (.seq (.rg [(aA 5 3),(aA 6 0),(aj 7 (.call (.c (.fn 60 [])) [(.t 6)])),(aj 8 (.dZ (.t 5))),(aj 9 (.aV (.t 8) 0)),(cZ (.st (.t 9) (.t 7) 1))]) (.seq (.rg [(aA 10 3),(aA 11 0),(aj 12 (.call (.c (.fn 61 [])) [(.t 11)])),(aj 13 (.ec (.int .i64) (.t 12))),(aj 14 (.call (.c (.fn 28 [])) [(.t 10),(.t 13)]))]) (.seq (.rg [(aA 15 3),(aj 16 (.dZ (.t 15))),(aj 17 (.aV (.t 16) 0)),(aj 18 (.ld (.t 17) none)),(bk 2 18)]) .ret)))))
theorem F1:bw Tryz.prog 30 19 [(.tmp 2)] (erase F0):=⟨Tryz.f30,_,rfl,by decide,rfl,by kernel_rfl,rfl,rfl⟩
abbrev F2:List Nat:=[0,2,3]
def nT (F:Nat) (b1:List UInt8):Option ((List UInt8)):=
 ((fJ).bind fun r2=>
 match r2 with
 |none=>
  none
 |some t3=>
  (fF b1).bind fun r6=>
  (mV F b1).bind fun r7=>
  (dn (aT.mk r6) (IntKind.wrap .i64 r7)).bind fun r8=>some r8.b)
theorem Ev {F:Nat} {b1:List UInt8} {H0:AH} {aM:List UInt8} (h:nT F b1=some aM):
 aG Tryz.prog 30 [(.sl .n 1 (ml b8 b1))] H0 fun v H'=>v=(.sl .n 1 (ml b8 aM))∧H'=H0:=by
 refine ef F1 F2 [] fun hcl K0 aP H hH hfr=> ?_
 clear hH
 have hle:=hfr.le
 rw [nT.eq_1] at h
 refine bV ?_
 obtain ⟨r2,hy1,h⟩:=ay h
 rcases r2 with _|t3
 · try dsimp only at h
   cases h
 · try dsimp only at h
   refine YQ ax (ox hy1) ?_
   rintro _ H ⟨q5,rfl,Ew,Ay,ai⟩
   try simp only [pM,pN] at Ew
   have hfr:=Fr.trans hfr Ay (by simp)
   have hle:=hfr.le
   have aU:=aL ai
   refine aE ai ?_
   obtain ⟨r6,bz,h⟩:=ay h
   refine bg ax (gM bz) ?_
   refine aE ai ?_
   obtain ⟨r7,bu,h⟩:=ay h
   refine bg ax (ya bu) ?_
   refine aE ai ?_
   obtain ⟨r8,bW,h⟩:=ay h
   refine bg ax (gm (q1:=q5) bL bW) ?_
   refine aE ai ?_
   obtain rfl:=aK h
   exact aP _ _ _ bG (bp (bn _ (bn _ hfr)) hcl (bD bx (.sl .n 1 (ml b8 r8.b))) bB bt ⟨rfl,rfl⟩)
abbrev rE:aD:=(.seq (.rg [(aj 32 (.bin .lss (.t 31) (.t 30)))]) (.seq (.cond (.t 32) .skip (.exit 0)) (.seq (.blk 1 (.seq (.rg [(aj 33 (.lC 1 (.t 29) (.t 31))),(aj 34 (.ld (.t 33) none)),(bk 7 34)]) (.rg [(aj 35 (.ld (.t 3) none)),(aA 36 7),(aj 37 (.call (.c (.fn 28 [])) [(.t 35),(.t 36)]))]))) (.rg [(aj 38 (.bin .add (.t 31) (.c (.int .i64 1)))),(aA 31 38)]))))
abbrev rF:aD:=(.seq (.rg [(aj 48 (.bin .lss (.t 47) (.t 46)))]) (.seq (.cond (.t 48) .skip (.exit 2)) (.seq (.blk 3 (.seq (.rg [(aj 49 (.lC 7 (.t 45) (.t 47))),(aj 50 (.ld (.t 49) (some 7))),(aj 9 (.alloc [(.str []),(.str []),(.int .i64 0),(.int .i64 0),(.int .i64 0),(.int .i64 0),(.str [])])),(cZ (.st (.t 9) (.t 50) 7))]) (.seq (.rg [(aA 51 5),(aj 52 (.aV (.t 9) 0)),(aj 53 (.ld (.t 52) (some 2))),(aj 54 (.call (.t 51) [(.t 53)]))]) (.seq (.rg [(aj 55 (.ld (.t 3) none)),(aj 56 (.aV (.t 9) 2)),(aj 57 (.ld (.t 56) none)),(aj 58 (.call (.c (.fn 27 [])) [(.t 55),(.t 57)]))]) (.seq (.rg [(aj 59 (.ld (.t 3) none)),(aj 60 (.aV (.t 9) 3)),(aj 61 (.ld (.t 60) none)),(aj 62 (.call (.c (.fn 27 [])) [(.t 59),(.t 61)]))]) (.seq (.rg [(aj 63 (.ld (.t 3) none)),(aj 64 (.aV (.t 9) 4)),(aj 65 (.ld (.t 64) none)),(aj 66 (.call (.c (.fn 28 [])) [(.t 63),(.t 65)]))]) (.seq (.rg [(aj 67 (.ld (.t 3) none)),(aj 68 (.aV (.t 9) 5)),(aj 69 (.ld (.t 68) none)),(aj 70 (.call (.c (.fn 29 [])) [(.t 67),(.t 69)]))]) (.rg [(aj 71 (.ld (.t 4) none)),(aj 72 (.aV (.t 9) 6)),(aj 73 (.ld (.t 72) none)),(aj 74 (.call (.t 71) [(.t 73)]))])))))))) (.rg [(aj 75 (.bin .add (.t 47) (.c (.int .i64 1)))),(aA 47 75)]))))
abbrev F3:aD:=(.seq (.rg [(aj 1 (.box (.t 0))),(aj 2 (.aY (.c (.sl .ex 1 []))))]) (.seq (.seq (.rg [(aj 10 (.ld (.t 1) (some 6))),(aj 11 (.call (.c (.fn 13 [])) [(.t 10)])),(aj 12 (.un .not (.t 11)))]) (.cond (.t 12) (.seq (.rg [(aj 2 (.aY (.c (.sl .ex 1 []))))]) .ret) .skip)) (.seq (.rg [(aj 13 (.call (.c (.fn 23 [])) [])),(aj 3 (.alloc [(.v (.pointer none))])),(cZ (.st (.t 3) (.t 13) 1))]) (.seq (.rg [(aj 14 (.Je 24 [(.t 3)])),(aj 4 (.alloc [(.v .nilFunc)])),(cZ (.st (.t 4) (.t 14) 1))]) (.seq (.rg [(aj 15 (.Je 26 [(.t 4)])),(bk 5 15)]) (.seq (.rg [(aj 16 (.ld (.t 3) none)),(aj 17 (.call (.c (.fn 27 [])) [(.t 16),(.c (.int .i64 1))]))]) (.seq (.rg [(aA 18 5),(aj 19 (.aV (.t 1) 0)),(aj 20 (.ld (.t 19) (some 2))),(aj 21 (.call (.t 18) [(.t 20)]))]) (.seq (.seq (.rg [(aj 22 (.aV (.t 1) 2)),(aj 23 (.ld (.t 22) none)),(aj 24 (.aV (.t 1) 3)),(aj 25 (.ld (.t 24) none)),(aj 26 (.aV (.t 1) 4)),(aj 27 (.ld (.t 26) none)),(aj 28 (.ec (.int .i64) (.t 27))),(aj 29 (.jQ 1 [(.t 23),(.t 25),(.t 28)])),(aj 30 (.len (.t 29))),(aj 31 (.mv (.c (.int .i64 0))))]) (.blk 0 (.loop (erase rE)))) (.seq (.rg [(aj 39 (.ld (.t 3) none)),(aj 40 (.aV (.t 1) 5)),(aj 41 (.ld (.t 40) none)),(aj 42 (.len (.t 41))),(aj 43 (.call (.c (.fn 27 [])) [(.t 39),(.t 42)]))]) (.seq (.seq (.rg [(aj 44 (.aV (.t 1) 5)),(aj 45 (.ld (.t 44) none)),(aj 46 (.len (.t 45))),(aj 47 (.mv (.c (.int .i64 0))))]) (.blk 2 (.loop (erase rF)))) (.seq (.rg [(aj 76 (.ld (.t 3) none)),(aj 77 (.call (.c (.fn 31 [])) [(.t 76)])),(aj 78 (.call (.c (.fn 30 [])) [(.t 77)])),(bk 2 78)]) .ret)))))))))))
theorem F4:bw Tryz.prog 10 79 [(.tmp 2)] (erase F3):=⟨Tryz.f10,_,rfl,by decide,rfl,by kernel_rfl,rfl,rfl⟩
abbrev sE:List Nat:=[0,1,2,3,4,5,7,9,12,29,30,31,32,45,46,47,48]
def cU (e1:ak):(Int×aT)→Option (St (List UInt8) aT (Int×aT))
 |(t13,KK)=>
  (if (decide (t13<((3:Nat):Int))) then
   (idx ([e1.born,e1.size,(IntKind.wrap .i64 e1.sum)]:List Int) t13).bind fun KL=>
   (dn KK KL).bind fun r16=>some (.cT ((IntKind.wrap .i64 (t13+1)),r16))
  else
   some (.fI KK))
def eP (e1:ak):(Int×aT)→Option (St (List UInt8) aT (Int×aT))
 |(t23,Ex)=>
  (if (decide (t23<(e1.az.length:Int))) then
   (idx e1.az t23).bind fun BQ=>
   (ga BQ.ct Ex).bind fun Az=>
   (dK Az BQ.state).bind fun BX=>
   (dK BX BQ.tries).bind fun VF=>
   (dn VF BQ.next).bind fun Sl=>
   (gp Sl BQ.code).bind fun VG=>
   (eZ BQ.why VG).bind fun Sm=>some (.cT ((IntKind.wrap .i64 (t23+1)),Sm))
  else
   some (.fI Ex))
def jk (F:Nat) (e1:ak):Option ((List UInt8)):=
 (jj F e1).bind fun r2=>
 (if (!r2) then
  some ([]:List UInt8)
 else
  ((fJ).bind fun r3=>
  match r3 with
  |none=>
   none
  |some t5=>
   (dK t5 1).bind fun r7=>
   (ga e1.av r7).bind fun r8=>
   ((iter (cU e1) F (0,r8)).bind fun o37=>
   match o37 with
   | .inr s18=>
     (dK s18 (e1.az.length:Int)).bind fun qT=>
     ((iter (eP e1) F (0,qT)).bind fun o36=>
     match o36 with
     | .inr BZ=>
       (ic BZ).bind fun VH=>(nT F VH).bind fun C3=>some C3
     | .inl _=>none)
   | .inl _=>none)))
theorem AA {F:Nat} {t13:Int} {e1:ak} {KK:aT} {q9:Nat} {oh:Nat} {mG:Nat} {lH:Nat} {H0 H:AH} (hfr:Fr H0 H0.length [] H) (ai:H[q9]? =some [(.str e1.av.au),(.str e1.av.domain),(.int .i64 e1.born),(.int .i64 e1.size),(.int .u32 e1.sum),(.sl .n 7 (ml aC e1.az))]) (aq:H[lH]? =some [(.sl .own 1 (ml b8 KK.b))]) (aR:H[oh]? =some [(.ptr lH 0)]) (bH:H[mG]? =some [(.fn 24 [(.ptr oh 0)])]) (eS:H0.length≤q9) (hi1:H0.length≤lH) (hi2:q9≠lH) (vf:H0.length≤oh) (hi4:q9≠oh) (NX:lH≠oh) (hi6:H0.length≤mG) (hi7:q9≠mG) (hi8:lH≠mG) (hi9:oh≠mG) {K:Exit→Env→AH→Prop} {o:((List UInt8))⊕(aT)}
 (h:iter (cU e1) F (t13,KK)=some o)
 (dj:∀o':aT,o= .inr o'→∀H':AH,Fr H0 H0.length [] H'→H'[q9]? =some [(.str e1.av.au),(.str e1.av.domain),(.int .i64 e1.born),(.int .i64 e1.size),(.int .u32 e1.sum),(.sl .n 7 (ml aC e1.az))]→H'[lH]? =some [(.sl .own 1 (ml b8 o'.b))]→H'[oh]? =some [(.ptr lH 0)]→H'[mG]? =some [(.fn 24 [(.ptr oh 0)])]→K (.exit 0) [(1,(.ptr q9 0)),(3,(.ptr oh 0)),(4,(.ptr mG 0)),(5,(.fn 26 [(.ptr mG 0)]))] H'):
 AX Tryz.prog sE 79 H0.length (.loop (erase rE)) K [(1,(.ptr q9 0)),(3,(.ptr oh 0)),(4,(.ptr mG 0)),(5,(.fn 26 [(.ptr mG 0)])),(29,(.sl .ex 1 [(.int .i64 e1.born),(.int .i64 e1.size),(.int .i64 (IntKind.wrap .i64 e1.sum))])),(30,(.int .i64 ((3:Nat):Int))),(31,(.int .i64 t13))] H:=by
 refine iZ (fun s e H1=>match s with|(t13,KK)=>e=[(1,(.ptr q9 0)),(3,(.ptr oh 0)),(4,(.ptr mG 0)),(5,(.fn 26 [(.ptr mG 0)])),(29,(.sl .ex 1 [(.int .i64 e1.born),(.int .i64 e1.size),(.int .i64 (IntKind.wrap .i64 e1.sum))])),(30,(.int .i64 ((3:Nat):Int))),(31,(.int .i64 t13))]∧Fr H0 H0.length [] H1∧H1[q9]? =some [(.str e1.av.au),(.str e1.av.domain),(.int .i64 e1.born),(.int .i64 e1.size),(.int .u32 e1.sum),(.sl .n 7 (ml aC e1.az))]∧H1[lH]? =some [(.sl .own 1 (ml b8 KK.b))]∧H1[oh]? =some [(.ptr lH 0)]∧H1[mG]? =some [(.fn 24 [(.ptr oh 0)])]) h ⟨rfl,hfr,ai,aq,aR,bH⟩ ?_
 rintro K' ⟨t13,KK⟩ st e H ⟨rfl,hfr,ai,aq,aR,bH⟩ h hN hB hR hX
 have hle:=hfr.le
 have aU:=aL ai
 have cK:=aL aq
 have kR:=aL aR
 have yL:=aL bH
 rw [cU.eq_1] at h
 refine aE (aB ai (aB aq (aB aR bH))) ?_
 refine b7 h (fun cw h=> ?_) fun cw h=> ?_
 · obtain ⟨KL,dB,h⟩:=ay h
   have dD:idx [(.int .i64 e1.born),(.int .i64 e1.size),(.int .i64 (IntKind.wrap .i64 e1.sum))] t13=some ((jd .i64) KL):=abD (f:=(jd .i64)) dB
   refine aE (aB dD (aB ai (aB aq (aB aR bH)))) ?_
   obtain ⟨r16,eE,h⟩:=ay h
   refine bg ax (gm (aq.trans rfl) eE) ?_
   refine aE (aB ai (aB aq (aB aR bH))) ?_
   obtain rfl:=aK h
   exact hN _ rfl _ _ _ _ aZ ax ⟨rfl,(bn _ hfr),(aX (ai.trans rfl)),bL,(aX (aR.trans rfl)),(aX (bH.trans rfl))⟩
 · refine aE (aB ai (aB aq (aB aR bH))) ?_
   obtain rfl:=aK h
   exact hX _ _ _ _ _ eK aZ ax (dj _ (hB _ rfl) _ hfr (ai.trans rfl) (aq.trans rfl) (aR.trans rfl) (bH.trans rfl))
theorem AB {F:Nat} {t23:Int} {e1:ak} {Ex:aT} {yM:Nat} {sF:Nat} {oQ:Nat} {H0 H:AH} (hfr:Fr H0 H0.length [] H) (aq:H[oQ]? =some [(.sl .own 1 (ml b8 Ex.b))]) (aR:H[yM]? =some [(.ptr oQ 0)]) (bH:H[sF]? =some [(.fn 24 [(.ptr yM 0)])]) (eS:H0.length≤oQ) (hi1:H0.length≤yM) (hi2:oQ≠yM) (vf:H0.length≤sF) (hi4:oQ≠sF) (NX:yM≠sF) {K:Exit→Env→AH→Prop} {o:((List UInt8))⊕(aT)}
 (h:iter (eP e1) F (t23,Ex)=some o)
 (kb2:∀o':aT,o= .inr o'→∀H':AH,Fr H0 H0.length [] H'→H'[oQ]? =some [(.sl .own 1 (ml b8 o'.b))]→H'[yM]? =some [(.ptr oQ 0)]→H'[sF]? =some [(.fn 24 [(.ptr yM 0)])]→K (.exit 2) [(3,(.ptr yM 0))] H'):
 AX Tryz.prog sE 79 H0.length (.loop (erase rF)) K [(3,(.ptr yM 0)),(4,(.ptr sF 0)),(5,(.fn 26 [(.ptr sF 0)])),(45,(.sl .n 7 (ml aC e1.az))),(46,(.int .i64 (e1.az.length:Int))),(47,(.int .i64 t23))] H:=by
 refine iZ (fun s e H1=>match s with|(t23,Ex)=>e=[(3,(.ptr yM 0)),(4,(.ptr sF 0)),(5,(.fn 26 [(.ptr sF 0)])),(45,(.sl .n 7 (ml aC e1.az))),(46,(.int .i64 (e1.az.length:Int))),(47,(.int .i64 t23))]∧Fr H0 H0.length [] H1∧H1[oQ]? =some [(.sl .own 1 (ml b8 Ex.b))]∧H1[yM]? =some [(.ptr oQ 0)]∧H1[sF]? =some [(.fn 24 [(.ptr yM 0)])]) h ⟨rfl,hfr,aq,aR,bH⟩ ?_
 rintro K' ⟨t23,Ex⟩ st e H ⟨rfl,hfr,aq,aR,bH⟩ h hN hB hR hX
 have hle:=hfr.le
 have cK:=aL aq
 have kR:=aL aR
 have yL:=aL bH
 rw [eP.eq_1] at h
 refine aE (aB aq (aB aR bH)) ?_
 refine b7 h (fun eA h=> ?_) fun eA h=> ?_
 · obtain ⟨BQ,di,h⟩:=ay h
   refine aE (aB di (aB aq (aB aR bH))) ?_
   obtain ⟨Az,gj,h⟩:=ay h
   refine bg ax (qa (q2:=sF) (q3:=yM) (q5:=oQ) (aX (ez (bH.trans rfl))) (aX (ez (aR.trans rfl))) (aX (ez (aq.trans rfl))) br br br gj) ?_
   refine aE (aB aq (aB aR bH)) ?_
   obtain ⟨BX,lW,h⟩:=ay h
   refine bg ax (gG (q1:=oQ) bL lW) ?_
   refine aE (aB aq (aB aR bH)) ?_
   obtain ⟨VF,gl,h⟩:=ay h
   refine bg ax (gG (q1:=oQ) bL gl) ?_
   refine aE (aB aq (aB aR bH)) ?_
   obtain ⟨Sl,j7,h⟩:=ay h
   refine bg ax (gm (q1:=oQ) bL j7) ?_
   refine aE (aB aq (aB aR bH)) ?_
   obtain ⟨VG,nP,h⟩:=ay h
   refine bg ax (wj (q1:=oQ) bL nP) ?_
   refine aE (aB aq (aB aR bH)) ?_
   obtain ⟨Sm,j9,h⟩:=ay h
   refine bg ax (kQ (q2:=yM) (q4:=oQ) (aX (aX (aX (aX (aX (aX (ez (aR.trans rfl)))))))) bL br j9) ?_
   refine aE (aB aq (aB aR bH)) ?_
   obtain rfl:=aK h
   exact hN _ rfl _ _ _ _ aZ ax ⟨rfl,(bn _ (bn _ (bn _ (bn _ (bn _ (bn _ (bn _ (Fr.app hfr)))))))),bL,(aX (aX (aX (aX (aX (aX (aX (ez (aR.trans rfl))))))))),(aX (aX (aX (aX (aX (aX (aX (ez (bH.trans rfl)))))))))⟩
 · refine aE (aB aq (aB aR bH)) ?_
   obtain rfl:=aK h
   exact hX _ _ _ _ _ eK aZ ax (kb2 _ (hB _ rfl) _ hfr (aq.trans rfl) (aR.trans rfl) (bH.trans rfl))
theorem qb {F:Nat} {e1:ak} {H0:AH} {aM:List UInt8} (h:jk F e1=some aM):
 aG Tryz.prog 10 [(.agg [(.str e1.av.au),(.str e1.av.domain),(.int .i64 e1.born),(.int .i64 e1.size),(.int .u32 e1.sum),(.sl .n 7 (ml aC e1.az))])] H0 fun v H'=>v=(.sl .n 1 (ml b8 aM))∧H'=H0:=by
 refine ef F4 sE [] fun hcl K0 aP H hH hfr=> ?_
 clear hH
 have hle:=hfr.le
 rw [jk.eq_1] at h
 refine bV ?_
 obtain ⟨r2,hy1,h⟩:=ay h
 refine bg ax (nt hy1) ?_
 refine bV ?_
 refine b7 h (fun bf h=> ?_) fun bf h=> ?_
 · refine bV ?_
   obtain rfl:=aK h
   exact aP _ _ _ bG (bp (Fr.app hfr) hcl (bD bx (.sl .ex 1 [])) bB bt ⟨rfl,rfl⟩)
 · refine bV ?_
   obtain ⟨r3,bz,h⟩:=ay h
   obtain ⟨q4,yN⟩:∃q:Nat,H.length=q:=⟨_,rfl⟩
   try rw [yN]
   rcases r3 with _|t5
   · try dsimp only at h
     cases h
   · try dsimp only at h
     refine YQ ax (ox bz) ?_
     rintro _ H ⟨q6,rfl,Ew,Ay,aq⟩
     try simp only [pM,pN] at Ew
     have ai:H[q4]? =some [(.str e1.av.au),(.str e1.av.domain),(.int .i64 e1.born),(.int .i64 e1.size),(.int .u32 e1.sum),(.sl .n 7 (ml aC e1.az))]:=(Ay.eq _ (aL (by exact jY)) (by simp<;>(first|assumption|omega|(simp only [pM,pN]<;>omega)|fail))).trans (by exact jY)
     have hfr:=Fr.trans (Fr.app hfr) Ay (by simp)
     have hle:=hfr.le
     have aU:=aL ai
     have cK:=aL aq
     refine aE (aB ai aq) ?_
     obtain ⟨r7,bu,h⟩:=ay h
     refine bg ax (gG (q1:=q6) (aX (ez (aX (ez (aq.trans rfl))))) bu) ?_
     refine aE (aB ai aq) ?_
     obtain ⟨r8,bW,h⟩:=ay h
     refine bg ax (qa (q2:=(H.length+1)) (q3:=H.length) (q5:=q6) (aX bL) (aX (aX (ez bL))) bL br br br bW) ?_
     refine aE (aB ai aq) ?_
     obtain ⟨mG,YS⟩:∃q:Nat,(H.length+1)=q:=⟨_,rfl⟩
     try rw [YS]
     obtain ⟨oh,YT⟩:∃q:Nat,H.length=q:=⟨_,rfl⟩
     try rw [YT]
     try rw [show oh+1=mG from by omega]
     obtain ⟨o37,dh,h⟩:=ay h
     refine cg ax (AA (q9:=q4) (lH:=q6) (oh:=oh) (mG:=mG) (bn _ (bn _ (bn _ (Fr.app (bn _ (Fr.app hfr)))))) (aX (aX (aX (ez (aX (ez (ai.trans rfl))))))) bL (aX (aX (aX (ez bL)))) (aX (aX bL)) br br br br br br br br br br dh ?_)
     · rintro s18 rfl H hfr ai aq aR bH
       try dsimp only at h ai aq aR bH
       have hle:=hfr.le
       have aU:=aL ai
       have cK:=aL aq
       have kR:=aL aR
       have yL:=aL bH
       refine aE (aB ai (aB aq (aB aR bH))) ?_
       obtain ⟨qT,cH,h⟩:=ay h
       refine bg ax (gG (aq.trans rfl) cH) ?_
       refine aE (aB ai (aB aq (aB aR bH))) ?_
       obtain ⟨o36,kf,h⟩:=ay h
       refine cg ax (AB (oQ:=q6) (yM:=oh) (sF:=mG) (bn _ hfr) bL (aX (aR.trans rfl)) (aX (bH.trans rfl)) br br br br br br kf ?_)
       · rintro BZ rfl H hfr aq aR bH
         try dsimp only at h aq aR bH
         have hle:=hfr.le
         have cK:=aL aq
         have kR:=aL aR
         have yL:=aL bH
         refine aE (aB aq (aB aR bH)) ?_
         obtain ⟨VH,p6,h⟩:=ay h
         refine bg ax (vj (aq.trans rfl) p6) ?_
         refine aE (aB aq (aB aR bH)) ?_
         obtain ⟨C3,k7,h⟩:=ay h
         refine bg ax (Ev k7) ?_
         refine aE (aB aq (aB aR bH)) ?_
         obtain rfl:=aK h
         exact aP _ _ _ bG (bp hfr hcl (bD bx (.sl .n 1 (ml b8 C3))) bB bt ⟨rfl,rfl⟩)
abbrev yO:aD:=(.seq (.rg [(aj 2 (.aY (.c (.v (.pointer none)))))]) (.seq (.rg [(aA 3 0),(aj 4 (.call (.c (.fn 60 [])) [(.t 3)])),(aj 5 (.build [(.sl .ex 1 []),(.int .i64 0)] [(0,(1,(.t 4)))])),(aj 6 (.box (.t 5))),(bk 2 6)]) .ret))
theorem yP:bw Tryz.prog 45 7 [(.tmp 2)] (erase yO):=⟨Tryz.f45,_,rfl,by decide,rfl,by kernel_rfl,rfl,rfl⟩
abbrev yQ:List Nat:=[0,2]
def fL (b1:List UInt8):Option ((Option aN)):=
 (fF b1).bind fun r2=>some (some (aN.mk r2 0))
theorem oy {b1:List UInt8} {H0:AH} {aM:Option aN} (h:fL b1=some aM):
 aG Tryz.prog 45 [(.sl .n 1 (ml b8 b1))] H0 fun v H'=>match (generalizing:=false) aM with|none=>v=(.v (.pointer none))∧Fr H0 H0.length [] H'|some IE=>∃yH,v=(.ptr yH 0)∧H0.length≤yH∧Fr H0 H0.length [] H'∧H'[yH]? =some [(.sl .n 1 (ml b8 IE.b)),(.int .i64 IE.err)]:=by
 refine ef yP yQ [] fun hcl K0 aP H hH hfr=> ?_
 clear hH
 have hle:=hfr.le
 rw [fL.eq_1] at h
 refine bV ?_
 obtain ⟨r2,hy1,h⟩:=ay h
 refine bg ax (gM hy1) ?_
 refine bV ?_
 obtain rfl:=aK h
 exact aP _ _ _ bG (KH (bD bx (.ptr H.length 0)) (r':=(.ptr H.length 0)) bt ax ⟨H.length,rfl,br,(Fr.app hfr),jY⟩)
abbrev wu:aD:=(.seq (.rg [(aj 4 (.aY (.c (.sl .ex 1 []))))]) (.seq (.blk 0 (.seq (.rg [(aA 7 0),(aj 8 (.dZ (.t 7))),(aj 9 (.aV (.t 8) 1)),(aj 10 (.ld (.t 9) none)),(aj 11 (.bin .neq (.t 10) (.c (.int .i64 0)))),(bk 6 11)]) (.cond (.t 6) (.seq (.rg [(aj 4 (.aY (.c (.sl .ex 1 []))))]) .ret) (.seq (.rg [(aA 13 1),(aj 14 (.bin .lss (.t 13) (.c (.int .i64 0)))),(bk 12 14)]) (.cond (.t 12) (.seq (.rg [(aA 15 0),(aj 16 (.dZ (.t 15))),(aj 17 (.aV (.t 16) 1)),(cZ (.st (.t 17) (.c (.int .i64 1)) 1))]) (.seq (.rg [(aj 4 (.aY (.c (.sl .ex 1 []))))]) .ret)) (.seq (.rg [(aA 19 1),(aA 20 0),(aj 21 (.dZ (.t 20))),(aj 22 (.aV (.t 21) 0)),(aj 23 (.ld (.t 22) none)),(aj 24 (.len (.t 23))),(aj 25 (.bin .gtr (.t 19) (.t 24))),(bk 18 25)]) (.cond (.t 18) (.seq (.rg [(aA 26 0),(aj 27 (.dZ (.t 26))),(aj 28 (.aV (.t 27) 1)),(cZ (.st (.t 28) (.c (.int .i64 2)) 1))]) (.seq (.rg [(aj 4 (.aY (.c (.sl .ex 1 []))))]) .ret)) .skip))))))) (.seq (.rg [(aA 29 0),(aj 30 (.dZ (.t 29))),(aj 31 (.aV (.t 30) 0)),(aj 32 (.ld (.t 31) none)),(aA 33 1),(aA 34 1),(aj 35 (.slc 1 (.t 32) none (some (.t 33)) (some (.t 34)))),(bk 5 35)]) (.seq (.rg [(aA 36 0),(aA 37 0),(aj 38 (.dZ (.t 37))),(aj 39 (.aV (.t 38) 0)),(aj 40 (.ld (.t 39) none)),(aA 41 1),(aj 42 (.slc 1 (.t 40) (some (.t 41)) none none)),(aj 43 (.dZ (.t 36))),(aj 44 (.aV (.t 43) 0)),(cZ (.st (.t 44) (.t 42) 1))]) (.seq (.rg [(aA 45 5),(bk 4 45)]) .ret)))))
theorem wv:bw Tryz.prog 85 46 [(.tmp 4)] (erase wu):=⟨Tryz.f85,_,rfl,by decide,rfl,by kernel_rfl,rfl,rfl⟩
abbrev wz:List Nat:=[0,1,4,5,6,12,18]
def eG (r2:aN) (fC:Int):Option ((List UInt8)×aN):=
 (if (!decide (r2.err=0)) then
  some (([]:List UInt8),r2)
 else
  (if (decide (fC<0)) then
   some (([]:List UInt8),(aN.mk r2.b 1))
  else
   (if (decide ((r2.b.length:Int)<fC)) then
    some (([]:List UInt8),(aN.mk r2.b 2))
   else
    (vW r2.b 0 fC fC).bind fun x4=>
    (sub r2.b fC (r2.b.length:Int)).bind fun x5=>some (x4,(aN.mk x5 r2.err)))))
theorem mL {r2:aN} {fC:Int} {q1:Nat} {H0:AH} (ai:H0[q1]? =some [(.sl .n 1 (ml b8 r2.b)),(.int .i64 r2.err)]) {aM:List UInt8} {cB:aN} (h:eG r2 fC=some (aM,cB)):
 aG Tryz.prog 85 [(.ptr q1 0),(.int .i64 fC)] H0 fun v H'=>v=(.sl .own 1 (ml b8 aM))∧H'=(H0.set q1 [(.sl .n 1 (ml b8 cB.b)),(.int .i64 cB.err)]):=by
 have aU:=aL ai
 refine ef wv wz [q1] fun hcl K0 aP H hH hfr=> ?_
 rw [←hH] at ai
 clear hH
 have hle:=hfr.le
 have eW:=aL ai
 rw [eG.eq_1] at h
 refine aE ai ?_
 refine b7 h (fun hy1 h=> ?_) fun hy1 h=> ?_
 · refine aE ai ?_
   obtain ⟨rfl,rfl⟩:=de h
   exact aP _ _ _ bG (cc hfr hcl (bD bx (.sl .ex 1 [])) bB bt (ai.trans rfl) br jv gE ⟨rfl,rfl⟩)
 · refine aE ai ?_
   refine b7 h (fun bf h=> ?_) fun bf h=> ?_
   · refine aE ai ?_
     obtain ⟨rfl,rfl⟩:=de h
     exact aP _ _ _ bG (cc (bn _ hfr) hcl (bD bx (.sl .ex 1 [])) bB bt bL br jv gE ⟨rfl,rfl⟩)
   · refine aE ai ?_
     refine b7 h (fun bz h=> ?_) fun bz h=> ?_
     · refine aE ai ?_
       obtain ⟨rfl,rfl⟩:=de h
       exact aP _ _ _ bG (cc (bn _ hfr) hcl (bD bx (.sl .ex 1 [])) bB bt bL br jv gE ⟨rfl,rfl⟩)
     · obtain ⟨x4,bu,h⟩:=ay h
       have bW:=YM (f:=b8) bu
       obtain ⟨x5,cw,h⟩:=ay h
       have dB:=yt (f:=b8) cw
       refine aE (aB bu (aB cw ai)) ?_
       obtain ⟨rfl,rfl⟩:=de h
       exact aP _ _ _ bG (cc (bn _ hfr) hcl (bD bx (.sl .ex 1 (ml b8 x4))) bB bt bL br jv gE ⟨rfl,rfl⟩)
abbrev jl:aD:=(.seq (.rg [(aj 13 (.bin .lss (.t 12) (.t 11)))]) (.seq (.cond (.t 13) .skip (.exit 0)) (.seq (.blk 1 (.seq (.rg [(aA 14 12),(aj 15 (.lC 1 (.t 10) (.t 12))),(aj 16 (.ld (.t 15) none)),(bk 6 14),(bk 7 16)]) (.rg [(aA 17 5),(aA 18 7),(aj 19 (.ec (.int .i64) (.t 18))),(aA 20 6),(aj 21 (.bin .mul (.c (.int .i64 8)) (.t 20))),(aj 22 (.bin .shl (.t 19) (.t 21))),(aj 23 (.bin .or (.t 17) (.t 22))),(bk 5 23)]))) (.rg [(aj 24 (.bin .add (.t 12) (.c (.int .i64 1)))),(aA 12 24)]))))
abbrev uf:aD:=(.seq (.rg [(aj 4 (.aY (.c (.int .i64 0))))]) (.seq (.rg [(aj 5 (.aY (.c (.int .i64 0))))]) (.seq (.seq (.rg [(aA 8 0),(aA 9 1),(aj 10 (.call (.c (.fn 85 [])) [(.t 8),(.t 9)])),(aj 11 (.len (.t 10))),(aj 12 (.mv (.c (.int .i64 0))))]) (.blk 0 (.loop (erase jl)))) (.seq (.rg [(aA 25 5),(bk 4 25)]) .ret))))
theorem ug:bw Tryz.prog 73 26 [(.tmp 4)] (erase uf):=⟨Tryz.f73,_,rfl,by decide,rfl,by kernel_rfl,rfl,rfl⟩
abbrev l6:List Nat:=[0,1,4,5,6,7,10,11,12,13]
def cE (r4:List UInt8):(Int×Int)→Option (St (Int×aN) Int (Int×Int))
 |(Cu,t7)=>
  (if (decide (t7<(r4.length:Int))) then
   (idx r4 t7).bind fun x8=>
   (KJ .i64 (IntKind.wrap .i64 (x8.toNat:Int)) (IntKind.wrap .i64 (8*t7))).bind fun x9=>
   some (.cT ((JN .i64 Cu x9),(IntKind.wrap .i64 (t7+1))))
  else
   some (.fI Cu))
def cY (F:Nat) (r2:aN) (ie:Int):Option (Int×aN):=
 (eG r2 ie).bind fun (r4,r5)=>
 ((iter (cE r4) F (0,0)).bind fun Eu=>
 match Eu with
 | .inr NY=>
   some (NY,r5)
 | .inl _=>none)
theorem qc {F:Nat} {t7:Int} {r4:List UInt8} {Cu:Int} {q1:Nat} {r5:aN} {H0 H:AH} (hfr:Fr H0 H0.length [q1] H) (ai:H[q1]? =some [(.sl .n 1 (ml b8 r5.b)),(.int .i64 r5.err)]) (eS:q1<H0.length) {K:Exit→Env→AH→Prop} {o:(Int×aN)⊕(Int)}
 (h:iter (cE r4) F (Cu,t7)=some o)
 (dj:∀o':Int,o= .inr o'→∀H':AH,Fr H0 H0.length [q1] H'→H'[q1]? =some [(.sl .n 1 (ml b8 r5.b)),(.int .i64 r5.err)]→K (.exit 0) [(5,(.int .i64 o'))] H'):
 AX Tryz.prog l6 26 H0.length (.loop (erase jl)) K [(5,(.int .i64 Cu)),(10,(.sl .own 1 (ml b8 r4))),(11,(.int .i64 (r4.length:Int))),(12,(.int .i64 t7))] H:=by
 refine iZ (fun s e H1=>match s with|(Cu,t7)=>e=[(5,(.int .i64 Cu)),(10,(.sl .own 1 (ml b8 r4))),(11,(.int .i64 (r4.length:Int))),(12,(.int .i64 t7))]∧Fr H0 H0.length [q1] H1∧H1[q1]? =some [(.sl .n 1 (ml b8 r5.b)),(.int .i64 r5.err)]) h ⟨rfl,hfr,ai⟩ ?_
 rintro K' ⟨Cu,t7⟩ st e H ⟨rfl,hfr,ai⟩ h hN hB hR hX
 have hle:=hfr.le
 have aU:=aL ai
 rw [cE.eq_1] at h
 refine aE ai ?_
 refine b7 h (fun bf h=> ?_) fun bf h=> ?_
 · obtain ⟨x8,bz,h⟩:=ay h
   obtain ⟨x9,bu,h⟩:=ay h
   have bW:=Vw (k':= .i64) bu
   refine aE (aB bz (aB bW ai)) ?_
   obtain rfl:=aK h
   exact hN _ rfl _ _ _ _ aZ ax ⟨rfl,hfr,(ai.trans rfl)⟩
 · refine aE ai ?_
   obtain rfl:=aK h
   exact hX _ _ _ _ _ eK aZ ax (dj _ (hB _ rfl) _ hfr (ai.trans rfl))
theorem gN {F:Nat} {r2:aN} {ie:Int} {q1:Nat} {H0:AH} (ai:H0[q1]? =some [(.sl .n 1 (ml b8 r2.b)),(.int .i64 r2.err)]) {aM:Int} {cB:aN} (h:cY F r2 ie=some (aM,cB)):
 aG Tryz.prog 73 [(.ptr q1 0),(.int .i64 ie)] H0 fun v H'=>v=(.int .i64 aM)∧H'=(H0.set q1 [(.sl .n 1 (ml b8 cB.b)),(.int .i64 cB.err)]):=by
 have aU:=aL ai
 refine ef ug l6 [q1] fun hcl K0 aP H hH hfr=> ?_
 rw [←hH] at ai
 clear hH
 have hle:=hfr.le
 have eW:=aL ai
 rw [cY.eq_1] at h
 refine aE ai ?_
 obtain ⟨⟨r4,r5⟩,hy1,h⟩:=ay h
 dsimp only at h
 refine bg ax (mL (ai.trans rfl) hy1) ?_
 refine aE ai ?_
 obtain ⟨Eu,cw,h⟩:=ay h
 refine cg ax (qc (q1:=q1) (r5:=r5) (bn _ hfr) bL br cw ?_)
 · rintro NY rfl H hfr ai
   try dsimp only at h ai
   have hle:=hfr.le
   have aU:=aL ai
   refine aE ai ?_
   obtain ⟨rfl,rfl⟩:=de h
   exact aP _ _ _ bG (cc hfr hcl (bD bx (.int .i64 NY)) bB bt (ai.trans rfl) br jv gE ⟨rfl,rfl⟩)
abbrev xx:aD:=(.seq (.rg [(aj 2 (.aY (.c (.int .i64 0))))]) (.seq (.rg [(aA 3 0),(aj 4 (.call (.c (.fn 73 [])) [(.t 3),(.c (.int .i64 4))])),(bk 2 4)]) .ret))
theorem xy:bw Tryz.prog 50 5 [(.tmp 2)] (erase xx):=⟨Tryz.f50,_,rfl,by decide,rfl,by kernel_rfl,rfl,rfl⟩
abbrev xz:List Nat:=[0,2]
def cI (F:Nat) (r2:aN):Option (Int×aN):=
 (cY F r2 4).bind fun (r3,r4)=>some (r3,r4)
theorem dL {F:Nat} {r2:aN} {q1:Nat} {H0:AH} (ai:H0[q1]? =some [(.sl .n 1 (ml b8 r2.b)),(.int .i64 r2.err)]) {aM:Int} {cB:aN} (h:cI F r2=some (aM,cB)):
 aG Tryz.prog 50 [(.ptr q1 0)] H0 fun v H'=>v=(.int .i64 aM)∧H'=(H0.set q1 [(.sl .n 1 (ml b8 cB.b)),(.int .i64 cB.err)]):=by
 have aU:=aL ai
 refine ef xy xz [q1] fun hcl K0 aP H hH hfr=> ?_
 rw [←hH] at ai
 clear hH
 have hle:=hfr.le
 have eW:=aL ai
 rw [cI.eq_1] at h
 refine aE ai ?_
 obtain ⟨⟨r3,r4⟩,hy1,h⟩:=ay h
 dsimp only at h
 refine bg ax (gN (ai.trans rfl) hy1) ?_
 refine aE ai ?_
 obtain ⟨rfl,rfl⟩:=de h
 exact aP _ _ _ bG (cc (bn _ hfr) hcl (bD bx (.int .i64 r3)) bB bt bL br jv gE ⟨rfl,rfl⟩)
abbrev F5:aD:=(.seq (.rg [(aj 2 (.aY (.c (.sl .ex 1 [])))),(aj 3 (.aY (.c (.int .i64 0))))]) (.seq (.rg [(aA 5 0),(aj 6 (.len (.t 5))),(aj 7 (.bin .sub (.t 6) (.c (.int .i64 4)))),(bk 4 7)]) (.seq (.seq (.rg [(aA 8 4),(aj 9 (.bin .lss (.t 8) (.c (.int .i64 0))))]) (.cond (.t 9) (.seq (.rg [(aj 2 (.aY (.c (.sl .ex 1 [])))),(aj 3 (.aY (.c (.int .i64 2))))]) .ret) .skip)) (.seq (.seq (.rg [(aA 10 0),(aA 11 4),(aj 12 (.slc 1 (.t 10) (some (.t 11)) none none)),(aA 15 0),(aA 16 4),(aj 17 (.slc 1 (.t 15) none (some (.t 16)) none)),(aj 13 (.call (.c (.fn 45 [])) [(.t 12)])),(aj 14 (.call (.c (.fn 50 [])) [(.t 13)])),(aj 18 (.call (.c (.fn 61 [])) [(.t 17)])),(aj 19 (.ec (.int .i64) (.t 18))),(aj 20 (.bin .neq (.t 14) (.t 19)))]) (.cond (.t 20) (.seq (.rg [(aj 2 (.aY (.c (.sl .ex 1 [])))),(aj 3 (.aY (.c (.int .i64 4))))]) .ret) .skip)) (.seq (.rg [(aA 21 0),(aA 22 4),(aj 23 (.slc 1 (.t 21) none (some (.t 22)) none)),(aj 24 (.call (.c (.fn 60 [])) [(.t 23)])),(bk 2 24),(aj 3 (.aY (.c (.int .i64 0))))]) .ret)))))
theorem F6:bw Tryz.prog 44 25 [(.tmp 2),(.tmp 3)] (erase F5):=⟨Tryz.f44,_,rfl,by decide,rfl,by kernel_rfl,rfl,rfl⟩
abbrev F7:List Nat:=[0,2,3,4,9,20]
def nU (F:Nat) (b1:List UInt8):Option ((List UInt8)×Int):=
 (if (decide ((IntKind.wrap .i64 ((b1.length:Int) - 4))<0)) then
  some (([]:List UInt8),2)
 else
  (sub b1 (IntKind.wrap .i64 ((b1.length:Int) - 4)) (b1.length:Int)).bind fun x2=>
  (sub b1 0 (IntKind.wrap .i64 ((b1.length:Int) - 4))).bind fun x3=>
  ((fL x2).bind fun r4=>
  match r4 with
  |none=>
   none
  |some t5=>
   (cI F t5).bind fun (r7,r8)=>
   (mV F x3).bind fun r9=>
   (if (!decide (r7=(IntKind.wrap .i64 r9))) then
    some (([]:List UInt8),4)
   else
    (fF x3).bind fun lG=>some (lG,0))))
theorem Ey {F:Nat} {b1:List UInt8} {H0:AH} {aM:List UInt8} {cB:Int} (h:nU F b1=some (aM,cB)):
 aG Tryz.prog 44 [(.sl .n 1 (ml b8 b1))] H0 fun v H'=>v=(.bK [(.sl .n 1 (ml b8 aM)),(.int .i64 cB)])∧H'=H0:=by
 refine ef F6 F7 [] fun hcl K0 aP H hH hfr=> ?_
 clear hH
 have hle:=hfr.le
 rw [nU.eq_1] at h
 refine bV ?_
 refine b7 h (fun hy1 h=> ?_) fun hy1 h=> ?_
 · refine bV ?_
   obtain ⟨rfl,rfl⟩:=de h
   exact aP _ _ _ bG (bp hfr hcl (bD (bD bx (.int .i64 2)) (.sl .ex 1 [])) bB bt ⟨rfl,rfl⟩)
 · obtain ⟨x2,bf,h⟩:=ay h
   have bz:=yt (f:=b8) bf
   obtain ⟨x3,bu,h⟩:=ay h
   have bW:=yt (f:=b8) bu
   refine aE (aB bf bu) ?_
   obtain ⟨r4,cw,h⟩:=ay h
   rcases r4 with _|t5
   · try dsimp only at h
     cases h
   · try dsimp only at h
     refine YQ ax (oy cw) ?_
     rintro _ H ⟨q6,rfl,Ew,Ay,ai⟩
     try simp only [pM,pN] at Ew
     have hfr:=Fr.trans hfr Ay (by simp)
     have hle:=hfr.le
     have aU:=aL ai
     refine aE ai ?_
     obtain ⟨⟨r7,r8⟩,dB,h⟩:=ay h
     dsimp only at h
     refine bg ax (dL (ai.trans rfl) dB) ?_
     refine aE ai ?_
     obtain ⟨r9,dD,h⟩:=ay h
     refine bg ax (ya dD) ?_
     refine aE ai ?_
     refine b7 h (fun eE h=> ?_) fun eE h=> ?_
     · refine aE ai ?_
       obtain ⟨rfl,rfl⟩:=de h
       exact aP _ _ _ bG (bp (bn _ hfr) hcl (bD (bD bx (.int .i64 4)) (.sl .ex 1 [])) bB bt ⟨rfl,rfl⟩)
     · have dh:=yt (f:=b8) bu
       refine aE (aB bu ai) ?_
       obtain ⟨lG,cH,h⟩:=ay h
       refine bg ax (gM cH) ?_
       refine aE ai ?_
       obtain ⟨rfl,rfl⟩:=de h
       exact aP _ _ _ bG (bp (bn _ hfr) hcl (bD (bD bx (.int .i64 0)) (.sl .own 1 (ml b8 lG))) bB bt ⟨rfl,rfl⟩)
abbrev yR:aD:=(.seq (.rg [(aj 2 (.aY (.c (.int .i64 0))))]) (.seq (.rg [(aA 3 0),(aj 4 (.call (.c (.fn 73 [])) [(.t 3),(.c (.int .i64 1))])),(bk 2 4)]) .ret))
theorem yS:bw Tryz.prog 49 5 [(.tmp 2)] (erase yR):=⟨Tryz.f49,_,rfl,by decide,rfl,by kernel_rfl,rfl,rfl⟩
abbrev yT:List Nat:=[0,2]
def dM (F:Nat) (r2:aN):Option (Int×aN):=
 (cY F r2 1).bind fun (r3,r4)=>some (r3,r4)
theorem gH {F:Nat} {r2:aN} {q1:Nat} {H0:AH} (ai:H0[q1]? =some [(.sl .n 1 (ml b8 r2.b)),(.int .i64 r2.err)]) {aM:Int} {cB:aN} (h:dM F r2=some (aM,cB)):
 aG Tryz.prog 49 [(.ptr q1 0)] H0 fun v H'=>v=(.int .i64 aM)∧H'=(H0.set q1 [(.sl .n 1 (ml b8 cB.b)),(.int .i64 cB.err)]):=by
 have aU:=aL ai
 refine ef yS yT [q1] fun hcl K0 aP H hH hfr=> ?_
 rw [←hH] at ai
 clear hH
 have hle:=hfr.le
 have eW:=aL ai
 rw [dM.eq_1] at h
 refine aE ai ?_
 obtain ⟨⟨r3,r4⟩,hy1,h⟩:=ay h
 dsimp only at h
 refine bg ax (gN (ai.trans rfl) hy1) ?_
 refine aE ai ?_
 obtain ⟨rfl,rfl⟩:=de h
 exact aP _ _ _ bG (cc (bn _ hfr) hcl (bD bx (.int .i64 r3)) bB bt bL br jv gE ⟨rfl,rfl⟩)
abbrev vk:aD:=(.seq (.rg [(aj 4 (.aY (.c (.sl .ex 1 []))))]) (.seq (.rg [(aA 5 0),(aA 6 1),(aj 7 (.call (.c (.fn 85 [])) [(.t 5),(.t 6)])),(aj 8 (.call (.c (.fn 60 [])) [(.t 7)])),(bk 4 8)]) .ret))
theorem vl:bw Tryz.prog 72 9 [(.tmp 4)] (erase vk):=⟨Tryz.f72,_,rfl,by decide,rfl,by kernel_rfl,rfl,rfl⟩
abbrev vm:List Nat:=[0,1,4]
def fq (r2:aN) (ie:Int):Option ((List UInt8)×aN):=
 (eG r2 ie).bind fun (r4,r5)=>(fF r4).bind fun r6=>some (r6,r5)
theorem uh {r2:aN} {ie:Int} {q1:Nat} {H0:AH} (ai:H0[q1]? =some [(.sl .n 1 (ml b8 r2.b)),(.int .i64 r2.err)]) {aM:List UInt8} {cB:aN} (h:fq r2 ie=some (aM,cB)):
 aG Tryz.prog 72 [(.ptr q1 0),(.int .i64 ie)] H0 fun v H'=>v=(.sl .own 1 (ml b8 aM))∧H'=(H0.set q1 [(.sl .n 1 (ml b8 cB.b)),(.int .i64 cB.err)]):=by
 have aU:=aL ai
 refine ef vl vm [q1] fun hcl K0 aP H hH hfr=> ?_
 rw [←hH] at ai
 clear hH
 have hle:=hfr.le
 have eW:=aL ai
 rw [fq.eq_1] at h
 refine aE ai ?_
 obtain ⟨⟨r4,r5⟩,hy1,h⟩:=ay h
 dsimp only at h
 refine bg ax (mL (ai.trans rfl) hy1) ?_
 refine aE ai ?_
 obtain ⟨r6,bf,h⟩:=ay h
 refine bg ax (gM bf) ?_
 refine aE ai ?_
 obtain ⟨rfl,rfl⟩:=de h
 exact aP _ _ _ bG (cc (bn _ hfr) hcl (bD bx (.sl .own 1 (ml b8 r6))) bB bt bL br jv gE ⟨rfl,rfl⟩)
abbrev kg:aD:=(.rg [(aA 8 0),(aj 9 (.dZ (.t 8))),(aj 10 (.aV (.t 9) 1)),(aj 11 (.ld (.t 10) none)),(aj 12 (.bin .eql (.t 11) (.c (.int .i64 0)))),(aA 13 12),(aF 14 (.mv (.t 5)) 13 true),(aF 15 (.mv (.t 1)) 13 true),(aF 16 (.bin .gtr (.t 14) (.t 15)) 13 true),(aj 17 (.pick (.t 13) (.t 16) (.c (.bool false))))])
abbrev kj:aD:=(.cond (.t 17) (.rg [(aA 18 0),(aj 19 (.dZ (.t 18))),(aj 20 (.aV (.t 19) 1)),(cZ (.st (.t 20) (.c (.int .i64 5)) 1))]) .skip)
abbrev vn:aD:=(.seq (.rg [(aj 4 (.aY (.c (.sl .ex 1 []))))]) (.seq (.rg [(aA 6 0),(aj 7 (.call (.c (.fn 50 [])) [(.t 6)])),(bk 5 7)]) (.seq (.seq (.sem (erase kg)) (.sem (erase kj))) (.seq (.rg [(aA 21 0),(aA 22 5),(aj 23 (.call (.c (.fn 72 [])) [(.t 21),(.t 22)])),(bk 4 23)]) .ret))))
theorem vo:bw Tryz.prog 47 24 [(.tmp 4)] (erase vn):=⟨Tryz.f47,_,rfl,by decide,rfl,by kernel_rfl,rfl,rfl⟩
abbrev iQ:List Nat:=[0,1,4,5,17]
def fD (r5:aN) (dW:Int) (r4:Int):Option (aN):=
 (if ((decide (r5.err=0))&&(decide (dW<r4))) then
  some (aN.mk r5.b 5)
 else
  some r5)
def dY (F:Nat) (r2:aN) (dW:Int):Option ((List UInt8)×aN):=
 (cI F r2).bind fun (r4,r5)=>
 (fD r5 dW r4).bind fun s7=>
 (fq s7 r4).bind fun (r8,r9)=>some (r8,r9)
theorem qU {q1:Nat} {dW:Int} {r4:Int} {r5:aN} {H0 H:AH} (hfr:Fr H0 H0.length [q1] H) (ai:H[q1]? =some [(.sl .n 1 (ml b8 r5.b)),(.int .i64 r5.err)]) (eS:q1<H0.length) {K:Exit→Env→AH→Prop}
 (kn:∀H':AH,Fr H0 H0.length [q1] H'→H'[q1]? =some [(.sl .n 1 (ml b8 r5.b)),(.int .i64 r5.err)]→K .normal [(0,(.ptr q1 0)),(5,(.int .i64 r4)),(17,(.bool ((decide (r5.err=0))&&(decide (dW<r4)))))] H'):
 AX Tryz.prog iQ 24 H0.length (erase kg) K [(0,(.ptr q1 0)),(1,(.int .i64 dW)),(5,(.int .i64 r4))] H:=by
 refine dz fun K' hK=> ?_
 have hle:=hfr.le
 have aU:=aL ai
 refine aE ai ?_
 refine jZ (fun bf=> ?_) fun bf=> ?_
 · refine aE (aB bf ai) ?_
   exact hK _ _ _ _ _ (dy bf) ax (kn _ hfr (ai.trans rfl))
 · refine aE (aB bf ai) ?_
   exact hK _ _ _ _ _ (dy bf) ax (kn _ hfr (ai.trans rfl))
theorem qV {r5:aN} {dW:Int} {r4:Int} {q1:Nat} {H0 H:AH} (hfr:Fr H0 H0.length [q1] H) (ai:H[q1]? =some [(.sl .n 1 (ml b8 r5.b)),(.int .i64 r5.err)]) (eS:q1<H0.length) {K:Exit→Env→AH→Prop} {s6:aN}
 (h:fD r5 dW r4=some s6)
 (kn:∀H':AH,Fr H0 H0.length [q1] H'→H'[q1]? =some [(.sl .n 1 (ml b8 s6.b)),(.int .i64 s6.err)]→K .normal [(0,(.ptr q1 0)),(5,(.int .i64 r4))] H'):
 AX Tryz.prog iQ 24 H0.length (erase kj) K [(0,(.ptr q1 0)),(5,(.int .i64 r4)),(17,(.bool ((decide (r5.err=0))&&(decide (dW<r4)))))] H:=by
 refine dz fun K' hK=> ?_
 have hle:=hfr.le
 have aU:=aL ai
 rw [fD.eq_1] at h
 refine aE ai ?_
 refine b7 h (fun bz h=> ?_) fun bz h=> ?_
 · refine aE ai ?_
   obtain rfl:=aK h
   exact hK _ _ _ _ _ aZ ax (kn _ (bn _ hfr) bL)
 · refine aE ai ?_
   obtain rfl:=aK h
   exact hK _ _ _ _ _ aZ ax (kn _ hfr (ai.trans rfl))
theorem l8 {F:Nat} {r2:aN} {dW:Int} {q1:Nat} {H0:AH} (ai:H0[q1]? =some [(.sl .n 1 (ml b8 r2.b)),(.int .i64 r2.err)]) {aM:List UInt8} {cB:aN} (h:dY F r2 dW=some (aM,cB)):
 aG Tryz.prog 47 [(.ptr q1 0),(.int .i64 dW)] H0 fun v H'=>v=(.sl .own 1 (ml b8 aM))∧H'=(H0.set q1 [(.sl .n 1 (ml b8 cB.b)),(.int .i64 cB.err)]):=by
 have aU:=aL ai
 refine ef vo iQ [q1] fun hcl K0 aP H hH hfr=> ?_
 rw [←hH] at ai
 clear hH
 have hle:=hfr.le
 have eW:=aL ai
 rw [dY.eq_1] at h
 refine aE ai ?_
 obtain ⟨⟨r4,r5⟩,hy1,h⟩:=ay h
 dsimp only at h
 refine bg ax (dL (ai.trans rfl) hy1) ?_
 refine aE ai ?_
 refine cg ax (qU (q1:=q1) (dW:=dW) (r4:=r4) (r5:=r5) (bn _ hfr) bL br ?_)
 intro H hfr ai
 have hle:=hfr.le
 have aU:=aL ai
 refine aE ai ?_
 obtain ⟨s7,bu,h⟩:=ay h
 refine cg ax (qV (q1:=q1) hfr (ai.trans rfl) br bu ?_)
 intro H hfr ai
 have hle:=hfr.le
 have aU:=aL ai
 refine aE ai ?_
 obtain ⟨⟨r8,r9⟩,bW,h⟩:=ay h
 dsimp only at h
 refine bg ax (uh (ai.trans rfl) bW) ?_
 refine aE ai ?_
 obtain ⟨rfl,rfl⟩:=de h
 exact aP _ _ _ bG (cc (bn _ hfr) hcl (bD bx (.sl .own 1 (ml b8 r8))) bB bt bL br jv gE ⟨rfl,rfl⟩)
abbrev AD:aD:=(.seq (.rg [(aj 1 (.aY (.c (.str []))))]) (.seq (.rg [(aj 2 (.ld (.t 0) none)),(aj 3 (.call (.c (.fn 47 [])) [(.t 2),(.c (.int .i64 256))])),(aj 4 (.ec .bs (.t 3))),(bk 1 4)]) .ret))
theorem AE:bw Tryz.prog 46 5 [(.tmp 1)] (erase AD):=⟨Tryz.f46,_,rfl,by decide,rfl,by kernel_rfl,rfl,rfl⟩
abbrev AF:List Nat:=[0,1]
def e8 (F:Nat) (v2:aN):Option ((List UInt8)×aN):=
 (dY F v2 256).bind fun (r4,r5)=>some (r4,r5)
theorem qd {F:Nat} {v2:aN} {q1:Nat} {q3:Nat} {H0:AH} (ai:H0[q1]? =some [(.ptr q3 0)]) (aq:H0[q3]? =some [(.sl .n 1 (ml b8 v2.b)),(.int .i64 v2.err)]) (eS:q1≠q3) {aM:List UInt8} {cB:aN} (h:e8 F v2=some (aM,cB)):
 aG Tryz.prog 46 [(.ptr q1 0)] H0 fun v H'=>v=(.str aM)∧H'=(H0.set q3 [(.sl .n 1 (ml b8 cB.b)),(.int .i64 cB.err)]):=by
 have aU:=aL ai
 have cK:=aL aq
 refine ef AE AF [q3] fun hcl K0 aP H hH hfr=> ?_
 rw [←hH] at ai aq
 clear hH
 have hle:=hfr.le
 have eW:=aL ai
 have IF:=aL aq
 rw [e8.eq_1] at h
 refine aE (aB ai aq) ?_
 obtain ⟨⟨r4,r5⟩,hy1,h⟩:=ay h
 dsimp only at h
 refine bg ax (l8 (aq.trans rfl) hy1) ?_
 refine aE (aB ai aq) ?_
 obtain ⟨rfl,rfl⟩:=de h
 exact aP _ _ _ bG (cc (bn _ hfr) hcl (bD bx (.str r4)) bB bt bL br jv gE ⟨rfl,rfl⟩)
abbrev AG:aD:=(.seq (.rg [(aj 1 (.alloc [(.str []),(.str [])]))]) (.seq (.rg [(aj 3 (.ld (.t 0) none)),(aj 4 (.call (.t 3) [])),(bk 2 4)]) (.seq (.rg [(aA 5 2),(aj 6 (.ld (.t 0) none)),(aj 7 (.call (.t 6) [])),(aj 8 (.build [(.str []),(.str [])] [(0,(1,(.t 5))),(1,(1,(.t 7)))])),(cZ (.st (.t 1) (.t 8) 2))]) .ret)))
theorem AI:bw Tryz.prog 48 9 [(.cell 1 23)] (erase AG):=⟨Tryz.f48,_,rfl,by decide,rfl,by kernel_rfl,rfl,rfl⟩
abbrev AJ:List Nat:=[0,1,2]
def gb (F:Nat) (v3:aN):Option (aJ×aN):=
 (e8 F v3).bind fun (r5,r6)=>
 (e8 F r6).bind fun (r7,r8)=>some ((aJ.mk r5 r7),r8)
theorem yU {F:Nat} {v3:aN} {q1:Nat} {q2:Nat} {q4:Nat} {H0:AH} (ai:H0[q1]? =some [(.fn 46 [(.ptr q2 0)])]) (aq:H0[q2]? =some [(.ptr q4 0)]) (aR:H0[q4]? =some [(.sl .n 1 (ml b8 v3.b)),(.int .i64 v3.err)]) (eS:q1≠q2) (hi1:q1≠q4) (hi2:q2≠q4) {aM:aJ} {cB:aN} (h:gb F v3=some (aM,cB)):
 aG Tryz.prog 48 [(.ptr q1 0)] H0 fun v H'=>v=(.agg [(.str aM.au),(.str aM.domain)])∧H'=(H0.set q4 [(.sl .n 1 (ml b8 cB.b)),(.int .i64 cB.err)]):=by
 have aU:=aL ai
 have cK:=aL aq
 have kR:=aL aR
 refine ef AI AJ [q4] fun hcl K0 aP H hH hfr=> ?_
 rw [←hH] at ai aq aR
 clear hH
 have hle:=hfr.le
 have eW:=aL ai
 have IF:=aL aq
 have abF:=aL aR
 rw [gb.eq_1] at h
 refine aE (aB ai (aB aq aR)) ?_
 obtain ⟨⟨r5,r6⟩,hy1,h⟩:=ay h
 dsimp only at h
 refine bg ax (qd (q1:=q2) (q3:=q4) (ez (aq.trans rfl)) (ez (aR.trans rfl)) br hy1) ?_
 refine aE (aB ai (aB aq aR)) ?_
 obtain ⟨⟨r7,r8⟩,bf,h⟩:=ay h
 dsimp only at h
 refine bg ax (qd (q1:=q2) (q3:=q4) (aX (ez (aq.trans rfl))) bL br bf) ?_
 refine aE (aB ai (aB aq aR)) ?_
 obtain ⟨rfl,rfl⟩:=de h
 exact aP _ _ _ bG (cc (bn _ (bn _ (bn _ (Fr.app hfr)))) hcl (gw (cs:=[(.str r5),(.str r7)]) (v:=(.agg [(.str r5),(.str r7)])) (by kernel_rfl) (n:=(some 2)) (by kernel_rfl) rfl bL (by simp [jc,jb,lF,bZ,AV.flat,ng,oa,AV.bS,Tg.sh]) bx) bB bt (aX bL) br jv gE ⟨rfl,rfl⟩)
abbrev yV:aD:=(.seq (.rg [(aj 1 (.aY (.c (.str []))))]) (.seq (.rg [(aj 2 (.ld (.t 0) none)),(aj 3 (.call (.c (.fn 47 [])) [(.t 2),(.c (.int .i64 256))])),(aj 4 (.ec .bs (.t 3))),(bk 1 4)]) .ret))
theorem yW:bw Tryz.prog 46 5 [(.tmp 1)] (erase yV):=⟨Tryz.f46,_,rfl,by decide,rfl,by kernel_rfl,rfl,rfl⟩
abbrev yX:List Nat:=[0,1]
def fM (F:Nat) (v2:aN):Option ((List UInt8)×aN):=
 (dY F v2 256).bind fun (r3,r4)=>some (r3,r4)
theorem jT {F:Nat} {v2:aN} {q1:Nat} {H0:AH} (ai:H0[q1]? =some [(.sl .n 1 (ml b8 v2.b)),(.int .i64 v2.err)]) {aM:List UInt8} {cB:aN} (h:fM F v2=some (aM,cB)):
 aG Tryz.prog 46 [(.ep (.agg [(.ptr q1 0)]) 0)] H0 fun v H'=>v=(.str aM)∧H'=(H0.set q1 [(.sl .n 1 (ml b8 cB.b)),(.int .i64 cB.err)]):=by
 have aU:=aL ai
 refine ef yW yX [q1] fun hcl K0 aP H hH hfr=> ?_
 rw [←hH] at ai
 clear hH
 have hle:=hfr.le
 have eW:=aL ai
 rw [fM.eq_1] at h
 refine aE ai ?_
 obtain ⟨⟨r3,r4⟩,hy1,h⟩:=ay h
 dsimp only at h
 refine bg ax (l8 (ai.trans rfl) hy1) ?_
 refine aE ai ?_
 obtain ⟨rfl,rfl⟩:=de h
 exact aP _ _ _ bG (cc (bn _ hfr) hcl (bD bx (.str r3)) bB bt bL br jv gE ⟨rfl,rfl⟩)
abbrev yY:aD:=(.seq (.rg [(aj 1 (.alloc [(.str []),(.str [])]))]) (.seq (.rg [(aj 3 (.ld (.t 0) none)),(aj 4 (.call (.t 3) [])),(bk 2 4)]) (.seq (.rg [(aA 5 2),(aj 6 (.ld (.t 0) none)),(aj 7 (.call (.t 6) [])),(aj 8 (.build [(.str []),(.str [])] [(0,(1,(.t 5))),(1,(1,(.t 7)))])),(cZ (.st (.t 1) (.t 8) 2))]) .ret)))
theorem yZ:bw Tryz.prog 48 9 [(.cell 1 23)] (erase yY):=⟨Tryz.f48,_,rfl,by decide,rfl,by kernel_rfl,rfl,rfl⟩
abbrev y8:List Nat:=[0,1,2]
def jA (F:Nat) (v3:aN):Option (aJ×aN):=
 (fM F v3).bind fun (r4,r5)=>
 (fM F r5).bind fun (r6,r7)=>some ((aJ.mk r4 r6),r7)
theorem xA {F:Nat} {v3:aN} {q1:Nat} {q2:Nat} {H0:AH} (ai:H0[q1]? =some [(.fn 46 [(.ep (.agg [(.ptr q2 0)]) 0)])]) (aq:H0[q2]? =some [(.sl .n 1 (ml b8 v3.b)),(.int .i64 v3.err)]) (eS:q1≠q2) {aM:aJ} {cB:aN} (h:jA F v3=some (aM,cB)):
 aG Tryz.prog 48 [(.ptr q1 0)] H0 fun v H'=>v=(.agg [(.str aM.au),(.str aM.domain)])∧H'=(H0.set q2 [(.sl .n 1 (ml b8 cB.b)),(.int .i64 cB.err)]):=by
 have aU:=aL ai
 have cK:=aL aq
 refine ef yZ y8 [q2] fun hcl K0 aP H hH hfr=> ?_
 rw [←hH] at ai aq
 clear hH
 have hle:=hfr.le
 have eW:=aL ai
 have IF:=aL aq
 rw [jA.eq_1] at h
 refine aE (aB ai aq) ?_
 obtain ⟨⟨r4,r5⟩,hy1,h⟩:=ay h
 dsimp only at h
 refine bg ax (jT (q1:=q2) (ez (aq.trans rfl)) hy1) ?_
 refine aE (aB ai aq) ?_
 obtain ⟨⟨r6,r7⟩,bf,h⟩:=ay h
 dsimp only at h
 refine bg ax (jT (q1:=q2) bL bf) ?_
 refine aE (aB ai aq) ?_
 obtain ⟨rfl,rfl⟩:=de h
 exact aP _ _ _ bG (cc (bn _ (bn _ (bn _ (Fr.app hfr)))) hcl (gw (cs:=[(.str r4),(.str r6)]) (v:=(.agg [(.str r4),(.str r6)])) (by kernel_rfl) (n:=(some 2)) (by kernel_rfl) rfl bL (by simp [jc,jb,lF,bZ,AV.flat,ng,oa,AV.bS,Tg.sh]) bx) bB bt (aX bL) br jv gE ⟨rfl,rfl⟩)
abbrev xB:aD:=(.seq (.rg [(aj 2 (.aY (.c (.int .i64 0))))]) (.seq (.rg [(aA 3 0),(aj 4 (.call (.c (.fn 73 [])) [(.t 3),(.c (.int .i64 2))])),(bk 2 4)]) .ret))
theorem xC:bw Tryz.prog 51 5 [(.tmp 2)] (erase xB):=⟨Tryz.f51,_,rfl,by decide,rfl,by kernel_rfl,rfl,rfl⟩
abbrev xD:List Nat:=[0,2]
def gq (F:Nat) (r2:aN):Option (Int×aN):=
 (cY F r2 2).bind fun (r3,r4)=>some (r3,r4)
theorem wA {F:Nat} {r2:aN} {q1:Nat} {H0:AH} (ai:H0[q1]? =some [(.sl .n 1 (ml b8 r2.b)),(.int .i64 r2.err)]) {aM:Int} {cB:aN} (h:gq F r2=some (aM,cB)):
 aG Tryz.prog 51 [(.ptr q1 0)] H0 fun v H'=>v=(.int .i64 aM)∧H'=(H0.set q1 [(.sl .n 1 (ml b8 cB.b)),(.int .i64 cB.err)]):=by
 have aU:=aL ai
 refine ef xC xD [q1] fun hcl K0 aP H hH hfr=> ?_
 rw [←hH] at ai
 clear hH
 have hle:=hfr.le
 have eW:=aL ai
 rw [gq.eq_1] at h
 refine aE ai ?_
 obtain ⟨⟨r3,r4⟩,hy1,h⟩:=ay h
 dsimp only at h
 refine bg ax (gN (ai.trans rfl) hy1) ?_
 refine aE ai ?_
 obtain ⟨rfl,rfl⟩:=de h
 exact aP _ _ _ bG (cc (bn _ hfr) hcl (bD bx (.int .i64 r3)) bB bt bL br jv gE ⟨rfl,rfl⟩)
abbrev ko:aD:=(.rg [(aA 3 0),(aj 4 (.dZ (.t 3))),(aj 5 (.aV (.t 4) 1)),(aj 6 (.ld (.t 5) none)),(aj 7 (.bin .eql (.t 6) (.c (.int .i64 0)))),(aA 8 7),(aF 9 (.mv (.t 0)) 8 true),(aF 10 (.dZ (.t 9)) 8 true),(aF 11 (.aV (.t 10) 0) 8 true),(aF 12 (.ld (.t 11) none) 8 true),(aF 13 (.len (.t 12)) 8 true),(aF 14 (.bin .gtr (.t 13) (.c (.int .i64 0))) 8 true),(aj 15 (.pick (.t 8) (.t 14) (.c (.bool false))))])
abbrev vp:aD:=(.seq (.rg [(aj 2 (.aY (.c (.int .i64 0))))]) (.seq (.seq (.sem (erase ko)) (.cond (.t 15) (.seq (.rg [(aj 2 (.aY (.c (.int .i64 3))))]) .ret) .skip)) (.seq (.rg [(aA 16 0),(aj 17 (.dZ (.t 16))),(aj 18 (.aV (.t 17) 1)),(aj 19 (.ld (.t 18) none)),(bk 2 19)]) .ret)))
theorem vq:bw Tryz.prog 52 20 [(.tmp 2)] (erase vp):=⟨Tryz.f52,_,rfl,by decide,rfl,by kernel_rfl,rfl,rfl⟩
abbrev mM:List Nat:=[0,2,15]
def fz (r1:aN):Option (Int):=
 (if ((decide (r1.err=0))&&(decide (0<(r1.b.length:Int)))) then
  some 3
 else
  some r1.err)
theorem qW {r1:aN} {H:AH} {K:Exit→Env→AH→Prop}
 (kn:K .normal [(0,(.ep (.agg [(.sl .n 1 (ml b8 r1.b)),(.int .i64 r1.err)]) 0)),(15,(.bool ((decide (r1.err=0))&&(decide (0<(r1.b.length:Int))))))] H):
 AX Tryz.prog mM 20 H.length (erase ko) K [(0,(.ep (.agg [(.sl .n 1 (ml b8 r1.b)),(.int .i64 r1.err)]) 0))] H:=by
 refine dz fun K' hK=> ?_
 refine aS ?_
 refine jZ (fun hy1=> ?_) fun hy1=> ?_
 · refine bO hy1 ?_
   exact hK _ _ _ _ _ (dy hy1) ax kn
 · refine bO hy1 ?_
   exact hK _ _ _ _ _ (dy hy1) ax kn
theorem uj {r1:aN} {H0:AH} {aM:Int} (h:fz r1=some aM):
 aG Tryz.prog 52 [(.ep (.agg [(.sl .n 1 (ml b8 r1.b)),(.int .i64 r1.err)]) 0)] H0 fun v H'=>v=(.int .i64 aM)∧H'=H0:=by
 refine gx vq mM fun hcl K0 aP=> ?_
 rw [fz.eq_1] at h
 refine aS ?_
 refine cg ax (qW (r1:=r1) ?_)
 refine aS ?_
 refine b7 h (fun bf h=> ?_) fun bf h=> ?_
 · refine aS ?_
   obtain rfl:=aK h
   exact aP _ _ _ bG (aW hcl (bD bx (.int .i64 3)) bB bt ⟨rfl,rfl⟩)
 · refine aS ?_
   obtain rfl:=aK h
   exact aP _ _ _ bG (aW hcl (bD bx (.int .i64 r1.err)) bB bt ⟨rfl,rfl⟩)
abbrev Ez:aD:=(.seq (.rg [(aj 4 (.aY (.c (.bool false))))]) (.seq (.rg [(aA 5 0),(aj 6 (.ec .bs (.t 5))),(aA 7 1),(aj 8 (.ec .bs (.t 7))),(aj 9 (.bin .eql (.t 6) (.t 8))),(bk 4 9)]) .ret))
theorem EA:bw Tryz.prog 53 10 [(.tmp 4)] (erase Ez):=⟨Tryz.f53,_,rfl,by decide,rfl,by kernel_rfl,rfl,rfl⟩
abbrev EB:List Nat:=[0,1,4]
def bytes_Equal (a1:List UInt8) (b2:List UInt8):Option (Bool):=
 some (decide (a1=b2))
theorem C4 {a1:List UInt8} {b2:List UInt8} {H0:AH} {aM:Bool} (h:bytes_Equal a1 b2=some aM):
 aG Tryz.prog 53 [(.sl .n 1 (ml b8 a1)),(.sl .n 1 (ml b8 b2))] H0 fun v H'=>v=(.bool aM)∧H'=H0:=by
 refine gx EA EB fun hcl K0 aP=> ?_
 rw [bytes_Equal.eq_1] at h
 refine aS ?_
 obtain rfl:=aK h
 exact aP _ _ _ bG (aW hcl (bD bx (.bool (decide (a1=b2)))) bB bt ⟨rfl,rfl⟩)
end Go.Proofs.cL
end
