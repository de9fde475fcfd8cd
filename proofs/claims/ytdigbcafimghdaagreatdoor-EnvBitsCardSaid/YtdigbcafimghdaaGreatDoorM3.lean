import Derived.Test.YtdigbcafimghdaaGreatDoorM2
import Derived.Shelf.Strconv.Itoa3
import Derived.Shelf.Small.Strs
import Derived.Shelf.Utf8.RuneCount
import Derived.Shelf.Strconv.Atoi
import Derived.Shelf.Strconv.Itoa0
import Derived.Shelf.Strconv.Itoa1
import Derived.Shelf.LaysM
import Derived.Shelf.Strconv.Itoa2
import Derived.Shelf.Strconv.AtoiErrFast
import Derived.Shelf.Strconv.ParseIntEmpty
import Derived.Shelf.Strconv.AtoiFail
import Derived.Shelf.Strconv.Clone
import Derived.Shelf.Strconv.SyntaxError
import Derived.Shelf.LaysC
import Derived.Shelf.Strconv.ToError
import Derived.Shelf.Strconv.Lower
import Derived.Shelf.Strconv.ParseUint10
import Derived.Shelf.Strconv.ParseUint10Empty
import Derived.Shelf.Strconv.ParseUint10Any
import Derived.Shelf.Strconv.ParseInt10
import Derived.Shelf.Strconv.AtoiLong
import Derived.Shelf.Strconv.AtoiInnerAll
import Derived.Shelf.Strconv.RangeError
import Derived.Shelf.Strconv.ToErrorRange
import Derived.Shelf.Strconv.AtoiAll
import Derived.Shelf.Strconv.ErrVarAll
import Derived.Shelf.Strconv.ParseUintEmpty
import Derived.Shelf.Strconv.ParseUint10b64
import Derived.Shelf.Strconv.ParseUint10b32
import Derived.Shelf.Strconv.ParseUint10b16
import Derived.Shelf.Strconv.ParseUint10b8
import Derived.Shelf.Strings.Search1
import Derived.Shelf.Strings.Search2
import Derived.Shelf.Strings.Search3
import Derived.Shelf.Strings.Count
import Derived.Shelf.Strings.Shaped
import Derived.Shelf.Strings.Split
import Derived.Shelf.Strings.SplitShaped
import Derived.Shelf.Unicode.Decode
import Derived.Shelf.Strings.RuneCount
import Derived.Shelf.Strings.Explode
import Derived.Shelf.Unicode.DecodeSlow
import Derived.Shelf.Unicode.DecodeAny
import Derived.Shelf.Bytes.Small
import Derived.Test.YtdigbcafimghdaaGreatDoorProg
import Derived.Lib.Split
set_option linter.unusedSimpArgs false
set_option linter.unusedVariables false
set_option linter.unusedSectionVars false
set_option linter.defProp false
section
namespace Go.Am
open Go
variable [Tabs]
def EK (k:Nat) (xs:List AV):Prop:=∀(i:Nat) (a:AV),xs[i]? =some a→a.cells.length=k∧b6 a.cells=true∧gb a.cells=true∧b5 a.cells=true
theorem EK.ml {α:Type} {f:α→AV} {k:Nat} (h:∀x,(f x).cells.length=k∧b6 (f x).cells=true∧gb (f x).cells=true∧b5 (f x).cells=true) (l:List α):EK k (ml f l):=by
 intro i a hi
 simp only [Am.ml,List.getElem?_map,Option.map_eq_some_iff] at hi
 obtain ⟨x, -,rfl⟩:=hi
 exact h x
def fla (xs:List AV):List AV:=(xs.map fun a=>a.cells.map AV.s1).flatten
theorem nI (a:AV) (xs:List AV):fla (a::xs)=a.cells.map AV.s1++fla xs:=rfl
theorem Ld (xs ys:List AV):fla (xs++ys)=fla xs++fla ys:=by simp [fla]
theorem EK.tail {k:Nat} {a:AV} {xs:List AV} (h:EK k (a::xs)):EK k xs:=fun i b hb=>h (i+1) b (by simpa using hb)
theorem n7 {k:Nat}:∀ {xs:List AV},EK k xs→(fla xs).length=xs.length*k:=by
 intro xs
 induction xs with
 |nil=>intro _;simp [fla]
 |cons a r ih=>intro h;rw [nI,List.length_append,List.length_map,ih h.tail,(h 0 a rfl).1,List.length_cons,Nat.succ_mul];omega
theorem Le {k:Nat}:∀ {xs:List AV},EK k xs→∀(i j:Nat) (a:AV),xs[i]? =some a→j<k→(fla xs)[i*k+j]? =(a.cells.map AV.s1)[j]? :=by
 intro xs
 induction xs with
 |nil=>intro _ i j a h;simp at h
 |cons y r ih=>
  intro h i j a hi hj
  have hy:=(h 0 y rfl).1
  rw [nI]
  cases i with
  |zero=>
   simp at hi;subst hi
   rw [List.getElem?_append_left (by simp;omega)];simp
  |succ i=>
   rw [List.getElem?_append_right (by simp only [List.length_map,hy,Nat.succ_mul];omega)]
   rw [show (i+1)*k+j - (y.cells.map AV.s1).length=i*k+j by simp only [List.length_map,hy,Nat.succ_mul];omega]
   exact ih h.tail i j a (by simpa using hi) hj
theorem V6 {k:Nat}:∀ {xs:List AV},EK k xs→∀(i j:Nat) (a a' w:AV),xs[i]? =some a→j<k→a'.cells.map AV.s1=(a.cells.map AV.s1).set j w→fla (xs.set i a')=(fla xs).set (i*k+j) w:=by
 intro xs
 induction xs with
 |nil=>intro _ i j a a' w h;simp at h
 |cons y r ih=>
  intro h i j a a' w hi hj hw
  have hy:=(h 0 y rfl).1
  cases i with
  |zero=>
   simp at hi;subst hi
   rw [List.set_cons_zero,nI,nI,hw,List.set_append_left _ _ (by simp;omega)];simp
  |succ i=>
   rw [List.set_cons_succ,nI,nI,ih h.tail i j a a' w (by simpa using hi) hj hw,List.set_append_right _ _ (by simp only [List.length_map,hy,Nat.succ_mul];omega)]
   rw [show (i+1)*k+j - (y.cells.map AV.s1).length=i*k+j by simp only [List.length_map,hy,Nat.succ_mul];omega]
theorem acd (a:AV):a.s1.s1=a.s1:=by cases a<;>rfl
theorem Zv (xs:List AV):(fla xs).map AV.s1=fla xs:=by
 unfold fla
 rw [List.map_flatten,List.map_map]
 congr 1
 apply List.map_congr_left
 intro a _
 simp [List.map_map,Function.comp_def,acd]
theorem EI {k:Nat}:∀ {xs:List AV},EK k xs→∀(q:Nat) (a:AV),(fla xs)[q]? =some a→a.flat=true∧a.np=true∧a.jj=true:=by
 intro xs
 induction xs with
 |nil=>intro _ q a h;simp [fla] at h
 |cons y r ih=>
  intro h q a hq
  rw [nI] at hq
  by_cases hlt:q<(y.cells.map AV.s1).length
  · rw [List.getElem?_append_left hlt,List.getElem?_map,Option.map_eq_some_iff] at hq
    obtain ⟨z,hz,rfl⟩:=hq
    have h1:=jG (h 0 y rfl).2.2.2 hz
    have h2:=uo (h 0 y rfl).2.2.1 hz
    have h3:z.jj=true:=by
     have:=(h 0 y rfl).2.1
     generalize y.cells=l at this hz
     clear hlt
     induction l generalizing q with
     |nil=>simp at hz
     |cons b l ihl=>
      simp only [b6,Bool.and_eq_true] at this
      cases q with
      |zero=>simp at hz;subst hz;exact this.1
      |succ q=>exact ihl q this.2 (by simpa using hz)
    cases z<;>simp_all [AV.s1,AV.flat,AV.np,AV.jj]
  · rw [List.getElem?_append_right (by omega)] at hq
    exact ih h.tail _ a hq
theorem Lf {l:List AV} (h:∀(q:Nat) (a:AV),l[q]? =some a→a.flat=true):b5 l=true:=by
 induction l with
 |nil=>rfl
 |cons a r ih=>simp only [b5,Bool.and_eq_true];exact ⟨h 0 a rfl,ih fun q b hb=>h (q+1) b (by simpa using hb)⟩
theorem me (k:Nat) (xs:List AV) (c:Nat):jF k xs c=fla xs++List.replicate ((c - xs.length)*k) .un:=rfl
theorem AB {k c:Nat} {xs:List AV} (h:EK k xs) (hc:xs.length≤c):(jF k xs c).length=c*k:=by
 rw [me,List.length_append,n7 h,List.length_replicate, ←Nat.add_mul];congr 1;omega
theorem B1 {k c:Nat} {xs:List AV} (h:EK k xs):(jF k xs c).take (xs.length*k)=fla xs:=by
 rw [me,List.take_append_of_le_length (by rw [n7 h];exact Nat.le_refl _),List.take_of_length_le (by rw [n7 h];exact Nat.le_refl _)]
theorem V7 {k c i j:Nat} {xs:List AV} {a:AV} (h:EK k xs) (hi:xs[i]? =some a) (hj:j<k):(jF k xs c)[i*k+j]? =(a.cells.map AV.s1)[j]? :=by
 have hlt:i<xs.length:=(List.getElem?_eq_some_iff.1 hi).1
 have:(i+1)*k≤xs.length*k:=Nat.mul_le_mul_right _ hlt
 rw [Nat.succ_mul] at this
 rw [me,List.getElem?_append_left (by rw [n7 h];omega),Le h i j a hi hj]
theorem SV {k c i j:Nat} {xs:List AV} {a a' w:AV} (h:EK k xs) (hi:xs[i]? =some a) (hj:j<k) (hw:a'.cells.map AV.s1=(a.cells.map AV.s1).set j w):
 over (jF k xs c) (i*k+j) [w]=some (jF k (xs.set i a') c):=by
 have hlt:i<xs.length:=(List.getElem?_eq_some_iff.1 hi).1
 have hm:(i+1)*k≤xs.length*k:=Nat.mul_le_mul_right _ hlt
 rw [Nat.succ_mul] at hm
 have hl:=n7 h
 unfold over
 rw [if_pos (by rw [me,List.length_append,hl,List.length_singleton];omega)]
 congr 1
 rw [me k (xs.set i a'),List.length_set,V6 h i j a a' w hi hj hw,me]
 rw [←List.set_append_left _ _ (by rw [hl];omega)]
 rw [List.set_eq_take_append_cons_drop,if_pos (by rw [List.length_append,hl];omega)]
 simp
def GF (k n0 q:Nat) (xs:List AV) (c:Nat) (ah:AH):Prop:=
 (c=0∧xs=[])∨(n0≤q∧0<c∧xs.length≤c∧ah[q]? =some (jF k xs c))
theorem GF.lt {k n0 q c:Nat} {xs:List AV} {ah:AH} (h:GF k n0 q xs c ah) (hc:0<c):q<ah.length∧n0≤q:=by
 rcases h with ⟨h, -⟩|⟨h1, -, -,h2⟩
 · omega
 · exact ⟨(List.getElem?_eq_some_iff.1 h2).1,h1⟩
theorem GF.nil {k n0 q:Nat} {ah:AH}:GF k n0 q [] 0 ah:= .inl ⟨rfl,rfl⟩
theorem GF.at {k n0 q c i:Nat} {xs:List AV} {ah:AH} {a:AV} (h:GF k n0 q xs c ah) (hi:xs[i]? =some a):n0≤q∧ah[q]? =some (jF k xs c):=by
 rcases h with ⟨-,rfl⟩|⟨h1, -, -,h2⟩
 · simp at hi
 · exact ⟨h1,h2⟩
theorem GF.of {k n0 q c:Nat} {xs:List AV} {ah aH:AH} (h:GF k n0 q xs c ah) (he:q<ah.length→n0≤q→aH[q]? =ah[q]?):GF k n0 q xs c aH:=by
 rcases h with h|⟨h1,h2,h3,h4⟩
 · exact .inl h
 · exact .inr ⟨h1,h2,h3,by rw [he (List.getElem?_eq_some_iff.1 h4).1 h1];exact h4⟩
theorem GF.set {k n0 q c i:Nat} {xs:List AV} {ah:AH} {a a':AV} (h:GF k n0 q xs c ah) (hi:xs[i]? =some a):GF k n0 q (xs.set i a') c (ah.set q (jF k (xs.set i a') c)):=by
 rcases h with ⟨-,rfl⟩|⟨h1,h2,h3,h4⟩
 · simp at hi
 · exact .inr ⟨h1,h2,by simpa using h3,List.getElem?_set_self (List.getElem?_eq_some_iff.1 h4).1⟩
section
variable {P:Program} {L:List Nat} {N n0:Nat} {e:Env} {ah:AH} {t:List It} {Q:Exit→Env→AH→Prop} {r:List aQ} {d:Option Nat} {g:Option (Nat×Bool)}
theorem V8 {α:Type} {f:α→AV} {k b q c n1:Nat} {x y:Ar} {tg:Tg} {X Y Z:List α} {ys:List AV} (hf:∀x,(f x).cells.length=k∧b6 (f x).cells=true∧gb (f x).cells=true∧b5 (f x).cells=true)
 (Aq:0<k) (hx:ev e x= .cu q k X.length c) (hy:ev e y= .sl tg k ys) (hys:ys=ml f Y) (hY:Y≠[]) (hz:cB b X Y=some Z) (hG:GF k n1 q (ml f X) c ah) (hn:n1≤ah.length)
 (hK:∀q' c' aH,GF k n1 q' (ml f Z) c' aH→(∀s,s<ah.length→s<n1∨(0<c→s≠q)→aH[s]? =ah[s]?)→ah.length≤aH.length→(q'=q∧0<c∨ah.length≤q')→
  U P L N n0 (.ops r::t) Q .normal (aI L e d (.cu q' k Z.length c')) aH):
 UG P L N n0 ⟨d, .lW k b x y,g⟩ r t Q e ah (some true):=by
 subst hys
 obtain ⟨hc,hZ⟩:=UA hz
 injection hZ with hZ
 subst hZ
 have eX:=EK.ml hf X
 have eY:=EK.ml hf Y
 have eXY:EK k (ml f (X++Y)):=EK.ml hf _
 have hap:ml f (X++Y)=ml f X++ml f Y:=by simp [ml]
 have lX:(ml f X).length=X.length:=by simp [ml]
 have lY:(ml f Y).length=Y.length:=by simp [ml]
 have hyp:0<Y.length:=List.length_pos_iff.2 hY
 show pV L d k b x y e ah fun e ah=>U P L N n0 (.ops r::t) Q .normal e ah
 unfold pV
 rw [hx,hy]
 refine ⟨rfl,rfl,by simpa [ml] using hY,by rw [lY];exact hc.1,by rw [lY];exact hc.2, ?_⟩
 have lXY:(X++Y).length=X.length+Y.length:=List.length_append
 rcases hG with ⟨rfl,hX⟩|⟨h1,h2,h3,h4⟩
 · have hX:X=[]:=by simpa [ml] using hX
   subst hX
   refine .inl ⟨rfl,rfl,fun c' cj=> ?_⟩
   rw [lY] at cj ⊢
   have:=hK ah.length c' (ah++[jF k (ml f Y) c']) (.inr ⟨hn,by omega,by simpa [ml] using cj,by simp⟩) (fun s hs _=>List.getElem?_append_left hs) (by simp) (.inr (Nat.le_refl _))
   simpa using this
 · rw [lX] at h3
   have hlt:=(List.getElem?_eq_some_iff.1 h4).1
   refine .inr ⟨_,h4,fun h0=> ?_,AB eX (by rw [lX];exact h3),h3, ?_,fun hr=> ?_,fun hr c' cj=> ?_⟩
   · have:=AB eX (c:=c) (by rw [lX];exact h3)
     rw [h0] at this
     have h5:=Nat.mul_pos h2 Aq
     simp at this
     omega
   · rw [←lX,B1 eX];exact Lf fun q a hq=>(EI eX q a hq).1
   · rw [lY] at hr ⊢
     have e1:(jF k (ml f X) c).take (X.length*k)++((ml f Y).map fun a=>a.cells.map AV.s1).flatten++(jF k (ml f X) c).drop ((X.length+Y.length)*k)=jF k (ml f (X++Y)) c:=by
      have t1:=B1 (c:=c) eX
      rw [lX] at t1
      rw [t1,me k (ml f (X++Y)),hap,Ld]
      show fla (ml f X)++fla (ml f Y)++_=_
      congr 1
      rw [me,List.drop_append,List.drop_of_length_le (by rw [n7 eX,lX];exact Nat.mul_le_mul_right _ (by omega)),List.nil_append,List.drop_replicate]
      congr 1
      rw [n7 eX,List.length_append,lX,lY, ←Nat.sub_mul, ←Nat.sub_mul]
      congr 1
      omega
     rw [e1]
     have:=hK q c (ah.set q (jF k (ml f (X++Y)) c)) (.inr ⟨h1,h2,by simpa [ml] using hr,List.getElem?_set_self hlt⟩) (fun s hs hq=>List.getElem?_set_ne (hq.elim (fun h=>by omega) (fun h=>Ne.symm (h h2)))) (by simp) (.inl ⟨rfl,h2⟩)
     rw [lXY] at this
     exact this
   · rw [lY] at cj hr ⊢
     have e1:((jF k (ml f X) c).take (X.length*k)).map AV.s1++jF k (ml f Y) (c' - X.length)=jF k (ml f (X++Y)) c':=by
      have t1:=B1 (c:=c) eX
      rw [lX] at t1
      rw [t1,Zv,me,me,hap,Ld,List.append_assoc]
      congr 3
      rw [List.length_append,lX,lY];congr 1;omega
     rw [e1]
     have:=hK ah.length c' (ah++[jF k (ml f (X++Y)) c']) (.inr ⟨hn,by omega,by simpa [ml] using cj,by simp⟩) (fun s hs _=>List.getElem?_append_left hs) (by simp) (.inr (Nat.le_refl _))
     rw [lXY] at this
     exact this
theorem ace {q k n c:Nat}:PR L e ah d (.cu q k n c)=some (aI L e d (.int .i64 n),ah):=rfl
theorem aen {q k n c:Nat} {ki:IntKind} {i:Int}:tu L e ah d k (.cu q k n c) (.int ki i)=(wD n i).map fun j=>(aI L e d (.ptr q (j*k)),ah):=by
 simp only [tu,wD,and_true]
 split<;>simp
theorem acf {k m s p:Nat} {ki:IntKind} {i:Int}:Kf L e ah d k m (.ptr s p) (.int ki i)=(wD m i).map fun j=>(aI L e d (.ptr s (p+j*k)),ah):=by
 simp only [Kf,wD]
 split<;>simp
theorem acg {k m p:Nat} {a:AV} {ki:IntKind} {i:Int}:Kf L e ah d k m (.ep a p) (.int ki i)=(wD m i).map fun j=>(aI L e d (.ep a (p+j*k)),ah):=by
 simp only [Kf,wD]
 split<;>simp
theorem ach {k:Nat}:Kg L e ah d k (.sl .ex k [])=some (aI L e d (.cu 0 k 0 0),ah):=by simp [Kg]
theorem aci {s k n c j:Nat}:Kg L e ah d j (.cu s k n c)=some (aI L e d (.cu s k n c),ah):=rfl
theorem acj {u k j:Nat} {xs:List AV}:Kg L e ah d j (.sl (.fr (.tmp u)) k xs)=PF L e ah d u k xs (Am.get e u):=rfl
theorem Zw {u k:Nat} {xs zs:List AV}:PF L e ah d u k xs (.sl .own k zs)=some (aI L (put e u (.sl .n k zs)) d (.sl .own k xs),ah):=by simp [PF]
end
theorem Wx.afP {s k n m c:Nat} (h:n=m):Wx (.cu s k n c) (.cu s k m c):=by subst h;exact .same (by simp)
theorem Wx.cu {s k n c:Nat}:Wx (.cu s k n c) (.cu s k n c):= .same (by simp)
def WG:=And.intro @acj<|And.intro @Zw<|And.intro @YT<|And.intro @YU<|And.intro @YV<|And.intro @YW<|And.intro @YX<|And.intro @YY<|And.intro @YZ<|And.intro @Y0<|And.intro @Y1<|And.intro @Y2<|And.intro @Y3<|And.intro @Y4<|And.intro @Y5<|And.intro @Y6<|And.intro @Y7<|And.intro @Y8<|And.intro @UU<|And.intro @UW<|And.intro @UY<|And.intro @UZ<|And.intro @ace<|And.intro @aen<|And.intro @acf<|And.intro @acg<|And.intro @ach<|And.intro @aci<|And.intro @aba<|And.intro @abb<|And.intro @Nat.add_zero<|And.intro @Nat.zero_add @Nat.mul_one
section
variable {P:Program} {L:List Nat} {N n0:Nat} {F:Nat→Prop} {γ:List Nat} {C:Nat→List Value} {e e':Env} {ah:AH} {ts:Array Value} {w:World} {Q K:Exit→Env→AH→Prop}
theorem VR.one' {x:AV} {u:Value} (hx:VR C γ x u) (hk:x.jj=true):u.oneCell'=true:=by
 cases hx<;>first|rfl|cases hk|skip
 rename_i hs
 cases u<;>first|rfl|cases hs
theorem SR.V9 (h:SR L N F γ C e ah ts w) {s k n1 c:Nat} {xs:List AV} (hkp:0<k) (hk:EK k xs) (hG:GF k n1 s xs c ah)
 (he:∀t,get e' t=get e t∨(get e t= .cu s k xs.length c∧get e' t= .sl .n k xs)):∃C',SR L N F γ C' e' (if c=0 then ah else ah.set s []) ts w∧Ext F C w C' w:=by
 rcases hG with ⟨rfl,rfl⟩|⟨-,hc0,hcl,hs⟩
 · refine ⟨C, ?_,Ext.refl ..⟩
   rw [if_pos rfl]
   have hbk:∀p b,blk γ e' ah ts w p b→blk γ e ah ts w p b:=by
    intro p b hp
    cases p with
    |tmp t=>
     simp only [blk] at hp ⊢
     rcases he t with h1|⟨h1,h2⟩
     · rwa [h1] at hp
     · rw [h2] at hp;simp [bR] at hp
    |obj s=>exact hp
    |cell s i=>exact hp
   refine ⟨h.mem,h.sz,fun t=> ?_,fun p q b hp hq=>h.dG p q b (hbk p b hp) (hbk q b hq),fun p b hp=>h.nf p b (hbk p b hp),h.kA,fun t l k' xs' ht=> ?_⟩
   · rcases he t with h1|⟨h1,h2⟩
     · rw [h1];exact h.env t
     · rw [h2]
       have hv:=(h.env t).1
       rw [h1] at hv
       obtain ⟨a,hv, -⟩:=hv.vY
       rw [hv]
       exact ⟨.sJ ..,by simp [TC]⟩
   · rcases he t with h1|⟨h1,h2⟩
     · rw [h1] at ht
       have hf:=h.fr t l k' xs' ht
       cases l with
       |tmp u=>
        refine ⟨hf.1,fun hu=>hf.2 ?_⟩
        rcases he u with g1|⟨g1,g2⟩
        · rwa [g1] at hu
        · rw [g2] at hu;cases hu
       |cell s' o=>exact hf
     · rw [h2] at ht;cases ht
 rw [if_neg (by omega)]
 have hlt:s<γ.length:=by rw [h.mem.len];exact (List.getElem?_eq_some_iff.1 hs).1
 obtain ⟨b,hb⟩:∃b,γ[s]? =some b:=⟨_,List.getElem?_eq_getElem hlt⟩
 obtain ⟨vs,ty,hh,hsz,hcell⟩:=h.mem.obj s b _ hs hb
 have qX:blk γ e ah ts w (.obj s) b:=hb
 have Aq:jF k xs c≠[]:=by
  intro h0
  have:=AB (c:=c) hk hcl
  rw [h0] at this
  have h5:=Nat.mul_pos hc0 hkp
  simp at this
  omega
 have F7:=h.mem.pZ s b _ hs Aq hb
 refine ⟨fun x=>if x=b then vs.toList.take (xs.length*k) else C x, ?_⟩
 generalize vp:(fun x=>if x=b then vs.toList.take (xs.length*k) else C x)=C'
 have c0:C' b=vs.toList.take (xs.length*k):=by rw [←vp];simp
 have c1:∀x,x≠b→C' x=C x:=fun x hx=>by rw [←vp];simp [hx]
 have hgl:=AB (c:=c) hk hcl
 have hmul:xs.length*k≤c*k:=Nat.mul_le_mul_right _ hcl
 have hvl:(C' b).length=xs.length*k:=by rw [c0,List.length_take,show vs.toList.length=vs.size from Array.length_toList];omega
 have hpre:∀x,C x <+: C' x:=by
  intro x
  by_cases hx:x=b
  · subst hx;rw [F7];exact List.nil_prefix
  · rw [c1 x hx];exact List.prefix_refl _
 have gX:∀(s':Nat),s'≠s→(ah.set s [])[s']? =ah[s']? :=fun s' hn=>List.getElem?_set_ne (Ne.symm hn)
 have fP:(ah.set s [])[s]? =some []:=List.getElem?_set_self (by rw [←h.mem.len];exact hlt)
 have uk:∀(s':Nat),γ[s']? =some b→s'=s:=fun s' hs'=>by
  have:=h.dG (.obj s') (.obj s) b hs' hb;injection this
 have hbk:∀p x,blk γ e' (ah.set s []) ts w p x→blk γ e ah ts w p x:=by
  intro p x hp
  cases p with
  |obj s'=>exact hp
  |cell s' i=>
   obtain ⟨ds,a,b0,h1,h2,h3,h4⟩:=hp
   by_cases hn:s'=s
   · subst hn;rw [fP] at h1;injection h1 with h1;subst h1;simp at h2
   · rw [gX s' hn] at h1;exact ⟨ds,a,b0,h1,h2,h3,h4⟩
  |tmp t=>
   simp only [blk] at hp ⊢
   rcases he t with h1|⟨h1,h2⟩
   · rwa [h1] at hp
   · rw [h2] at hp;simp [bR] at hp
 have n6:∀(a:AV) (v:Value),TC w C a v→(∀x,bR a v=some x→x≠b)→TC w C' a v:=fun a v ht hn=>ht.mono fun x hx=>⟨rfl,c1 x (hn x hx)⟩
 refine ⟨⟨⟨by simp [h.mem.len],fun s' x ds h1 h2=> ?_,fun x hx=> ?_,fun s' x ds h1 h0 h2=> ?_,fun s' x ds us ty' fr h1 h2 h3=> ?_⟩,h.sz,fun t=> ?_,fun p q x hp hq=>h.dG p q x (hbk p x hp) (hbk q x hq),fun p x hp=>h.nf p x (hbk p x hp),h.kA,fun t l k xs ht=> ?_⟩,
  ⟨hpre,fun x hx=>⟨rfl,c1 x (fun e=>h.nf _ _ qX (e▸hx))⟩,Nat.le_refl _,rfl,rfl,rfl⟩⟩
 · by_cases hn:s'=s
   · subst hn
     rw [fP] at h1;injection h1 with h1;subst h1
     rw [hb] at h2;injection h2 with h2;subst h2
     exact ⟨vs,ty,hh,by simp,by simp⟩
   · rw [gX s' hn] at h1
     obtain ⟨us,ty',g1,g2,g3⟩:=h.mem.obj s' x ds h1 h2
     refine ⟨us,ty',g1,g2,fun i a hi=>⟨(g3 i a hi).1.mono hpre _ (fun _ _ h=>h),n6 _ _ (g3 i a hi).2 fun y hy e=> ?_⟩⟩
     subst e
     obtain ⟨v,hv, -, -⟩:=cellAt h.mem h1 hi h2
     have HU:v=us.getD i undef:=by
      have hlt:i<us.size:=Nat.lt_of_lt_of_le (List.getElem?_eq_some_iff.1 hi).1 g2
      rw [di g1,Array.getElem?_eq_getElem hlt] at hv
      simp [Array.getD_eq_getD_getElem?,Array.getElem?_eq_getElem hlt,Option.some.inj hv]
     have:blk γ e ah ts w (.cell s' i) y:=⟨ds,a,x,h1,hi,h2,by rw [hv,HU];exact hy⟩
     have:=h.dG _ _ _ this qX
     cases this
 · by_cases Lc:x=b
   · subst Lc;exact ⟨vs,ty.1,ty.2,hh,by rw [c0];exact List.take_prefix _ _⟩
   · rw [c1 x Lc] at hx ⊢;exact h.mem.uf x hx
 · have hn:s'≠s:=by
    rintro rfl
    rw [fP] at h1;injection h1 with h1;exact h0 h1.symm
   rw [gX s' hn] at h1
   rw [c1 x (fun e=>hn (uk s' (e▸h2)))]
   exact h.mem.pZ s' x ds h1 h0 h2
 · by_cases hn:s'=s
   · subst hn
     rw [fP] at h1;injection h1 with h1;subst h1
     intro i hi;simp at hi
   · rw [gX s' hn] at h1
     exact h.mem.BO s' x ds us ty' fr h1 h2 h3
 · rcases he t with h1|⟨h1,h2⟩
   · rw [h1]
     refine ⟨(h.env t).1.mono hpre _ (fun _ _ h=>h),n6 _ _ (h.env t).2 fun y hy e=> ?_⟩
     subst e
     have:=h.dG (.tmp t) (.obj s) y hy qX
     cases this
   · have hv:=(h.env t).1
     rw [h1] at hv
     obtain ⟨ad,hv,hnc,hcase⟩:=hv.vY
     have hcase:ad=some ⟨b,0,none⟩:=by
      rcases hcase with ⟨-,h0⟩|⟨b',hb',e⟩
      · omega
      · rw [hb] at hb';injection hb' with hb';subst hb';exact e
     subst hcase
     rw [h2,hv]
     have hval:∀q,q<xs.length*k→(C' b).getD q undef=vs.getD q undef:=by
      intro q hq
      rw [c0]
      simp [List.getD_eq_getElem?_getD,Array.getD_eq_getD_getElem?,List.getElem?_take_of_lt hq]
     have pF:∀q a,(fla xs)[q]? =some a→VR C γ a (vs.getD q undef):=by
      intro q a hq
      refine (hcell q a ?_).1
      rw [me,List.getElem?_append_left (List.getElem?_eq_some_iff.1 hq).1];exact hq
     have hfl:=n7 hk
     refine ⟨.sl _ _ _ _ _ _ _ _ rfl hnc (fun i a hi=>(hk i a hi).1) (by omega) (fun q _ hq=> ?_) (fun i a hi j y hj=> ?_),by simp [TC]⟩
     · rw [Nat.zero_add] at hq
       rw [hval q hq]
       have TV:(fla xs)[q]? =some ((fla xs)[q]'(by omega)):=List.getElem?_eq_getElem (by omega)
       have h3:=pF q _ TV
       have h4:=(EI hk q _ TV).2.2
       exact VR.one' h3 h4
     · have hlt':i<xs.length:=(List.getElem?_eq_some_iff.1 hi).1
       have HK:j<k:=by rw [←(hk i a hi).1];exact (List.getElem?_eq_some_iff.1 hj).1
       have hm:(i+1)*k≤xs.length*k:=Nat.mul_le_mul_right _ hlt'
       rw [Nat.succ_mul] at hm
       rw [Nat.zero_add,hval _ (by omega)]
       have hg:=Le hk i j a hi HK
       rw [List.getElem?_map,hj] at hg
       have h3:=pF _ _ hg
       have hnp:=uo (hk i a hi).2.2.1 hj
       have h4:VR C [] y.s1 (vs.getD (i*k+j) undef):=h3.np (EI hk _ _ hg).2.1
       have h5:VR C' [] y.s1 (vs.getD (i*k+j) undef):=h4.mono hpre [] (fun _ _ h=>h)
       cases y with
       |sl t k xs=>exact h5.kg _
       |_=>exact h5
 · rcases he t with h1|⟨h1,h2⟩
   · have hf:=h.fr t l k xs (by rw [←h1];exact ht)
     cases l with
     |tmp u=>
      refine ⟨hf.1,fun hu=>hf.2 ?_⟩
      rcases he u with g1|⟨g1,g2⟩
      · rwa [g1] at hu
      · rw [g2] at hu;cases hu
     |cell s' o=>
      intro ds a x g1 g2 g3 g4
      by_cases hn:s'=s
      · subst hn;rw [fP] at g1;injection g1 with g1;subst g1;simp at g2
      · rw [gX s' hn] at g1;exact hf ds a x g1 g2 g3 g4
   · rw [h2] at ht;cases ht
end
end Go.Am
namespace Go.Am
open Go
variable [Tabs]
section
variable {P:Program} {L:List Nat} {N n0:Nat} {e e':Env} {ah:AH} {K:Exit→Env→AH→Prop}
inductive FG (s k c:Nat) (xs:List AV):Env→Env→Prop
 |nil:FG s k c xs [] []
 |same (i:Nat) (a:AV) (r r':Env):FG s k c xs r r'→FG s k c xs ((i,a)::r) ((i,a)::r')
 |lay (i n:Nat) (r r':Env):n=xs.length→FG s k c xs r r'→FG s k c xs ((i, .cu s k n c)::r) ((i, .sl .n k xs)::r')
theorem FG.get {s k c:Nat} {xs:List AV} {e e':Env} (h:FG s k c xs e e') (t:Nat):Am.get e' t=Am.get e t∨(Am.get e t= .cu s k xs.length c∧Am.get e' t= .sl .n k xs):=by
 induction h with
 |nil=>exact .inl rfl
 |same i a r r' _ ih=>
  simp only [Am.get]
  by_cases hi:i=t
  · simp [hi]
  · simpa [hi] using ih
 |lay i n r r' hn _ ih=>
  simp only [Am.get]
  by_cases hi:i=t
  · exact .inr ⟨by simp [hi,hn],by simp [hi]⟩
  · simpa [hi] using ih
theorem AX.V9 {c0:aD} {s k n1 c:Nat} {xs:List AV} (hkp:0<k) (hk:EK k xs) (hG:GF k n1 s xs c ah) (he:FG s k c xs e e')
 (h:∀H',(∀s',s'<n1∨(0<c→s'≠s)→H'[s']? =ah[s']?)→H'.length=ah.length→AX P L N n0 c0 K e' H'):AX P L N n0 c0 K e ah:=by
 intro c' cj F γ C ts w lg hn
 obtain ⟨C',h1,h2⟩:=lg.V9 hkp hk hG he.get
 have hsame:∀s',s'<n1∨(0<c→s'≠s)→(if c=0 then ah else ah.set s [])[s']? =ah[s']? :=by
  intro s' hs'
  rcases hG with ⟨rfl, -⟩|⟨g1,g2, -, -⟩
  · rw [if_pos rfl]
  · rw [if_neg (by omega),List.getElem?_set_ne]
    rcases hs' with h|h
    · omega
    · exact Ne.symm (h g2)
 refine wp_mono (h _ hsame (by split<;>simp) c' cj F γ C' ts w h1 hn) ?_
 rintro x a w' ⟨q1,q2,e2,qY,γ2,C2,q3,q4,q5,q6⟩
 exact ⟨q1,q2,e2,qY,γ2,C2,q3,q4,q5,h2.trans q6⟩
end
end Go.Am
namespace Go.Am
open Go
variable [Tabs]
def EF {α:Type} (k:Nat) (f:α→AV):Prop:=∀x,(f x).cells.length=k∧b6 (f x).cells=true∧gb (f x).cells=true∧b5 (f x).cells=true
section
variable {α:Type} {f:α→AV} {k c j o n q:Nat} {X:List α} {x x':α} {w:AV} {ah:AH}
theorem uu (h:X[j]? =some x):(ml f X)[j]? =some (f x):=by simp [ml,h]
theorem PU:(ml f X).set j (f x')=ml f (X.set j x'):=by simp [ml,List.map_set]
theorem SW (he:EF k f) (h:X[j]? =some x) (ho:o<k):(jF k (ml f X) c)[j*k+o]? =((f x).cells.map AV.s1)[o]? :=V7 (EK.ml he X) (uu h) ho
theorem Ou (he:EF k f) (h:X[j]? =some x) (ho:0<k):(jF k (ml f X) c)[j*k]? =((f x).cells.map AV.s1)[0]? :=SW (o:=0) he h ho
theorem Ov (he:EF k f) (h:X[j]? =some x) (ho:o<k) (hw:(f x').cells.map AV.s1=((f x).cells.map AV.s1).set o w):over (jF k (ml f X) c) (j*k+o) [w]=some (jF k (ml f (X.set j x')) c):=by
 rw [SV (EK.ml he X) (uu h) ho hw,PU]
theorem Lg (he:EF k f) (h:X[j]? =some x) (ho:0<k) (hw:(f x').cells.map AV.s1=((f x).cells.map AV.s1).set 0 w):over (jF k (ml f X) c) (j*k) [w]=some (jF k (ml f (X.set j x')) c):=Ov (o:=0) he h ho hw
theorem GF.Lh (h:GF k n q (ml f X) c ah) (hj:X[j]? =some x):GF k n q (ml f (X.set j x')) c (ah.set q (jF k (ml f (X.set j x')) c)):=by
 have:=h.set (a':=f x') (uu hj)
 rwa [PU] at this
theorem GF.atM (h:GF k n q (ml f X) c ah) (hj:X[j]? =some x):ah[q]? =some (jF k (ml f X) c):=(h.at (uu hj)).2
theorem GF.geM (h:GF k n q (ml f X) c ah) (hj:X[j]? =some x):n≤q:=(h.at (uu hj)).1
end
theorem Fr.grow {H0 H H':AH} {S:List Nat} {n q c:Nat} (h:Fr H0 n S H) (hs:∀s,s<H.length→s<n∨(0<c→s≠q)→H'[s]? =H[s]?) (hl:H.length≤H'.length):Fr H0 n S H':=
 ⟨Nat.le_trans h.le hl,fun j hj EH=>(hs j (Nat.lt_of_lt_of_le hj h.le) (.inl hj)).trans (h.eq j hj EH)⟩
theorem Fr.lay {H0 H H':AH} {S:List Nat} {n q c:Nat} (h:Fr H0 n S H) (hs:∀s,s<n∨(0<c→s≠q)→H'[s]? =H[s]?) (hl:H'.length=H.length):Fr H0 n S H':=
 ⟨by rw [hl];exact h.le,fun j hj EH=>(hs j (.inl hj)).trans (h.eq j hj EH)⟩
end Go.Am
end
section
namespace Go.Am
open Go
variable [Tabs]
theorem aeo {e:Env} {n:Nat}:ev e (.t n)=Am.get e n:=rfl
theorem aep {e:Env} {a:AV}:ev e (.c a)=a:=rfl
theorem Wa {e:Env} {n:Int}:bI e n none= .int .i64 n:=rfl
theorem Wb {e:Env} {n:Int} {x:Ar}:bI e n (some x)=ev e x:=rfl
def WU:=And.intro @aaQ<|And.intro @Ys<|And.intro @aaR<|And.intro @Yt<|And.intro @aaS<|And.intro @aaT<|And.intro @adt<|And.intro @Yu<|And.intro @aaU<|And.intro @Yv<|And.intro @Yw<|And.intro @Ui<|And.intro @Uj<|And.intro @Uk<|And.intro @QH<|And.intro @QI<|And.intro @MG<|And.intro @aaV<|And.intro @Ul<|And.intro @QJ<|And.intro @Um<|And.intro @QK<|And.intro @aaW<|And.intro @YC<|And.intro @YD<|And.intro @QL<|And.intro @YE<|And.intro @ady<|And.intro @aaZ<|And.intro @YF<|And.intro @Un<|And.intro @aa0<|And.intro @Uo<|And.intro @aa1<|And.intro @Uq<|And.intro @Up<|And.intro @abi<|And.intro @aa2<|And.intro @aa3<|And.intro @PT<|And.intro @adz<|And.intro @V1<|And.intro @aar<|And.intro @aa4<|And.intro @adA<|And.intro @adB<|And.intro @aa5<|And.intro @adC<|And.intro @aa6<|And.intro @aa7<|And.intro @aa8<|And.intro @aa9<|And.intro @YK<|And.intro @abc<|And.intro @abd<|And.intro @V0<|And.intro @VY<|And.intro @PS<|And.intro @abg<|And.intro @YL<|@YM
def WV:=And.intro @aeo<|And.intro @aep<|And.intro @PJ<|And.intro @PK<|And.intro @YO<|And.intro @YP<|And.intro @UB<|And.intro @YQ<|And.intro @UD<|And.intro @YR<|And.intro @UE<|And.intro @Wa<|And.intro @Wb<|And.intro @UH<|And.intro @UI<|And.intro @abj<|And.intro @abk<|And.intro @UJ<|And.intro @UL<|And.intro @aak<|And.intro @UM<|And.intro @UN<|And.intro @UO<|And.intro @UP<|And.intro @UQ<|And.intro @UR<|And.intro @UT<|And.intro @abl<|And.intro @abm<|And.intro @abn<|And.intro @abo<|And.intro @abp<|And.intro @abr<|And.intro @adK<|And.intro @abt<|And.intro @abu<|And.intro @abv<|And.intro @abw<|And.intro @abx<|And.intro @aby<|And.intro @abz<|And.intro @abA<|And.intro @adL<|And.intro @adM<|And.intro @adN<|And.intro @adO<|And.intro @abB<|And.intro @abC<|And.intro @abD<|And.intro @abE<|And.intro @abF<|And.intro @abG<|And.intro @adP<|And.intro @adQ<|And.intro @adR<|And.intro @abH<|And.intro @abI<|And.intro @abJ<|And.intro @ML<|And.intro @Ii<|And.intro @C7<|And.intro @Q_i<|And.intro @Q_s<|And.intro @Q_b<|And.intro @Q_n<|And.intro @adS<|And.intro @adT<|And.intro @adU<|And.intro @adV<|And.intro @PN<|And.intro @abK<|And.intro @abL<|And.intro @abM<|And.intro @PI<|And.intro @Ic<|And.intro @Km<|And.intro @Ea<|And.intro @abN<|And.intro @mb<|And.intro @mc<|And.intro @abe<|And.intro @abf<|And.intro @jk<|@jl
theorem AX.Wc {P:Program} {L:List Nat} {N n0:Nat} {K:Exit→Env→AH→Prop} {e:Env} {ah:AH} {m c:aD} (hm:erase m=c) (ho:qZ N c=true) (h:U P L N n0 [.code m] K .normal e ah):AX P L N n0 c K e ah:=by
 subst hm
 exact fun c' cj=>pS c' m _ e ah cj ho h
theorem Wx.ack {a b:Bool} (h:a=b):Wx (.bool a) (.bool b):=by subst h;exact Wx.bool
theorem Wx.aeq {k:IntKind} {a b:Int} (h:a=b):Wx (.int k a) (.int k b):=by subst h;exact Wx.int
theorem Wx.afQ {a b:List UInt8} (h:a=b):Wx (.str a) (.str b):=by subst h;exact Wx.str
theorem eT.afR {ah:AH} {q:Nat} {cs:List AV} (hq:ah[q]? =some cs):eT ah (ah.set q cs):=by
 rw [QS hq];exact eT.refl _
theorem acm {α:Type} {f:α→AV} {xs:List α} {i:Int} {x:α} (h:idx xs i=some x):idx (ml f xs) i=some (f x):=by rw [PI,h];rfl
theorem yX {α:Type} {f:α→AV} {xs ys:List α} {i j:Int} (h:sub xs i j=some ys):sub (ml f xs) i j=some (ml f ys):=by rw [Ic,h];rfl
theorem Zx {α:Type} {f:α→AV} {xs ys:List α} {i j m:Int} (h:wC xs i j m=some ys):wC (ml f xs) i j m=some (ml f ys):=by rw [Km,h];rfl
end Go.Am
namespace Go.Am
open Go
variable [Tabs]
section
variable {P:Program} {L:List Nat} {N n0:Nat} {e:Env} {ah:AH} {t:List It} {Q:Exit→Env→AH→Prop} {r:List aQ}
theorem aer {a b:aD} {B:Bool} (h:B=true) (hk:U P L N n0 (.code a::t) Q .normal e ah):UC P L N n0 a b t Q e ah (.bool B):=by subst h;exact hk
theorem aes {a b:aD} {B:Bool} (h:B=false) (hk:U P L N n0 (.code b::t) Q .normal e ah):UC P L N n0 a b t Q e ah (.bool B):=by subst h;exact hk
theorem afA {o:aQ} {B want:Bool} (h:B=want) (hk:UG P L N n0 o r t Q e ah (some true)):UG P L N n0 o r t Q e ah (some (B==want)):=by subst h;simpa using hk
theorem Wd {o:aQ} {B want:Bool} (h:B= !want) (hk:U P L N n0 (.ops r::t) Q .normal (p9 e o.d) ah):UG P L N n0 o r t Q e ah (some (B==want)):=by
 subst h;cases want<;>exact hk
theorem afB {o:aQ} {B:Bool} (h:B=false) (hk:U P L N n0 (.ops r::t) Q .normal (p9 e o.d) ah):UG P L N n0 o r t Q e ah (some (B==true)):=Wd h hk
theorem afC {o:aQ} {B:Bool} (h:B=true) (hk:U P L N n0 (.ops r::t) Q .normal (p9 e o.d) ah):UG P L N n0 o r t Q e ah (some (B==false)):=Wd h hk
end
theorem afe (B:Bool):B=true∨B=false:=by cases B<;>simp
theorem bq1:(true==true)=true:=rfl
theorem bq2:(true==false)=false:=rfl
theorem bq3:(false==true)=false:=rfl
theorem bq4:(false==false)=true:=rfl
def WB:=And.intro @bq1<|And.intro @bq2<|And.intro @bq3<|And.intro @bq4<|And.intro @Bool.and_true<|And.intro @Bool.true_and<|And.intro @Bool.and_false<|And.intro @Bool.false_and<|And.intro @Bool.or_true<|And.intro @Bool.true_or<|And.intro @Bool.or_false<|And.intro @Bool.false_or<|And.intro @Bool.not_true<|And.intro @Bool.not_false<|And.intro @decide_true<|And.intro @decide_false<|And.intro @and_true<|And.intro @true_and<|And.intro @and_self<|And.intro @and_false<|And.intro @false_and<|And.intro @Nat.zero_add<|And.intro @Nat.add_zero<|And.intro @Nat.succ_ne_zero<|And.intro @Nat.lt_irrefl<|And.intro @Bool.false_eq_true<|And.intro @List.contains_cons.{0}<|And.intro @List.contains_nil.{0}<|And.intro @List.take_succ_cons.{0}<|And.intro @List.take_zero.{0}<|And.intro @List.drop_succ_cons.{0}<|And.intro @List.drop_zero.{0}<|And.intro @List.length_cons.{0}<|And.intro @List.length_nil.{0}<|And.intro @List.getElem?_cons_zero.{0}<|And.intro @List.getElem?_cons_succ.{0}<|And.intro @List.getElem?_nil.{0}<|And.intro @List.cons_append.{0}<|And.intro @List.nil_append.{0}<|And.intro @List.append_nil.{0}<|And.intro @List.all_cons.{0}<|And.intro @List.all_nil.{0}<|And.intro @List.set_cons_zero.{0}<|And.intro @List.set_cons_succ.{0}<|And.intro @List.isEmpty_cons.{0}<|And.intro @List.isEmpty_nil.{0}<|And.intro @List.map_cons.{0,0}<|And.intro @List.map_nil.{0,0}<|And.intro @Option.map_some.{0,0}<|And.intro @Option.map_none.{0,0}<|@Option.bind_some.{0,0}
end Go.Am
namespace Go.Am
open Go
variable [Tabs]
section
variable {P:Program} {e':Env} {H0 H':AH} {rs:List ResultVar} {vs:List AV} {r':AV} {R:AV→AH→Prop}
theorem aW (hcl:mY H0.length H0) (hr:gN P e' H0 rs=some vs) (hc:Cl H0.length (fin vs)) (hw:Wx (fin vs) r') (hR:R r' H0):wB P H0 rs R e' H0:=
 ⟨vs,r',H0,hr,hw,hR, .inl ⟨hc,by rw [List.take_length];exact hcl,Nat.le_refl _,by rw [List.take_length];exact eT.refl _⟩⟩
theorem bp (hf:Fr H0 H0.length [] H') (hcl:mY H0.length H0) (hr:gN P e' H' rs=some vs) (hc:Cl H0.length (fin vs)) (hw:Wx (fin vs) r') (hR:R r' H0):wB P H0 rs R e' H':=
 ⟨vs,r',H0,hr,hw,hR, .inl ⟨hc,by rw [hf.aao];exact hcl,hf.le,by rw [hf.aao];exact eT.refl _⟩⟩
theorem Li (hr:gN P e' H' rs=some vs) (hw:Wx (fin vs) r') {aH:AH} (hh:eT H' aH) (hR:R r' aH):wB P H0 rs R e' H':=
 ⟨vs,r',aH,hr,hw,hR, .inr hh⟩
theorem cc {s:Nat} {c c':List AV} (hf:Fr H0 H0.length [s] H') (hcl:mY H0.length H0) (hr:gN P e' H' rs=some vs) (hc:Cl H0.length (fin vs)) (hw:Wx (fin vs) r')
 (hs:H'[s]? =some c) (hl:s<H0.length) (We:∀a∈c,Cl H0.length a) (hwc:vq c c') (hR:R r' (H0.set s c')):wB P H0 rs R e' H':=by
 refine ⟨vs,r',H0.set s c',hr,hw,hR, .inl ⟨hc,by rw [hf.aap hs hl];exact hcl.set We,hf.le, ?_⟩⟩
 rw [hf.aap hs hl]
 have:=eT.set (ah:=H0.set s c) (q:=s) (cs':=c') (h_eq hl) hwc
 rwa [List.set_set] at this
theorem eT.trans {a b c:AH} (h1:eT a b) (h2:∀(s:Nat) (cs':List AV),c[s]? =some cs'→∃cs,b[s]? =some cs∧(cs'=cs∨(vq cs cs'∧a[s]? =some cs))) (hl:c.length=b.length):eT a c:=by
 refine ⟨by rw [hl,h1.1],fun s cs' hs=> ?_⟩
 obtain ⟨cs,hb,rfl|⟨hw,ha⟩⟩:=h2 s cs' hs
 · exact h1.2 s _ hb
 · exact ⟨cs,ha, .inr hw⟩
theorem eT.aet {ah:AH} {q q2:Nat} {cs cs' ds ds':List AV} (hne:q≠q2) (hq:ah[q]? =some cs) (hc:vq cs cs') (Ga:ah[q2]? =some ds) (hd:vq ds ds'):eT ah ((ah.set q cs').set q2 ds'):=by
 refine eT.trans (eT.set hq hc) (fun s es hs=> ?_) (by simp)
 rw [List.getElem?_set] at hs
 split at hs
 · rename_i h;subst h
   split at hs
   · injection hs with hs;subst hs
     exact ⟨ds,by rw [List.getElem?_set_ne hne];exact Ga, .inr ⟨hd,Ga⟩⟩
   · cases hs
 · exact ⟨es,hs, .inl rfl⟩
theorem aeu {s s2:Nat} {c c' d d':List AV} (hf:Fr H0 H0.length [s,s2] H') (hcl:mY H0.length H0) (hr:gN P e' H' rs=some vs) (hc:Cl H0.length (fin vs)) (hw:Wx (fin vs) r')
 (hs:H'[s]? =some c) (hl:s<H0.length) (We:∀a∈c,Cl H0.length a) (hwc:vq c c') (hs2:H'[s2]? =some d) (Ax:s2<H0.length) (aew:∀a∈d,Cl H0.length a) (aex:vq d d') (hne:s≠s2)
 (hR:R r' ((H0.set s c').set s2 d')):wB P H0 rs R e' H':=by
 refine ⟨vs,r',(H0.set s c').set s2 d',hr,hw,hR, .inl ⟨hc,by rw [hf.aaq hs hs2 hl Ax hne];exact (hcl.set We).set aew,hf.le, ?_⟩⟩
 rw [hf.aaq hs hs2 hl Ax hne]
 have:=eT.aet (ah:=(H0.set s c).set s2 d) (q:=s) (q2:=s2) (cs:=c) (cs':=c') (ds:=d) (ds':=d') hne (by rw [List.getElem?_set_ne (Ne.symm hne)];exact h_eq hl) hwc (h_eq (by simpa using Ax)) aex
 have e1:(((H0.set s c).set s2 d).set s c').set s2 d'=(H0.set s c').set s2 d':=by
  rw [List.set_comm d c' (Ne.symm hne),List.set_set,List.set_set]
 rwa [e1] at this
end
theorem Fr.trans {ah H H':AH} {n0:Nat} {S S2:List Nat} (h:Fr ah n0 S H) (h2:Fr H H.length S2 H') (hs:∀s∈S2,s∈S∨n0≤s):Fr ah n0 S H':=by
 have h3:=h.le
 refine ⟨Nat.le_trans h.le h2.le,fun j hj EH=> ?_⟩
 rw [h2.eq j (by omega),h.eq j hj EH]
 intro hm
 rcases hs j hm with h4|h4
 · exact EH h4
 · omega
end Go.Am
namespace Go.Am
open Go
variable [Tabs]
theorem aat {P:Program} {L:List Nat} {N n0:Nat} {e:Env} {ah:AH} {t:List It} {Q:Exit→Env→AH→Prop} {r:List aQ} {d:Option Nat} {f:Nat} {zq zq':List AV} {b7 HE:AH} {V:AV}
 (h:aG P f zq' b7 fun v H'=>v=V∧H'=HE) (hw:WL zq zq') (hh:eT ah b7) (hk:U P L N n0 (.ops r::t) Q .normal (aI L (wu e) d V.df) HE):UK P L N n0 f zq d r t Q e ah:=by
 refine aaj h hw hh ?_
 rintro _ _ ⟨rfl,rfl⟩
 exact hk
end Go.Am
namespace Go.Am
open Go
variable [Tabs]
def WW:=And.intro WG<|And.intro WM<|And.intro WU<|And.intro WV<|And.intro WB<|And.intro WA0<|And.intro WA1<|And.intro WA2<|And.intro WA3<|And.intro WA4<|And.intro WA5 WA6
def WH:=And.intro @h_eq<|And.intro @aan<|And.intro @U1 @PO
theorem tg1:Tg.sh .ex= .ex:=rfl
theorem YS:Tg.sh .own= .n:=rfl
theorem tg3:Tg.sh .n= .n:=rfl
end Go.Am
end
section
namespace Go.Am
open Go
variable [Tabs]
theorem SR.PV {L:List Nat} {N:Nat} {F:Nat→Prop} {γ:List Nat} {C:Nat→List Value} {e:Env} {ah:AH} {ts:Array Value} {w:World} (h:SR L N F γ C e ah ts w) {r:AV} {v:Value} (hv:VR C γ r v) (ht:TC w C r v)
 (ho:r.bU=false) (hf:∀l k xs,r≠ .sl (.fr l) k xs):SR [] 1 F γ C [(0,r)] ah #[v] w:=by
 have hbk:∀p b,blk γ [(0,r)] ah #[v] w p b→blk γ e ah ts w p b∧∀t,p≠ .tmp t:=by
  intro p b hp
  cases p with
  |obj s=>exact ⟨hp,by simp⟩
  |cell s i=>exact ⟨hp,by simp⟩
  |tmp t=>
   simp only [blk,get] at hp
   split at hp
   · rename_i h0;subst h0;rw [iN _ ho] at hp;cases hp
   · simp [bR] at hp
 refine ⟨h.mem,rfl,fun t=> ?_,fun p q b hp hq=>h.dG p q b (hbk p b hp).1 (hbk q b hq).1,fun p b hp=>h.nf p b (hbk p b hp).1,h.kA,fun t l k xs htl=> ?_⟩
 · by_cases h0:0=t
   · subst h0;simp only [get,if_true];exact ⟨hv,ht⟩
   · simp only [get,if_neg h0];exact ⟨.un ..,by generalize (#[v]:Array Value).getD t undef=u;cases u<;>trivial⟩
 · simp only [get] at htl
   split at htl
   · exact absurd htl (hf l k xs)
   · cases htl
theorem aG.Zy {P:Program} {f:Nat} {args:List AV} {ah:AH} {l:List UInt8} (hc:jI P f=true)
 (h:∀(F:Nat→Prop) (C:Nat→List Value) (γ:List Nat) (w:World) (vs:Array Value),FL F w→vs.size=args.length→(∀(i:Nat) (a:AV),args[i]? =some a→VR C γ a (vs.getD i undef))→
  Calls P f vs w fun en w'=>en= .returned (.string ⟨l.toArray⟩)∧(∀b,b<w.heap.size→w'.heap[b]? =w.heap[b]?)∧w.heap.size≤w'.heap.size∧l8 w w'):
 aG P f args ah fun r aH=>r= .str l∧aH=ah:=by
 refine ⟨hc,fun F γ C w vs hs=> ?_⟩
 refine (h F C γ w vs hs.kA hs.sz fun i a hi=> ?_).mono ?_
 · have:=(hs.env i).1
   rw [eF] at this
   simpa [hi] using this
 · rintro en w' ⟨rfl,h1,h2,h3⟩
   have hg:=hs.grow (C':=C) h1 h2 (fun _ _=>rfl) (fun b hb hne=>by
    exfalso
    obtain ⟨vs',ty,fr,hh, -⟩:=hs.mem.uf b hne
    have:b<w.heap.size:=by
     rcases Nat.lt_or_ge b w.heap.size with h4|h4
     · exact h4
     · rw [Array.getElem?_eq_none h4] at hh;cases hh
    omega) h3
   exact ⟨.str l, .string ⟨l.toArray⟩,ah,γ,C,rfl,⟨rfl,rfl⟩,List.prefix_refl _,hg.1.PV (.str ..) (by simp [TC]) rfl (by simp),hg.2⟩
theorem aG.aau {P:Program} {f:Nat} {args:List AV} {ah:AH} {r:AV} (ho:r.bU=false) (hf:∀l k xs,r≠ .sl (.fr l) k xs) (hc:jI P f=true)
 (h:∀(F:Nat→Prop) (C:Nat→List Value) (γ:List Nat) (w:World) (vs:Array Value),FL F w→vs.size=args.length→(∀(i:Nat) (a:AV),args[i]? =some a→VR C γ a (vs.getD i undef))→
  Calls P f vs w fun en w'=>∃v,en= .returned v∧VR C γ r v∧TC w' C r v∧(∀b,b<w.heap.size→w'.heap[b]? =w.heap[b]?)∧w.heap.size≤w'.heap.size∧l8 w w'):
 aG P f args ah fun r' aH=>r'=r∧aH=ah:=by
 refine ⟨hc,fun F γ C w vs hs=> ?_⟩
 refine (h F C γ w vs hs.kA hs.sz fun i a hi=> ?_).mono ?_
 · have:=(hs.env i).1
   rw [eF] at this
   simpa [hi] using this
 · rintro en w' ⟨v,rfl,hv,ht,h1,h2,h3⟩
   have hg:=hs.grow (C':=C) h1 h2 (fun _ _=>rfl) (fun b hb hne=>by
    exfalso
    obtain ⟨vs',ty,fr,hh, -⟩:=hs.mem.uf b hne
    have:b<w.heap.size:=by
     rcases Nat.lt_or_ge b w.heap.size with h4|h4
     · exact h4
     · rw [Array.getElem?_eq_none h4] at hh;cases hh
    omega) h3
   exact ⟨r,v,ah,γ,C,rfl,⟨rfl,rfl⟩,List.prefix_refl _,hg.1.PV hv ht ho hf,hg.2⟩
theorem aG.Wf {P:Program} {f:Nat} {args:List AV} {ah:AH} {ps:List (List UInt8)} (hc:jI P f=true)
 (h:∀(F:Nat→Prop) (C:Nat→List Value) (γ:List Nat) (w:World) (vs:Array Value),FL F w→vs.size=args.length→(∀(i:Nat) (a:AV),args[i]? =some a→VR C γ a (vs.getD i undef))→
  Calls P f vs w fun en w'=>∃t fr,en= .returned (.slice (some ⟨w.heap.size,0,none⟩) ps.length ps.length)∧w'=w.alloc (.cells (ps.map fun l=>Value.string ⟨l.toArray⟩).toArray t fr)∧fr.2≤fr.1):
 aG P f args ah fun r' aH=>r'= .sl .n 1 (ml .str ps)∧aH=ah:=by
 refine ⟨hc,fun F γ C w vs hs=> ?_⟩
 refine (h F C γ w vs hs.kA hs.sz fun i a hi=> ?_).mono ?_
 · have:=(hs.env i).1
   rw [eF] at this
   simpa [hi] using this
 · rintro en w' ⟨t,fr,rfl,rfl,hfr⟩
   obtain ⟨C', -,he,hg,hv⟩:=wm (w':=w.alloc (.cells (ps.map fun l=>Value.string ⟨l.toArray⟩).toArray t fr)) (ds:=[]) hs (d:=none) (by simp) (cs:=(ps.map fun l=>Value.string ⟨l.toArray⟩).toArray) (t:=t) (fr:=fr)
    (Dl:=ps.map fun l=>Value.string ⟨l.toArray⟩) (xs:=ml .str ps) (k:=1) (n:=ps.length) (c:=ps.length)
    (fun b hb=>by show (w.heap.push _)[b]? =_;rw [Array.getElem?_push_lt hb,Array.getElem?_eq_getElem hb]) (by show (w.heap.push _).size=_;simp) (by show (w.heap.push _)[w.heap.size]? =_;simp)
    (by simp) (by simp only [List.mem_map];rintro v ⟨l, -,rfl⟩;rfl) (by simp) (by simp [ml]) (Nat.le_refl _) (by simp) (by intro i _;omega)
    (by intro i a hi;simp only [ml,List.getElem?_map,Option.map_eq_some_iff] at hi;obtain ⟨l, -,rfl⟩:=hi;rfl)
    (by
     intro i a hi j y hj
     simp only [ml,List.getElem?_map,Option.map_eq_some_iff] at hi
     obtain ⟨l,hl,rfl⟩:=hi
     cases j with
     |succ j=>simp [AV.cells] at hj
     |zero=>
      simp only [AV.cells,List.getElem?_cons_zero,Option.some.injEq] at hj
      subst hj
      simp only [Nat.mul_one,Nat.add_zero,List.getD_eq_getElem?_getD,List.getElem?_map,hl,Option.map_some,Option.getD_some]
      exact .str ..)
   exact ⟨.sl .n 1 (ml .str ps),_,ah,γ,C',rfl,⟨rfl,rfl⟩,List.prefix_refl _,hg.PV (hv.kg _) (by simp [TC]) rfl (by simp),he⟩
theorem Lj {P:Program} {f:Nat} {ah:AH} (n:Int) (hc:jI P f=true) (htab:∀F w,FL F w→Lib.TabIs P w "internal/strconv.uint64pow10" .u64 Lib.pow10Tab)
 (aey:∀w,Lib.TabIs P w "internal/strconv.uint64pow10" .u64 Lib.pow10Tab→Calls P f #[.int .i64 n] w fun e w'=>e= .returned (.string ⟨(Lib.itoa n).toArray⟩)∧∃k os,w'=Go.Sort.grow (w.drewN k) os):
 aG P f [.int .i64 n] ah fun r aH=>r= .str (Lib.itoa n)∧aH=ah:=by
 refine aG.Zy hc fun F C γ w vs hF hl hv=> ?_
 have h0:=(hv 0 _ rfl).cS
 have hvs:vs= #[.int .i64 n]:=by
  apply Array.ext
  · simpa using hl
  · intro i h1 h2
    simp at h2;subst h2
    simpa [Array.getD_eq_getD_getElem?,Array.getElem?_eq_getElem h1] using h0
 subst hvs
 refine (aey w (htab F w hF)).mono ?_
 rintro e w' ⟨rfl,k,os,rfl⟩
 refine ⟨rfl,fun b hb=> ?_, ?_,rfl,rfl,rfl⟩
 · show (w.heap++os)[b]? =_
   rw [Array.getElem?_append_left hb]
 · show w.heap.size≤(w.heap++os).size
   simp
theorem SX {P:Program} {w:World} {F:Nat→Prop} {name:String} {k:IntKind} {zs:List Int} {g:Nat} (hF:FL F w) (hm:(g,fun cs=>cs=(zs.map fun z=>Value.int k z).toArray)∈Tabs.l) (hg:P.globalNamed name=some g):Lib.TabIs P w name k zs:=by
 obtain ⟨-,cs,ty,fr,h,hcs⟩:=hF.JS _ hm
 simp only at h hcs
 subst hcs
 unfold Lib.TabIs World.var?
 rw [hg]
 simp [h]
end Go.Am
end
section
namespace Go.Am
open Go
variable [Tabs]
def AV.AD:AV→Bool
 | .int _ _| .bool _| .str _| .v _=>true
 |_=>false
def I0:List AV→Bool
 |[]=>true
 |a::r=>a.AD&&I0 r
def AV.I1:AV→Bool
 | .agg cs=>I0 cs
 |a=>a.AD
def Eb:List AV→Bool
 |[]=>true
 |a::r=>a.I1&&Eb r
def AV.Gj:AV→Bool
 | .bK cs=>Eb cs
 |a=>a.I1
theorem uv {l:List AV} (h:I0 l=true) {i:Nat} {a:AV} (hi:l[i]? =some a):a.AD=true:=by
 induction l generalizing i with
 |nil=>simp at hi
 |cons b r ih=>
  simp only [I0,Bool.and_eq_true] at h
  cases i with
  |zero=>simp at hi;subst hi;exact h.1
  |succ i=>exact ih h.2 (by simpa using hi)
theorem C8 {l:List AV} (h:Eb l=true) {i:Nat} {a:AV} (hi:l[i]? =some a):a.I1=true:=by
 induction l generalizing i with
 |nil=>simp at hi
 |cons b r ih=>
  simp only [Eb,Bool.and_eq_true] at h
  cases i with
  |zero=>simp at hi;subst hi;exact h.1
  |succ i=>exact ih h.2 (by simpa using hi)
theorem VR.AD {C C':Nat→List Value} {γ γ':List Nat} {a:AV} {v:Value} (h:VR C γ a v) (hs:a.AD=true):VR C' γ' a v:=by
 cases h with
 |v _ _ hv=>exact .v _ _ hv
 |int=>exact .int ..
 |bool=>exact .bool ..
 |str=>exact .str ..
 |_=>cases hs
theorem VR.I1 {C C':Nat→List Value} {γ γ':List Nat} {a:AV} {v:Value} (h:VR C γ a v) (hs:a.I1=true):VR C' γ' a v:=by
 cases h with
 |agg _ cs vs h1 h2=>exact .agg _ _ _ h1 fun i a hi=>(h2 i a hi).AD (uv hs hi)
 |v _ _ hv=>exact .v _ _ hv
 |int=>exact .int ..
 |bool=>exact .bool ..
 |str=>exact .str ..
 |_=>cases hs
theorem VR.Gj {C C':Nat→List Value} {γ γ':List Nat} {a:AV} {v:Value} (h:VR C γ a v) (hs:a.Gj=true):VR C' γ' a v:=by
 cases h with
 |bK _ cs vs h1 h2=>exact .bK _ _ _ h1 fun i a hi=>(h2 i a hi).I1 (C8 hs hi)
 |agg _ cs vs h1 h2=>exact .agg _ _ _ h1 fun i a hi=>(h2 i a hi).AD (uv hs hi)
 |v _ _ hv=>exact .v _ _ hv
 |int=>exact .int ..
 |bool=>exact .bool ..
 |str=>exact .str ..
 |_=>cases hs
theorem lO.AD {a:AV} (hs:a.AD=true) (v:Value):lO a v:=by
 cases a<;>first|(cases hs;done)|(cases v<;>trivial)
theorem HN.I1 {a:AV} (hs:a.I1=true) (v:Value):HN a v:=by
 cases a with
 |agg cs=>cases v<;>first|trivial|exact fun i a hi=>lO.AD (uv hs hi) _
 |_=>first|(cases hs;done)|(cases v<;>trivial)
theorem TC.Gj {w:World} {C:Nat→List Value} {a:AV} (hs:a.Gj=true) (v:Value):TC w C a v:=by
 cases a with
 |bK cs=>cases v<;>first|trivial|exact fun i a hi=>HN.I1 (C8 hs hi) _
 |agg cs=>cases v<;>first|trivial|exact fun i a hi=>lO.AD (uv hs hi) _
 |_=>first|(cases hs;done)|(cases v<;>trivial)
theorem Wg {a:AV} (hs:a.Gj=true):a.bU=false:=by
 cases a<;>first|rfl|cases hs
theorem Zz {a:AV} (hs:a.Gj=true) (l:Loc) (k:Nat) (xs:List AV):a≠ .sl (.fr l) k xs:=by
 rintro rfl;cases hs
inductive kC (ah:AH):AV→AV→Prop
 |same (a):a.AD=true→kC ah a a
 |ep (a p):Cl 0 (.ep a p)→kC ah (.ep a p) (.ep a p)
 |sl (t k xs):kC ah (.sl t k xs) (.sl .n k xs)
 |ptr (s o:Nat) (cs cs':List AV):ah[s]? =some cs→cs'.length=cs.length→(∀(i:Nat) (a a':AV),cs[i]? =some a→cs'[i]? =some a'→kC ah a a')→kC ah (.ptr s o) (.ep (.agg cs') o)
inductive PE (ah:AH):AV→AV→Prop
 |one (a a'):kC ah a a'→PE ah a a'
 |fn (f:Nat) (cs:List AV):PE ah (.fn f []) (.fn f [])
 |agg (cs cs':List AV):cs'.length=cs.length→(∀(i:Nat) (a a':AV),cs[i]? =some a→cs'[i]? =some a'→kC ah a a')→PE ah (.agg cs) (.agg cs')
def EJ (w:World) (b:Nat):List Value:=match w.heap[b]? with|some (.cells vs _ _)=>vs.toList|_=>[]
open Classical in
noncomputable def Cx (w:World) (γ:List Nat) (C:Nat→List Value):Nat→List Value:=fun b=>if b∈γ then EJ w b else C b
section
variable {L:List Nat} {N:Nat} {F:Nat→Prop} {γ:List Nat} {C:Nat→List Value} {e:Env} {ah:AH} {ts:Array Value} {w:World}
theorem PW (h:Mem γ C ah w) (b:Nat):C b <+: Cx w γ C b:=by
 unfold Cx
 split
 · rename_i hb
   by_cases hne:C b=[]
   · rw [hne];exact List.nil_prefix
   · obtain ⟨vs,ty,fr,hh,hp⟩:=h.uf b hne
     unfold EJ;rw [hh];exact hp
 · exact List.prefix_refl _
theorem PX {s b:Nat} {vs:Array Value} {ty:TypeId} {fr:Nat×Nat} (hs:γ[s]? =some b) (hb:w.heap[b]? =some (.cells vs ty fr)):Cx w γ C b=vs.toList:=by
 unfold Cx EJ
 rw [if_pos (List.mem_of_getElem? hs),hb]
theorem VR.ZA {C:Nat→List Value} {γ:List Nat} {t:Tg} {k:Nat} {xs:List AV} {v:Value} (h:VR C γ (.sl t k xs) v) (γ':List Nat):VR C γ' (.sl .n k xs) v:=by
 cases h with
 |sJ=>exact .sJ ..
 |sl _ _ _ _ b o n c hn hc hk hl ho hx=>exact .sl _ _ _ _ _ _ _ _ hn hc hk hl ho hx
theorem kC.vr (hm:Mem γ C ah w) {a a':AV} (hp:kC ah a a'):∀ {v:Value},VR C γ a v→VR (Cx w γ C) [] a' v:=by
 induction hp with
 |same a hs=>intro v h;exact h.AD hs
 |ep a p hc=>
  intro v h
  have h':=h.take hc
  rw [List.take_zero] at h'
  exact h'.mono (PW hm) [] (fun _ _ h=>h)
 |sl t k xs=>
  intro v h
  exact (h.ZA []).mono (PW hm) [] (fun _ _ h=>h)
 |ptr s o cs cs' hs hl hc ih=>
  intro v h
  obtain ⟨b,hb,rfl⟩:=h.gM
  obtain ⟨vs,ty,hh,hsz,hcell⟩:=hm.obj s b cs hs hb
  have hx:Cx w γ C b=vs.toList:=PX hb hh
  suffices hS:VR (Cx w γ C) [] (.ep (.agg cs') o) (.pointer (some ⟨b,0+o,none⟩)) by rwa [Nat.zero_add] at hS
  refine VR.ep [] (.agg cs') o b 0 (by rw [hx];simpa [AV.cells,hl] using hsz) fun j a' hj=> ?_
  simp only [AV.cells] at hj
  have hlt:j<cs.length:=by rw [←hl];exact (List.getElem?_eq_some_iff.1 hj).1
  have h0:cs[j]? =some cs[j]:=List.getElem?_eq_getElem hlt
  have:=ih j _ _ h0 hj (hcell j _ h0).1
  rw [hx,Nat.zero_add]
  have e1:vs.toList.getD j undef=vs.getD j undef:=by simp [List.getD_eq_getElem?_getD,Array.getD_eq_getD_getElem?]
  rw [e1];exact this
theorem kC.flat {a a':AV} (hp:kC ah a a') (v:Value):lO a' v∧a'.plain=true:=by
 cases hp with
 |same _ hs=>exact ⟨lO.AD hs v,by cases a<;>first|rfl|cases hs⟩
 |ep=>exact ⟨by cases v<;>trivial,rfl⟩
 |sl=>exact ⟨HO ..,rfl⟩
 |ptr=>exact ⟨by cases v<;>trivial,rfl⟩
theorem PE.vr (hm:Mem γ C ah w) {a a':AV} (hp:PE ah a a') {v:Value} (h:VR C γ a v):VR (Cx w γ C) [] a' v:=by
 cases hp with
 |one _ _ h1=>exact h1.vr hm h
 |fn f cs=>
  obtain ⟨vs,rfl,h1,h2⟩:=h.D5
  exact .fn _ _ _ _ h1 (by simp)
 |agg cs cs' hl hc=>
  obtain ⟨vs,rfl,h1,h2⟩:=h.l6
  refine .agg _ _ _ (by omega) fun i a' hi=> ?_
  have hlt:i<cs.length:=by rw [←hl];exact (List.getElem?_eq_some_iff.1 hi).1
  have h0:cs[i]? =some cs[i]:=List.getElem?_eq_getElem hlt
  exact (hc i _ _ h0 hi).vr hm (h2 i _ h0)
theorem PE.tc {a a':AV} (hp:PE ah a a') {C':Nat→List Value} (v:Value):TC w C' a' v∧a'.plain=true:=by
 cases hp with
 |one _ _ h1=>
  cases h1 with
  |same _ hs=>exact ⟨by cases a<;>first|(cases hs;done)|(cases v<;>trivial),by cases a<;>first|rfl|cases hs⟩
  |ep=>exact ⟨by cases v<;>trivial,rfl⟩
  |sl=>exact ⟨by cases v<;>trivial,rfl⟩
  |ptr=>exact ⟨by cases v<;>trivial,rfl⟩
 |fn=>exact ⟨by cases v<;>trivial,rfl⟩
 |agg cs cs' hl hc=>
  refine ⟨?_,rfl⟩
  cases v with
  |agg vs=>
   intro i a' hi
   have hlt:i<cs.length:=by rw [←hl];exact (List.getElem?_eq_some_iff.1 hi).1
   exact ((hc i _ _ (List.getElem?_eq_getElem hlt) hi).flat _).1
  |_=>trivial
def AE (ah:AH):List AV→List AV→Prop
 |[],[]=>True
 |a::r,a'::r'=>PE ah a a'∧AE ah r r'
 |_,_=>False
theorem AE.len:∀ {xs ys:List AV},AE ah xs ys→ys.length=xs.length:=by
 intro xs
 induction xs with
 |nil=>intro ys h;cases ys with|nil=>rfl|cons=>exact h.elim
 |cons a r ih=>intro ys h;cases ys with|nil=>exact h.elim|cons a' r'=>simp [ih h.2]
theorem AE.get:∀ {xs ys:List AV},AE ah xs ys→∀(i:Nat) (a a':AV),xs[i]? =some a→ys[i]? =some a'→PE ah a a':=by
 intro xs
 induction xs with
 |nil=>intro ys _ i a a' h;simp at h
 |cons a r ih=>
  intro ys h i b b' h1 h2
  cases ys with
  |nil=>exact h.elim
  |cons a' r'=>
   rcases i with _|i
   · simp at h1 h2;subst h1;subst h2;exact h.1
   · exact ih h.2 i b b' (by simpa using h1) (by simpa using h2)
def oM (ah:AH):List AV→List AV→Prop
 |[],[]=>True
 |a::r,a'::r'=>kC ah a a'∧oM ah r r'
 |_,_=>False
theorem oM.len:∀ {xs ys:List AV},oM ah xs ys→ys.length=xs.length:=by
 intro xs
 induction xs with
 |nil=>intro ys h;cases ys with|nil=>rfl|cons=>exact h.elim
 |cons a r ih=>intro ys h;cases ys with|nil=>exact h.elim|cons a' r'=>simp [ih h.2]
theorem oM.get:∀ {xs ys:List AV},oM ah xs ys→∀(i:Nat) (a a':AV),xs[i]? =some a→ys[i]? =some a'→kC ah a a':=by
 intro xs
 induction xs with
 |nil=>intro ys _ i a a' h;simp at h
 |cons a r ih=>
  intro ys h i b b' h1 h2
  cases ys with
  |nil=>exact h.elim
  |cons a' r'=>
   rcases i with _|i
   · simp at h1 h2;subst h1;subst h2;exact h.1
   · exact ih h.2 i b b' (by simpa using h1) (by simpa using h2)
theorem AE.nil:AE ah [] []:=trivial
theorem AE.cons {a a':AV} {r r':List AV} (h:PE ah a a') (hr:AE ah r r'):AE ah (a::r) (a'::r'):=⟨h,hr⟩
theorem oM.nil:oM ah [] []:=trivial
theorem oM.cons {a a':AV} {r r':List AV} (h:kC ah a a') (hr:oM ah r r'):oM ah (a::r) (a'::r'):=⟨h,hr⟩
theorem kC.int {k:IntKind} {i:Int}:kC ah (.int k i) (.int k i):= .same _ rfl
theorem kC.b8 {c:UInt8}:kC ah (Am.b8 c) (Am.b8 c):= .same _ rfl
theorem kC.bool {b:Bool}:kC ah (.bool b) (.bool b):= .same _ rfl
theorem kC.str {l:List UInt8}:kC ah (.str l) (.str l):= .same _ rfl
theorem kC.v {x:Value}:kC ah (.v x) (.v x):= .same _ rfl
theorem kC.aez {s o:Nat} {cs cs':List AV} (hs:ah[s]? =some cs) (h:oM ah cs cs'):kC ah (.ptr s o) (.ep (.agg cs') o):= .ptr _ _ _ _ hs h.len h.get
theorem PE.afS {cs cs':List AV} (h:oM ah cs cs'):PE ah (.agg cs) (.agg cs'):= .agg _ _ h.len h.get
theorem aG.ofE {P:Program} {f:Nat} {args args':List AV} {R:AV→Prop} (h:aG P f args' [] fun r aH=>R r∧aH=[]) (hp:AE ah args args') (hs:∀r,R r→r.Gj=true):
 aG P f args ah fun r aH=>R r∧aH=ah:=by
 refine ⟨h.1,fun F γ C w vs lg=> ?_⟩
 have QB:∀(l:List AV) (t:Nat),get (fo 0 l) t=(l[t]?).getD .un:=fun l t=>by rw [eF];simp
 have PY:∀t,VR (Cx w γ C) [] (get (fo 0 args') t) (vs.getD t undef)∧TC w (Cx w γ C) (get (fo 0 args') t) (vs.getD t undef)∧(get (fo 0 args') t).plain=true:=by
  intro t
  rw [QB]
  cases ht:args'[t]? with
  |none=>exact ⟨.un ..,by cases vs.getD t undef<;>trivial,rfl⟩
  |some a'=>
   have hlt:t<args.length:=by rw [←hp.len];exact (List.getElem?_eq_some_iff.1 ht).1
   have h0:args[t]? =some args[t]:=List.getElem?_eq_getElem hlt
   have h1:=(lg.env t).1
   rw [QB,h0] at h1
   have hpe:=hp.get t _ _ h0 ht
   exact ⟨hpe.vr lg.mem h1,hpe.tc _⟩
 have hnb:∀p b,¬blk [] (fo 0 args') [] vs w p b:=by
  intro p b hb
  cases p with
  |obj s=>simp [blk] at hb
  |cell s i=>obtain ⟨cs,a,b0,h1, -⟩:=hb;simp at h1
  |tmp t=>simp only [blk] at hb;rw [iN _ (ie (PY t).2.2)] at hb;cases hb
 have hs0:SR [] args'.length (fun b=>b<w.heap.size) [] (Cx w γ C) (fo 0 args') [] vs w:=by
  refine ⟨⟨rfl,fun s b cs h1=>by simp at h1,fun b hne=> ?_,fun s b cs h1=>by simp at h1,fun s b cs us ty fr h1=>by simp at h1⟩,by rw [lg.sz,hp.len],fun t=>⟨(PY t).1,(PY t).2.1⟩,fun p q b h1=>absurd h1 (hnb p b),fun p b h1=>absurd h1 (hnb p b),
   ⟨fun b hb=>hb,fun e he=>⟨lg.kA.lt _ (lg.kA.JS e he).1,(lg.kA.JS e he).2⟩⟩,fun t l k xs ht=>absurd ht (xG (PY t).2.2 l k xs)⟩
  by_cases hb:b∈γ
  · obtain ⟨s,hsb⟩:=List.getElem?_of_mem hb
    have hlt:s<ah.length:=by rw [←lg.mem.len];exact (List.getElem?_eq_some_iff.1 hsb).1
    obtain ⟨xs,ty,hh, -⟩:=lg.mem.obj s b _ (List.getElem?_eq_getElem hlt) hsb
    exact ⟨xs,ty.1,ty.2,hh,by rw [PX hsb hh];exact List.prefix_refl _⟩
  · have:Cx w γ C b=C b:=by unfold Cx;rw [if_neg hb]
    rw [this] at hne ⊢
    exact lg.mem.uf b hne
 refine (h.2 _ [] (Cx w γ C) w vs hs0).mono ?_
 rintro en w' ⟨r,v,aH,γ',C'',rfl,⟨hR,rfl⟩,hγ,aeA,hx⟩
 have hold:∀b,b<w.heap.size→w'.heap[b]? =w.heap[b]? :=fun b hb=>(hx.keep b hb).1
 have hg:=lg.grow (w':=w') (C':=C) hold hx.size (fun _ _=>rfl) (fun b hb hne=>by
  exfalso
  obtain ⟨vs',ty,fr,hh, -⟩:=lg.mem.uf b hne
  exact absurd (wg hh) (by omega)) hx.out
 have hv:=(aeA.env 0).1
 simp only [get,if_true] at hv
 have hsc:=hs r hR
 exact ⟨r,v,ah,γ,C,rfl,⟨hR,rfl⟩,List.prefix_refl _,hg.1.PV (hv.Gj hsc) (TC.Gj hsc _) (Wg hsc) (Zz hsc),hg.2⟩
end
end Go.Am
end
section
set_option maxRecDepth 100000
namespace Go.Am
open Go
open Nat renaming reduceEqDiff→nA,reduceLT→nB,reduceLeDiff→nC,reduceAdd→nD,reduceSub→nE,reduceMul→nF,reduceBEq→nG
variable [Tabs]
theorem acn {P:Program} {L:List Nat} {N n0:Nat} {e:Env} {ah:AH} {t:List It} {Q:Exit→Env→AH→Prop} {r:List aQ} {d:Option Nat} {g:Option (Nat×Bool)} {n:Bool} {x:Ar} {tg:Tg} {k:Nat} {xs:List AV}
 (hx:ev e x= .sl tg k xs) (h1:xs=[]→∀b,U P L N n0 (.ops r::t) Q .normal (aI L e d (.bool b)) ah) (h2:xs≠[]→U P L N n0 (.ops r::t) Q .normal (aI L e d (.bool n)) ah):
 UG P L N n0 ⟨d, .nq n x,g⟩ r t Q e ah (some true):=by
 show Ee L d n x e ah _
 unfold Ee
 rw [hx]
 exact ⟨h1,h2⟩
def AF (k b:Nat):aD:= .seq (.rg [⟨some 2, .aZ (.c (.sl .ex k [])),none⟩]) (.seq (.seq (.rg [⟨some 3, .mv (.t 0),none⟩,⟨some 4, .nq false (.t 3),none⟩]) (.cond (.t 4) (.seq (.rg [⟨some 2, .aZ (.c (.sl .ex k [])),none⟩]) .ret) .skip))
 (.seq (.rg [⟨some 5, .kf k [],none⟩,⟨some 6, .mv (.t 0),none⟩,⟨some 7, .app k b (.t 5) (.t 6),none⟩,⟨some 2, .aZ (.t 7),none⟩]) .ret))
theorem I2 {P:Program} {f k b:Nat} {xs ys:List AV} {H0:AH} (hF:bx P f 8 [.tmp 2] (AF k b)) (hz:cB b [] xs=some ys):aG P f [.sl .n k xs] H0 fun v H'=>v= .sl .own k ys∧H'=H0:=by
 refine aG.goX hF (m:=AF k b) rfl [0,2,4] rfl (by simp) fun hcl K0 aO=> ?_
 refine AX.Wc (m:=AF k b) rfl rfl ?_
 have hys:ys=xs:=by unfold cB at hz;split at hz<;>simp_all
 subst hys
 simp only [WW, ↓reduceIte,nA,nB,nC,nD,nE,nF,nG,reduceCtorEq,AF]
 have step:U P [0,2,4] 8 H0.length [.code .skip, .code (.seq (.rg [⟨some 5, .kf k [],none⟩,⟨some 6, .mv (.t 0),none⟩,⟨some 7, .app k b (.t 5) (.t 6),none⟩,⟨some 2, .aZ (.t 7),none⟩]) .ret)] K0 .normal
  [(0, .sl .n k ys),(2, .sl .ex k []),(4, .bool false)] H0:=by
  simp only [WW, ↓reduceIte,nA,nB,nC,nD,nE,nF,nG,reduceCtorEq,hz,List.all_nil,List.map_nil]
  refine aO _ _ _ (.inr rfl) ?_
  exact aW hcl (xJ (a:= .sl .own k ys) rfl rfl B0) (by simp [fin,AV.df]) Wx.oo (r':= .sl .own k ys) ⟨rfl,rfl⟩
 refine acn (by rfl) (fun h0 b=> ?_) (fun h0=> ?_)
 · subst h0
   simp only [WW, ↓reduceIte,nA,nB,nC,nD,nE,nF,nG,reduceCtorEq]
   cases b
   · refine aes rfl ?_
     exact step
   · refine aer rfl ?_
     simp only [WW, ↓reduceIte,nA,nB,nC,nD,nE,nF,nG,reduceCtorEq]
     refine aO _ _ _ (.inr rfl) ?_
     exact aW hcl (xJ (a:= .sl .ex k []) rfl rfl B0) (by simp [fin,AV.df]) (Wx.own ..) (r':= .sl .own k []) ⟨rfl,rfl⟩
 · simp only [WW, ↓reduceIte,nA,nB,nC,nD,nE,nF,nG,reduceCtorEq,hz,List.all_nil,List.map_nil]
   refine aO _ _ _ (.inr rfl) ?_
   exact aW hcl (xJ (a:= .sl .own k ys) rfl rfl B0) (by simp [fin,AV.df]) Wx.oo (r':= .sl .own k ys) ⟨rfl,rfl⟩
end Go.Am
namespace Go.Am
open Go
variable [Tabs]
theorem SR.aav {L:List Nat} {N:Nat} {F:Nat→Prop} {γ:List Nat} {C:Nat→List Value} {e:Env} {ah:AH} {ts:Array Value} {w:World} (h:SR L N F γ C e ah ts w) {r:AV} {v:Value} (hr:Am.get e 0=r) (hv:ts.getD 0 undef=v)
 (hf:∀l k xs,r≠ .sl (.fr l) k xs):SR [] 1 F γ C [(0,r)] ah #[v] w:=by
 subst hr;subst hv
 have hbk:∀p b,blk γ [(0,Am.get e 0)] ah #[ts.getD 0 undef] w p b→blk γ e ah ts w p b:=by
  intro p b hp
  cases p with
  |obj s=>exact hp
  |cell s i=>exact hp
  |tmp t=>
   simp only [blk,Am.get] at hp ⊢
   split at hp
   · rename_i h0;subst h0;exact hp
   · simp [bR] at hp
 refine ⟨h.mem,rfl,fun t=> ?_,fun p q b hp hq=>h.dG p q b (hbk p b hp) (hbk q b hq),fun p b hp=>h.nf p b (hbk p b hp),h.kA,fun t l k xs htl=> ?_⟩
 · by_cases h0:0=t
   · subst h0;simp only [Am.get,if_true];exact h.env 0
   · simp only [Am.get,if_neg h0];exact ⟨.un ..,by generalize (#[ts.getD 0 undef]:Array Value).getD t undef=u;cases u<;>trivial⟩
 · simp only [Am.get] at htl
   split at htl
   · exact absurd htl (hf l k xs)
   · cases htl
theorem aaw {P:Program} {f:Nat} {n:Int} {H0:AH} {el:TypeId} {z:Value} (hc:jI P f=true) (hz:z.cells.size=1) (h0:0≤n)
 (hroom:∀(base:Option Addr) (w:World),n=0→Calls P f #[.slice base 0 0, .int .i64 n] w fun e w'=>e= .returned (.slice base 0 0)∧w'=w)
 (hgrow:∀(base:Option Addr) (w:World),0<n→Calls P f #[.slice base 0 0, .int .i64 n] w fun e w'=>e= .returned (.slice (some ⟨w.heap.size,0,none⟩) 0 (grownCap w n.toNat 0 el))∧
  w'=w.drew.alloc (.cells ((#[]:Array Value)++Builtin.zeroCells z.cells n.toNat++Builtin.zeroCells z.cells (grownCap w n.toNat 0 el - n.toNat)) el)):
 aG P f [.sl .ex 1 [], .int .i64 n] H0 fun v H'=>v= .sl .own 1 []∧H'=H0:=by
 refine ⟨hc,fun F γ C w vs hs=> ?_⟩
 have h1:=hs.env 0
 have h2:=(hs.env 1).1
 rw [eF] at h1 h2
 simp only [Nat.zero_le,if_true,Nat.sub_zero,List.getElem?_cons_zero,Option.getD_some] at h1
 simp only [Nat.zero_le,if_true,Nat.sub_zero,List.getElem?_cons_succ,List.getElem?_cons_zero,Option.getD_some] at h2
 obtain ⟨a,c,e1, -⟩:=h1.1.fB
 rw [e1] at h1
 have hc0:c=0:=h1.2
 subst hc0
 have e2:=h2.cS
 have hvs:vs= #[.slice a 0 0, .int .i64 n]:=by
  have hsz:vs.size=2:=hs.sz
  apply Array.ext
  · simpa using hsz
  · intro i g1 g2
    have:i=0∨i=1:=by omega
    rcases this with rfl|rfl
    · simpa [Array.getD_eq_getD_getElem?,Array.getElem?_eq_getElem g1] using e1
    · simpa [Array.getD_eq_getD_getElem?,Array.getElem?_eq_getElem g1] using e2
 by_cases hn:n=0
 · rw [hvs]
   refine (hroom a w hn).mono ?_
   rintro en w' ⟨rfl,rfl⟩
   have hw:SR [] 2 F γ C (Am.put (fo 0 [.sl .ex 1 [], .int .i64 n]) 0 (.sl .own 1 [])) H0 vs w':=by
    refine hs.wx ⟨fun t=> ?_,eT.refl _⟩
    rw [fm]
    split
    · rename_i ht;subst ht
      rw [eF]
      exact Wx.own _ _
    · refine Wx.same fun l k xs=> ?_
      rw [eF]
      match t with
      |0=>simp
      |1=>simp
      |t+2=>simp
   exact ⟨.sl .own 1 [],_,H0,γ,C,rfl,⟨rfl,rfl⟩,List.prefix_refl _,hw.aav (by rw [fm];simp) (by rw [hvs];rfl) (by simp),Ext.refl ..⟩
 · have hpos:0<n:=by omega
   rw [hvs]
   refine (hgrow a w hpos).mono ?_
   rintro en w' ⟨rfl,rfl⟩
   generalize hcap:grownCap w n.toNat 0 el=cap
   have hge:n.toNat≤cap:=by rw [←hcap];exact grownCap_ge w _ _ _
   generalize hrow:(#[]:Array Value)++Builtin.zeroCells z.cells n.toNat++Builtin.zeroCells z.cells (cap - n.toNat)=row
   have hrl:row.size=cap:=by
    rw [←hrow];simp only [Array.size_append,size_zeroCells,hz];simp;omega
   obtain ⟨q1,q2,q3⟩:=heap_alloc w.drew (.cells row el)
   obtain ⟨C',g1,g2, -, -⟩:=wm (ds:=[]) (w':=w.drew.alloc (.cells row el)) (d:=some 0) (Dl:=[]) (xs:=[]) (k:=1) (n:=0) (c:=cap)
    hs (by intro x hx;injection hx with hx;subst hx;simp) q2 q3 q1 (by simp) (by simp) (by simp) rfl (Nat.zero_le _) (by omega) (fun q hq=>by simp) (by simp) (by simp)
   refine ⟨.sl .own 1 [],_,H0,γ,C',rfl,⟨rfl,rfl⟩,List.prefix_refl _,g1.aav ?_ ?_ (by simp),g2⟩
   · simp [Am.aI,fm,AV.bU,AV.df]
   · rw [hvs];rfl
end Go.Am
end
section
set_option maxRecDepth 100000
namespace Go.Am
open Go
open Nat renaming reduceEqDiff→nA,reduceLT→nB,reduceLeDiff→nC,reduceAdd→nD,reduceSub→nE,reduceMul→nF,reduceBEq→nG
variable [Tabs]
theorem br {p:Prop} (h:p:=by first|assumption|omega|(simp only [mb,mc]<;>omega)):p:=h
section
variable {H T:AH} {q s:Nat} {c c':List AV}
theorem bL (h:q<H.length:=by first|assumption|omega|(simp only [mb,mc]<;>omega)) (hc:c=c':=by rfl):(H.set q c)[q]? =some c':=hc▸h_eq h
theorem aX {r:Option (List AV)} (hx:H[q]? =r) (h:s≠q:=by first|assumption|omega|(simp only [mb,mc]<;>omega)):(H.set s c)[q]? =r:=(aan h).trans hx
theorem eo {r:Option (List AV)} (hx:H[q]? =r) (h:q<H.length:=by first|assumption|omega|(simp only [mb,mc]<;>omega)):(H++T)[q]? =r:=(U1 h).trans hx
theorem ko (h:q=H.length:=by first|assumption|omega|(simp only [mb,mc]<;>omega)) (hc:c=c':=by rfl):(H++[c])[q]? =some c':=hc▸PO h
theorem bn {ah:AH} {n0:Nat} {S:List Nat} (s:Nat) (h:Fr ah n0 S H) (hs:s∈S∨n0≤s:=by first|exact .inr (by first|assumption|omega|(simp only [mb,mc]<;>omega))|exact .inl (by simp)):Fr ah n0 S (H.set s c):=Fr.set h hs
end
theorem ax {H:AH}:eT H H:=eT.refl _
theorem aS {g g':Prop} (k:g') (h:g=g':=by
 first|(conv=>lhs;simp only [WW, ↓reduceIte,nA,nB,nC,nD,nE,nF,nG,reduceCtorEq])|rfl):g:=h▸k
theorem bO {p g g':Prop} (f:p) (k:g') (h:p→g=g':=by
 intro f;first|(conv=>lhs;simp only [WW, ↓reduceIte,nA,nB,nC,nD,nE,nF,nG,reduceCtorEq,f])|rfl):g:=h f▸k
theorem bT {g g':Prop} (k:g') (h:g=g':=by
 first|(conv=>lhs;simp (disch:=first|assumption|omega|(simp only [mb,mc]<;>omega)|fail) only [WW,WH, ↓reduceIte,nA,nB,nC,nD,nE,nF,nG,reduceCtorEq])|rfl):g:=h▸k
theorem aE {p g g':Prop} (f:p) (k:g') (h:p→g=g':=by
 intro f;first|(conv=>lhs;simp (disch:=first|assumption|omega|(simp only [mb,mc]<;>omega)|fail) only [WW,WH, ↓reduceIte,nA,nB,nC,nD,nE,nF,nG,reduceCtorEq,f])|rfl):g:=h f▸k
structure GZ (p:Prop):Prop where
 out:p
section
variable {P:Program} {L:List Nat} {N n0:Nat} {e:Env} {ah:AH} {t:List It} {Q:Exit→Env→AH→Prop} {r:List aQ}
theorem cq {β:Type} {x y:Option β} {z:β} {o:aQ} {B want:Bool} (h:(if B=true then x else y)=some z) (k1:B=true→x=some z→GZ (UG P L N n0 o r t Q e ah (some (true==want))))
 (k2:B=false→y=some z→GZ (UG P L N n0 o r t Q e ah (some (false==want)))):GZ (UG P L N n0 o r t Q e ah (some (B==want))):=by
 cases B
 · exact k2 rfl h
 · exact k1 rfl h
theorem kD {o:aQ} {B want:Bool} (k1:B=true→GZ (UG P L N n0 o r t Q e ah (some (true==want))))
 (k2:B=false→GZ (UG P L N n0 o r t Q e ah (some (false==want)))):GZ (UG P L N n0 o r t Q e ah (some (B==want))):=by
 cases B
 · exact k2 rfl
 · exact k1 rfl
theorem bX {β:Type} {x y:Option β} {z:β} {a b:aD} {B:Bool} (h:(if B=true then x else y)=some z) (k1:B=true→x=some z→GZ (U P L N n0 (.code a::t) Q .normal e ah))
 (k2:B=false→y=some z→GZ (U P L N n0 (.code b::t) Q .normal e ah)):GZ (UC P L N n0 a b t Q e ah (.bool B)):=by
 cases B
 · exact k2 rfl h
 · exact k1 rfl h
end
def AV.aeB:AV→Bool
 | .sl (.fr _) _ _=>false
 |_=>true
theorem Wx.smZ {a:AV} (h:a.aeB=true):Wx a a:= .same fun l k xs e=>by subst e;cases h
theorem Wx.gsZ {s k n n' c:Nat} (h:n=n'):Wx (.cu s k n c) (.cu s k n' c):=by subst h;exact Wx.smZ rfl
theorem wAZ {cs cs':List AV} (h:cx cs cs':=by repeat (first|exact cx.nil|apply cx.same|apply cx.n)):cx cs cs':=h
theorem wBZ {cs cs':List AV} (h:pG cs cs':=by repeat (first|exact pG.nil|apply pG.same|apply pG.n|refine pG.agg wAZ ?_)):pG cs cs':=h
theorem bt {a a':AV} (h:Wx a a':=by
 first|exact Wx.smZ rfl|exact Wx.n|exact Wx.own .. |exact Wx.un _|exact Wx.agg wAZ|exact Wx.err|exact Wx.gsZ (by simp)|exact Wx.adJ wBZ):Wx a a':=h
theorem aY {e e1:Env} (h:WE e e1:=by
 repeat (refine WE.cons bt ?_)
 exact WE.nil):WE e e1:=h
theorem dD {p:Prop} {e e1:Env} (f:p) (h:p→WE e e1:=by
 intro f
 repeat (refine WE.cons (by first|exact bt|exact Wx.ack (by simp only [f,WB])|exact Wx.aeq (by simp only [f,WB])|exact Wx.epE (by simp only [f])) ?_)
 exact WE.nil):WE e e1:=h f
theorem wlZ {a a':List AV} (h:WL a a':=by
 repeat (refine WL.cons bt ?_)
 exact WL.nil):WL a a':=h
theorem gG {a a':List AV} (h:vq a a':=by
 repeat (refine vq.cons bt ?_)
 exact vq.nil):vq a a':=h
theorem eM {x:Exit} (h:x≠ .normal:=by simp):x≠ .normal:=h
section
variable {P:Program} {L:List Nat} {N n0:Nat} {e:Env} {ah:AH} {t:List It} {Q:Exit→Env→AH→Prop} {r:List aQ} {d:Option Nat} {f:Nat}
theorem bf {zs zs':List AV} {b7 HE:AH} {V:AV} (hh:eT ah b7) (h:aG P f zs' b7 fun v H'=>v=V∧H'=HE) (hk:GZ (U P L N n0 (.ops r::t) Q .normal (aI L (wu e) d V.df) HE))
 (hw:WL zs zs':=by
 repeat (refine WL.cons bt ?_)
 exact WL.nil):GZ (UK P L N n0 f zs d r t Q e ah):=⟨aat h hw hh hk.out⟩
theorem ZB {zs zs':List AV} {b7:AH} {R:AV→AH→Prop} (hh:eT ah b7) (h:aG P f zs' b7 R) (hk:∀v aH,R v aH→GZ (U P L N n0 (.ops r::t) Q .normal (aI L (wu e) d v.df) aH))
 (hw:WL zs zs':=by
 repeat (refine WL.cons bt ?_)
 exact WL.nil):GZ (UK P L N n0 f zs d r t Q e ah):=⟨aaj h hw hh fun v aH hR=>(hk v aH hR).out⟩
theorem ueZ {zs zs':List AV} {V:AV} (h:aG P f zs' [] fun v H'=>v=V∧H'=[]) (hp:AE ah zs zs') (hk:GZ (U P L N n0 (.ops r::t) Q .normal (aI L (wu e) d V.df) ah)) (hs:V.Gj=true:=by rfl) (hw:WL zs zs:=by
 repeat (refine WL.cons (Wx.smZ rfl) ?_)
 exact WL.nil):GZ (UK P L N n0 f zs d r t Q e ah):=
 ⟨aat (aG.ofE h hp (by rintro _ rfl;exact hs)) hw (eT.refl _) hk.out⟩
theorem pZZ {cs cs':List AV} (h:oM ah cs cs':=by
 repeat (first|exact oM.nil|refine oM.cons (by first|exact kC.int|exact kC.b8|exact kC.bool|exact kC.str|exact kC.v|exact .sl _ _ _|exact .ep _ _) ?_)):oM ah cs cs':=h
theorem Ll {c:aD} (h:AX P L N n0 c (fun x e ah=>GZ (U P L N n0 t Q x e ah)) e ah):GZ (UX P L N n0 c t Q e ah):=⟨abh (AX.mono h fun _ _ _ h=>h.out)⟩
theorem SY {c:aD} (h:GZ (UX P L N n0 c t Q e ah)):AX P L N n0 c (fun x e ah=>GZ (U P L N n0 t Q x e ah)) e ah:=AX.mono h.out fun _ _ _ h=>⟨h⟩
theorem cg {c:aD} {e1:Env} {b7:AH} (hh:eT ah b7) (h:AX P L N n0 c (fun x e ah=>GZ (U P L N n0 t Q x e ah)) e1 b7) (he:WE e e1:=by
 repeat (refine WE.cons bt ?_)
 exact WE.nil):GZ (UX P L N n0 c t Q e ah):=Ll (AX.weak he hh h)
theorem gaZ {α:Type} {f:α→AV} {k b q c n1:Nat} {x y:Ar} {tg:Tg} {X Y Z:List α} {ys:List AV} {g:Option (Nat×Bool)} (hf:∀x,(f x).cells.length=k∧b6 (f x).cells=true∧gb (f x).cells=true∧b5 (f x).cells=true)
 (Aq:0<k) (hx:ev e x= .cu q k X.length c) (hy:ev e y= .sl tg k ys) (hys:ys=ml f Y) (hY:Y≠[]) (hz:cB b X Y=some Z) (hG:GF k n1 q (ml f X) c ah) (hn:n1≤ah.length)
 (hK:∀q' c' aH,GF k n1 q' (ml f Z) c' aH→(∀s,s<ah.length→s<n1∨(0<c→s≠q)→aH[s]? =ah[s]?)→ah.length≤aH.length→(q'=q∧0<c∨ah.length≤q')→
  GZ (U P L N n0 (.ops r::t) Q .normal (aI L e d (.cu q' k Z.length c')) aH)):
 GZ (UG P L N n0 ⟨d, .lW k b x y,g⟩ r t Q e ah (some true)):=⟨V8 hf Aq hx hy hys hY hz hG hn fun q' c' aH h1 h2 h3 h4=>(hK q' c' aH h1 h2 h3 h4).out⟩
end
theorem aJ {α:Type} {a b:α} (h:some a=some b):a=b:=Option.some.inj h
theorem dm {α β:Type} {a b:α} {c d:β} (h:some (a,c)=some (b,d)):a=b∧c=d:=Prod.mk.inj (Option.some.inj h)
theorem aeC {α β γ:Type} {a b:α} {c d:β} {e f:γ} (h:some (a,c,e)=some (b,d,f)):a=b∧c=d∧e=f:=by
 obtain ⟨h1,h2⟩:=dm h;exact ⟨h1,Prod.mk.inj h2⟩
theorem aeD {α β γ δ:Type} {a b:α} {c d:β} {e f:γ} {g i:δ} (h:some (a,c,e,g)=some (b,d,f,i)):a=b∧c=d∧e=f∧g=i:=by
 obtain ⟨h1,h2,h3⟩:=aeC h;exact ⟨h1,h2,Prod.mk.inj h3⟩
theorem aeE {α β γ δ ε:Type} {a b:α} {c d:β} {e f:γ} {g i:δ} {j k:ε} (h:some (a,c,e,g,j)=some (b,d,f,i,k)):a=b∧c=d∧e=f∧g=i∧j=k:=by
 obtain ⟨h1,h2,h3,h4⟩:=aeD h;exact ⟨h1,h2,h3,Prod.mk.inj h4⟩
theorem afT {α β γ δ ε ζ:Type} {a b:α} {c d:β} {e f:γ} {g i:δ} {j k:ε} {l m:ζ} (h:some (a,c,e,g,j,l)=some (b,d,f,i,k,m)):a=b∧c=d∧e=f∧g=i∧j=k∧l=m:=by
 obtain ⟨h1,h2,h3,h4,h5⟩:=aeE h;exact ⟨h1,h2,h3,h4,Prod.mk.inj h5⟩
theorem bw {P:Program} {e:Env} {ah:AH}:gN P e ah []=some []:=rfl
theorem bC {P:Program} {e:Env} {ah:AH} {t:Nat} {rs:List ResultVar} {vs:List AV} (hr:gN P e ah rs=some vs) (a:AV) (h:Am.get e t=a:=by rfl) (ht:a.eR=false:=by rfl):gN P e ah (.tmp t::rs)=some (a::vs):=xJ h ht hr
theorem bA {n:Nat} {a:AV} (h:Cl n a:=by first|(simp [fin,aam,aal,oB,PN];done)|(simp [fin,AV.df,AV.sh,AV.bS,aam,aal,oB,PN];done)):Cl n a:=h
theorem jK {n:Nat} {c:List AV} (h:∀a∈c,Cl n a:=by simp [PN];try omega):∀a∈c,Cl n a:=h
theorem aC {p q:Prop} (a:p) (b:q):p∧q:=⟨a,b⟩
theorem bE:Exit.ret= .normal∨Exit.ret= .ret:= .inr rfl
theorem I3:Exit.normal= .normal∨Exit.normal= .ret:= .inl rfl
theorem dX {P:Program} {N f:Nat} {rs:List ResultVar} {m:aD} (hF:bx P f N rs (erase m)) (L:List Nat) {args:List AV} {R:AV→AH→Prop} {H0:AH} (S:List Nat)
 (h:mY H0.length H0→∀K0:Exit→Env→AH→Prop,(∀x e' H,x= .normal∨x= .ret→wB P H0 rs R e' H→GZ (K0 x e' H))→
  ∀H,H=H0→Fr H0 H0.length S H→GZ (U P L N H0.length [.code m] K0 .normal (fo 0 args) H)) (ho:qZ N (erase m)=true:=by kernel_rfl) (hN:args.length≤N:=by simp):aG P f args H0 R:=by
 refine aG.goX hF (m:=m) rfl L ho hN fun hcl K0 aO=> ?_
 refine AX.Wc (m:=m) rfl ho ?_
 exact (h hcl K0 (fun x e' H h1 h2=>⟨aO x e' H h1 h2⟩) H0 rfl (Fr.refl H0 S)).out
theorem gz {P:Program} {N f:Nat} {rs:List ResultVar} {m:aD} (hF:bx P f N rs (erase m)) (L:List Nat) {args:List AV} {R:AV→AH→Prop} {H0:AH}
 (h:mY H0.length H0→∀K0:Exit→Env→AH→Prop,(∀x e' H,x= .normal∨x= .ret→wB P H0 rs R e' H→GZ (K0 x e' H))→
  GZ (U P L N H0.length [.code m] K0 .normal (fo 0 args) H0)) (ho:qZ N (erase m)=true:=by kernel_rfl) (hN:args.length≤N:=by simp):aG P f args H0 R:=by
 refine aG.goX hF (m:=m) rfl L ho hN fun hcl K0 aO=> ?_
 exact AX.Wc (m:=m) rfl ho (h hcl K0 (fun x e' H h1 h2=>⟨aO x e' H h1 h2⟩)).out
theorem dj {P:Program} {L:List Nat} {N n0:Nat} {e:Env} {ah:AH} {K:Exit→Env→AH→Prop} {m:aD}
 (h:∀K':Exit→Env→AH→Prop,(∀x e ah e1 b7,WE e e1→eT ah b7→K x e1 b7→GZ (K' x e ah))→GZ (U P L N n0 [.code m] K' .normal e ah)) (ho:qZ N (erase m)=true:=by kernel_rfl):AX P L N n0 (erase m) K e ah:=
 AX.go rfl ho fun K' hK=>(h K' fun x e ah e1 b7 h1 h2 h3=>⟨hK x e ah e1 b7 h1 h2 h3⟩).out
theorem ji {P:Program} {L:List Nat} {N n0:Nat} {e:Env} {ah:AH} {K:Exit→Env→AH→Prop} {m:aD} {ρ τ σ:Type} {body:σ→Option (St ρ τ σ)} (J:σ→Env→AH→Prop) {F:Nat} {s0:σ} {o:ρ⊕τ} (hit:Am.iter body F s0=some o) (h0:J s0 e ah)
 (round:∀(K':Exit→Env→AH→Prop) s st e ah,J s e ah→body s=some st→
 (∀s',st= .cT s'→∀e' aH e1 b7,WE e' e1→eT aH b7→J s' e1 b7→GZ (K' .normal e' aH))→
 (∀t,st= .fJ t→o= .inr t)→(∀r,st= .ret r→o= .inl r)→
 (∀x e' aH e1 b7,x≠ .normal→WE e' e1→eT aH b7→K x e1 b7→GZ (K' x e' aH))→GZ (U P L N n0 [.code m] K' .normal e ah)) (ho:qZ N (erase m)=true:=by kernel_rfl):AX P L N n0 (.loop (erase m)) K e ah:=
 AX.iter rfl ho J hit h0 fun K' s st e ah h1 h2 h3 h4 h5 h6=>(round K' s st e ah h1 h2 (fun s' h e' aH e1 b7 g1 g2 g3=>⟨h3 s' h e' aH e1 b7 g1 g2 g3⟩) h4 h5 fun x e' aH e1 b7 hx g1 g2 g3=>⟨h6 x e' aH e1 b7 hx g1 g2 g3⟩).out
abbrev aj (d:Nat) (p:fI):aQ:=⟨some d,p,none⟩
abbrev aF (d:Nat) (p:fI) (g:Nat) (w:Bool):aQ:=⟨some d,p,some (g,w)⟩
abbrev cX (p:fI):aQ:=⟨none,p,none⟩
abbrev aB (d x:Nat):aQ:=⟨some d, .mv (.t x),none⟩
abbrev bh (d x:Nat):aQ:=⟨some d, .aZ (.t x),none⟩
end Go.Am
end
section
namespace Go.Am
open Go
variable [Tabs]
theorem eT.Lh {ah aH:AH} {q:Nat} {cs cs':List AV} (h:eT ah aH) (hq:ah[q]? =some cs) (hc:vq cs cs'):eT ah (aH.set q cs'):=by
 refine ⟨by simpa using h.1,fun s ds hs=> ?_⟩
 by_cases hqs:q=s
 · subst hqs
   have hl:q<aH.length:=by rw [h.1];exact (List.getElem?_eq_some_iff.1 hq).1
   rw [List.getElem?_set_self hl] at hs
   injection hs with hs
   subst hs
   exact ⟨cs,hq, .inr hc⟩
 · rw [List.getElem?_set_ne hqs] at hs
   exact h.2 s ds hs
def Lm (k:IntKind) (i j:Int):Option Int:=if j<0 then none else some (k.wrap (i*2 ^ (min j.toNat k.bits)))
def aax (k:IntKind) (i j:Int):Option Int:=if j<0 then none else some (i.fdiv (2 ^ (min j.toNat k.bits)))
theorem Wh {k k':IntKind} {i j r:Int} (h:Lm k i j=some r):bD .shl (.int k i) (.int k' j)=some (.int k r):=by
 unfold Lm at h
 split at h
 · cases h
 · rename_i hj
   injection h with h
   simp only [bD,if_neg hj,h]
theorem aeF {k k':IntKind} {i j r:Int} (h:aax k i j=some r):bD .shr (.int k i) (.int k' j)=some (.int k r):=by
 unfold aax at h
 split at h
 · cases h
 · rename_i hj
   injection h with h
   simp only [bD,if_neg hj,h]
def yY {α:Type} (b:Nat) (xs ys:List α):Option (List α):=if ys.isEmpty then none else cB b xs ys
theorem SZ {α:Type} {b:Nat} {xs ys zs:List α} (h:yY b xs ys=some zs):ys≠[]:=by
 unfold yY at h
 rintro rfl
 simp at h
theorem S0 {α:Type} {b:Nat} {xs ys zs:List α} (h:yY b xs ys=some zs):cB b xs ys=some zs:=by
 unfold yY at h
 split at h
 · cases h
 · exact h
end Go.Am
end
section
namespace Go.Am
open Go
variable [Tabs]
section
variable {P:Program} {L:List Nat} {N n0:Nat} {F:Nat→Prop} {γ:List Nat} {C:Nat→List Value} {e e':Env} {ah:AH} {ts:Array Value} {w:World} {Q K:Exit→Env→AH→Prop}
theorem SR.Wi (h:SR L N F γ C e ah ts w) {s:Nat} {cs ds:List AV} (hs:ah[s]? =some cs) (hne:cs≠[]) (hw:cx cs ds)
 (he:∀t,get e' t=get e t∨∃o,get e t= .ptr s o∧get e' t= .ep (.agg ds) o):∃C',(SR L N F γ C' e' (ah.set s []) ts w∧Ext F C w C' w)∧∃b,γ[s]? =some b∧ds.length≤(C' b).length∧∀(j:Nat) (a:AV),ds[j]? =some a→VR C' γ a ((C' b).getD j undef):=by
 have hlt:s<γ.length:=by rw [h.mem.len];exact (List.getElem?_eq_some_iff.1 hs).1
 obtain ⟨b,hb⟩:∃b,γ[s]? =some b:=⟨_,List.getElem?_eq_getElem hlt⟩
 obtain ⟨vs,ty,hh,hsz,hcell⟩:=h.mem.obj s b cs hs hb
 have F7:=h.mem.pZ s b cs hs hne hb
 have qX:blk γ e ah ts w (.obj s) b:=hb
 refine ⟨fun x=>if x=b then vs.toList else C x, ?_⟩
 generalize vp:(fun x=>if x=b then vs.toList else C x)=C'
 have c0:C' b=vs.toList:=by rw [←vp];simp
 have c1:∀x,x≠b→C' x=C x:=fun x hx=>by rw [←vp];simp [hx]
 have hpre:∀x,C x <+: C' x:=by
  intro x
  by_cases hx:x=b
  · subst hx;rw [F7];exact List.nil_prefix
  · rw [c1 x hx];exact List.prefix_refl _
 refine ⟨?_,b,hb,by rw [c0,hw.len];simpa using hsz,fun j a hj=> ?_⟩
 rotate_left
 · have hjl:j<cs.length:=by rw [←hw.len];exact (List.getElem?_eq_some_iff.1 hj).1
   have hj':cs[j]? =some cs[j]:=List.getElem?_eq_getElem hjl
   have:=(Wk.iU (hw.get j _ _ hj' hj)).vr ((hcell j _ hj').1.mono hpre γ (fun _ _ h=>h))
   rw [c0]
   have e1:vs.toList.getD j undef=vs.getD j undef:=by simp [List.getD_eq_getElem?_getD,Array.getD_eq_getD_getElem?]
   rw [e1];exact this
 have gX:∀(s':Nat),s'≠s→(ah.set s [])[s']? =ah[s']? :=fun s' hn=>List.getElem?_set_ne (Ne.symm hn)
 have fP:(ah.set s [])[s]? =some []:=List.getElem?_set_self (by rw [←h.mem.len];exact hlt)
 have uk:∀(s':Nat),γ[s']? =some b→s'=s:=fun s' hs'=>by
  have:=h.dG (.obj s') (.obj s) b hs' hb;injection this
 have hbk:∀p x,blk γ e' (ah.set s []) ts w p x→blk γ e ah ts w p x:=by
  intro p x hp
  cases p with
  |obj s'=>exact hp
  |cell s' i=>
   obtain ⟨ds,a,b0,h1,h2,h3,h4⟩:=hp
   by_cases hn:s'=s
   · subst hn;rw [fP] at h1;injection h1 with h1;subst h1;simp at h2
   · rw [gX s' hn] at h1;exact ⟨ds,a,b0,h1,h2,h3,h4⟩
  |tmp t=>
   simp only [blk] at hp ⊢
   rcases he t with h1|⟨o,h1,h2⟩
   · rwa [h1] at hp
   · rw [h2] at hp;simp [bR] at hp
 have n6:∀(a:AV) (v:Value),TC w C a v→(∀x,bR a v=some x→x≠b)→TC w C' a v:=fun a v ht hn=>ht.mono fun x hx=>⟨rfl,c1 x (hn x hx)⟩
 refine ⟨⟨⟨by simp [h.mem.len],fun s' x ds h1 h2=> ?_,fun x hx=> ?_,fun s' x ds h1 h0 h2=> ?_,fun s' x ds us ty' fr h1 h2 h3=> ?_⟩,h.sz,fun t=> ?_,fun p q x hp hq=>h.dG p q x (hbk p x hp) (hbk q x hq),fun p x hp=>h.nf p x (hbk p x hp),h.kA,fun t l k xs ht=> ?_⟩,
  ⟨hpre,fun x hx=>⟨rfl,c1 x (fun e=>h.nf _ _ qX (e▸hx))⟩,Nat.le_refl _,rfl,rfl,rfl⟩⟩
 · by_cases hn:s'=s
   · subst hn
     rw [fP] at h1;injection h1 with h1;subst h1
     rw [hb] at h2;injection h2 with h2;subst h2
     exact ⟨vs,ty,hh,by simp,by simp⟩
   · rw [gX s' hn] at h1
     obtain ⟨us,ty',g1,g2,g3⟩:=h.mem.obj s' x ds h1 h2
     refine ⟨us,ty',g1,g2,fun i a hi=>⟨(g3 i a hi).1.mono hpre _ (fun _ _ h=>h),n6 _ _ (g3 i a hi).2 fun y hy e=> ?_⟩⟩
     subst e
     obtain ⟨v,hv, -, -⟩:=cellAt h.mem h1 hi h2
     have HU:v=us.getD i undef:=by
      have hlt:i<us.size:=Nat.lt_of_lt_of_le (List.getElem?_eq_some_iff.1 hi).1 g2
      rw [di g1,Array.getElem?_eq_getElem hlt] at hv
      simp [Array.getD_eq_getD_getElem?,Array.getElem?_eq_getElem hlt,Option.some.inj hv]
     have:blk γ e ah ts w (.cell s' i) y:=⟨ds,a,x,h1,hi,h2,by rw [hv,HU];exact hy⟩
     have:=h.dG _ _ _ this qX
     cases this
 · by_cases Lc:x=b
   · subst Lc;exact ⟨vs,ty.1,ty.2,hh,by rw [c0];exact List.prefix_refl _⟩
   · rw [c1 x Lc] at hx ⊢;exact h.mem.uf x hx
 · have hn:s'≠s:=by
    rintro rfl
    rw [fP] at h1;injection h1 with h1;exact h0 h1.symm
   rw [gX s' hn] at h1
   rw [c1 x (fun e=>hn (uk s' (e▸h2)))]
   exact h.mem.pZ s' x ds h1 h0 h2
 · by_cases hn:s'=s
   · subst hn
     rw [fP] at h1;injection h1 with h1;subst h1
     intro i hi;simp at hi
   · rw [gX s' hn] at h1
     exact h.mem.BO s' x ds us ty' fr h1 h2 h3
 · rcases he t with h1|⟨o,h1,h2⟩
   · rw [h1]
     refine ⟨(h.env t).1.mono hpre _ (fun _ _ h=>h),n6 _ _ (h.env t).2 fun y hy e=> ?_⟩
     subst e
     have:=h.dG (.tmp t) (.obj s) y hy qX
     cases this
   · have hv:=(h.env t).1
     rw [h1] at hv
     obtain ⟨b',hb',hv⟩:=hv.gM
     rw [hb] at hb';injection hb' with hb';subst hb'
     rw [h2,hv]
     refine ⟨?_,by trivial⟩
     have hep:=VR.ep (C:=C') γ (.agg ds) o b 0 (by rw [c0];simpa [AV.cells,hw.len] using hsz) (fun j a hj=>by
      have hj2:ds[j]? =some a:=hj
      have hjl:j<cs.length:=by rw [←hw.len];exact (List.getElem?_eq_some_iff.1 hj2).1
      have hj':cs[j]? =some cs[j]:=List.getElem?_eq_getElem hjl
      have:=(Wk.iU (hw.get j _ _ hj' hj2)).vr ((hcell j _ hj').1.mono hpre γ (fun _ _ h=>h))
      rw [c0,Nat.zero_add]
      have e1:vs.toList.getD j undef=vs.getD j undef:=by simp [List.getD_eq_getElem?_getD,Array.getD_eq_getD_getElem?]
      rw [e1];exact this)
     rwa [Nat.zero_add] at hep
 · rcases he t with h1|⟨o,h1,h2⟩
   · have hf:=h.fr t l k xs (by rw [←h1];exact ht)
     cases l with
     |tmp u=>
      refine ⟨hf.1,fun hu=>hf.2 ?_⟩
      rcases he u with g1|⟨o,g1,g2⟩
      · rwa [g1] at hu
      · rw [g2] at hu;cases hu
     |cell s' o=>
      intro ds a x g1 g2 g3 g4
      by_cases hn:s'=s
      · subst hn;rw [fP] at g1;injection g1 with g1;subst g1;simp at g2
      · rw [gX s' hn] at g1;exact hf ds a x g1 g2 g3 g4
   · rw [h2] at ht;cases ht
def Rw (C:Nat→List Value) (γ:List Nat) (w:World) (a a':AV):Prop:=
 (∀v,VR C γ a v→VR C γ a' v)∧(∀v,VR C γ a v→TC w C a v→TC w C a' v)∧(∀v b,VR C γ a v→TC w C a v→bR a' v=some b→bR a v=some b)∧(a'.bU=true→a.bU=true)
theorem Rw.refl (a:AV):Rw C γ w a a:=⟨fun _ h=>h,fun _ _ h=>h,fun _ _ _ _ h=>h,fun h=>h⟩
theorem SR.ZC (h:SR L N F γ C e ah ts w) {aH:AH} (hl:aH.length=ah.length)
 (hh:∀(s:Nat) (cs':List AV),aH[s]? =some cs'→∃cs,ah[s]? =some cs∧cs'.length=cs.length∧∀(i:Nat) (a a':AV),cs[i]? =some a→cs'[i]? =some a'→Rw C γ w a a'):SR L N F γ C e aH ts w:=by
 have hcl:∀(s i b0:Nat) (cs':List AV) (a':AV) (x:Nat),aH[s]? =some cs'→cs'[i]? =some a'→γ[s]? =some b0→bR a' ((w.cell? ⟨b0,i,none⟩).getD undef)=some x→
  ∃cs a,ah[s]? =some cs∧cs[i]? =some a∧bR a ((w.cell? ⟨b0,i,none⟩).getD undef)=some x:=by
  intro s i b0 cs' a' x h1 h2 h3 h4
  obtain ⟨cs,g1,g2,g3⟩:=hh s cs' h1
  have hlt:i<cs.length:=by rw [←g2];exact (List.getElem?_eq_some_iff.1 h2).1
  have h0:cs[i]? =some cs[i]:=List.getElem?_eq_getElem hlt
  refine ⟨cs,cs[i],g1,h0, ?_⟩
  obtain ⟨vs,ty,q1,q2,q3⟩:=h.mem.obj s b0 cs g1 h3
  have hc:(w.cell? ⟨b0,i,none⟩).getD undef=vs.getD i undef:=by
   rw [di q1];simp [Array.getD_eq_getD_getElem?]
  rw [hc] at h4 ⊢
  exact (g3 i _ _ h0 h2).2.2.1 _ _ (q3 i _ h0).1 (q3 i _ h0).2 h4
 have hb:∀p b,blk γ e aH ts w p b→blk γ e ah ts w p b:=by
  intro p b hp
  cases p with
  |obj s=>exact hp
  |tmp t=>exact hp
  |cell s i=>
   obtain ⟨cs',a',b0,h1,h2,h3,h4⟩:=hp
   obtain ⟨cs,a,g1,g2,g3⟩:=hcl s i b0 cs' a' b h1 h2 h3 h4
   exact ⟨cs,a,b0,g1,g2,h3,g3⟩
 refine ⟨⟨by rw [h.mem.len,hl],fun s b cs' h1 h2=> ?_,h.mem.uf,fun s b cs' h1 hne h2=> ?_,fun s b cs' us ty fr h1 h2 h3=> ?_⟩,h.sz,h.env,fun p q b h1 h2=>h.dG p q b (hb p b h1) (hb q b h2),
  fun p b hp=>h.nf p b (hb p b hp),h.kA,fun t l k xs ht=> ?_⟩
 · obtain ⟨cs,g1,g2,g3⟩:=hh s cs' h1
   obtain ⟨vs,ty,q1,q2,q3⟩:=h.mem.obj s b cs g1 h2
   refine ⟨vs,ty,q1,by omega,fun i a' hi=> ?_⟩
   have hlt:i<cs.length:=by rw [←g2];exact (List.getElem?_eq_some_iff.1 hi).1
   have h0:cs[i]? =some cs[i]:=List.getElem?_eq_getElem hlt
   exact ⟨(g3 i _ _ h0 hi).1 _ (q3 i _ h0).1,(g3 i _ _ h0 hi).2.1 _ (q3 i _ h0).1 (q3 i _ h0).2⟩
 · obtain ⟨cs,g1,g2,g3⟩:=hh s cs' h1
   refine h.mem.pZ s b cs g1 ?_ h2
   rintro rfl
   exact hne (List.eq_nil_of_length_eq_zero g2)
 · obtain ⟨cs,g1,g2,g3⟩:=hh s cs' h1
   rw [g2]
   exact h.mem.BO s b cs us ty fr g1 h2 h3
 · have hf:=h.fr t l k xs ht
   cases l with
   |tmp u=>exact hf
   |cell s' o=>
    intro ds a x g1 g2 g3 g4
    obtain ⟨cs,r1,r2,r3⟩:=hh s' ds g1
    have hlt:o<cs.length:=by rw [←r2];exact (List.getElem?_eq_some_iff.1 g2).1
    have h0:cs[o]? =some cs[o]:=List.getElem?_eq_getElem hlt
    exact hf cs cs[o] x r1 h0 ((r3 o _ _ h0 g2).2.2.2 g3) g4
inductive Fc (s:Nat) (ds:List AV):AV→AV→Prop
 |same (a):Fc s ds a a
 |fn (f o):Fc s ds (.fn f [.ptr s o]) (.fn f [.ep (.agg ds) o])
 |cI (k n:Nat) (xs:List AV):xs.length=n→(∀(i:Nat) (e:AV),xs[i]? =some e→e.cells.length=k)→ds=(xs.map AV.cells).flatten→b6 ds=true→gb ds=true→Fc s ds (.cI s k 0 n) (.sl .n k xs)
inductive vt (s:Nat) (ds:List AV):List AV→List AV→Prop
 |nil:vt s ds [] []
 |cons (a a' r r'):Fc s ds a a'→vt s ds r r'→vt s ds (a::r) (a'::r')
theorem vt.len {s:Nat} {ds cs cs':List AV} (h:vt s ds cs cs'):cs'.length=cs.length:=by
 induction h with
 |nil=>rfl
 |cons _ _ _ _ _ _ ih=>simp [ih]
theorem vt.get {s:Nat} {ds cs cs':List AV} (h:vt s ds cs cs'):∀(i:Nat) (a a':AV),cs[i]? =some a→cs'[i]? =some a'→Fc s ds a a':=by
 induction h with
 |nil=>intro i a a' h;simp at h
 |cons x x' r r' hx _ ih=>
  intro i a a' h1 h2
  cases i with
  |zero=>simp at h1 h2;subst h1;subst h2;exact hx
  |succ i=>exact ih i a a' (by simpa using h1) (by simpa using h2)
theorem Ox {k:Nat}:∀ {xs:List AV},(∀(i:Nat) (e:AV),xs[i]? =some e→e.cells.length=k)→((xs.map AV.cells).flatten).length=xs.length*k:=by
 intro xs
 induction xs with
 |nil=>intro _;simp
 |cons x r ih=>
  intro h
  have h0:=h 0 x rfl
  have:=ih fun i e hi=>h (i+1) e (by simpa using hi)
  simp only [List.map_cons,List.flatten_cons,List.length_append,this,h0,List.length_cons,Nat.succ_mul]
  omega
theorem Oy {k:Nat}:∀ {xs:List AV},(∀(i:Nat) (e:AV),xs[i]? =some e→e.cells.length=k)→∀(i j:Nat) (e:AV),xs[i]? =some e→j<k→((xs.map AV.cells).flatten)[i*k+j]? =e.cells[j]? :=by
 intro xs
 induction xs with
 |nil=>intro _ i j e h;simp at h
 |cons x r ih=>
  intro h i j e hi hj
  have h0:=h 0 x rfl
  simp only [List.map_cons,List.flatten_cons]
  cases i with
  |zero=>
   simp at hi;subst hi
   rw [Nat.zero_mul,Nat.zero_add,List.getElem?_append_left (by omega)]
  |succ i=>
   have hik:(i+1)*k+j=k+(i*k+j):=by rw [Nat.succ_mul];omega
   rw [hik,List.getElem?_append_right (by omega),h0,Nat.add_sub_cancel_left]
   exact ih (fun i e hi=>h (i+1) e (by simpa using hi)) i j e (by simpa using hi) hj
theorem Fc.rw {s b:Nat} {ds:List AV} (hb:γ[s]? =some b) (hl:ds.length≤(C b).length) (hd:∀(j:Nat) (a:AV),ds[j]? =some a→VR C γ a ((C b).getD j undef)) {a a':AV} (h:Fc s ds a a'):Rw C γ w a a':=by
 cases h with
 |same=>exact Rw.refl _
 |fn f o=>
  refine ⟨fun v hv=> ?_,fun v _ _=>by cases v<;>trivial,fun v b _ _ h=>by simp [bR] at h,fun h=>by cases h⟩
  obtain ⟨vs,rfl,h1,h2⟩:=hv.D5
  refine .fn _ _ _ _ (by simpa using h1) fun i a hi=> ?_
  cases i with
  |succ i=>simp at hi
  |zero=>
   simp at hi
   subst hi
   obtain ⟨b',hb',hv⟩:=(h2 0 _ rfl).gM
   rw [hb] at hb';injection hb' with hb';subst hb'
   rw [hv]
   have:=VR.ep (C:=C) γ (.agg ds) o b 0 (by simpa [AV.cells] using hl) (fun j a hj=>by rw [Nat.zero_add];exact hd j a hj)
   rwa [Nat.zero_add] at this
 |cI k n xs hn hk hds hok hnp=>
  refine ⟨fun v hv=> ?_,fun v _ _=>by cases v<;>trivial,fun v b _ _ h=>by simp [bR] at h,fun h=>by cases h⟩
  obtain ⟨b',c,hb',hc,rfl⟩:=hv.An
  rw [hb] at hb';injection hb' with hb';subst hb'
  have hlen:ds.length=n*k:=by rw [hds,Ox hk,hn]
  refine .sl _ _ _ _ _ _ _ _ hn.symm hc hk (by omega) (fun q h1 h2=> ?_) fun i e hi j a hj=> ?_
  · have hq:q<ds.length:=by omega
    have h0:ds[q]? =some ds[q]:=List.getElem?_eq_getElem hq
    exact VR.one' (hd q _ h0) (yR hok h0)
  · have HK:j<k:=by rw [←hk i e hi];exact (List.getElem?_eq_some_iff.1 hj).1
    have hg:ds[i*k+j]? =some a:=by rw [hds,Oy hk i j e hi HK];exact hj
    rw [Nat.zero_add]
    exact (hd _ _ hg).np (uo hnp hg)
theorem AW.AG {c:Code} {s s2:Nat} {cs ds zs zs':List AV} (hs:ah[s]? =some cs) (hne:cs≠[]) (hw:cx cs ds) (hs2:ah[s2]? =some zs) (hn2:s2≠s) (hz:vt s ds zs zs')
 (he:∀t,get e' t=get e t∨∃o,get e t= .ptr s o∧get e' t= .ep (.agg ds) o) (h:AW P L N n0 c Q e' ((ah.set s []).set s2 zs')):AW P L N n0 c Q e ah:=by
 intro F γ C ts w lg hn
 obtain ⟨C',⟨h1,h2⟩,b,hb,hl,hd⟩:=lg.Wi hs hne hw he
 have Kb:(ah.set s [])[s2]? =some zs:=by rw [List.getElem?_set_ne (Ne.symm hn2)];exact hs2
 have h3:SR L N F γ C' e' ((ah.set s []).set s2 zs') ts w:=h1.ZC (by simp) fun s' cs' hs'=>by
  by_cases hq:s2=s'
  · subst hq
    rw [List.getElem?_set_self (List.getElem?_eq_some_iff.1 Kb).1] at hs'
    injection hs' with hs'
    subst hs'
    exact ⟨zs,Kb,hz.len,fun i a a' ha S1=>(hz.get i a a' ha S1).rw hb hl hd⟩
  · rw [List.getElem?_set_ne hq] at hs'
    exact ⟨cs',hs',rfl,fun i a a' ha S1=>by rw [ha] at S1;injection S1 with S1;subst S1;exact Rw.refl _⟩
 refine wp_mono (h F γ C' ts w h3 hn) ?_
 rintro x a w' ⟨q1,q2,e2,qY,γ2,C2,q3,q4,q5,q6⟩
 exact ⟨q1,q2,e2,qY,γ2,C2,q3,q4,q5,h2.trans q6⟩
theorem AX.AG {c:aD} {s s2:Nat} {cs ds zs zs':List AV} (hs:ah[s]? =some cs) (hw:cx cs ds) (hne:cs≠[]) (hs2:ah[s2]? =some zs) (hn2:s2≠s) (hz:vt s ds zs zs') (he:FZ s ds e e')
 (h:AX P L N n0 c K e' ((ah.set s []).set s2 zs')):AX P L N n0 c K e ah:=
 fun c' cj=>AW.AG hs hne hw hs2 hn2 hz he.get (h c' cj)
end
end Go.Am
namespace Go.Am
open Go
variable [Tabs]
theorem Wj {L:List Nat} {e:Env} {ah:AH} {d:Option Nat} {k s n j:Nat} {ki:IntKind} {i:Int} (h:wD n i=some j):tu L e ah d k (.cI s k 0 n) (.int ki i)=some (aI L e d (.ptr s (j*k)),ah):=by
 unfold wD at h
 split at h
 · rename_i hq
   injection h with h
   subst h
   simp [tu,hq]
 · cases h
end Go.Am
namespace Go.Am
open Go
def B2 (c:UInt8) (j:Int):Option UInt8:=if j<0 then none else some (UInt8.ofInt (IntKind.wrap .u8 ((c.toNat:Int)*2 ^ (min j.toNat 8))))
theorem Wl {k':IntKind} {c r:UInt8} {j:Int} (h:B2 c j=some r):bD .shl (b8 c) (.int k' j)=some (b8 r):=by
 unfold B2 at h
 split at h
 · cases h
 · rename_i hj
   injection h with h
   subst h
   simp only [bD,b8,if_neg hj,IntKind.bits]
   generalize (c.toNat:Int)*2 ^ (min j.toNat 8)=z
   congr 2
   have h1:IntKind.wrap .u8 z=z % 256:=by
    simp [IntKind.wrap,IntKind.bits,IntKind.signed]
   rw [h1]
   have h2:0≤z % 256:=by omega
   have h3:z % 256<256:=by omega
   obtain ⟨n,hn⟩:∃n:Nat,z % 256=(n:Int):=⟨(z % 256).toNat,by omega⟩
   rw [hn]
   have:n<256:=by omega
   simp [UInt8.ofInt]
   omega
end Go.Am
end
section
namespace Go.Proofs
open Go.Shelf
def Tryz.I4:Go.Shelf.Ren:=⟨fun|137=>104|217=>112|266=>123|n=>n,fun|9=>9|5=>5|3=>3|n=>n,fun|n=>n⟩
theorem Tryz.Wm:Go.Proofs.Lays.n137 Tryz.prog Tryz.I4:= {
 mixed:=by kernel_rfl
 f137:=Tryz.func104.trans (congrArg some (by kernel_rfl))
 f217:=Tryz.func112.trans (congrArg some (by kernel_rfl))
 f266:=Tryz.func123.trans (congrArg some (by kernel_rfl))
 t3:=Tryz.underlying3
 a3:=Tryz.isAgg3
 z3:=Tryz.sizeOf3
 v3:=Tryz.zeroValue3
 t5:=Tryz.underlying5
 a5:=Tryz.isAgg5
 z5:=Tryz.sizeOf5
 v5:=Tryz.zeroValue5
 t9:=Tryz.underlying9
 a9:=Tryz.isAgg9
 z9:=Tryz.sizeOf9
 v9:=Tryz.zeroValue9}
open Go.RowKit in
theorem Tryz.strings_IndexByte (s:ByteArray) (c:Int) (w:World):
 Calls Tryz.prog 104 #[.string s, .int .u8 c] w fun e w'=>e= .returned (.int .i64 (Lib.indexByte s.data.toList c.toNat.toUInt8))∧w'=w:=Any.strings_IndexByte Tryz.Wm s c w
def Tryz.Gk:Go.Shelf.Ren:=⟨fun|171=>98|243=>107|246=>118|283=>127|284=>128|285=>129|286=>130|129=>135|317=>134|318=>136|319=>137|320=>138|337=>139|338=>140|n=>n,fun|3=>3|9=>9|2=>2|4=>4|171=>140|0=>0|53=>104|37=>34|5=>5|173=>143|212=>157|51=>24|20=>20|213=>158|46=>51|232=>162|233=>163|n=>n,fun|17=>5|18=>6|19=>7|n=>n⟩
theorem Tryz.S3:Go.Proofs.LaysM.n171 Tryz.prog Tryz.Gk:= {
 mixed:=by kernel_rfl
 f129:=Tryz.func135.trans (congrArg some (by kernel_rfl))
 f171:=Tryz.func98.trans (congrArg some (by kernel_rfl))
 f243:=Tryz.func107.trans (congrArg some (by kernel_rfl))
 f246:=Tryz.func118.trans (congrArg some (by kernel_rfl))
 f283:=Tryz.func127.trans (congrArg some (by kernel_rfl))
 f284:=Tryz.func128.trans (congrArg some (by kernel_rfl))
 f285:=Tryz.func129.trans (congrArg some (by kernel_rfl))
 f286:=Tryz.func130.trans (congrArg some (by kernel_rfl))
 f317:=Tryz.func134.trans (congrArg some (by kernel_rfl))
 f318:=Tryz.func136.trans (congrArg some (by kernel_rfl))
 f319:=Tryz.func137.trans (congrArg some (by kernel_rfl))
 f320:=Tryz.func138.trans (congrArg some (by kernel_rfl))
 f337:=Tryz.func139.trans (congrArg some (by kernel_rfl))
 f338:=Tryz.func140.trans (congrArg some (by kernel_rfl))
 t0:=Tryz.underlying0
 a0:=Tryz.isAgg0
 z0:=Tryz.sizeOf0
 v0:=Tryz.zeroValue0
 t2:=Tryz.underlying2
 a2:=Tryz.isAgg2
 z2:=Tryz.sizeOf2
 v2:=Tryz.zeroValue2
 t3:=Tryz.underlying3
 a3:=Tryz.isAgg3
 z3:=Tryz.sizeOf3
 v3:=Tryz.zeroValue3
 t4:=Tryz.underlying4
 a4:=Tryz.isAgg4
 z4:=Tryz.sizeOf4
 v4:=Tryz.zeroValue4
 t5:=Tryz.underlying5
 a5:=Tryz.isAgg5
 z5:=Tryz.sizeOf5
 v5:=Tryz.zeroValue5
 t9:=Tryz.underlying9
 a9:=Tryz.isAgg9
 z9:=Tryz.sizeOf9
 v9:=Tryz.zeroValue9
 t20:=Tryz.underlying20
 a20:=Tryz.isAgg20
 z20:=Tryz.sizeOf20
 v20:=Tryz.zeroValue20
 t37:=Tryz.underlying34
 a37:=Tryz.isAgg34
 z37:=Tryz.sizeOf34
 v37:=Tryz.zeroValue34
 t46:=Tryz.underlying51
 a46:=Tryz.isAgg51
 z46:=Tryz.sizeOf51
 v46:=Tryz.zeroValue51
 t51:=Tryz.underlying24
 a51:=Tryz.isAgg24
 z51:=Tryz.sizeOf24
 v51:=Tryz.zeroValue24
 t53:=Tryz.underlying104
 a53:=Tryz.isAgg104
 z53:=Tryz.sizeOf104
 v53:=Tryz.zeroValue104
 t171:=Tryz.underlying140
 a171:=Tryz.isAgg140
 z171:=Tryz.sizeOf140
 v171:=Tryz.zeroValue140
 t173:=Tryz.underlying143
 a173:=Tryz.isAgg143
 z173:=Tryz.sizeOf143
 v173:=Tryz.zeroValue143
 t212:=Tryz.underlying157
 a212:=Tryz.isAgg157
 z212:=Tryz.sizeOf157
 v212:=Tryz.zeroValue157
 t213:=Tryz.underlying158
 a213:=Tryz.isAgg158
 z213:=Tryz.sizeOf158
 t232:=Tryz.underlying162
 a232:=Tryz.isAgg162
 z232:=Tryz.sizeOf162
 v232:=Tryz.zeroValue162
 t233:=Tryz.underlying163
 a233:=Tryz.isAgg163
 z233:=Tryz.sizeOf163
 v233:=Tryz.zeroValue163
 g17:=by kernel_rfl
 g18:=by kernel_rfl
 g19:=by kernel_rfl
 i0:=by kernel_rfl
 i2:=by kernel_rfl
 i3:=by kernel_rfl
 i4:=by kernel_rfl
 i5:=by kernel_rfl
 i9:=by kernel_rfl
 i20:=by kernel_rfl
 i37:=by kernel_rfl
 i46:=by kernel_rfl
 i51:=by kernel_rfl
 i53:=by kernel_rfl
 i171:=by kernel_rfl
 i173:=by kernel_rfl
 i212:=by kernel_rfl
 i232:=by kernel_rfl
 i233:=by kernel_rfl
 m17:=by kernel_rfl
 m18:=by kernel_rfl
 m19:=by kernel_rfl}
open Go.RowKit Go.Sort Go.Lib in
theorem Tryz.strconv_Itoa (n:Int) (h0: -9223372036854775808≤n) (h1:n≤9223372036854775807) (w:World) (htab:Lib.TabIs Tryz.prog w "internal/strconv.uint64pow10" .u64 Lib.pow10Tab):
 Calls Tryz.prog 98 #[.int .i64 n] w fun e w'=>e= .returned (.string ⟨(Lib.itoa n).toArray⟩)∧∃k os,w'=grow (w.drewN k) os:=Any.strconv_Itoa Tryz.S3 n h0 h1 w htab
def Tryz.Gl:Go.Shelf.Ren:=⟨fun|172=>97|244=>105|245=>106|247=>113|279=>114|280=>115|281=>116|282=>117|287=>124|316=>125|171=>98|205=>126|321=>132|322=>133|243=>107|246=>118|283=>127|284=>128|285=>129|286=>130|129=>135|317=>134|318=>136|319=>137|320=>138|337=>139|338=>140|n=>n,fun|9=>9|3=>3|75=>116|76=>117|4=>4|5=>5|167=>127|37=>34|0=>0|85=>128|2=>2|168=>130|53=>104|175=>134|46=>51|210=>138|127=>152|145=>155|143=>153|21=>21|171=>140|173=>143|212=>157|51=>24|20=>20|213=>158|232=>162|233=>163|80=>85|n=>n,fun|15=>1|16=>2|17=>5|18=>6|19=>7|n=>n⟩
theorem Tryz.B3:Go.Proofs.LaysC.n172 Tryz.prog Tryz.Gl:= {
 mixed:=by kernel_rfl
 f129:=Tryz.func135.trans (congrArg some (by kernel_rfl))
 f171:=Tryz.func98.trans (congrArg some (by kernel_rfl))
 f172:=Tryz.func97.trans (congrArg some (by kernel_rfl))
 f205:=Tryz.func126.trans (congrArg some (by kernel_rfl))
 f243:=Tryz.func107.trans (congrArg some (by kernel_rfl))
 f244:=Tryz.func105.trans (congrArg some (by kernel_rfl))
 f245:=Tryz.func106.trans (congrArg some (by kernel_rfl))
 f246:=Tryz.func118.trans (congrArg some (by kernel_rfl))
 f247:=Tryz.func113.trans (congrArg some (by kernel_rfl))
 f279:=Tryz.func114.trans (congrArg some (by kernel_rfl))
 f280:=Tryz.func115.trans (congrArg some (by kernel_rfl))
 f281:=Tryz.func116.trans (congrArg some (by kernel_rfl))
 f282:=Tryz.func117.trans (congrArg some (by kernel_rfl))
 f283:=Tryz.func127.trans (congrArg some (by kernel_rfl))
 f284:=Tryz.func128.trans (congrArg some (by kernel_rfl))
 f285:=Tryz.func129.trans (congrArg some (by kernel_rfl))
 f286:=Tryz.func130.trans (congrArg some (by kernel_rfl))
 f287:=Tryz.func124.trans (congrArg some (by kernel_rfl))
 f316:=Tryz.func125.trans (congrArg some (by kernel_rfl))
 f317:=Tryz.func134.trans (congrArg some (by kernel_rfl))
 f318:=Tryz.func136.trans (congrArg some (by kernel_rfl))
 f319:=Tryz.func137.trans (congrArg some (by kernel_rfl))
 f320:=Tryz.func138.trans (congrArg some (by kernel_rfl))
 f321:=Tryz.func132.trans (congrArg some (by kernel_rfl))
 f322:=Tryz.func133.trans (congrArg some (by kernel_rfl))
 f337:=Tryz.func139.trans (congrArg some (by kernel_rfl))
 f338:=Tryz.func140.trans (congrArg some (by kernel_rfl))
 t0:=Tryz.underlying0
 a0:=Tryz.isAgg0
 z0:=Tryz.sizeOf0
 v0:=Tryz.zeroValue0
 t2:=Tryz.underlying2
 a2:=Tryz.isAgg2
 z2:=Tryz.sizeOf2
 v2:=Tryz.zeroValue2
 t3:=Tryz.underlying3
 a3:=Tryz.isAgg3
 z3:=Tryz.sizeOf3
 v3:=Tryz.zeroValue3
 t4:=Tryz.underlying4
 a4:=Tryz.isAgg4
 z4:=Tryz.sizeOf4
 v4:=Tryz.zeroValue4
 t5:=Tryz.underlying5
 a5:=Tryz.isAgg5
 z5:=Tryz.sizeOf5
 v5:=Tryz.zeroValue5
 t9:=Tryz.underlying9
 a9:=Tryz.isAgg9
 z9:=Tryz.sizeOf9
 v9:=Tryz.zeroValue9
 t20:=Tryz.underlying20
 a20:=Tryz.isAgg20
 z20:=Tryz.sizeOf20
 v20:=Tryz.zeroValue20
 t21:=Tryz.underlying21
 a21:=Tryz.isAgg21
 z21:=Tryz.sizeOf21
 v21:=Tryz.zeroValue21
 t37:=Tryz.underlying34
 a37:=Tryz.isAgg34
 z37:=Tryz.sizeOf34
 v37:=Tryz.zeroValue34
 t46:=Tryz.underlying51
 a46:=Tryz.isAgg51
 z46:=Tryz.sizeOf51
 v46:=Tryz.zeroValue51
 t51:=Tryz.underlying24
 a51:=Tryz.isAgg24
 z51:=Tryz.sizeOf24
 v51:=Tryz.zeroValue24
 t53:=Tryz.underlying104
 a53:=Tryz.isAgg104
 z53:=Tryz.sizeOf104
 v53:=Tryz.zeroValue104
 t75:=Tryz.underlying116
 a75:=Tryz.isAgg116
 z75:=Tryz.sizeOf116
 v75:=Tryz.zeroValue116
 t76:=Tryz.underlying117
 a76:=Tryz.isAgg117
 z76:=Tryz.sizeOf117
 v76:=Tryz.zeroValue117
 t85:=Tryz.underlying128
 a85:=Tryz.isAgg128
 z85:=Tryz.sizeOf128
 v85:=Tryz.zeroValue128
 t127:=Tryz.underlying152
 a127:=Tryz.isAgg152
 z127:=Tryz.sizeOf152
 v127:=Tryz.zeroValue152
 t143:=Tryz.underlying153
 a143:=Tryz.isAgg153
 z143:=Tryz.sizeOf153
 v143:=Tryz.zeroValue153
 t145:=Tryz.underlying155
 a145:=Tryz.isAgg155
 z145:=Tryz.sizeOf155
 v145:=Tryz.zeroValue155
 t167:=Tryz.underlying127
 a167:=Tryz.isAgg127
 z167:=Tryz.sizeOf127
 v167:=Tryz.zeroValue127
 t168:=Tryz.underlying130
 a168:=Tryz.isAgg130
 z168:=Tryz.sizeOf130
 v168:=Tryz.zeroValue130
 t171:=Tryz.underlying140
 a171:=Tryz.isAgg140
 z171:=Tryz.sizeOf140
 v171:=Tryz.zeroValue140
 t173:=Tryz.underlying143
 a173:=Tryz.isAgg143
 z173:=Tryz.sizeOf143
 v173:=Tryz.zeroValue143
 t175:=Tryz.underlying134
 a175:=Tryz.isAgg134
 z175:=Tryz.sizeOf134
 v175:=Tryz.zeroValue134
 t210:=Tryz.underlying138
 a210:=Tryz.isAgg138
 z210:=Tryz.sizeOf138
 v210:=Tryz.zeroValue138
 t212:=Tryz.underlying157
 a212:=Tryz.isAgg157
 z212:=Tryz.sizeOf157
 v212:=Tryz.zeroValue157
 t213:=Tryz.underlying158
 a213:=Tryz.isAgg158
 z213:=Tryz.sizeOf158
 t232:=Tryz.underlying162
 a232:=Tryz.isAgg162
 z232:=Tryz.sizeOf162
 v232:=Tryz.zeroValue162
 t233:=Tryz.underlying163
 a233:=Tryz.isAgg163
 z233:=Tryz.sizeOf163
 v233:=Tryz.zeroValue163
 g15:=by kernel_rfl
 g16:=by kernel_rfl
 g17:=by kernel_rfl
 g18:=by kernel_rfl
 g19:=by kernel_rfl
 t80:=Tryz.underlying85
 a80:=Tryz.isAgg85
 z80:=Tryz.sizeOf85
 v80:=Tryz.zeroValue85
 i0:=by kernel_rfl
 i2:=by kernel_rfl
 i3:=by kernel_rfl
 i4:=by kernel_rfl
 i5:=by kernel_rfl
 i9:=by kernel_rfl
 i20:=by kernel_rfl
 i21:=by kernel_rfl
 i37:=by kernel_rfl
 i46:=by kernel_rfl
 i51:=by kernel_rfl
 i53:=by kernel_rfl
 i75:=by kernel_rfl
 i76:=by kernel_rfl
 i80:=by kernel_rfl
 i85:=by kernel_rfl
 i127:=by kernel_rfl
 i143:=by kernel_rfl
 i145:=by kernel_rfl
 i167:=by kernel_rfl
 i168:=by kernel_rfl
 i171:=by kernel_rfl
 i173:=by kernel_rfl
 i175:=by kernel_rfl
 i210:=by kernel_rfl
 i212:=by kernel_rfl
 i232:=by kernel_rfl
 i233:=by kernel_rfl
 m15:=by kernel_rfl
 m16:=by kernel_rfl
 m17:=by kernel_rfl
 m18:=by kernel_rfl
 m19:=by kernel_rfl
 c0:=by kernel_rfl
 c2:=by kernel_rfl
 c3:=by kernel_rfl
 c4:=by kernel_rfl
 c5:=by kernel_rfl
 c9:=by kernel_rfl
 c20:=by kernel_rfl
 c21:=by kernel_rfl
 c37:=by kernel_rfl
 c46:=by kernel_rfl
 c51:=by kernel_rfl
 c53:=by kernel_rfl
 c75:=by kernel_rfl
 c76:=by kernel_rfl
 c80:=by kernel_rfl
 c85:=by kernel_rfl
 c127:=by kernel_rfl
 c143:=by kernel_rfl
 c145:=by kernel_rfl
 c167:=by kernel_rfl
 c168:=by kernel_rfl
 c171:=by kernel_rfl
 c173:=by kernel_rfl
 c175:=by kernel_rfl
 c210:=by kernel_rfl
 c212:=by kernel_rfl
 c213:=by kernel_rfl
 c232:=by kernel_rfl
 c233:=by kernel_rfl}
open Go.RowKit in
theorem Tryz.strconv_Atoi_ok (s:ByteArray) (hmax:s.size≤9223372036854775806) (v:Int) (h:Lib.atoiAll s.data.toList= .ok v) (w:World):
 Calls Tryz.prog 97 #[.string s] w fun e w'=>e= .returned (.tuple #[.int .i64 v, .nilIface])∧(w'=w∨∃t,w'=Lib.bytesWorld w 5 t):=Any.strconv_Atoi_ok Tryz.B3 s hmax v h w
open Go.RowKit in
theorem Tryz.strconv_Atoi_syntax (s:ByteArray) (hlim:s.size≤281474976710656) (h:Lib.atoiAll s.data.toList=Go.Lib.NumEnd.syntax) (ev:Value) (w:World) (hv:w.cell? ⟨1,0,none⟩=some ev) (hev:ev= .nilIface∨∃te pe,ev= .iface te pe):
 Calls Tryz.prog 97 #[.string s] w fun e w'=>∃N,e= .returned (.tuple #[.int .i64 (0), .iface 130 (.pointer (some ⟨N,0,none⟩))])∧w.heap.size≤N∧w'.heap[N]? =some (.cells #[.string ⟨#[65,116,111,105]⟩, .string s,ev] 138 (0,0))∧Below w.heap.size w w':=Any.strconv_Atoi_syntax Tryz.B3 s hlim h ev w hv hev
open Go.RowKit in
theorem Tryz.strconv_Atoi_range (s:ByteArray) (hlim:s.size≤281474976710656) (h:Lib.atoiAll s.data.toList= .range) (ev:Value) (w:World) (hv:w.cell? ⟨2,0,none⟩=some ev) (hev:ev= .nilIface∨∃te pe,ev= .iface te pe):
 Calls Tryz.prog 97 #[.string s] w fun e w'=>∃N,e= .returned (.tuple #[.int .i64 (Lib.atoiSat s.data.toList), .iface 130 (.pointer (some ⟨N,0,none⟩))])∧w.heap.size≤N∧w'.heap[N]? =some (.cells #[.string ⟨#[65,116,111,105]⟩, .string s,ev] 138 (0,0))∧Below w.heap.size w w':=Any.strconv_Atoi_range Tryz.B3 s hlim h ev w hv hev
def Tryz.I5:Go.Shelf.Ren:=⟨fun|146=>80|221=>91|268=>101|138=>102|143=>103|195=>108|197=>109|218=>110|219=>111|260=>119|217=>112|225=>120|224=>121|267=>122|266=>123|314=>131|n=>n,fun|9=>9|31=>111|3=>3|4=>4|0=>0|105=>125|21=>21|5=>5|46=>51|119=>145|139=>148|138=>147|146=>149|51=>24|n=>n,fun|1=>0|3=>3|4=>4|n=>n⟩
theorem Tryz.Wn:Go.Proofs.Lays.n146 Tryz.prog Tryz.I5:= {
 mixed:=by kernel_rfl
 f138:=Tryz.func102.trans (congrArg some (by kernel_rfl))
 f143:=Tryz.func103.trans (congrArg some (by kernel_rfl))
 f146:=Tryz.func80.trans (congrArg some (by kernel_rfl))
 f195:=Tryz.func108.trans (congrArg some (by kernel_rfl))
 f197:=Tryz.func109.trans (congrArg some (by kernel_rfl))
 f217:=Tryz.func112.trans (congrArg some (by kernel_rfl))
 f218:=Tryz.func110.trans (congrArg some (by kernel_rfl))
 f219:=Tryz.func111.trans (congrArg some (by kernel_rfl))
 f221:=Tryz.func91.trans (congrArg some (by kernel_rfl))
 f224:=Tryz.func121.trans (congrArg some (by kernel_rfl))
 f225:=Tryz.func120.trans (congrArg some (by kernel_rfl))
 f260:=Tryz.func119.trans (congrArg some (by kernel_rfl))
 f266:=Tryz.func123.trans (congrArg some (by kernel_rfl))
 f267:=Tryz.func122.trans (congrArg some (by kernel_rfl))
 f268:=Tryz.func101.trans (congrArg some (by kernel_rfl))
 f314:=Tryz.func131.trans (congrArg some (by kernel_rfl))
 t0:=Tryz.underlying0
 a0:=Tryz.isAgg0
 z0:=Tryz.sizeOf0
 v0:=Tryz.zeroValue0
 t3:=Tryz.underlying3
 a3:=Tryz.isAgg3
 z3:=Tryz.sizeOf3
 v3:=Tryz.zeroValue3
 t4:=Tryz.underlying4
 a4:=Tryz.isAgg4
 z4:=Tryz.sizeOf4
 v4:=Tryz.zeroValue4
 t5:=Tryz.underlying5
 a5:=Tryz.isAgg5
 z5:=Tryz.sizeOf5
 v5:=Tryz.zeroValue5
 t9:=Tryz.underlying9
 a9:=Tryz.isAgg9
 z9:=Tryz.sizeOf9
 v9:=Tryz.zeroValue9
 t21:=Tryz.underlying21
 a21:=Tryz.isAgg21
 z21:=Tryz.sizeOf21
 v21:=Tryz.zeroValue21
 t31:=Tryz.underlying111
 a31:=Tryz.isAgg111
 z31:=Tryz.sizeOf111
 v31:=Tryz.zeroValue111
 t46:=Tryz.underlying51
 a46:=Tryz.isAgg51
 z46:=Tryz.sizeOf51
 v46:=Tryz.zeroValue51
 t51:=Tryz.underlying24
 a51:=Tryz.isAgg24
 z51:=Tryz.sizeOf24
 v51:=Tryz.zeroValue24
 t105:=Tryz.underlying125
 a105:=Tryz.isAgg125
 z105:=Tryz.sizeOf125
 v105:=Tryz.zeroValue125
 t119:=Tryz.underlying145
 a119:=Tryz.isAgg145
 z119:=Tryz.sizeOf145
 t138:=Tryz.underlying147
 a138:=Tryz.isAgg147
 z138:=Tryz.sizeOf147
 v138:=Tryz.zeroValue147
 t139:=Tryz.underlying148
 a139:=Tryz.isAgg148
 z139:=Tryz.sizeOf148
 v139:=Tryz.zeroValue148
 t146:=Tryz.underlying149
 a146:=Tryz.isAgg149
 z146:=Tryz.sizeOf149
 v146:=Tryz.zeroValue149
 g1:=by kernel_rfl
 g3:=by kernel_rfl
 g4:=by kernel_rfl}
open Go.RowKit Go.Lib in
theorem Tryz.strings_Split (s sep:ByteArray) (m:Int) (w:World) (hs:s.size<4294967281) (hm:w.cell? ⟨0,0,none⟩=some (.int .i64 m)) (h1:1≤sep.size):
 Calls Tryz.prog 80 #[.string s, .string sep] w fun e w'=>
  e= .returned (.slice (some ⟨w.heap.size,0,none⟩) (Lib.countB s sep+1) (Lib.countB s sep+1))∧w'=w.alloc (.cells ((Lib.splitB sep 0 (Lib.countB s sep) s).map Value.string).toArray 9):=Any.strings_Split Tryz.Wn (by kernel_rfl) s sep m w hs hm h1
end Go.Proofs
end
section
set_option maxRecDepth 100000
namespace Go.Proofs.cC
open Go Go.Am Go.Proofs
def EL (cs:Array Value):Prop:=∃ev,cs= #[ev]∧(ev= .nilIface∨∃te pe,ev= .iface te pe)
instance xK:Tabs:=⟨[(0,fun cs=>∃m,cs= #[.int .i64 m]),(5,fun cs=>cs=(Lib.pow10Tab.map fun z=>Value.int .u64 z).toArray),(1,EL),(2,EL)]⟩
theorem ac6 {F:Nat→Prop} {w:World} (hF:FL F w) {g:Nat} {p:Array Value→Prop} (hm:(g,p)∈Tabs.l) {v:Value} (hp:∀cs,p cs→cs[0]? =some v∨True):∃cs ty fr,w.heap[g]? =some (.cells cs ty fr)∧p cs:=(hF.JS _ hm).2
theorem cell_of {w:World} {g:Nat} {v:Value} {ty:TypeId} {fr:Nat×Nat} (h:w.heap[g]? =some (.cells #[v] ty fr)):w.cell? ⟨g,0,none⟩=some v:=by
 simp [World.cell?,h]
theorem S4 {F:Nat→Prop} {w:World} (hF:FL F w):∃m,w.cell? ⟨0,0,none⟩=some (.int .i64 m):=by
 obtain ⟨-,cs,ty,fr,h,m,rfl⟩:=hF.JS (0,fun cs=>∃m,cs= #[.int .i64 m]) (by simp [Tabs.l,xK])
 exact ⟨m,cell_of h⟩
theorem Hu {F:Nat→Prop} {w:World} (hF:FL F w) {g:Nat} (hm:(g,EL)∈Tabs.l):∃ev,w.cell? ⟨g,0,none⟩=some ev∧(ev= .nilIface∨∃te pe,ev= .iface te pe):=by
 obtain ⟨-,cs,ty,fr,h,ev,rfl,he⟩:=hF.JS _ hm
 exact ⟨ev,cell_of h,he⟩
theorem args1 {γ:List Nat} {C:Nat→List Value} {vs:Array Value} {a:AV} {v:Value} (hl:vs.size=[a].length) (h:vs.getD 0 undef=v):vs= #[v]:=by
 apply Array.ext
 · simpa using hl
 · intro i h1 h2
   simp at h2;subst h2
   simpa [Array.getD_eq_getD_getElem?,Array.getElem?_eq_getElem h1] using h
theorem args2 {vs:Array Value} {a b:AV} {v u:Value} (hl:vs.size=[a,b].length) (h:vs.getD 0 undef=v) (h':vs.getD 1 undef=u):vs= #[v,u]:=by
 apply Array.ext
 · simpa using hl
 · intro i h1 h2
   have:i=0∨i=1:=by simp at h2;omega
   rcases this with rfl|rfl
   · simpa [Array.getD_eq_getD_getElem?,Array.getElem?_eq_getElem h1] using h
   · simpa [Array.getD_eq_getD_getElem?,Array.getElem?_eq_getElem h1] using h'
def strconv_Itoa (n:Int):Option (List UInt8):=if -9223372036854775808≤n∧n≤9223372036854775807 then some (Lib.itoa n) else none
theorem B4 {i1:Int} {H0:AH} {r0:List UInt8} (h:strconv_Itoa i1=some r0):aG Tryz.prog 98 [(.int .i64 i1)] H0 fun v H'=>v=(.str r0)∧H'=H0:=by
 unfold strconv_Itoa at h
 obtain ⟨⟨h0,h1⟩,h⟩:=UA h
 injection h with h
 subst h
 exact Lj i1 (by kernel_rfl) (fun F w hF=>SX hF (g:=5) (by simp [Tabs.l,xK]) (by kernel_rfl)) (fun w ht=>Tryz.strconv_Itoa i1 h0 h1 w ht)
def strings_IndexByte (s:List UInt8) (c:UInt8):Option Int:=some (Lib.indexByte s c)
theorem vu {s1:List UInt8} {c2:UInt8} {H0:AH} {r0:Int} (h:strings_IndexByte s1 c2=some r0):aG Tryz.prog 104 [(.str s1),(b8 c2)] H0 fun v H'=>v=(.int .i64 r0)∧H'=H0:=by
 unfold strings_IndexByte at h
 injection h with h
 subst h
 refine aG.aau rfl (by simp) (by kernel_rfl) fun F C γ w vs hF hl hv=> ?_
 have h0:=(hv 0 _ rfl).eP
 have h1:=VR.cS (hv 1 _ rfl)
 obtain rfl:=args2 hl h0 h1
 refine (Tryz.strings_IndexByte ⟨s1.toArray⟩ _ w).mono ?_
 rintro e w' ⟨rfl,rfl⟩
 refine ⟨_,rfl, ?_,by simp [TC],fun _ _=>rfl,Nat.le_refl _,rfl,rfl,rfl⟩
 have:(c2.toNat:Int).toNat.toUInt8=c2:=by simp
 rw [this]
 exact .int ..
def strconv_Atoi (s:List UInt8):Option (Int×Bool):=if s.length≤281474976710656 then some (match Lib.atoiAll s with| .ok v=>(v,false)|Go.Lib.NumEnd.syntax=>(0,true)| .range=>(Lib.atoiSat s,true)) else none
theorem strconv_Atoi_ok {s1:List UInt8} {H0:AH} {r0:Int} {r1:Bool} (h:strconv_Atoi s1=some (r0,r1)):aG Tryz.prog 97 [(.str s1)] H0 fun v H'=>v=(.bK [(.int .i64 r0),(dW r1)])∧H'=H0:=by
 unfold strconv_Atoi at h
 obtain ⟨hs,h⟩:=UA h
 injection h with h
 refine aG.aau rfl (by simp) (by kernel_rfl) fun F C γ w vs hF hl hv=> ?_
 have h0:=(hv 0 _ rfl).eP
 obtain rfl:=args1 (γ:=γ) (C:=C) hl h0
 have hsz:(⟨s1.toArray⟩:ByteArray).size=s1.length:=by simp [ByteArray.size]
 have hd:(⟨s1.toArray⟩:ByteArray).data.toList=s1:=by simp
 rcases Dn:Lib.atoiAll s1 with v|_|_
 · rw [Dn] at h
   injection h with ha hb
   subst ha hb
   refine (Tryz.strconv_Atoi_ok ⟨s1.toArray⟩ (by omega) v (by rw [hd];exact Dn) w).mono ?_
   rintro e w' ⟨rfl,hw⟩
   refine ⟨_,rfl, ?_, ?_, ?_⟩
   · refine .bK _ _ _ rfl fun i a hi=> ?_
     match i,hi with
     |0,hi=>injection hi with hi;subst hi;exact .int ..
     |1,hi=>injection hi with hi;subst hi;exact .v _ _ rfl
   · intro i a hi
     match i,hi with
     |0,hi=>injection hi with hi;subst hi;trivial
     |1,hi=>injection hi with hi;subst hi;trivial
   · rcases hw with rfl|⟨t,rfl⟩
     · exact ⟨fun _ _=>rfl,Nat.le_refl _,rfl,rfl,rfl⟩
     · exact ⟨fun b hb=>Lib.bytesWorld_at_old _ _ _ _ hb,by rw [Lib.bytesWorld_size];omega,rfl,rfl,rfl⟩
 · rw [Dn] at h
   injection h with ha hb
   subst ha hb
   obtain ⟨ev,hc,he⟩:=Hu hF (g:=1) (by simp [Tabs.l,xK])
   refine (Tryz.strconv_Atoi_syntax ⟨s1.toArray⟩ (by omega) (by rw [hd];exact Dn) ev w hc he).mono ?_
   rintro e w' ⟨N,rfl, -, -,hb⟩
   refine ⟨_,rfl, ?_, ?_,hb.block,hb.size,hb.os,hb.tape,hb.output⟩
   · refine .bK _ _ _ rfl fun i a hi=> ?_
     match i,hi with
     |0,hi=>injection hi with hi;subst hi;exact .int ..
     |1,hi=>injection hi with hi;subst hi;exact .dU ..
   · intro i a hi
     match i,hi with
     |0,hi=>injection hi with hi;subst hi;trivial
     |1,hi=>injection hi with hi;subst hi;trivial
 · rw [Dn] at h
   injection h with ha hb
   subst ha hb
   obtain ⟨ev,hc,he⟩:=Hu hF (g:=2) (by simp [Tabs.l,xK])
   refine (Tryz.strconv_Atoi_range ⟨s1.toArray⟩ (by omega) (by rw [hd];exact Dn) ev w hc he).mono ?_
   rintro e w' ⟨N,rfl, -, -,hb⟩
   refine ⟨_,rfl, ?_, ?_,hb.block,hb.size,hb.os,hb.tape,hb.output⟩
   · refine .bK _ _ _ rfl fun i a hi=> ?_
     match i,hi with
     |0,hi=>injection hi with hi;subst hi;simp only [hd];exact .int ..
     |1,hi=>injection hi with hi;subst hi;exact .dU ..
   · intro i a hi
     match i,hi with
     |0,hi=>injection hi with hi;subst hi;trivial
     |1,hi=>injection hi with hi;subst hi;trivial
theorem wE {sep:List UInt8} (h1:sep≠[]):∀(n:Nat) (l:List UInt8),Lib.count l sep=n→(Lib.splitK sep 0 n l).length=n+1
 |0,_,_=>rfl
 |n+1,l,h=>by
  rcases Lib.index_spec l sep with ⟨hi, -⟩|⟨i,hi, -, -, -⟩
  · rw [Lib.count_miss hi] at h;cases h
  · have hc:=Lib.count_hit h1 hi
    unfold Lib.splitK
    rw [if_neg (by rw [hi];simp),List.length_cons,wE h1 n _ (by rw [hi,Int.toNat_natCast];omega)]
def strings_Split (s sep:List UInt8):Option (List (List UInt8)):=if s.length<4294967281∧1≤sep.length then some (Lib.split s sep) else none
theorem iZ {s1 s2:List UInt8} {H0:AH} {r0:List (List UInt8)} (h:strings_Split s1 s2=some r0):aG Tryz.prog 80 [(.str s1),(.str s2)] H0 fun v H'=>v=(.sl .n 1 (ml AV.str r0))∧H'=H0:=by
 unfold strings_Split at h
 obtain ⟨⟨hs,hs2⟩,h⟩:=UA h
 injection h with h
 subst h
 refine aG.Wf (by kernel_rfl) fun F C γ w vs hF hl hv=> ?_
 obtain rfl:=args2 hl (hv 0 _ rfl).eP (hv 1 _ rfl).eP
 obtain ⟨m,hm⟩:=S4 hF
 have hsz:(⟨s1.toArray⟩:ByteArray).size=s1.length:=by simp [ByteArray.size]
 have afU:(⟨s2.toArray⟩:ByteArray).size=s2.length:=by simp [ByteArray.size]
 refine (Tryz.strings_Split ⟨s1.toArray⟩ ⟨s2.toArray⟩ m w (by omega) hm (by omega)).mono ?_
 rintro e w' ⟨rfl,rfl⟩
 have hd:(Lib.splitB ⟨s2.toArray⟩ 0 (Lib.countB ⟨s1.toArray⟩ ⟨s2.toArray⟩) ⟨s1.toArray⟩).map (·.data.toList)=Lib.split s1 s2:=by
  rw [Lib.splitB_data];simp [Lib.split,Lib.countB]
 have hlen:(Lib.split s1 s2).length=Lib.countB ⟨s1.toArray⟩ ⟨s2.toArray⟩+1:=by
  exact wE (by intro h;rw [h] at hs2;simp at hs2) _ _ rfl
 refine ⟨9,(0,0),by rw [hlen], ?_,by simp⟩
 rw [←hd,List.map_map]
 congr 3
end Go.Proofs.cC
end
section
set_option maxRecDepth 100000
namespace Go.Proofs.cC
open Go Go.Am Go.Proofs
open Nat renaming reduceEqDiff→nA,reduceLT→nB,reduceLeDiff→nC,reduceAdd→nD,reduceSub→nE,reduceMul→nF,reduceBEq→nG
set_option maxHeartbeats 2000000
structure aK where
 aq:List UInt8
 domain:List UInt8
 deriving DecidableEq
structure bl where
 cv:aK
 state:Int
 tries:Int
 next:Int
 code:Int
 why:List UInt8
 deriving DecidableEq
structure ak where
 av:aK
 born:Int
 size:Int
 sum:Int
 az:List bl
 deriving DecidableEq
structure aU where
 b:List UInt8
 deriving DecidableEq
structure aN where
 b:List UInt8
 err:Int
 deriving DecidableEq
structure aP where
 b:List UInt8
 eu:Int
 err:Int
 deriving DecidableEq
abbrev aA (x:bl):AV:= .agg [(.str x.cv.aq),(.str x.cv.domain),(.int .i64 x.state),(.int .i64 x.tries),(.int .i64 x.next),(.int .i64 x.code),(.str x.why)]
abbrev I6:aD:=(.seq (.rg [(aj 1 (.box (.t 0))),(aj 2 (.aZ (.c (.bool false))))]) (.seq (.rg [(aj 3 (.ld (.t 1) (some 2))),(aj 4 (.build [(.str []),(.str [])] [])),(aj 5 (.seq [.s, .s] false (.t 3) (.t 4))),(bh 2 5)]) .ret))
theorem I7:bx Tryz.prog 62 6 [(.tmp 2)] (erase I6):=⟨Tryz.f62,_,rfl,by decide,rfl,by kernel_rfl,rfl,rfl⟩
abbrev I8:List Nat:=[0,1,2]
def qb (a1:aK):Option (Bool):=
 some (decide (a1.aq=([]:List UInt8))&&decide (a1.domain=([]:List UInt8)))
theorem Gm {a1:aK} {H0:AH} {aM:Bool} (h:qb a1=some aM):
 aG Tryz.prog 62 [(.agg [(.str a1.aq),(.str a1.domain)])] H0 fun v H'=>v=(.bool aM)∧H'=H0:=by
 refine dX I7 I8 [] fun hcl K0 aO H hH hfr=> ?_
 clear hH
 have hle:=hfr.le
 rw [qb.eq_1] at h
 refine bT ?_
 obtain rfl:=aJ h
 exact aO _ _ _ bE (bp (Fr.app hfr) hcl (bC bw (.bool (decide (a1.aq=([]:List UInt8))&&decide (a1.domain=([]:List UInt8))))) bA bt ⟨rfl,rfl⟩)
abbrev qc:aD:=(.rg [(aB 3 0),(aj 4 (.bin .geq (.t 3) (.c (b8 32)))),(aB 5 4),(aF 6 (.mv (.t 0)) 5 true),(aF 7 (.bin .leq (.t 6) (.c (b8 126))) 5 true),(aj 8 (.pick (.t 5) (.t 7) (.c (.bool false)))),(bh 2 8)])
abbrev Dp:aD:=(.seq (.rg [(aj 2 (.aZ (.c (.bool false))))]) (.seq (.sem (erase qc)) .ret))
theorem Dq:bx Tryz.prog 76 9 [(.tmp 2)] (erase Dp):=⟨Tryz.f76,_,rfl,by decide,rfl,by kernel_rfl,rfl,rfl⟩
abbrev uV:List Nat:=[0,2]
def nQ (c1:UInt8):Option (Bool):=
 some ((decide (32≤c1))&&(decide (c1≤126)))
theorem xQ {c1:UInt8} {H:AH} {K:Exit→Env→AH→Prop}
 (kn:K .normal [(2,(.bool ((decide (32≤c1))&&(decide (c1≤126)))))] H):
 AX Tryz.prog uV 9 H.length (erase qc) K [(0,(b8 c1)),(2,(.bool false))] H:=by
 refine dj fun K' hK=> ?_
 refine aS ?_
 refine kD (fun hy1=> ?_) fun hy1=> ?_
 · refine bO hy1 ?_
   exact hK _ _ _ _ _ (dD hy1) ax kn
 · refine bO hy1 ?_
   exact hK _ _ _ _ _ (dD hy1) ax kn
theorem B5 {c1:UInt8} {H0:AH} {aM:Bool} (h:nQ c1=some aM):
 aG Tryz.prog 76 [(b8 c1)] H0 fun v H'=>v=(.bool aM)∧H'=H0:=by
 refine gz Dq uV fun hcl K0 aO=> ?_
 rw [nQ.eq_1] at h
 refine aS ?_
 refine cg ax (xQ (c1:=c1) ?_)
 refine aS ?_
 obtain rfl:=aJ h
 exact aO _ _ _ bE (aW hcl (bC bw (.bool ((decide (32≤c1))&&(decide (c1≤126))))) bA bt ⟨rfl,rfl⟩)
abbrev oN:aD:=(.seq (.rg [(aj 9 (.bin .lss (.t 8) (.t 7)))]) (.seq (.cond (.t 9) .skip (.exit 0)) (.seq (.blk 1 (.seq (.rg [(aB 10 8),(bh 5 10)]) (.seq (.rg [(aB 11 1),(aB 12 0),(aB 13 5),(aj 14 (.ixs (.t 12) (.t 13))),(aj 15 (.call (.t 11) [(.t 14)])),(aj 16 (.un .not (.t 15)))]) (.cond (.t 16) (.seq (.rg [(aj 4 (.aZ (.c (.bool false))))]) .ret) .skip)))) (.rg [(aj 17 (.bin .add (.t 8) (.c (.int .i64 1)))),(aB 8 17)]))))
abbrev Dr:aD:=(.seq (.rg [(aj 4 (.aZ (.c (.bool false))))]) (.seq (.seq (.rg [(aB 6 0),(aj 7 (.lens (.t 6))),(aj 8 (.mv (.c (.int .i64 0))))]) (.blk 0 (.loop (erase oN)))) (.seq (.rg [(aj 4 (.aZ (.c (.bool true))))]) .ret)))
theorem Ds:bx Tryz.prog 75 18 [(.tmp 4)] (erase Dr):=⟨Tryz.f75,_,rfl,by decide,rfl,by kernel_rfl,rfl,rfl⟩
abbrev uW:List Nat:=[0,1,4,5,7,8,9,16]
def eG (s1:List UInt8):(Bool×Int)→Option (St Bool Unit (Bool×Int))
 |(t2,t3)=>
  (if (decide (t3<(s1.length:Int))) then
   (idx s1 t3).bind fun x4=>
   (nQ x4).bind fun r5=>
   (if (!r5) then
    some (.ret false)
   else
    some (.cT (t2,(IntKind.wrap .i64 (t3+1)))))
  else
   some (.fJ ()))
def kE (F:Nat) (s1:List UInt8):Option (Bool):=
 ((iter (eG s1) F (false,0)).bind fun o8=>
 match o8 with
 | .inr ()=>
   some true
 | .inl r7=>
   some r7)
theorem xR {F:Nat} {t3:Int} {s1:List UInt8} {t2:Bool} {H:AH} {K:Exit→Env→AH→Prop} {o:(Bool)⊕(Unit)}
 (h:iter (eG s1) F (t2,t3)=some o)
 (dn:∀o':Unit,o= .inr o'→K (.exit 0) [] H)
 (kr:∀o':Bool,o= .inl o'→K .ret [(4,(.bool o'))] H):
 AX Tryz.prog uW 18 H.length (.loop (erase oN)) K [(0,(.str s1)),(1,(.fn 76 [])),(4,(.bool t2)),(7,(.int .i64 (s1.length:Int))),(8,(.int .i64 t3))] H:=by
 refine ji (fun s e H1=>match s with|(t2,t3)=>e=[(0,(.str s1)),(1,(.fn 76 [])),(4,(.bool t2)),(7,(.int .i64 (s1.length:Int))),(8,(.int .i64 t3))]∧H1=H) h ⟨rfl,rfl⟩ ?_
 rintro K' ⟨t2,t3⟩ st e H ⟨rfl,rfl⟩ h hN hB hR hX
 rw [eG.eq_1] at h
 refine aS ?_
 refine bX h (fun hy1 h=> ?_) fun hy1 h=> ?_
 · obtain ⟨x4,bg,h⟩:=ay h
   refine bO bg ?_
   obtain ⟨r5,bz,h⟩:=ay h
   refine bf ax (B5 bz) ?_
   refine aS ?_
   refine bX h (fun bu h=> ?_) fun bu h=> ?_
   · refine aS ?_
     obtain rfl:=aJ h
     exact hX _ _ _ _ _ eM aY ax (kr _ (hR _ rfl))
   · refine aS ?_
     obtain rfl:=aJ h
     exact hN _ rfl _ _ _ _ aY ax ⟨rfl,rfl⟩
 · refine aS ?_
   obtain rfl:=aJ h
   exact hX _ _ _ _ _ eM WE.nil ax (dn _ (hB _ rfl))
theorem B6 {F:Nat} {s1:List UInt8} {H0:AH} {aM:Bool} (h:kE F s1=some aM):
 aG Tryz.prog 75 [(.str s1),(.fn 76 [])] H0 fun v H'=>v=(.bool aM)∧H'=H0:=by
 refine gz Ds uW fun hcl K0 aO=> ?_
 rw [kE.eq_1] at h
 refine aS ?_
 obtain ⟨o8,bV,h⟩:=ay h
 refine cg ax (xR bV ?_ ?_)
 · rintro ⟨⟩ rfl
   try dsimp only at h
   refine aS ?_
   obtain rfl:=aJ h
   exact aO _ _ _ bE (aW hcl (bC bw (.bool true)) bA bt ⟨rfl,rfl⟩)
 · rintro r7 rfl
   try dsimp only at h
   refine aS ?_
   obtain rfl:=aJ h
   exact aO _ _ _ bE (aW hcl (bC bw (.bool r7)) bA bt ⟨rfl,rfl⟩)
abbrev tB:aD:=(.rg [(aB 3 0),(aj 4 (.bin .neq (.t 3) (.c (.str [])))),(aB 5 4),(aF 6 (.mv (.t 0)) 5 true),(aF 7 (.lens (.t 6)) 5 true),(aF 8 (.bin .leq (.t 7) (.c (.int .i64 64))) 5 true),(aj 9 (.pick (.t 5) (.t 8) (.c (.bool false)))),(aB 10 9),(aF 11 (.mv (.t 0)) 10 true),(aF 12 (.call (.c (.fn 75 [])) [(.t 11),(.c (.fn 76 []))]) 10 true),(aj 13 (.pick (.t 10) (.t 12) (.c (.bool false)))),(bh 2 13)])
abbrev Gn:aD:=(.seq (.rg [(aj 2 (.aZ (.c (.bool false))))]) (.seq (.sem (erase tB)) .ret))
theorem Gp:bx Tryz.prog 63 14 [(.tmp 2)] (erase Gn):=⟨Tryz.f63,_,rfl,by decide,rfl,by kernel_rfl,rfl,rfl⟩
abbrev yF:List Nat:=[0,2]
def mg (F:Nat) (s1:List UInt8):Option (Bool):=
 (if (!decide (s1=([]:List UInt8))) then
  (if (decide ((s1.length:Int)≤64)) then
   (kE F s1).bind fun r2=>some r2
  else
   some false)
 else
  some false)
def n9 (F:Nat) (s1:List UInt8):Option (Bool):=
 (mg F s1).bind fun t4=>
 some t4
theorem AI {F:Nat} {s1:List UInt8} {H:AH} {K:Exit→Env→AH→Prop} {t3:Bool}
 (h:mg F s1=some t3)
 (kn:K .normal [(2,(.bool t3))] H):
 AX Tryz.prog yF 14 H.length (erase tB) K [(0,(.str s1)),(2,(.bool false))] H:=by
 refine dj fun K' hK=> ?_
 rw [mg.eq_1] at h
 refine aS ?_
 refine cq h (fun hy1 h=> ?_) fun hy1 h=> ?_
 · refine bO hy1 ?_
   refine cq h (fun bg h=> ?_) fun bg h=> ?_
   · refine bO bg ?_
     obtain ⟨r2,bz,h⟩:=ay h
     refine bf ax (B6 bz) ?_
     refine aS ?_
     obtain rfl:=aJ h
     exact hK _ _ _ _ _ aY ax kn
   · refine bO bg ?_
     obtain rfl:=aJ h
     exact hK _ _ _ _ _ aY ax kn
 · refine bO hy1 ?_
   obtain rfl:=aJ h
   exact hK _ _ _ _ _ aY ax kn
theorem EM {F:Nat} {s1:List UInt8} {H0:AH} {aM:Bool} (h:n9 F s1=some aM):
 aG Tryz.prog 63 [(.str s1)] H0 fun v H'=>v=(.bool aM)∧H'=H0:=by
 refine gz Gp yF fun hcl K0 aO=> ?_
 rw [n9.eq_1] at h
 refine aS ?_
 obtain ⟨t4,bu,h⟩:=ay h
 refine cg ax (AI bu ?_)
 refine aS ?_
 obtain rfl:=aJ h
 exact aO _ _ _ bE (aW hcl (bC bw (.bool t4)) bA bt ⟨rfl,rfl⟩)
abbrev rM:aD:=(.rg [(aB 10 4),(aj 11 (.iq false (.t 10) (.c (.v .nilIface)))),(aB 12 11),(aF 13 (.mv (.t 3)) 12 true),(aF 14 (.bin .geq (.t 13) (.c (.int .i64 0))) 12 true),(aj 15 (.pick (.t 12) (.t 14) (.c (.bool false)))),(aB 16 15),(aF 17 (.mv (.t 3)) 16 true),(aF 18 (.bin .leq (.t 17) (.c (.int .i64 255))) 16 true),(aj 19 (.pick (.t 16) (.t 18) (.c (.bool false)))),(aB 20 19),(aF 21 (.mv (.t 3)) 20 true),(aF 22 (.call (.c (.fn 98 [])) [(.t 21)]) 20 true),(aF 23 (.mv (.t 0)) 20 true),(aF 24 (.bin .eql (.t 22) (.t 23)) 20 true),(aj 25 (.pick (.t 20) (.t 24) (.c (.bool false)))),(bh 2 25)])
abbrev EN:aD:=(.seq (.rg [(aj 2 (.aZ (.c (.bool false))))]) (.seq (.rg [(aB 6 0),(aj 7 (.call (.c (.fn 97 [])) [(.t 6)])),(aB 5 7),(aj 8 (.ext (.t 5) 0)),(aj 9 (.ext (.t 5) 1)),(bh 3 8),(bh 4 9)]) (.seq (.sem (erase rM)) .ret)))
theorem EO:bx Tryz.prog 87 26 [(.tmp 2)] (erase EN):=⟨Tryz.f87,_,rfl,by decide,rfl,by kernel_rfl,rfl,rfl⟩
abbrev wF:List Nat:=[0,2,3,4]
def gf (r3:Bool) (r2:Int) (s1:List UInt8):Option (Bool):=
 (if (!r3) then
  (if (decide (0≤r2)) then
   (if (decide (r2≤255)) then
    (strconv_Itoa r2).bind fun r4=>some (decide (r4=s1))
   else
    some false)
  else
   some false)
 else
  some false)
def jL (s1:List UInt8):Option (Bool):=
 (strconv_Atoi s1).bind fun (r2,r3)=>(gf r3 r2 s1).bind fun t6=>
 some t6
theorem yZ {r3:Bool} {r2:Int} {s1:List UInt8} {H:AH} {K:Exit→Env→AH→Prop} {t5:Bool}
 (h:gf r3 r2 s1=some t5)
 (kn:K .normal [(2,(.bool t5))] H):
 AX Tryz.prog wF 26 H.length (erase rM) K [(0,(.str s1)),(2,(.bool false)),(3,(.int .i64 r2)),(4,(dW r3))] H:=by
 refine dj fun K' hK=> ?_
 rw [gf.eq_1] at h
 refine aS ?_
 refine cq h (fun bg h=> ?_) fun bg h=> ?_
 · refine bO bg ?_
   refine cq h (fun bz h=> ?_) fun bz h=> ?_
   · refine bO bz ?_
     refine cq h (fun bu h=> ?_) fun bu h=> ?_
     · refine bO bu ?_
       obtain ⟨r4,bV,h⟩:=ay h
       refine bf ax (B4 (i1:=r2) bV) ?_
       refine aS ?_
       obtain rfl:=aJ h
       exact hK _ _ _ _ _ aY ax kn
     · refine bO bu ?_
       obtain rfl:=aJ h
       exact hK _ _ _ _ _ aY ax kn
   · refine bO bz ?_
     obtain rfl:=aJ h
     exact hK _ _ _ _ _ aY ax kn
 · refine bO bg ?_
   obtain rfl:=aJ h
   exact hK _ _ _ _ _ aY ax kn
theorem Dt {s1:List UInt8} {H0:AH} {aM:Bool} (h:jL s1=some aM):
 aG Tryz.prog 87 [(.str s1)] H0 fun v H'=>v=(.bool aM)∧H'=H0:=by
 refine gz EO wF fun hcl K0 aO=> ?_
 rw [jL.eq_1] at h
 refine aS ?_
 obtain ⟨⟨r2,r3⟩,hy1,h⟩:=ay h
 dsimp only at h
 refine bf ax (strconv_Atoi_ok (s1:=s1) hy1) ?_
 refine aS ?_
 obtain ⟨t6,ct,h⟩:=ay h
 refine cg ax (yZ ct ?_)
 refine aS ?_
 obtain rfl:=aJ h
 exact aO _ _ _ bE (aW hcl (bC bw (.bool t6)) bA bt ⟨rfl,rfl⟩)
abbrev B7:aD:=(.seq (.rg [(aj 2 (.aZ (.c (.bool false))))]) (.seq (.rg [(aB 3 0),(aj 4 (.call (.c (.fn 87 [])) [(.t 3)])),(aj 5 (.un .not (.t 4))),(bh 2 5)]) .ret))
theorem B8:bx Tryz.prog 86 6 [(.tmp 2)] (erase B7):=⟨Tryz.f86,_,rfl,by decide,rfl,by kernel_rfl,rfl,rfl⟩
abbrev B9:List Nat:=[0,2]
def jm (x1:List UInt8):Option (Bool):=
 (jL x1).bind fun r2=>some (!r2)
theorem AJ {x1:List UInt8} {H0:AH} {aM:Bool} (h:jm x1=some aM):
 aG Tryz.prog 86 [(.str x1)] H0 fun v H'=>v=(.bool aM)∧H'=H0:=by
 refine gz B8 B9 fun hcl K0 aO=> ?_
 rw [jm.eq_1] at h
 refine aS ?_
 obtain ⟨r2,hy1,h⟩:=ay h
 refine bf ax (Dt hy1) ?_
 refine aS ?_
 obtain rfl:=aJ h
 exact aO _ _ _ bE (aW hcl (bC bw (.bool (!r2))) bA bt ⟨rfl,rfl⟩)
abbrev jZ:aD:=(.seq (.rg [(aj 9 (.bin .lss (.t 8) (.t 7)))]) (.seq (.cond (.t 9) .skip (.exit 0)) (.seq (.blk 1 (.seq (.rg [(aB 10 8),(bh 5 10)]) (.seq (.rg [(aB 11 1),(aB 12 0),(aB 13 5),(aj 14 (.ku 1 (.t 12) (.t 13))),(aj 15 (.ld (.t 14) none)),(aj 16 (.call (.t 11) [(.t 15)]))]) (.cond (.t 16) (.seq (.rg [(aB 17 5),(bh 4 17)]) .ret) .skip)))) (.rg [(aj 18 (.bin .add (.t 8) (.c (.int .i64 1)))),(aB 8 18)]))))
abbrev vv:aD:=(.seq (.rg [(aj 4 (.aZ (.c (.int .i64 0))))]) (.seq (.seq (.rg [(aB 6 0),(aj 7 (.len (.t 6))),(aj 8 (.mv (.c (.int .i64 0))))]) (.blk 0 (.loop (erase jZ)))) (.seq (.rg [(aj 4 (.aZ (.c (.int .i64 (-1)))))]) .ret)))
theorem vw:bx Tryz.prog 90 19 [(.tmp 4)] (erase vv):=⟨Tryz.f90,_,rfl,by decide,rfl,by kernel_rfl,rfl,rfl⟩
abbrev ng:List Nat:=[0,1,4,5,7,8,9,16]
def cP (s1:List (List UInt8)):(Int×Int)→Option (St Int Unit (Int×Int))
 |(t2,t3)=>
  (if (decide (t3<(s1.length:Int))) then
   (idx s1 t3).bind fun x4=>
   (jm x4).bind fun r5=>
   (if r5 then
    some (.ret t3)
   else
    some (.cT (t2,(IntKind.wrap .i64 (t3+1)))))
  else
   some (.fJ ()))
def gH (F:Nat) (s1:List (List UInt8)):Option (Int):=
 ((iter (cP s1) F (0,0)).bind fun o8=>
 match o8 with
 | .inr ()=>
   some (-1)
 | .inl r7=>
   some r7)
theorem ri {F:Nat} {t3:Int} {s1:List (List UInt8)} {t2:Int} {H:AH} {K:Exit→Env→AH→Prop} {o:(Int)⊕(Unit)}
 (h:iter (cP s1) F (t2,t3)=some o)
 (dn:∀o':Unit,o= .inr o'→K (.exit 0) [] H)
 (kr:∀o':Int,o= .inl o'→K .ret [(4,(.int .i64 o'))] H):
 AX Tryz.prog ng 19 H.length (.loop (erase jZ)) K [(0,(.sl .n 1 (ml AV.str s1))),(1,(.fn 86 [])),(4,(.int .i64 t2)),(7,(.int .i64 (s1.length:Int))),(8,(.int .i64 t3))] H:=by
 refine ji (fun s e H1=>match s with|(t2,t3)=>e=[(0,(.sl .n 1 (ml AV.str s1))),(1,(.fn 86 [])),(4,(.int .i64 t2)),(7,(.int .i64 (s1.length:Int))),(8,(.int .i64 t3))]∧H1=H) h ⟨rfl,rfl⟩ ?_
 rintro K' ⟨t2,t3⟩ st e H ⟨rfl,rfl⟩ h hN hB hR hX
 rw [cP.eq_1] at h
 refine aS ?_
 refine bX h (fun hy1 h=> ?_) fun hy1 h=> ?_
 · obtain ⟨x4,bg,h⟩:=ay h
   refine bO bg ?_
   obtain ⟨r5,bz,h⟩:=ay h
   refine bf ax (AJ bz) ?_
   refine aS ?_
   refine bX h (fun bu h=> ?_) fun bu h=> ?_
   · refine aS ?_
     obtain rfl:=aJ h
     exact hX _ _ _ _ _ eM aY ax (kr _ (hR _ rfl))
   · refine aS ?_
     obtain rfl:=aJ h
     exact hN _ rfl _ _ _ _ aY ax ⟨rfl,rfl⟩
 · refine aS ?_
   obtain rfl:=aJ h
   exact hX _ _ _ _ _ eM WE.nil ax (dn _ (hB _ rfl))
theorem uw {F:Nat} {s1:List (List UInt8)} {H0:AH} {aM:Int} (h:gH F s1=some aM):
 aG Tryz.prog 90 [(.sl .n 1 (ml AV.str s1)),(.fn 86 [])] H0 fun v H'=>v=(.int .i64 aM)∧H'=H0:=by
 refine gz vw ng fun hcl K0 aO=> ?_
 rw [gH.eq_1] at h
 refine aS ?_
 obtain ⟨o8,bV,h⟩:=ay h
 refine cg ax (ri bV ?_ ?_)
 · rintro ⟨⟩ rfl
   try dsimp only at h
   refine aS ?_
   obtain rfl:=aJ h
   exact aO _ _ _ bE (aW hcl (bC bw (.int .i64 (-1))) bA bt ⟨rfl,rfl⟩)
 · rintro r7 rfl
   try dsimp only at h
   refine aS ?_
   obtain rfl:=aJ h
   exact aO _ _ _ bE (aW hcl (bC bw (.int .i64 r7)) bA bt ⟨rfl,rfl⟩)
abbrev sN:aD:=(.seq (.rg [(aj 4 (.aZ (.c (.bool false))))]) (.seq (.rg [(aB 5 0),(aB 6 1),(aj 7 (.call (.c (.fn 90 [])) [(.t 5),(.t 6)])),(aj 8 (.bin .geq (.t 7) (.c (.int .i64 0)))),(bh 4 8)]) .ret))
theorem sO:bx Tryz.prog 79 9 [(.tmp 4)] (erase sN):=⟨Tryz.f79,_,rfl,by decide,rfl,by kernel_rfl,rfl,rfl⟩
abbrev sP:List Nat:=[0,1,4]
def dY (F:Nat) (s1:List (List UInt8)):Option (Bool):=
 (gH F s1).bind fun r2=>some (decide (0≤r2))
theorem rj {F:Nat} {s1:List (List UInt8)} {H0:AH} {aM:Bool} (h:dY F s1=some aM):
 aG Tryz.prog 79 [(.sl .n 1 (ml AV.str s1)),(.fn 86 [])] H0 fun v H'=>v=(.bool aM)∧H'=H0:=by
 refine gz sO sP fun hcl K0 aO=> ?_
 rw [dY.eq_1] at h
 refine aS ?_
 obtain ⟨r2,hy1,h⟩:=ay h
 refine bf ax (uw hy1) ?_
 refine aS ?_
 obtain rfl:=aJ h
 exact aO _ _ _ bE (aW hcl (bC bw (.bool (decide (0≤r2)))) bA bt ⟨rfl,rfl⟩)
abbrev rN:aD:=(.rg [(aB 3 0),(aj 4 (.bin .or (.t 3) (.c (b8 32)))),(aj 5 (.bin .geq (.t 4) (.c (b8 97)))),(aB 6 5),(aF 7 (.mv (.t 0)) 6 true),(aF 8 (.bin .or (.t 7) (.c (b8 32))) 6 true),(aF 9 (.bin .leq (.t 8) (.c (b8 122))) 6 true),(aj 10 (.pick (.t 6) (.t 9) (.c (.bool false)))),(aB 11 10),(aF 12 (.mv (.t 0)) 11 false),(aF 13 (.bin .geq (.t 12) (.c (b8 48))) 11 false),(aF 14 (.mv (.t 13)) 11 false),(aF 15 (.mv (.t 0)) 14 true),(aF 16 (.bin .leq (.t 15) (.c (b8 57))) 14 true),(aF 17 (.pick (.t 14) (.t 16) (.c (.bool false))) 11 false),(aj 18 (.pick (.t 11) (.c (.bool true)) (.t 17))),(bh 2 18)])
abbrev EP:aD:=(.seq (.rg [(aj 2 (.aZ (.c (.bool false))))]) (.seq (.sem (erase rN)) .ret))
theorem ER:bx Tryz.prog 100 19 [(.tmp 2)] (erase EP):=⟨Tryz.f100,_,rfl,by decide,rfl,by kernel_rfl,rfl,rfl⟩
abbrev wG:List Nat:=[0,2]
def jM (c1:UInt8):Option (Bool):=
 some (((decide (97≤(c1 ||| 32)))&&(decide ((c1 ||| 32)≤122)))||((decide (48≤c1))&&(decide (c1≤57))))
theorem y8 {c1:UInt8} {H:AH} {K:Exit→Env→AH→Prop}
 (kn:K .normal [(2,(.bool (((decide (97≤(c1 ||| 32)))&&(decide ((c1 ||| 32)≤122)))||((decide (48≤c1))&&(decide (c1≤57))))))] H):
 AX Tryz.prog wG 19 H.length (erase rN) K [(0,(b8 c1)),(2,(.bool false))] H:=by
 refine dj fun K' hK=> ?_
 refine aS ?_
 refine kD (fun hy1=> ?_) fun hy1=> ?_
 · refine bO hy1 ?_
   refine kD (fun bg=> ?_) fun bg=> ?_
   · refine bO bg ?_
     exact hK _ _ _ _ _ (dD (aC hy1 bg)) ax kn
   · refine bO bg ?_
     refine kD (fun bz=> ?_) fun bz=> ?_
     · refine bO bz ?_
       exact hK _ _ _ _ _ (dD (aC hy1 (aC bg bz))) ax kn
     · refine bO bz ?_
       exact hK _ _ _ _ _ (dD (aC hy1 (aC bg bz))) ax kn
 · refine bO hy1 ?_
   refine kD (fun bu=> ?_) fun bu=> ?_
   · refine bO bu ?_
     exact hK _ _ _ _ _ (dD (aC hy1 bu)) ax kn
   · refine bO bu ?_
     exact hK _ _ _ _ _ (dD (aC hy1 bu)) ax kn
theorem uX {c1:UInt8} {H0:AH} {aM:Bool} (h:jM c1=some aM):
 aG Tryz.prog 100 [(b8 c1)] H0 fun v H'=>v=(.bool aM)∧H'=H0:=by
 refine gz ER wG fun hcl K0 aO=> ?_
 rw [jM.eq_1] at h
 refine aS ?_
 refine cg ax (y8 (c1:=c1) ?_)
 refine aS ?_
 obtain rfl:=aJ h
 exact aO _ _ _ bE (aW hcl (bC bw (.bool (((decide (97≤(c1 ||| 32)))&&(decide ((c1 ||| 32)≤122)))||((decide (48≤c1))&&(decide (c1≤57)))))) bA bt ⟨rfl,rfl⟩)
abbrev qd:aD:=(.rg [(aB 3 0),(aj 4 (.call (.c (.fn 100 [])) [(.t 3)])),(aB 5 4),(aF 6 (.mv (.t 0)) 5 false),(aF 7 (.bin .eql (.t 6) (.c (b8 45))) 5 false),(aj 8 (.pick (.t 5) (.c (.bool true)) (.t 7))),(bh 2 8)])
abbrev Du:aD:=(.seq (.rg [(aj 2 (.aZ (.c (.bool false))))]) (.seq (.sem (erase qd)) .ret))
theorem Dv:bx Tryz.prog 99 9 [(.tmp 2)] (erase Du):=⟨Tryz.f99,_,rfl,by decide,rfl,by kernel_rfl,rfl,rfl⟩
abbrev uY:List Nat:=[0,2]
def nJ (c1:UInt8):Option (Bool):=
 (jM c1).bind fun r2=>(if r2 then
  some true
 else
  some (decide (c1=45)))
def kF (c1:UInt8):Option (Bool):=
 (nJ c1).bind fun t4=>
 some t4
theorem xS {c1:UInt8} {H:AH} {K:Exit→Env→AH→Prop} {t3:Bool}
 (h:nJ c1=some t3)
 (kn:K .normal [(2,(.bool t3))] H):
 AX Tryz.prog uY 9 H.length (erase qd) K [(0,(b8 c1)),(2,(.bool false))] H:=by
 refine dj fun K' hK=> ?_
 rw [nJ.eq_1] at h
 refine aS ?_
 obtain ⟨r2,hy1,h⟩:=ay h
 refine bf ax (uX hy1) ?_
 refine aS ?_
 refine cq h (fun bg h=> ?_) fun bg h=> ?_
 · refine bO bg ?_
   obtain rfl:=aJ h
   exact hK _ _ _ _ _ aY ax kn
 · refine bO bg ?_
   obtain rfl:=aJ h
   exact hK _ _ _ _ _ aY ax kn
theorem Ca {c1:UInt8} {H0:AH} {aM:Bool} (h:kF c1=some aM):
 aG Tryz.prog 99 [(b8 c1)] H0 fun v H'=>v=(.bool aM)∧H'=H0:=by
 refine gz Dv uY fun hcl K0 aO=> ?_
 rw [kF.eq_1] at h
 refine aS ?_
 obtain ⟨t4,bz,h⟩:=ay h
 refine cg ax (xS bz ?_)
 refine aS ?_
 obtain rfl:=aJ h
 exact aO _ _ _ bE (aW hcl (bC bw (.bool t4)) bA bt ⟨rfl,rfl⟩)
abbrev oa:aD:=(.seq (.rg [(aj 9 (.bin .lss (.t 8) (.t 7)))]) (.seq (.cond (.t 9) .skip (.exit 0)) (.seq (.blk 1 (.seq (.rg [(aB 10 8),(bh 5 10)]) (.seq (.rg [(aB 11 1),(aB 12 0),(aB 13 5),(aj 14 (.ixs (.t 12) (.t 13))),(aj 15 (.call (.t 11) [(.t 14)])),(aj 16 (.un .not (.t 15)))]) (.cond (.t 16) (.seq (.rg [(aj 4 (.aZ (.c (.bool false))))]) .ret) .skip)))) (.rg [(aj 17 (.bin .add (.t 8) (.c (.int .i64 1)))),(aB 8 17)]))))
abbrev Cb:aD:=(.seq (.rg [(aj 4 (.aZ (.c (.bool false))))]) (.seq (.seq (.rg [(aB 6 0),(aj 7 (.lens (.t 6))),(aj 8 (.mv (.c (.int .i64 0))))]) (.blk 0 (.loop (erase oa)))) (.seq (.rg [(aj 4 (.aZ (.c (.bool true))))]) .ret)))
theorem Cc:bx Tryz.prog 75 18 [(.tmp 4)] (erase Cb):=⟨Tryz.f75,_,rfl,by decide,rfl,by kernel_rfl,rfl,rfl⟩
abbrev tC:List Nat:=[0,1,4,5,7,8,9,16]
def dZ (s1:List UInt8):(Bool×Int)→Option (St Bool Unit (Bool×Int))
 |(t2,t3)=>
  (if (decide (t3<(s1.length:Int))) then
   (idx s1 t3).bind fun x4=>
   (kF x4).bind fun r5=>
   (if (!r5) then
    some (.ret false)
   else
    some (.cT (t2,(IntKind.wrap .i64 (t3+1)))))
  else
   some (.fJ ()))
def jn (F:Nat) (s1:List UInt8):Option (Bool):=
 ((iter (dZ s1) F (false,0)).bind fun o8=>
 match o8 with
 | .inr ()=>
   some true
 | .inl r7=>
   some r7)
theorem wH {F:Nat} {t3:Int} {s1:List UInt8} {t2:Bool} {H:AH} {K:Exit→Env→AH→Prop} {o:(Bool)⊕(Unit)}
 (h:iter (dZ s1) F (t2,t3)=some o)
 (dn:∀o':Unit,o= .inr o'→K (.exit 0) [] H)
 (kr:∀o':Bool,o= .inl o'→K .ret [(4,(.bool o'))] H):
 AX Tryz.prog tC 18 H.length (.loop (erase oa)) K [(0,(.str s1)),(1,(.fn 99 [])),(4,(.bool t2)),(7,(.int .i64 (s1.length:Int))),(8,(.int .i64 t3))] H:=by
 refine ji (fun s e H1=>match s with|(t2,t3)=>e=[(0,(.str s1)),(1,(.fn 99 [])),(4,(.bool t2)),(7,(.int .i64 (s1.length:Int))),(8,(.int .i64 t3))]∧H1=H) h ⟨rfl,rfl⟩ ?_
 rintro K' ⟨t2,t3⟩ st e H ⟨rfl,rfl⟩ h hN hB hR hX
 rw [dZ.eq_1] at h
 refine aS ?_
 refine bX h (fun hy1 h=> ?_) fun hy1 h=> ?_
 · obtain ⟨x4,bg,h⟩:=ay h
   refine bO bg ?_
   obtain ⟨r5,bz,h⟩:=ay h
   refine bf ax (Ca bz) ?_
   refine aS ?_
   refine bX h (fun bu h=> ?_) fun bu h=> ?_
   · refine aS ?_
     obtain rfl:=aJ h
     exact hX _ _ _ _ _ eM aY ax (kr _ (hR _ rfl))
   · refine aS ?_
     obtain rfl:=aJ h
     exact hN _ rfl _ _ _ _ aY ax ⟨rfl,rfl⟩
 · refine aS ?_
   obtain rfl:=aJ h
   exact hX _ _ _ _ _ eM WE.nil ax (dn _ (hB _ rfl))
theorem AK {F:Nat} {s1:List UInt8} {H0:AH} {aM:Bool} (h:jn F s1=some aM):
 aG Tryz.prog 75 [(.str s1),(.fn 99 [])] H0 fun v H'=>v=(.bool aM)∧H'=H0:=by
 refine gz Cc tC fun hcl K0 aO=> ?_
 rw [jn.eq_1] at h
 refine aS ?_
 obtain ⟨o8,bV,h⟩:=ay h
 refine cg ax (wH bV ?_ ?_)
 · rintro ⟨⟩ rfl
   try dsimp only at h
   refine aS ?_
   obtain rfl:=aJ h
   exact aO _ _ _ bE (aW hcl (bC bw (.bool true)) bA bt ⟨rfl,rfl⟩)
 · rintro r7 rfl
   try dsimp only at h
   refine aS ?_
   obtain rfl:=aJ h
   exact aO _ _ _ bE (aW hcl (bC bw (.bool r7)) bA bt ⟨rfl,rfl⟩)
abbrev tD:aD:=(.rg [(aB 3 0),(aj 4 (.bin .neq (.t 3) (.c (.str [])))),(aB 5 4),(aF 6 (.mv (.t 0)) 5 true),(aF 7 (.ixs (.t 6) (.c (.int .i64 0))) 5 true),(aF 8 (.bin .neq (.t 7) (.c (b8 45))) 5 true),(aj 9 (.pick (.t 5) (.t 8) (.c (.bool false)))),(aB 10 9),(aF 11 (.mv (.t 0)) 10 true),(aF 12 (.mv (.t 0)) 10 true),(aF 13 (.lens (.t 12)) 10 true),(aF 14 (.bin .sub (.t 13) (.c (.int .i64 1))) 10 true),(aF 15 (.ixs (.t 11) (.t 14)) 10 true),(aF 16 (.bin .neq (.t 15) (.c (b8 45))) 10 true),(aj 17 (.pick (.t 10) (.t 16) (.c (.bool false)))),(aB 18 17),(aF 19 (.mv (.t 0)) 18 true),(aF 20 (.call (.c (.fn 75 [])) [(.t 19),(.c (.fn 99 []))]) 18 true),(aj 21 (.pick (.t 18) (.t 20) (.c (.bool false)))),(bh 2 21)])
abbrev Gq:aD:=(.seq (.rg [(aj 2 (.aZ (.c (.bool false))))]) (.seq (.sem (erase tD)) .ret))
theorem Gr:bx Tryz.prog 89 22 [(.tmp 2)] (erase Gq):=⟨Tryz.f89,_,rfl,by decide,rfl,by kernel_rfl,rfl,rfl⟩
abbrev yG:List Nat:=[0,2]
def mh (F:Nat) (s1:List UInt8):Option (Bool):=
 (if (!decide (s1=([]:List UInt8))) then
  (idx s1 0).bind fun x2=>
  (if (!decide (x2=45)) then
   (idx s1 (IntKind.wrap .i64 ((s1.length:Int) - 1))).bind fun x3=>
   (if (!decide (x3=45)) then
    (jn F s1).bind fun r4=>some r4
   else
    some false)
  else
   some false)
 else
  some false)
def ob (F:Nat) (s1:List UInt8):Option (Bool):=
 (mh F s1).bind fun t6=>
 some t6
theorem AL {F:Nat} {s1:List UInt8} {H:AH} {K:Exit→Env→AH→Prop} {t5:Bool}
 (h:mh F s1=some t5)
 (kn:K .normal [(2,(.bool t5))] H):
 AX Tryz.prog yG 22 H.length (erase tD) K [(0,(.str s1)),(2,(.bool false))] H:=by
 refine dj fun K' hK=> ?_
 rw [mh.eq_1] at h
 refine aS ?_
 refine cq h (fun hy1 h=> ?_) fun hy1 h=> ?_
 · obtain ⟨x2,bg,h⟩:=ay h
   refine bO (aC hy1 bg) ?_
   refine cq h (fun bz h=> ?_) fun bz h=> ?_
   · obtain ⟨x3,bu,h⟩:=ay h
     refine bO (aC bz bu) ?_
     refine cq h (fun bV h=> ?_) fun bV h=> ?_
     · refine bO bV ?_
       obtain ⟨r4,ct,h⟩:=ay h
       refine bf ax (AK ct) ?_
       refine aS ?_
       obtain rfl:=aJ h
       exact hK _ _ _ _ _ aY ax kn
     · refine bO bV ?_
       obtain rfl:=aJ h
       exact hK _ _ _ _ _ aY ax kn
   · refine bO bz ?_
     obtain rfl:=aJ h
     exact hK _ _ _ _ _ aY ax kn
 · refine bO hy1 ?_
   obtain rfl:=aJ h
   exact hK _ _ _ _ _ aY ax kn
theorem ES {F:Nat} {s1:List UInt8} {H0:AH} {aM:Bool} (h:ob F s1=some aM):
 aG Tryz.prog 89 [(.str s1)] H0 fun v H'=>v=(.bool aM)∧H'=H0:=by
 refine gz Gr yG fun hcl K0 aO=> ?_
 rw [ob.eq_1] at h
 refine aS ?_
 obtain ⟨t6,dy,h⟩:=ay h
 refine cg ax (AL dy ?_)
 refine aS ?_
 obtain rfl:=aJ h
 exact aO _ _ _ bE (aW hcl (bC bw (.bool t6)) bA bt ⟨rfl,rfl⟩)
abbrev Cd:aD:=(.seq (.rg [(aj 2 (.aZ (.c (.bool false))))]) (.seq (.rg [(aB 3 0),(aj 4 (.call (.c (.fn 89 [])) [(.t 3)])),(aj 5 (.un .not (.t 4))),(bh 2 5)]) .ret))
theorem Ce:bx Tryz.prog 88 6 [(.tmp 2)] (erase Cd):=⟨Tryz.f88,_,rfl,by decide,rfl,by kernel_rfl,rfl,rfl⟩
abbrev Cf:List Nat:=[0,2]
def jo (F:Nat) (x1:List UInt8):Option (Bool):=
 (ob F x1).bind fun r2=>some (!r2)
theorem AM {F:Nat} {x1:List UInt8} {H0:AH} {aM:Bool} (h:jo F x1=some aM):
 aG Tryz.prog 88 [(.str x1)] H0 fun v H'=>v=(.bool aM)∧H'=H0:=by
 refine gz Ce Cf fun hcl K0 aO=> ?_
 rw [jo.eq_1] at h
 refine aS ?_
 obtain ⟨r2,hy1,h⟩:=ay h
 refine bf ax (ES hy1) ?_
 refine aS ?_
 obtain rfl:=aJ h
 exact aO _ _ _ bE (aW hcl (bC bw (.bool (!r2))) bA bt ⟨rfl,rfl⟩)
abbrev jq:aD:=(.seq (.rg [(aj 9 (.bin .lss (.t 8) (.t 7)))]) (.seq (.cond (.t 9) .skip (.exit 0)) (.seq (.blk 1 (.seq (.rg [(aB 10 8),(bh 5 10)]) (.seq (.rg [(aB 11 1),(aB 12 0),(aB 13 5),(aj 14 (.ku 1 (.t 12) (.t 13))),(aj 15 (.ld (.t 14) none)),(aj 16 (.call (.t 11) [(.t 15)]))]) (.cond (.t 16) (.seq (.rg [(aB 17 5),(bh 4 17)]) .ret) .skip)))) (.rg [(aj 18 (.bin .add (.t 8) (.c (.int .i64 1)))),(aB 8 18)]))))
abbrev ux:aD:=(.seq (.rg [(aj 4 (.aZ (.c (.int .i64 0))))]) (.seq (.seq (.rg [(aB 6 0),(aj 7 (.len (.t 6))),(aj 8 (.mv (.c (.int .i64 0))))]) (.blk 0 (.loop (erase jq)))) (.seq (.rg [(aj 4 (.aZ (.c (.int .i64 (-1)))))]) .ret)))
theorem uy:bx Tryz.prog 90 19 [(.tmp 4)] (erase ux):=⟨Tryz.f90,_,rfl,by decide,rfl,by kernel_rfl,rfl,rfl⟩
abbrev mj:List Nat:=[0,1,4,5,7,8,9,16]
def cF (F:Nat) (s1:List (List UInt8)):(Int×Int)→Option (St Int Unit (Int×Int))
 |(t2,t3)=>
  (if (decide (t3<(s1.length:Int))) then
   (idx s1 t3).bind fun x4=>
   (jo F x4).bind fun r5=>
   (if r5 then
    some (.ret t3)
   else
    some (.cT (t2,(IntKind.wrap .i64 (t3+1)))))
  else
   some (.fJ ()))
def gl (F:Nat) (s1:List (List UInt8)):Option (Int):=
 ((iter (cF F s1) F (0,0)).bind fun o8=>
 match o8 with
 | .inr ()=>
   some (-1)
 | .inl r7=>
   some r7)
theorem qe {F:Nat} {t3:Int} {s1:List (List UInt8)} {t2:Int} {H:AH} {K:Exit→Env→AH→Prop} {o:(Int)⊕(Unit)}
 (h:iter (cF F s1) F (t2,t3)=some o)
 (dn:∀o':Unit,o= .inr o'→K (.exit 0) [] H)
 (kr:∀o':Int,o= .inl o'→K .ret [(4,(.int .i64 o'))] H):
 AX Tryz.prog mj 19 H.length (.loop (erase jq)) K [(0,(.sl .n 1 (ml AV.str s1))),(1,(.fn 88 [])),(4,(.int .i64 t2)),(7,(.int .i64 (s1.length:Int))),(8,(.int .i64 t3))] H:=by
 refine ji (fun s e H1=>match s with|(t2,t3)=>e=[(0,(.sl .n 1 (ml AV.str s1))),(1,(.fn 88 [])),(4,(.int .i64 t2)),(7,(.int .i64 (s1.length:Int))),(8,(.int .i64 t3))]∧H1=H) h ⟨rfl,rfl⟩ ?_
 rintro K' ⟨t2,t3⟩ st e H ⟨rfl,rfl⟩ h hN hB hR hX
 rw [cF.eq_1] at h
 refine aS ?_
 refine bX h (fun hy1 h=> ?_) fun hy1 h=> ?_
 · obtain ⟨x4,bg,h⟩:=ay h
   refine bO bg ?_
   obtain ⟨r5,bz,h⟩:=ay h
   refine bf ax (AM bz) ?_
   refine aS ?_
   refine bX h (fun bu h=> ?_) fun bu h=> ?_
   · refine aS ?_
     obtain rfl:=aJ h
     exact hX _ _ _ _ _ eM aY ax (kr _ (hR _ rfl))
   · refine aS ?_
     obtain rfl:=aJ h
     exact hN _ rfl _ _ _ _ aY ax ⟨rfl,rfl⟩
 · refine aS ?_
   obtain rfl:=aJ h
   exact hX _ _ _ _ _ eM WE.nil ax (dn _ (hB _ rfl))
theorem tE {F:Nat} {s1:List (List UInt8)} {H0:AH} {aM:Int} (h:gl F s1=some aM):
 aG Tryz.prog 90 [(.sl .n 1 (ml AV.str s1)),(.fn 88 [])] H0 fun v H'=>v=(.int .i64 aM)∧H'=H0:=by
 refine gz uy mj fun hcl K0 aO=> ?_
 rw [gl.eq_1] at h
 refine aS ?_
 obtain ⟨o8,bV,h⟩:=ay h
 refine cg ax (qe bV ?_ ?_)
 · rintro ⟨⟩ rfl
   try dsimp only at h
   refine aS ?_
   obtain rfl:=aJ h
   exact aO _ _ _ bE (aW hcl (bC bw (.int .i64 (-1))) bA bt ⟨rfl,rfl⟩)
 · rintro r7 rfl
   try dsimp only at h
   refine aS ?_
   obtain rfl:=aJ h
   exact aO _ _ _ bE (aW hcl (bC bw (.int .i64 r7)) bA bt ⟨rfl,rfl⟩)
abbrev rq:aD:=(.seq (.rg [(aj 4 (.aZ (.c (.bool false))))]) (.seq (.rg [(aB 5 0),(aB 6 1),(aj 7 (.call (.c (.fn 90 [])) [(.t 5),(.t 6)])),(aj 8 (.bin .geq (.t 7) (.c (.int .i64 0)))),(bh 4 8)]) .ret))
theorem ru:bx Tryz.prog 79 9 [(.tmp 4)] (erase rq):=⟨Tryz.f79,_,rfl,by decide,rfl,by kernel_rfl,rfl,rfl⟩
abbrev ry:List Nat:=[0,1,4]
def dK (F:Nat) (s1:List (List UInt8)):Option (Bool):=
 (gl F s1).bind fun r2=>some (decide (0≤r2))
theorem qf {F:Nat} {s1:List (List UInt8)} {H0:AH} {aM:Bool} (h:dK F s1=some aM):
 aG Tryz.prog 79 [(.sl .n 1 (ml AV.str s1)),(.fn 88 [])] H0 fun v H'=>v=(.bool aM)∧H'=H0:=by
 refine gz ru ry fun hcl K0 aO=> ?_
 rw [dK.eq_1] at h
 refine aS ?_
 obtain ⟨r2,hy1,h⟩:=ay h
 refine bf ax (tE hy1) ?_
 refine aS ?_
 obtain rfl:=aJ h
 exact aO _ _ _ bE (aW hcl (bC bw (.bool (decide (0≤r2)))) bA bt ⟨rfl,rfl⟩)
abbrev rO:aD:=(.rg [(aB 4 0),(aj 5 (.lens (.t 4))),(aj 6 (.bin .gtr (.t 5) (.c (.int .i64 1)))),(aB 7 6),(aF 8 (.mv (.t 0)) 7 true),(aF 9 (.ixs (.t 8) (.c (.int .i64 0))) 7 true),(aF 10 (.bin .eql (.t 9) (.c (b8 91))) 7 true),(aj 11 (.pick (.t 7) (.t 10) (.c (.bool false)))),(aB 12 11),(aF 13 (.mv (.t 0)) 12 true),(aF 14 (.mv (.t 0)) 12 true),(aF 15 (.lens (.t 14)) 12 true),(aF 16 (.bin .sub (.t 15) (.c (.int .i64 1))) 12 true),(aF 17 (.ixs (.t 13) (.t 16)) 12 true),(aF 18 (.bin .eql (.t 17) (.c (b8 93))) 12 true),(aj 19 (.pick (.t 12) (.t 18) (.c (.bool false))))])
abbrev rP:aD:=(.rg [(aB 26 3),(aj 27 (.len (.t 26))),(aj 28 (.bin .eql (.t 27) (.c (.int .i64 4)))),(aB 29 28),(aF 30 (.mv (.t 3)) 29 true),(aF 31 (.call (.c (.fn 79 [])) [(.t 30),(.c (.fn 86 []))]) 29 true),(aF 32 (.un .not (.t 31)) 29 true),(aj 33 (.pick (.t 29) (.t 32) (.c (.bool false)))),(bh 2 33)])
abbrev ET:aD:=(.seq (.rg [(aj 2 (.aZ (.c (.bool false))))]) (.seq (.seq (.sem (erase rO)) (.cond (.t 19) (.seq (.rg [(aB 20 0),(aB 21 0),(aj 22 (.lens (.t 21))),(aj 23 (.bin .sub (.t 22) (.c (.int .i64 1)))),(aj 24 (.JN (.t 20) (some (.c (.int .i64 1))) (some (.t 23)))),(aj 25 (.call (.c (.fn 80 [])) [(.t 24),(.c (.str [46]))])),(bh 3 25)]) (.seq (.sem (erase rP)) .ret)) .skip)) (.seq (.rg [(aB 34 0),(aj 35 (.call (.c (.fn 80 [])) [(.t 34),(.c (.str [46]))])),(aj 36 (.call (.c (.fn 79 [])) [(.t 35),(.c (.fn 88 []))])),(aj 37 (.un .not (.t 36))),(bh 2 37)]) .ret)))
theorem EU:bx Tryz.prog 78 38 [(.tmp 2)] (erase ET):=⟨Tryz.f78,_,rfl,by decide,rfl,by kernel_rfl,rfl,rfl⟩
abbrev qg:List Nat:=[0,2,3,19]
def iE (s1:List UInt8):Option (Bool):=
 (if (decide (1<(s1.length:Int))) then
  (idx s1 0).bind fun x2=>
  (if (decide (x2=91)) then
   (idx s1 (IntKind.wrap .i64 ((s1.length:Int) - 1))).bind fun x3=>some (decide (x3=93))
  else
   some false)
 else
  some false)
def kU (F:Nat) (r7:List (List UInt8)):Option (Bool):=
 (if (decide ((r7.length:Int)=4)) then
  (dY F r7).bind fun r8=>some (!r8)
 else
  some false)
def mo (F:Nat) (s1:List UInt8):Option (Bool):=
 (iE s1).bind fun t5=>
 (if t5 then
  (sub s1 1 (IntKind.wrap .i64 ((s1.length:Int) - 1))).bind fun x6=>
  (strings_Split x6 ([46]:List UInt8)).bind fun r7=>(kU F r7).bind fun t10=>
  some t10
 else
  (strings_Split s1 ([46]:List UInt8)).bind fun gA=>(dK F gA).bind fun oc=>some (!oc))
theorem y9 {s1:List UInt8} {H:AH} {K:Exit→Env→AH→Prop} {t4:Bool}
 (h:iE s1=some t4)
 (kn:K .normal [(0,(.str s1)),(19,(.bool t4))] H):
 AX Tryz.prog qg 38 H.length (erase rO) K [(0,(.str s1))] H:=by
 refine dj fun K' hK=> ?_
 rw [iE.eq_1] at h
 refine aS ?_
 refine cq h (fun hy1 h=> ?_) fun hy1 h=> ?_
 · obtain ⟨x2,bg,h⟩:=ay h
   refine bO (aC hy1 bg) ?_
   refine cq h (fun bz h=> ?_) fun bz h=> ?_
   · obtain ⟨x3,bu,h⟩:=ay h
     refine bO (aC bz bu) ?_
     obtain rfl:=aJ h
     exact hK _ _ _ _ _ aY ax kn
   · refine bO bz ?_
     obtain rfl:=aJ h
     exact hK _ _ _ _ _ aY ax kn
 · refine bO hy1 ?_
   obtain rfl:=aJ h
   exact hK _ _ _ _ _ aY ax kn
theorem za {F:Nat} {r7:List (List UInt8)} {H:AH} {K:Exit→Env→AH→Prop} {t9:Bool}
 (h:kU F r7=some t9)
 (kn:K .normal [(2,(.bool t9))] H):
 AX Tryz.prog qg 38 H.length (erase rP) K [(3,(.sl .n 1 (ml AV.str r7)))] H:=by
 refine dj fun K' hK=> ?_
 rw [kU.eq_1] at h
 refine aS ?_
 refine cq h (fun ew h=> ?_) fun ew h=> ?_
 · refine bO ew ?_
   obtain ⟨r8,cZ,h⟩:=ay h
   refine bf ax (rj cZ) ?_
   refine aS ?_
   obtain rfl:=aJ h
   exact hK _ _ _ _ _ aY ax kn
 · refine bO ew ?_
   obtain rfl:=aJ h
   exact hK _ _ _ _ _ aY ax kn
theorem Dw {F:Nat} {s1:List UInt8} {H0:AH} {aM:Bool} (h:mo F s1=some aM):
 aG Tryz.prog 78 [(.str s1)] H0 fun v H'=>v=(.bool aM)∧H'=H0:=by
 refine gz EU qg fun hcl K0 aO=> ?_
 rw [mo.eq_1] at h
 refine aS ?_
 obtain ⟨t5,bV,h⟩:=ay h
 refine cg ax (y9 bV ?_)
 refine aS ?_
 refine bX h (fun ct h=> ?_) fun ct h=> ?_
 · obtain ⟨x6,dy,h⟩:=ay h
   refine bO dy ?_
   obtain ⟨r7,dz,h⟩:=ay h
   refine bf ax (iZ (s1:=x6) (s2:=([46]:List UInt8)) dz) ?_
   refine aS ?_
   obtain ⟨t10,cE,h⟩:=ay h
   refine cg ax (za cE ?_)
   refine aS ?_
   obtain rfl:=aJ h
   exact aO _ _ _ bE (aW hcl (bC bw (.bool t10)) bA bt ⟨rfl,rfl⟩)
 · refine aS ?_
   obtain ⟨gA,dS,h⟩:=ay h
   refine bf ax (iZ (s1:=s1) (s2:=([46]:List UInt8)) dS) ?_
   refine aS ?_
   obtain ⟨oc,dc,h⟩:=ay h
   refine bf ax (qf dc) ?_
   refine aS ?_
   obtain rfl:=aJ h
   exact aO _ _ _ bE (aW hcl (bC bw (.bool (!oc))) bA bt ⟨rfl,rfl⟩)
abbrev Cg:aD:=(.seq (.rg [(aj 2 (.aZ (.c (.bool false))))]) (.seq (.rg [(aB 3 0),(aj 4 (.lens (.t 3))),(aj 5 (.bin .gtr (.t 4) (.c (.int .i64 63)))),(bh 2 5)]) .ret))
theorem Ch:bx Tryz.prog 77 6 [(.tmp 2)] (erase Cg):=⟨Tryz.f77,_,rfl,by decide,rfl,by kernel_rfl,rfl,rfl⟩
abbrev Ci:List Nat:=[0,2]
def jr (x1:List UInt8):Option (Bool):=
 some (decide (63<(x1.length:Int)))
theorem AN {x1:List UInt8} {H0:AH} {aM:Bool} (h:jr x1=some aM):
 aG Tryz.prog 77 [(.str x1)] H0 fun v H'=>v=(.bool aM)∧H'=H0:=by
 refine gz Ch Ci fun hcl K0 aO=> ?_
 rw [jr.eq_1] at h
 refine aS ?_
 obtain rfl:=aJ h
 exact aO _ _ _ bE (aW hcl (bC bw (.bool (decide (63<(x1.length:Int))))) bA bt ⟨rfl,rfl⟩)
abbrev ja:aD:=(.seq (.rg [(aj 9 (.bin .lss (.t 8) (.t 7)))]) (.seq (.cond (.t 9) .skip (.exit 0)) (.seq (.blk 1 (.seq (.rg [(aB 10 8),(bh 5 10)]) (.seq (.rg [(aB 11 1),(aB 12 0),(aB 13 5),(aj 14 (.ku 1 (.t 12) (.t 13))),(aj 15 (.ld (.t 14) none)),(aj 16 (.call (.t 11) [(.t 15)]))]) (.cond (.t 16) (.seq (.rg [(aB 17 5),(bh 4 17)]) .ret) .skip)))) (.rg [(aj 18 (.bin .add (.t 8) (.c (.int .i64 1)))),(aB 8 18)]))))
abbrev tF:aD:=(.seq (.rg [(aj 4 (.aZ (.c (.int .i64 0))))]) (.seq (.seq (.rg [(aB 6 0),(aj 7 (.len (.t 6))),(aj 8 (.mv (.c (.int .i64 0))))]) (.blk 0 (.loop (erase ja)))) (.seq (.rg [(aj 4 (.aZ (.c (.int .i64 (-1)))))]) .ret)))
theorem tG:bx Tryz.prog 90 19 [(.tmp 4)] (erase tF):=⟨Tryz.f90,_,rfl,by decide,rfl,by kernel_rfl,rfl,rfl⟩
abbrev lF:List Nat:=[0,1,4,5,7,8,9,16]
def cA (s1:List (List UInt8)):(Int×Int)→Option (St Int Unit (Int×Int))
 |(t2,t3)=>
  (if (decide (t3<(s1.length:Int))) then
   (idx s1 t3).bind fun x4=>
   (jr x4).bind fun r5=>
   (if r5 then
    some (.ret t3)
   else
    some (.cT (t2,(IntKind.wrap .i64 (t3+1)))))
  else
   some (.fJ ()))
def fY (F:Nat) (s1:List (List UInt8)):Option (Int):=
 ((iter (cA s1) F (0,0)).bind fun o8=>
 match o8 with
 | .inr ()=>
   some (-1)
 | .inl r7=>
   some r7)
theorem pH {F:Nat} {t3:Int} {s1:List (List UInt8)} {t2:Int} {H:AH} {K:Exit→Env→AH→Prop} {o:(Int)⊕(Unit)}
 (h:iter (cA s1) F (t2,t3)=some o)
 (dn:∀o':Unit,o= .inr o'→K (.exit 0) [] H)
 (kr:∀o':Int,o= .inl o'→K .ret [(4,(.int .i64 o'))] H):
 AX Tryz.prog lF 19 H.length (.loop (erase ja)) K [(0,(.sl .n 1 (ml AV.str s1))),(1,(.fn 77 [])),(4,(.int .i64 t2)),(7,(.int .i64 (s1.length:Int))),(8,(.int .i64 t3))] H:=by
 refine ji (fun s e H1=>match s with|(t2,t3)=>e=[(0,(.sl .n 1 (ml AV.str s1))),(1,(.fn 77 [])),(4,(.int .i64 t2)),(7,(.int .i64 (s1.length:Int))),(8,(.int .i64 t3))]∧H1=H) h ⟨rfl,rfl⟩ ?_
 rintro K' ⟨t2,t3⟩ st e H ⟨rfl,rfl⟩ h hN hB hR hX
 rw [cA.eq_1] at h
 refine aS ?_
 refine bX h (fun hy1 h=> ?_) fun hy1 h=> ?_
 · obtain ⟨x4,bg,h⟩:=ay h
   refine bO bg ?_
   obtain ⟨r5,bz,h⟩:=ay h
   refine bf ax (AN bz) ?_
   refine aS ?_
   refine bX h (fun bu h=> ?_) fun bu h=> ?_
   · refine aS ?_
     obtain rfl:=aJ h
     exact hX _ _ _ _ _ eM aY ax (kr _ (hR _ rfl))
   · refine aS ?_
     obtain rfl:=aJ h
     exact hN _ rfl _ _ _ _ aY ax ⟨rfl,rfl⟩
 · refine aS ?_
   obtain rfl:=aJ h
   exact hX _ _ _ _ _ eM WE.nil ax (dn _ (hB _ rfl))
theorem sQ {F:Nat} {s1:List (List UInt8)} {H0:AH} {aM:Int} (h:fY F s1=some aM):
 aG Tryz.prog 90 [(.sl .n 1 (ml AV.str s1)),(.fn 77 [])] H0 fun v H'=>v=(.int .i64 aM)∧H'=H0:=by
 refine gz tG lF fun hcl K0 aO=> ?_
 rw [fY.eq_1] at h
 refine aS ?_
 obtain ⟨o8,bV,h⟩:=ay h
 refine cg ax (pH bV ?_ ?_)
 · rintro ⟨⟩ rfl
   try dsimp only at h
   refine aS ?_
   obtain rfl:=aJ h
   exact aO _ _ _ bE (aW hcl (bC bw (.int .i64 (-1))) bA bt ⟨rfl,rfl⟩)
 · rintro r7 rfl
   try dsimp only at h
   refine aS ?_
   obtain rfl:=aJ h
   exact aO _ _ _ bE (aW hcl (bC bw (.int .i64 r7)) bA bt ⟨rfl,rfl⟩)
abbrev qh:aD:=(.seq (.rg [(aj 4 (.aZ (.c (.bool false))))]) (.seq (.rg [(aB 5 0),(aB 6 1),(aj 7 (.call (.c (.fn 90 [])) [(.t 5),(.t 6)])),(aj 8 (.bin .geq (.t 7) (.c (.int .i64 0)))),(bh 4 8)]) .ret))
theorem qi:bx Tryz.prog 79 9 [(.tmp 4)] (erase qh):=⟨Tryz.f79,_,rfl,by decide,rfl,by kernel_rfl,rfl,rfl⟩
abbrev qj:List Nat:=[0,1,4]
def dF (F:Nat) (s1:List (List UInt8)):Option (Bool):=
 (fY F s1).bind fun r2=>some (decide (0≤r2))
theorem pI {F:Nat} {s1:List (List UInt8)} {H0:AH} {aM:Bool} (h:dF F s1=some aM):
 aG Tryz.prog 79 [(.sl .n 1 (ml AV.str s1)),(.fn 77 [])] H0 fun v H'=>v=(.bool aM)∧H'=H0:=by
 refine gz qi qj fun hcl K0 aO=> ?_
 rw [dF.eq_1] at h
 refine aS ?_
 obtain ⟨r2,hy1,h⟩:=ay h
 refine bf ax (sQ hy1) ?_
 refine aS ?_
 obtain rfl:=aJ h
 exact aO _ _ _ bE (aW hcl (bC bw (.bool (decide (0≤r2)))) bA bt ⟨rfl,rfl⟩)
abbrev rQ:aD:=(.rg [(aB 4 0),(aj 5 (.lens (.t 4))),(aj 6 (.bin .leq (.t 5) (.c (.int .i64 255)))),(aB 7 6),(aF 8 (.mv (.t 0)) 7 true),(aF 9 (.call (.c (.fn 78 [])) [(.t 8)]) 7 true),(aj 10 (.pick (.t 7) (.t 9) (.c (.bool false)))),(aB 11 10),(aF 12 (.mv (.t 0)) 11 true),(aF 13 (.call (.c (.fn 80 [])) [(.t 12),(.c (.str [46]))]) 11 true),(aF 14 (.mv (.t 3)) 11 true),(aF 15 (.call (.c (.fn 79 [])) [(.t 13),(.t 14)]) 11 true),(aF 16 (.un .not (.t 15)) 11 true),(aj 17 (.pick (.t 11) (.t 16) (.c (.bool false)))),(bh 2 17)])
abbrev EV:aD:=(.seq (.rg [(aj 2 (.aZ (.c (.bool false))))]) (.seq (.rg [(aj 3 (.aZ (.c (.fn 77 []))))]) (.seq (.sem (erase rQ)) .ret)))
theorem EW:bx Tryz.prog 64 18 [(.tmp 2)] (erase EV):=⟨Tryz.f64,_,rfl,by decide,rfl,by kernel_rfl,rfl,rfl⟩
abbrev wI:List Nat:=[0,2,3]
def kV (F:Nat) (s1:List UInt8):Option (Bool):=
 (if (decide ((s1.length:Int)≤255)) then
  (mo F s1).bind fun r2=>
  (if r2 then
   (strings_Split s1 ([46]:List UInt8)).bind fun r3=>(dF F r3).bind fun r4=>some (!r4)
  else
   some false)
 else
  some false)
def mq (F:Nat) (s1:List UInt8):Option (Bool):=
 (kV F s1).bind fun t6=>
 some t6
theorem zb {F:Nat} {s1:List UInt8} {H:AH} {K:Exit→Env→AH→Prop} {t5:Bool}
 (h:kV F s1=some t5)
 (kn:K .normal [(2,(.bool t5))] H):
 AX Tryz.prog wI 18 H.length (erase rQ) K [(0,(.str s1)),(2,(.bool false)),(3,(.fn 77 []))] H:=by
 refine dj fun K' hK=> ?_
 rw [kV.eq_1] at h
 refine aS ?_
 refine cq h (fun hy1 h=> ?_) fun hy1 h=> ?_
 · refine bO hy1 ?_
   obtain ⟨r2,bg,h⟩:=ay h
   refine bf ax (Dw bg) ?_
   refine aS ?_
   refine cq h (fun bz h=> ?_) fun bz h=> ?_
   · refine bO bz ?_
     obtain ⟨r3,bu,h⟩:=ay h
     refine bf ax (iZ (s1:=s1) (s2:=([46]:List UInt8)) bu) ?_
     refine aS ?_
     obtain ⟨r4,bV,h⟩:=ay h
     refine bf ax (pI bV) ?_
     refine aS ?_
     obtain rfl:=aJ h
     exact hK _ _ _ _ _ aY ax kn
   · refine bO bz ?_
     obtain rfl:=aJ h
     exact hK _ _ _ _ _ aY ax kn
 · refine bO hy1 ?_
   obtain rfl:=aJ h
   exact hK _ _ _ _ _ aY ax kn
theorem Dx {F:Nat} {s1:List UInt8} {H0:AH} {aM:Bool} (h:mq F s1=some aM):
 aG Tryz.prog 64 [(.str s1)] H0 fun v H'=>v=(.bool aM)∧H'=H0:=by
 refine gz EW wI fun hcl K0 aO=> ?_
 rw [mq.eq_1] at h
 refine aS ?_
 obtain ⟨t6,ct,h⟩:=ay h
 refine cg ax (zb ct ?_)
 refine aS ?_
 obtain rfl:=aJ h
 exact aO _ _ _ bE (aW hcl (bC bw (.bool t6)) bA bt ⟨rfl,rfl⟩)
abbrev uZ:aD:=(.rg [(aB 3 0),(aj 4 (.call (.c (.fn 100 [])) [(.t 3)])),(aB 5 4),(aF 6 (.mv (.t 0)) 5 false),(aF 7 (.call (.c (.fn 104 [])) [(.c (.str [33,35,36,37,38,39,42,43,45,47,61,63,94,95,96,123,124,125,126])),(.t 6)]) 5 false),(aF 8 (.bin .geq (.t 7) (.c (.int .i64 0))) 5 false),(aj 9 (.pick (.t 5) (.c (.bool true)) (.t 8))),(bh 2 9)])
abbrev I9:aD:=(.seq (.rg [(aj 2 (.aZ (.c (.bool false))))]) (.seq (.sem (erase uZ)) .ret))
theorem Ja:bx Tryz.prog 93 10 [(.tmp 2)] (erase I9):=⟨Tryz.f93,_,rfl,by decide,rfl,by kernel_rfl,rfl,rfl⟩
abbrev AO:List Nat:=[0,2]
def sR (c1:UInt8):Option (Bool):=
 (jM c1).bind fun r2=>
 (if r2 then
  some true
 else
  (strings_IndexByte ([33,35,36,37,38,39,42,43,45,47,61,63,94,95,96,123,124,125,126]:List UInt8) c1).bind fun r3=>some (decide (0≤r3)))
def qk (c1:UInt8):Option (Bool):=
 (sR c1).bind fun t5=>
 some t5
theorem Cj {c1:UInt8} {H:AH} {K:Exit→Env→AH→Prop} {t4:Bool}
 (h:sR c1=some t4)
 (kn:K .normal [(2,(.bool t4))] H):
 AX Tryz.prog AO 10 H.length (erase uZ) K [(0,(b8 c1)),(2,(.bool false))] H:=by
 refine dj fun K' hK=> ?_
 rw [sR.eq_1] at h
 refine aS ?_
 obtain ⟨r2,hy1,h⟩:=ay h
 refine bf ax (uX hy1) ?_
 refine aS ?_
 refine cq h (fun bg h=> ?_) fun bg h=> ?_
 · refine bO bg ?_
   obtain rfl:=aJ h
   exact hK _ _ _ _ _ aY ax kn
 · refine bO bg ?_
   obtain ⟨r3,bz,h⟩:=ay h
   refine bf ax (vu (s1:=([33,35,36,37,38,39,42,43,45,47,61,63,94,95,96,123,124,125,126]:List UInt8)) (c2:=c1) bz) ?_
   refine aS ?_
   obtain rfl:=aJ h
   exact hK _ _ _ _ _ aY ax kn
theorem Gs {c1:UInt8} {H0:AH} {aM:Bool} (h:qk c1=some aM):
 aG Tryz.prog 93 [(b8 c1)] H0 fun v H'=>v=(.bool aM)∧H'=H0:=by
 refine gz Ja AO fun hcl K0 aO=> ?_
 rw [qk.eq_1] at h
 refine aS ?_
 obtain ⟨t5,bu,h⟩:=ay h
 refine cg ax (Cj bu ?_)
 refine aS ?_
 obtain rfl:=aJ h
 exact aO _ _ _ bE (aW hcl (bC bw (.bool t5)) bA bt ⟨rfl,rfl⟩)
abbrev nh:aD:=(.seq (.rg [(aj 9 (.bin .lss (.t 8) (.t 7)))]) (.seq (.cond (.t 9) .skip (.exit 0)) (.seq (.blk 1 (.seq (.rg [(aB 10 8),(bh 5 10)]) (.seq (.rg [(aB 11 1),(aB 12 0),(aB 13 5),(aj 14 (.ixs (.t 12) (.t 13))),(aj 15 (.call (.t 11) [(.t 14)])),(aj 16 (.un .not (.t 15)))]) (.cond (.t 16) (.seq (.rg [(aj 4 (.aZ (.c (.bool false))))]) .ret) .skip)))) (.rg [(aj 17 (.bin .add (.t 8) (.c (.int .i64 1)))),(aB 8 17)]))))
abbrev AP:aD:=(.seq (.rg [(aj 4 (.aZ (.c (.bool false))))]) (.seq (.seq (.rg [(aB 6 0),(aj 7 (.lens (.t 6))),(aj 8 (.mv (.c (.int .i64 0))))]) (.blk 0 (.loop (erase nh)))) (.seq (.rg [(aj 4 (.aZ (.c (.bool true))))]) .ret)))
theorem AQ:bx Tryz.prog 75 18 [(.tmp 4)] (erase AP):=⟨Tryz.f75,_,rfl,by decide,rfl,by kernel_rfl,rfl,rfl⟩
abbrev rR:List Nat:=[0,1,4,5,7,8,9,16]
def dH (s1:List UInt8):(Bool×Int)→Option (St Bool Unit (Bool×Int))
 |(t2,t3)=>
  (if (decide (t3<(s1.length:Int))) then
   (idx s1 t3).bind fun x4=>
   (qk x4).bind fun r5=>
   (if (!r5) then
    some (.ret false)
   else
    some (.cT (t2,(IntKind.wrap .i64 (t3+1)))))
  else
   some (.fJ ()))
def iF (F:Nat) (s1:List UInt8):Option (Bool):=
 ((iter (dH s1) F (false,0)).bind fun o8=>
 match o8 with
 | .inr ()=>
   some true
 | .inl r7=>
   some r7)
theorem vz {F:Nat} {t3:Int} {s1:List UInt8} {t2:Bool} {H:AH} {K:Exit→Env→AH→Prop} {o:(Bool)⊕(Unit)}
 (h:iter (dH s1) F (t2,t3)=some o)
 (dn:∀o':Unit,o= .inr o'→K (.exit 0) [] H)
 (kr:∀o':Bool,o= .inl o'→K .ret [(4,(.bool o'))] H):
 AX Tryz.prog rR 18 H.length (.loop (erase nh)) K [(0,(.str s1)),(1,(.fn 93 [])),(4,(.bool t2)),(7,(.int .i64 (s1.length:Int))),(8,(.int .i64 t3))] H:=by
 refine ji (fun s e H1=>match s with|(t2,t3)=>e=[(0,(.str s1)),(1,(.fn 93 [])),(4,(.bool t2)),(7,(.int .i64 (s1.length:Int))),(8,(.int .i64 t3))]∧H1=H) h ⟨rfl,rfl⟩ ?_
 rintro K' ⟨t2,t3⟩ st e H ⟨rfl,rfl⟩ h hN hB hR hX
 rw [dH.eq_1] at h
 refine aS ?_
 refine bX h (fun hy1 h=> ?_) fun hy1 h=> ?_
 · obtain ⟨x4,bg,h⟩:=ay h
   refine bO bg ?_
   obtain ⟨r5,bz,h⟩:=ay h
   refine bf ax (Gs bz) ?_
   refine aS ?_
   refine bX h (fun bu h=> ?_) fun bu h=> ?_
   · refine aS ?_
     obtain rfl:=aJ h
     exact hX _ _ _ _ _ eM aY ax (kr _ (hR _ rfl))
   · refine aS ?_
     obtain rfl:=aJ h
     exact hN _ rfl _ _ _ _ aY ax ⟨rfl,rfl⟩
 · refine aS ?_
   obtain rfl:=aJ h
   exact hX _ _ _ _ _ eM WE.nil ax (dn _ (hB _ rfl))
theorem zd {F:Nat} {s1:List UInt8} {H0:AH} {aM:Bool} (h:iF F s1=some aM):
 aG Tryz.prog 75 [(.str s1),(.fn 93 [])] H0 fun v H'=>v=(.bool aM)∧H'=H0:=by
 refine gz AQ rR fun hcl K0 aO=> ?_
 rw [iF.eq_1] at h
 refine aS ?_
 obtain ⟨o8,bV,h⟩:=ay h
 refine cg ax (vz bV ?_ ?_)
 · rintro ⟨⟩ rfl
   try dsimp only at h
   refine aS ?_
   obtain rfl:=aJ h
   exact aO _ _ _ bE (aW hcl (bC bw (.bool true)) bA bt ⟨rfl,rfl⟩)
 · rintro r7 rfl
   try dsimp only at h
   refine aS ?_
   obtain rfl:=aJ h
   exact aO _ _ _ bE (aW hcl (bC bw (.bool r7)) bA bt ⟨rfl,rfl⟩)
abbrev ql:aD:=(.rg [(aB 3 0),(aj 4 (.bin .eql (.t 3) (.c (.str [])))),(aB 5 4),(aF 6 (.mv (.t 0)) 5 false),(aF 7 (.call (.c (.fn 75 [])) [(.t 6),(.c (.fn 93 []))]) 5 false),(aF 8 (.un .not (.t 7)) 5 false),(aj 9 (.pick (.t 5) (.c (.bool true)) (.t 8))),(bh 2 9)])
abbrev Dy:aD:=(.seq (.rg [(aj 2 (.aZ (.c (.bool false))))]) (.seq (.sem (erase ql)) .ret))
theorem Dz:bx Tryz.prog 92 10 [(.tmp 2)] (erase Dy):=⟨Tryz.f92,_,rfl,by decide,rfl,by kernel_rfl,rfl,rfl⟩
abbrev u0:List Nat:=[0,2]
def jN (F:Nat) (x1:List UInt8):Option (Bool):=
 (if (decide (x1=([]:List UInt8))) then
  some true
 else
  (iF F x1).bind fun r2=>some (!r2))
def kG (F:Nat) (x1:List UInt8):Option (Bool):=
 (jN F x1).bind fun t4=>
 some t4
theorem xT {F:Nat} {x1:List UInt8} {H:AH} {K:Exit→Env→AH→Prop} {t3:Bool}
 (h:jN F x1=some t3)
 (kn:K .normal [(2,(.bool t3))] H):
 AX Tryz.prog u0 10 H.length (erase ql) K [(0,(.str x1)),(2,(.bool false))] H:=by
 refine dj fun K' hK=> ?_
 rw [jN.eq_1] at h
 refine aS ?_
 refine cq h (fun hy1 h=> ?_) fun hy1 h=> ?_
 · refine bO hy1 ?_
   obtain rfl:=aJ h
   exact hK _ _ _ _ _ aY ax kn
 · refine bO hy1 ?_
   obtain ⟨r2,bg,h⟩:=ay h
   refine bf ax (zd bg) ?_
   refine aS ?_
   obtain rfl:=aJ h
   exact hK _ _ _ _ _ aY ax kn
theorem Ck {F:Nat} {x1:List UInt8} {H0:AH} {aM:Bool} (h:kG F x1=some aM):
 aG Tryz.prog 92 [(.str x1)] H0 fun v H'=>v=(.bool aM)∧H'=H0:=by
 refine gz Dz u0 fun hcl K0 aO=> ?_
 rw [kG.eq_1] at h
 refine aS ?_
 obtain ⟨t4,bz,h⟩:=ay h
 refine cg ax (xT bz ?_)
 refine aS ?_
 obtain rfl:=aJ h
 exact aO _ _ _ bE (aW hcl (bC bw (.bool t4)) bA bt ⟨rfl,rfl⟩)
abbrev iG:aD:=(.seq (.rg [(aj 9 (.bin .lss (.t 8) (.t 7)))]) (.seq (.cond (.t 9) .skip (.exit 0)) (.seq (.blk 1 (.seq (.rg [(aB 10 8),(bh 5 10)]) (.seq (.rg [(aB 11 1),(aB 12 0),(aB 13 5),(aj 14 (.ku 1 (.t 12) (.t 13))),(aj 15 (.ld (.t 14) none)),(aj 16 (.call (.t 11) [(.t 15)]))]) (.cond (.t 16) (.seq (.rg [(aB 17 5),(bh 4 17)]) .ret) .skip)))) (.rg [(aj 18 (.bin .add (.t 8) (.c (.int .i64 1)))),(aB 8 18)]))))
abbrev sS:aD:=(.seq (.rg [(aj 4 (.aZ (.c (.int .i64 0))))]) (.seq (.seq (.rg [(aB 6 0),(aj 7 (.len (.t 6))),(aj 8 (.mv (.c (.int .i64 0))))]) (.blk 0 (.loop (erase iG)))) (.seq (.rg [(aj 4 (.aZ (.c (.int .i64 (-1)))))]) .ret)))
theorem sU:bx Tryz.prog 90 19 [(.tmp 4)] (erase sS):=⟨Tryz.f90,_,rfl,by decide,rfl,by kernel_rfl,rfl,rfl⟩
abbrev kH:List Nat:=[0,1,4,5,7,8,9,16]
def cw (F:Nat) (s1:List (List UInt8)):(Int×Int)→Option (St Int Unit (Int×Int))
 |(t2,t3)=>
  (if (decide (t3<(s1.length:Int))) then
   (idx s1 t3).bind fun x4=>
   (kG F x4).bind fun r5=>
   (if r5 then
    some (.ret t3)
   else
    some (.cT (t2,(IntKind.wrap .i64 (t3+1)))))
  else
   some (.fJ ()))
def fC (F:Nat) (s1:List (List UInt8)):Option (Int):=
 ((iter (cw F s1) F (0,0)).bind fun o8=>
 match o8 with
 | .inr ()=>
   some (-1)
 | .inl r7=>
   some r7)
theorem oC {F:Nat} {t3:Int} {s1:List (List UInt8)} {t2:Int} {H:AH} {K:Exit→Env→AH→Prop} {o:(Int)⊕(Unit)}
 (h:iter (cw F s1) F (t2,t3)=some o)
 (dn:∀o':Unit,o= .inr o'→K (.exit 0) [] H)
 (kr:∀o':Int,o= .inl o'→K .ret [(4,(.int .i64 o'))] H):
 AX Tryz.prog kH 19 H.length (.loop (erase iG)) K [(0,(.sl .n 1 (ml AV.str s1))),(1,(.fn 92 [])),(4,(.int .i64 t2)),(7,(.int .i64 (s1.length:Int))),(8,(.int .i64 t3))] H:=by
 refine ji (fun s e H1=>match s with|(t2,t3)=>e=[(0,(.sl .n 1 (ml AV.str s1))),(1,(.fn 92 [])),(4,(.int .i64 t2)),(7,(.int .i64 (s1.length:Int))),(8,(.int .i64 t3))]∧H1=H) h ⟨rfl,rfl⟩ ?_
 rintro K' ⟨t2,t3⟩ st e H ⟨rfl,rfl⟩ h hN hB hR hX
 rw [cw.eq_1] at h
 refine aS ?_
 refine bX h (fun hy1 h=> ?_) fun hy1 h=> ?_
 · obtain ⟨x4,bg,h⟩:=ay h
   refine bO bg ?_
   obtain ⟨r5,bz,h⟩:=ay h
   refine bf ax (Ck bz) ?_
   refine aS ?_
   refine bX h (fun bu h=> ?_) fun bu h=> ?_
   · refine aS ?_
     obtain rfl:=aJ h
     exact hX _ _ _ _ _ eM aY ax (kr _ (hR _ rfl))
   · refine aS ?_
     obtain rfl:=aJ h
     exact hN _ rfl _ _ _ _ aY ax ⟨rfl,rfl⟩
 · refine aS ?_
   obtain rfl:=aJ h
   exact hX _ _ _ _ _ eM WE.nil ax (dn _ (hB _ rfl))
theorem rz {F:Nat} {s1:List (List UInt8)} {H0:AH} {aM:Int} (h:fC F s1=some aM):
 aG Tryz.prog 90 [(.sl .n 1 (ml AV.str s1)),(.fn 92 [])] H0 fun v H'=>v=(.int .i64 aM)∧H'=H0:=by
 refine gz sU kH fun hcl K0 aO=> ?_
 rw [fC.eq_1] at h
 refine aS ?_
 obtain ⟨o8,bV,h⟩:=ay h
 refine cg ax (oC bV ?_ ?_)
 · rintro ⟨⟩ rfl
   try dsimp only at h
   refine aS ?_
   obtain rfl:=aJ h
   exact aO _ _ _ bE (aW hcl (bC bw (.int .i64 (-1))) bA bt ⟨rfl,rfl⟩)
 · rintro r7 rfl
   try dsimp only at h
   refine aS ?_
   obtain rfl:=aJ h
   exact aO _ _ _ bE (aW hcl (bC bw (.int .i64 r7)) bA bt ⟨rfl,rfl⟩)
abbrev pJ:aD:=(.seq (.rg [(aj 4 (.aZ (.c (.bool false))))]) (.seq (.rg [(aB 5 0),(aB 6 1),(aj 7 (.call (.c (.fn 90 [])) [(.t 5),(.t 6)])),(aj 8 (.bin .geq (.t 7) (.c (.int .i64 0)))),(bh 4 8)]) .ret))
theorem pK:bx Tryz.prog 79 9 [(.tmp 4)] (erase pJ):=⟨Tryz.f79,_,rfl,by decide,rfl,by kernel_rfl,rfl,rfl⟩
abbrev pL:List Nat:=[0,1,4]
def eA (F:Nat) (s1:List (List UInt8)):Option (Bool):=
 (fC F s1).bind fun r2=>some (decide (0≤r2))
theorem oD {F:Nat} {s1:List (List UInt8)} {H0:AH} {aM:Bool} (h:eA F s1=some aM):
 aG Tryz.prog 79 [(.sl .n 1 (ml AV.str s1)),(.fn 92 [])] H0 fun v H'=>v=(.bool aM)∧H'=H0:=by
 refine gz pK pL fun hcl K0 aO=> ?_
 rw [eA.eq_1] at h
 refine aS ?_
 obtain ⟨r2,hy1,h⟩:=ay h
 refine bf ax (rz hy1) ?_
 refine aS ?_
 obtain rfl:=aJ h
 exact aO _ _ _ bE (aW hcl (bC bw (.bool (decide (0≤r2)))) bA bt ⟨rfl,rfl⟩)
abbrev Gt:aD:=(.seq (.rg [(aj 2 (.aZ (.c (.bool false))))]) (.seq (.rg [(aB 3 0),(aj 4 (.call (.c (.fn 80 [])) [(.t 3),(.c (.str [46]))])),(aj 5 (.call (.c (.fn 79 [])) [(.t 4),(.c (.fn 92 []))])),(aj 6 (.un .not (.t 5))),(bh 2 6)]) .ret))
theorem Gu:bx Tryz.prog 81 7 [(.tmp 2)] (erase Gt):=⟨Tryz.f81,_,rfl,by decide,rfl,by kernel_rfl,rfl,rfl⟩
abbrev Gv:List Nat:=[0,2]
def od (F:Nat) (s1:List UInt8):Option (Bool):=
 (strings_Split s1 ([46]:List UInt8)).bind fun r2=>(eA F r2).bind fun r3=>some (!r3)
theorem EX {F:Nat} {s1:List UInt8} {H0:AH} {aM:Bool} (h:od F s1=some aM):
 aG Tryz.prog 81 [(.str s1)] H0 fun v H'=>v=(.bool aM)∧H'=H0:=by
 refine gz Gu Gv fun hcl K0 aO=> ?_
 rw [od.eq_1] at h
 refine aS ?_
 obtain ⟨r2,hy1,h⟩:=ay h
 refine bf ax (iZ (s1:=s1) (s2:=([46]:List UInt8)) hy1) ?_
 refine aS ?_
 obtain ⟨r3,bg,h⟩:=ay h
 refine bf ax (oD bg) ?_
 refine aS ?_
 obtain rfl:=aJ h
 exact aO _ _ _ bE (aW hcl (bC bw (.bool (!r3))) bA bt ⟨rfl,rfl⟩)
abbrev u6:aD:=(.rg [(aB 17 3),(aB 18 5),(aj 19 (.ixs (.t 17) (.t 18))),(aj 20 (.bin .eql (.t 19) (.c (b8 34)))),(aB 21 20),(aF 22 (.mv (.t 3)) 21 false),(aF 23 (.mv (.t 5)) 21 false),(aF 24 (.ixs (.t 22) (.t 23)) 21 false),(aF 25 (.bin .eql (.t 24) (.c (b8 92))) 21 false),(aj 26 (.pick (.t 21) (.c (.bool true)) (.t 25)))])
abbrev tH:aD:=(.seq (.rg [(aj 15 (.bin .lss (.t 14) (.t 13)))]) (.seq (.cond (.t 15) .skip (.exit 0)) (.seq (.blk 1 (.seq (.rg [(aB 16 14),(bh 5 16)]) (.seq (.seq (.sem (erase u6)) (.cond (.t 26) (.rg [(aB 27 4),(aj 28 (.kf 1 [(.c (b8 92))])),(aj 29 (.app 1 1 (.t 27) (.t 28))),(bh 4 29)]) .skip)) (.rg [(aB 30 4),(aB 31 3),(aB 32 5),(aj 33 (.ixs (.t 31) (.t 32))),(aj 34 (.kf 1 [(.t 33)])),(aj 35 (.app 1 1 (.t 30) (.t 34))),(bh 4 35)])))) (.rg [(aj 36 (.bin .add (.t 14) (.c (.int .i64 1)))),(aB 14 36)]))))
abbrev Jb:aD:=(.seq (.rg [(aj 1 (.box (.t 0))),(aj 2 (.aZ (.c (.str []))))]) (.seq (.rg [(aj 6 (.aV (.t 1) 0)),(aj 7 (.ld (.t 6) none)),(bh 3 7)]) (.seq (.seq (.rg [(aB 8 3),(aj 9 (.call (.c (.fn 81 [])) [(.t 8)])),(aj 10 (.un .not (.t 9)))]) (.cond (.t 10) (.seq (.rg [(aj 11 (.kf 1 [(.c (b8 34))])),(bh 4 11)]) (.seq (.seq (.rg [(aB 12 3),(aj 13 (.lens (.t 12))),(aj 14 (.mv (.c (.int .i64 0))))]) (.blk 0 (.loop (erase tH)))) (.rg [(aB 37 4),(aj 38 (.kf 1 [(.c (b8 34))])),(aj 39 (.app 1 1 (.t 37) (.t 38))),(aj 40 (.dV .bs (.t 39))),(bh 3 40)]))) .skip)) (.seq (.rg [(aB 41 3),(aj 42 (.bin .add (.c (.str [60])) (.t 41))),(aj 43 (.bin .add (.t 42) (.c (.str [64])))),(aj 44 (.aV (.t 1) 1)),(aj 45 (.ld (.t 44) none)),(aj 46 (.bin .add (.t 43) (.t 45))),(aj 47 (.bin .add (.t 46) (.c (.str [62])))),(bh 2 47)]) .ret))))
theorem Jc:bx Tryz.prog 65 48 [(.tmp 2)] (erase Jb):=⟨Tryz.f65,_,rfl,by decide,rfl,by kernel_rfl,rfl,rfl⟩
abbrev uz:List Nat:=[0,1,2,3,4,5,10,13,14,15,26]
def nR (a1:aK) (t5:Int):Option (Bool):=
 (idx a1.aq t5).bind fun x7=>
 (if (decide (x7=34)) then
  some true
 else
  some (decide (x7=92)))
def gB (a1:aK):((List UInt8)×Int)→Option (St (List UInt8) (List UInt8) ((List UInt8)×Int))
 |(b4,t5)=>
  (if (decide (t5<(a1.aq.length:Int))) then
   (nR a1 t5).bind fun t9=>
   (if t9 then
    (cB 1 b4 ([92]:List UInt8)).bind fun vA=>
    (idx a1.aq t5).bind fun x11=>
    (cB 1 vA ([x11]:List UInt8)).bind fun Oz=>some (.cT (Oz,(IntKind.wrap .i64 (t5+1))))
   else
    (idx a1.aq t5).bind fun AR=>
    (cB 1 b4 ([AR]:List UInt8)).bind fun wJ=>some (.cT (wJ,(IntKind.wrap .i64 (t5+1)))))
  else
   some (.fJ b4))
def qm (F:Nat) (a1:aK):Option ((List UInt8)):=
 (od F a1.aq).bind fun r2=>
 (if (!r2) then
  ((iter (gB a1) F (([34]:List UInt8),0)).bind fun o22=>
  match o22 with
  | .inr b16=>
    (cB 1 b16 ([34]:List UInt8)).bind fun OA=>
    (cat ([60]:List UInt8) OA).bind fun qn=>
    (cat qn ([64]:List UInt8)).bind fun uA=>
    (cat uA a1.domain).bind fun x20=>(cat x20 ([62]:List UInt8)).bind fun x21=>some x21
  | .inl _=>none)
 else
  (cat ([60]:List UInt8) a1.aq).bind fun Wo=>
  (cat Wo ([64]:List UInt8)).bind fun Wp=>
  (cat Wp a1.domain).bind fun Cm=>(cat Cm ([62]:List UInt8)).bind fun x26=>some x26)
theorem Cn {a1:aK} {t5:Int} {q6:Nat} {b4:List UInt8} {H0 H:AH} (hfr:Fr H0 H0.length [] H) (ai:H[q6]? =some [(.str a1.aq),(.str a1.domain)]) (eD:H0.length≤q6) {K:Exit→Env→AH→Prop} {t8:Bool}
 (h:nR a1 t5=some t8)
 (kn:∀H':AH,Fr H0 H0.length [] H'→H'[q6]? =some [(.str a1.aq),(.str a1.domain)]→K .normal [(1,(.ptr q6 0)),(3,(.str a1.aq)),(4,(.sl .own 1 (ml b8 b4))),(5,(.int .i64 t5)),(13,(.int .i64 (a1.aq.length:Int))),(14,(.int .i64 t5)),(26,(.bool t8))] H'):
 AX Tryz.prog uz 48 H0.length (erase u6) K [(1,(.ptr q6 0)),(3,(.str a1.aq)),(4,(.sl .own 1 (ml b8 b4))),(5,(.int .i64 t5)),(13,(.int .i64 (a1.aq.length:Int))),(14,(.int .i64 t5))] H:=by
 refine dj fun K' hK=> ?_
 have hle:=hfr.le
 have aT:=aL ai
 rw [nR.eq_1] at h
 obtain ⟨x7,bu,h⟩:=ay h
 refine aE (aC bu ai) ?_
 refine cq h (fun bV h=> ?_) fun bV h=> ?_
 · refine aE (aC bV ai) ?_
   obtain rfl:=aJ h
   exact hK _ _ _ _ _ aY ax (kn _ hfr (ai.trans rfl))
 · refine aE (aC bV (aC bu ai)) ?_
   obtain rfl:=aJ h
   exact hK _ _ _ _ _ aY ax (kn _ hfr (ai.trans rfl))
theorem Co {F:Nat} {t5:Int} {a1:aK} {b4:List UInt8} {q3:Nat} {H0 H:AH} (hfr:Fr H0 H0.length [] H) (ai:H[q3]? =some [(.str a1.aq),(.str a1.domain)]) (eD:H0.length≤q3) {K:Exit→Env→AH→Prop} {o:((List UInt8))⊕((List UInt8))}
 (h:iter (gB a1) F (b4,t5)=some o)
 (dn:∀o':(List UInt8),o= .inr o'→∀H':AH,Fr H0 H0.length [] H'→H'[q3]? =some [(.str a1.aq),(.str a1.domain)]→K (.exit 0) [(1,(.ptr q3 0)),(4,(.sl .own 1 (ml b8 o')))] H'):
 AX Tryz.prog uz 48 H0.length (.loop (erase tH)) K [(1,(.ptr q3 0)),(3,(.str a1.aq)),(4,(.sl .own 1 (ml b8 b4))),(13,(.int .i64 (a1.aq.length:Int))),(14,(.int .i64 t5))] H:=by
 refine ji (fun s e H1=>match s with|(b4,t5)=>e=[(1,(.ptr q3 0)),(3,(.str a1.aq)),(4,(.sl .own 1 (ml b8 b4))),(13,(.int .i64 (a1.aq.length:Int))),(14,(.int .i64 t5))]∧Fr H0 H0.length [] H1∧H1[q3]? =some [(.str a1.aq),(.str a1.domain)]) h ⟨rfl,hfr,ai⟩ ?_
 rintro K' ⟨b4,t5⟩ st e H ⟨rfl,hfr,ai⟩ h hN hB hR hX
 have hle:=hfr.le
 have aT:=aL ai
 rw [gB.eq_1] at h
 refine aE ai ?_
 refine bX h (fun bz h=> ?_) fun bz h=> ?_
 · refine aE ai ?_
   obtain ⟨t9,ct,h⟩:=ay h
   refine cg ax (Cn (b4:=b4) (q6:=q3) hfr (ai.trans rfl) br ct ?_)
   intro H hfr ai
   have hle:=hfr.le
   have aT:=aL ai
   refine aE ai ?_
   refine bX h (fun dy h=> ?_) fun dy h=> ?_
   · obtain ⟨vA,dz,h⟩:=ay h
     have ew:cB 1 (ml b8 b4) [(b8 92)]=some (ml b8 vA):=ez (f:=b8) dz
     obtain ⟨x11,cZ,h⟩:=ay h
     obtain ⟨Oz,cE,h⟩:=ay h
     have dS:cB 1 (ml b8 vA) [(b8 x11)]=some (ml b8 Oz):=ez (f:=b8) cE
     refine aE (aC ew (aC cZ (aC dS ai))) ?_
     obtain rfl:=aJ h
     exact hN _ rfl _ _ _ _ aY ax ⟨rfl,hfr,(ai.trans rfl)⟩
   · obtain ⟨AR,dc,h⟩:=ay h
     obtain ⟨wJ,fQ,h⟩:=ay h
     have j0:cB 1 (ml b8 b4) [(b8 AR)]=some (ml b8 wJ):=ez (f:=b8) fQ
     refine aE (aC dc (aC j0 ai)) ?_
     obtain rfl:=aJ h
     exact hN _ rfl _ _ _ _ aY ax ⟨rfl,hfr,(ai.trans rfl)⟩
 · refine aE ai ?_
   obtain rfl:=aJ h
   exact hX _ _ _ _ _ eM aY ax (dn _ (hB _ rfl) _ hfr (ai.trans rfl))
theorem Gw {F:Nat} {a1:aK} {H0:AH} {aM:List UInt8} (h:qm F a1=some aM):
 aG Tryz.prog 65 [(.agg [(.str a1.aq),(.str a1.domain)])] H0 fun v H'=>v=(.str aM)∧H'=H0:=by
 refine dX Jc uz [] fun hcl K0 aO H hH hfr=> ?_
 clear hH
 have hle:=hfr.le
 rw [qm.eq_1] at h
 refine bT ?_
 obtain ⟨r2,hy1,h⟩:=ay h
 refine bf ax (EX hy1) ?_
 refine bT ?_
 refine bX h (fun bg h=> ?_) fun bg h=> ?_
 · refine bT ?_
   obtain ⟨q3,ze⟩:∃q:Nat,H.length=q:=⟨_,rfl⟩
   try rw [ze]
   obtain ⟨o22,eL,h⟩:=ay h
   refine cg ax (Co (q3:=q3) (Fr.app hfr) ko br eL ?_)
   · rintro b16 rfl H hfr ai
     try dsimp only at h ai
     have hle:=hfr.le
     have aT:=aL ai
     refine bT ?_
     obtain ⟨OA,js,h⟩:=ay h
     have mu:cB 1 (ml b8 b16) [(b8 34)]=some (ml b8 OA):=ez (f:=b8) js
     obtain ⟨qn,jt,h⟩:=ay h
     obtain ⟨uA,ju,h⟩:=ay h
     obtain ⟨x20,oe,h⟩:=ay h
     obtain ⟨x21,j3,h⟩:=ay h
     refine aE (aC mu (aC jt (aC ju (aC oe (aC j3 ai))))) ?_
     obtain rfl:=aJ h
     exact aO _ _ _ bE (bp hfr hcl (bC bw (.str x21)) bA bt ⟨rfl,rfl⟩)
 · obtain ⟨Wo,qo,h⟩:=ay h
   obtain ⟨Wp,mw,h⟩:=ay h
   obtain ⟨Cm,ni,h⟩:=ay h
   obtain ⟨x26,AU,h⟩:=ay h
   refine aE (aC qo (aC mw (aC ni AU))) ?_
   obtain rfl:=aJ h
   exact aO _ _ _ bE (bp (Fr.app hfr) hcl (bC bw (.str x26)) bA bt ⟨rfl,rfl⟩)
abbrev tI:aD:=(.rg [(aj 3 (.ld (.t 1) (some 2))),(aj 4 (.call (.c (.fn 62 [])) [(.t 3)])),(aB 5 4),(aF 6 (.aV (.t 1) 0) 5 false),(aF 7 (.ld (.t 6) none) 5 false),(aF 8 (.call (.c (.fn 63 [])) [(.t 7)]) 5 false),(aF 9 (.mv (.t 8)) 5 false),(aF 10 (.aV (.t 1) 1) 9 true),(aF 11 (.ld (.t 10) none) 9 true),(aF 12 (.call (.c (.fn 64 [])) [(.t 11)]) 9 true),(aF 13 (.pick (.t 9) (.t 12) (.c (.bool false))) 5 false),(aF 14 (.mv (.t 13)) 5 false),(aF 15 (.ld (.t 1) (some 2)) 14 true),(aF 16 (.call (.c (.fn 65 [])) [(.t 15)]) 14 true),(aF 17 (.lens (.t 16)) 14 true),(aF 18 (.bin .leq (.t 17) (.c (.int .i64 256))) 14 true),(aF 19 (.pick (.t 14) (.t 18) (.c (.bool false))) 5 false),(aj 20 (.pick (.t 5) (.c (.bool true)) (.t 19))),(bh 2 20)])
abbrev Gx:aD:=(.seq (.rg [(aj 1 (.box (.t 0))),(aj 2 (.aZ (.c (.bool false))))]) (.seq (.sem (erase tI)) .ret))
theorem Gy:bx Tryz.prog 32 21 [(.tmp 2)] (erase Gx):=⟨Tryz.f32,_,rfl,by decide,rfl,by kernel_rfl,rfl,rfl⟩
abbrev yH:List Nat:=[0,1,2]
def mz (F:Nat) (a1:aK):Option (Bool):=
 (qb a1).bind fun r3=>
 (if r3 then
  some true
 else
  (n9 F a1.aq).bind fun r4=>
  (if r4 then
   (mq F a1.domain).bind fun r5=>
   (if r5 then
    (qm F a1).bind fun r6=>some (decide ((r6.length:Int)≤256))
   else
    some false)
  else
   some false))
def lG (F:Nat) (a1:aK):Option (Bool):=
 (mz F a1).bind fun t8=>
 some t8
theorem AY {F:Nat} {a1:aK} {q2:Nat} {H0 H:AH} (hfr:Fr H0 H0.length [] H) (ai:H[q2]? =some [(.str a1.aq),(.str a1.domain)]) (eD:H0.length≤q2) {K:Exit→Env→AH→Prop} {t7:Bool}
 (h:mz F a1=some t7)
 (kn:∀H':AH,Fr H0 H0.length [] H'→H'[q2]? =some [(.str a1.aq),(.str a1.domain)]→K .normal [(2,(.bool t7))] H'):
 AX Tryz.prog yH 21 H0.length (erase tI) K [(1,(.ptr q2 0)),(2,(.bool false))] H:=by
 refine dj fun K' hK=> ?_
 have hle:=hfr.le
 have aT:=aL ai
 rw [mz.eq_1] at h
 refine aE ai ?_
 obtain ⟨r3,hy1,h⟩:=ay h
 refine bf ax (Gm hy1) ?_
 refine aE ai ?_
 refine cq h (fun bg h=> ?_) fun bg h=> ?_
 · refine aE (aC bg ai) ?_
   obtain rfl:=aJ h
   exact hK _ _ _ _ _ aY ax (kn _ hfr (ai.trans rfl))
 · refine aE (aC bg ai) ?_
   obtain ⟨r4,bz,h⟩:=ay h
   refine bf ax (EM bz) ?_
   refine aE ai ?_
   refine cq h (fun bu h=> ?_) fun bu h=> ?_
   · refine aE (aC bu ai) ?_
     obtain ⟨r5,bV,h⟩:=ay h
     refine bf ax (Dx bV) ?_
     refine aE ai ?_
     refine cq h (fun ct h=> ?_) fun ct h=> ?_
     · refine aE (aC ct ai) ?_
       obtain ⟨r6,dy,h⟩:=ay h
       refine bf ax (Gw dy) ?_
       refine aE ai ?_
       obtain rfl:=aJ h
       exact hK _ _ _ _ _ aY ax (kn _ hfr (ai.trans rfl))
     · refine aE (aC ct ai) ?_
       obtain rfl:=aJ h
       exact hK _ _ _ _ _ aY ax (kn _ hfr (ai.trans rfl))
   · refine aE (aC bu ai) ?_
     obtain rfl:=aJ h
     exact hK _ _ _ _ _ aY ax (kn _ hfr (ai.trans rfl))
theorem wK {F:Nat} {a1:aK} {H0:AH} {aM:Bool} (h:lG F a1=some aM):
 aG Tryz.prog 32 [(.agg [(.str a1.aq),(.str a1.domain)])] H0 fun v H'=>v=(.bool aM)∧H'=H0:=by
 refine dX Gy yH [] fun hcl K0 aO H hH hfr=> ?_
 clear hH
 have hle:=hfr.le
 rw [lG.eq_1] at h
 refine bT ?_
 obtain ⟨q2,eH⟩:∃q:Nat,H.length=q:=⟨_,rfl⟩
 try rw [eH]
 obtain ⟨t8,dz,h⟩:=ay h
 refine cg ax (AY (q2:=q2) (Fr.app hfr) ko br dz ?_)
 intro H hfr ai
 have hle:=hfr.le
 have aT:=aL ai
 refine aE ai ?_
 obtain rfl:=aJ h
 exact aO _ _ _ bE (bp hfr hcl (bC bw (.bool t8)) bA bt ⟨rfl,rfl⟩)
abbrev rS:aD:=(.rg [(aB 7 0),(aB 8 1),(aj 9 (.bin .geq (.t 7) (.t 8))),(aB 10 9),(aF 11 (.mv (.t 0)) 10 true),(aF 12 (.mv (.t 2)) 10 true),(aF 13 (.bin .leq (.t 11) (.t 12)) 10 true),(aj 14 (.pick (.t 10) (.t 13) (.c (.bool false)))),(bh 6 14)])
abbrev EY:aD:=(.seq (.rg [(aj 6 (.aZ (.c (.bool false))))]) (.seq (.sem (erase rS)) .ret))
theorem EZ:bx Tryz.prog 33 15 [(.tmp 6)] (erase EY):=⟨Tryz.f33,_,rfl,by decide,rfl,by kernel_rfl,rfl,rfl⟩
abbrev wL:List Nat:=[0,1,2,6]
def eN (v1:Int) (Gz:Int) (vB:Int):Option (Bool):=
 some ((decide (Gz≤v1))&&(decide (v1≤vB)))
theorem zf {v1:Int} {Gz:Int} {vB:Int} {H:AH} {K:Exit→Env→AH→Prop}
 (kn:K .normal [(6,(.bool ((decide (Gz≤v1))&&(decide (v1≤vB)))))] H):
 AX Tryz.prog wL 15 H.length (erase rS) K [(0,(.int .i64 v1)),(1,(.int .i64 Gz)),(2,(.int .i64 vB)),(6,(.bool false))] H:=by
 refine dj fun K' hK=> ?_
 refine aS ?_
 refine kD (fun hy1=> ?_) fun hy1=> ?_
 · refine bO hy1 ?_
   exact hK _ _ _ _ _ (dD hy1) ax kn
 · refine bO hy1 ?_
   exact hK _ _ _ _ _ (dD hy1) ax kn
theorem eW {v1:Int} {Gz:Int} {vB:Int} {H0:AH} {aM:Bool} (h:eN v1 Gz vB=some aM):
 aG Tryz.prog 33 [(.int .i64 v1),(.int .i64 Gz),(.int .i64 vB)] H0 fun v H'=>v=(.bool aM)∧H'=H0:=by
 refine gz EZ wL fun hcl K0 aO=> ?_
 rw [eN.eq_1] at h
 refine aS ?_
 refine cg ax (zf (v1:=v1) (Gz:=Gz) (vB:=vB) ?_)
 refine aS ?_
 obtain rfl:=aJ h
 exact aO _ _ _ bE (aW hcl (bC bw (.bool ((decide (Gz≤v1))&&(decide (v1≤vB))))) bA bt ⟨rfl,rfl⟩)
abbrev u7:aD:=(.rg [(aj 4 (.aV (.t 1) 5)),(aj 5 (.ld (.t 4) none)),(aj 6 (.bin .eql (.t 5) (.c (.int .i64 0)))),(aB 7 6),(aF 8 (.aV (.t 1) 5) 7 false),(aF 9 (.ld (.t 8) none) 7 false),(aF 10 (.call (.c (.fn 33 [])) [(.t 9),(.c (.int .i64 200)),(.c (.int .i64 599))]) 7 false),(aj 11 (.pick (.t 7) (.c (.bool true)) (.t 10))),(bh 3 11)])
abbrev u9:aD:=(.rg ((aB 12 3)::(aB 13 12)::(aF 14 (.aV (.t 1) 0) 13 true)::(aF 15 (.ld (.t 14) (some 2)) 13 true)::(aF 16 (.call (.c (.fn 32 [])) [(.t 15)]) 13 true)::(aj 17 (.pick (.t 13) (.t 16) (.c (.bool false))))::(aB 18 17)::(aF 19 (.aV (.t 1) 0) 18 true)::(aF 20 (.ld (.t 19) (some 2)) 18 true)::(aF 21 (.build [(.str []),(.str [])] []) 18 true)::(aF 22 (.seq [.s, .s] true (.t 20) (.t 21)) 18 true)::(aj 23 (.pick (.t 18) (.t 22) (.c (.bool false))))::(aB 24 23)::(aF 25 (.aV (.t 1) 2) 24 true)::(aF 26 (.ld (.t 25) none) 24 true)::(aF 27 (.call (.c (.fn 33 [])) [(.t 26),(.c (.int .i64 1)),(.c (.int .i64 5))]) 24 true)::(aj 28 (.pick (.t 24) (.t 27) (.c (.bool false))))::(aB 29 28)::(aF 30 (.aV (.t 1) 3) 29 true)::(aF 31 (.ld (.t 30) none) 29 true)::(aF 32 (.call (.c (.fn 33 [])) [(.t 31),(.c (.int .i64 0)),(.c (.int .i64 255))]) 29 true)::(aj 33 (.pick (.t 29) (.t 32) (.c (.bool false))))::(aB 34 33)::(aF 35 (.aV (.t 1) 4) 34 true)::(aF 36 (.ld (.t 35) none) 34 true)::(aF 37 (.call (.c (.fn 33 [])) [(.t 36),(.c (.int .i64 0)),(.c (.int .i64 2147483647))]) 34 true)::(aj 38 (.pick (.t 34) (.t 37) (.c (.bool false))))::(aB 39 38)::(aF 40 (.aV (.t 1) 6) 39 true)::(aF 41 (.ld (.t 40) none) 39 true)::(aF 42 (.lens (.t 41)) 39 true)::(aF 43 (.bin .leq (.t 42) (.c (.int .i64 100))) 39 true)::(aj 44 (.pick (.t 39) (.t 43) (.c (.bool false))))::(bh 2 44)::[]))
abbrev Jd:aD:=(.seq (.rg [(aj 1 (.box (.t 0))),(aj 2 (.aZ (.c (.bool false))))]) (.seq (.sem (erase u7)) (.seq (.sem (erase u9)) .ret)))
theorem Je:bx Tryz.prog 36 45 [(.tmp 2)] (erase Jd):=⟨Tryz.f36,_,rfl,by decide,rfl,by kernel_rfl,rfl,rfl⟩
abbrev uB:List Nat:=[0,1,2,3]
def nS (r1:bl):Option (Bool):=
 (if (decide (r1.code=0)) then
  some true
 else
  (eN r1.code 200 599).bind fun r3=>some r3)
def nT (F:Nat) (zg:Bool) (r1:bl):Option (Bool):=
 (if zg then
  (lG F r1.cv).bind fun r7=>
  (if r7 then
   (if (!(decide (r1.cv.aq=([]:List UInt8))&&decide (r1.cv.domain=([]:List UInt8)))) then
    (eN r1.state 1 5).bind fun r8=>
    (if r8 then
     (eN r1.tries 0 255).bind fun r9=>
     (if r9 then
      (eN r1.next 0 2147483647).bind fun lR=>
      (if lR then
       some (decide ((r1.why.length:Int)≤100))
      else
       some false)
     else
      some false)
    else
     some false)
   else
    some false)
  else
   some false)
 else
  some false)
def qp (F:Nat) (r1:bl):Option (Bool):=
 (nS r1).bind fun zg=>
 (nT F zg r1).bind fun t12=>
 some t12
theorem Cp {r1:bl} {q2:Nat} {H0 H:AH} (hfr:Fr H0 H0.length [] H) (ai:H[q2]? =some [(.str r1.cv.aq),(.str r1.cv.domain),(.int .i64 r1.state),(.int .i64 r1.tries),(.int .i64 r1.next),(.int .i64 r1.code),(.str r1.why)]) (eD:H0.length≤q2) {K:Exit→Env→AH→Prop} {Wq:Bool}
 (h:nS r1=some Wq)
 (kn:∀H':AH,Fr H0 H0.length [] H'→H'[q2]? =some [(.str r1.cv.aq),(.str r1.cv.domain),(.int .i64 r1.state),(.int .i64 r1.tries),(.int .i64 r1.next),(.int .i64 r1.code),(.str r1.why)]→K .normal [(1,(.ptr q2 0)),(3,(.bool Wq))] H'):
 AX Tryz.prog uB 45 H0.length (erase u7) K [(1,(.ptr q2 0))] H:=by
 refine dj fun K' hK=> ?_
 have hle:=hfr.le
 have aT:=aL ai
 rw [nS.eq_1] at h
 refine aE ai ?_
 refine cq h (fun hy1 h=> ?_) fun hy1 h=> ?_
 · refine aE (aC hy1 ai) ?_
   obtain rfl:=aJ h
   exact hK _ _ _ _ _ aY ax (kn _ hfr (ai.trans rfl))
 · refine aE (aC hy1 ai) ?_
   obtain ⟨r3,bg,h⟩:=ay h
   refine bf ax (eW bg) ?_
   refine aE ai ?_
   obtain rfl:=aJ h
   exact hK _ _ _ _ _ aY ax (kn _ hfr (ai.trans rfl))
theorem Cq {F:Nat} {zg:Bool} {r1:bl} {q6:Nat} {H0 H:AH} (hfr:Fr H0 H0.length [] H) (ai:H[q6]? =some [(.str r1.cv.aq),(.str r1.cv.domain),(.int .i64 r1.state),(.int .i64 r1.tries),(.int .i64 r1.next),(.int .i64 r1.code),(.str r1.why)]) (eD:H0.length≤q6) {K:Exit→Env→AH→Prop} {t11:Bool}
 (h:nT F zg r1=some t11)
 (kn:∀H':AH,Fr H0 H0.length [] H'→H'[q6]? =some [(.str r1.cv.aq),(.str r1.cv.domain),(.int .i64 r1.state),(.int .i64 r1.tries),(.int .i64 r1.next),(.int .i64 r1.code),(.str r1.why)]→K .normal [(2,(.bool t11))] H'):
 AX Tryz.prog uB 45 H0.length (erase u9) K [(1,(.ptr q6 0)),(3,(.bool zg))] H:=by
 refine dj fun K' hK=> ?_
 have hle:=hfr.le
 have aT:=aL ai
 rw [nT.eq_1] at h
 refine aE ai ?_
 refine cq h (fun bu h=> ?_) fun bu h=> ?_
 · refine aE (aC bu ai) ?_
   obtain ⟨r7,bV,h⟩:=ay h
   refine bf ax (wK bV) ?_
   refine aE ai ?_
   refine cq h (fun ct h=> ?_) fun ct h=> ?_
   · refine aE (aC ct ai) ?_
     refine cq h (fun dy h=> ?_) fun dy h=> ?_
     · refine aE (aC dy ai) ?_
       obtain ⟨r8,dz,h⟩:=ay h
       refine bf ax (eW dz) ?_
       refine aE ai ?_
       refine cq h (fun ew h=> ?_) fun ew h=> ?_
       · refine aE (aC ew ai) ?_
         obtain ⟨r9,cZ,h⟩:=ay h
         refine bf ax (eW cZ) ?_
         refine aE ai ?_
         refine cq h (fun cE h=> ?_) fun cE h=> ?_
         · refine aE (aC cE ai) ?_
           obtain ⟨lR,dS,h⟩:=ay h
           refine bf ax (eW dS) ?_
           refine aE ai ?_
           refine cq h (fun dc h=> ?_) fun dc h=> ?_
           · refine aE (aC dc ai) ?_
             obtain rfl:=aJ h
             exact hK _ _ _ _ _ aY ax (kn _ hfr (ai.trans rfl))
           · refine aE (aC dc ai) ?_
             obtain rfl:=aJ h
             exact hK _ _ _ _ _ aY ax (kn _ hfr (ai.trans rfl))
         · refine aE (aC cE ai) ?_
           obtain rfl:=aJ h
           exact hK _ _ _ _ _ aY ax (kn _ hfr (ai.trans rfl))
       · refine aE (aC ew ai) ?_
         obtain rfl:=aJ h
         exact hK _ _ _ _ _ aY ax (kn _ hfr (ai.trans rfl))
     · refine aE (aC dy ai) ?_
       obtain rfl:=aJ h
       exact hK _ _ _ _ _ aY ax (kn _ hfr (ai.trans rfl))
   · refine aE (aC ct ai) ?_
     obtain rfl:=aJ h
     exact hK _ _ _ _ _ aY ax (kn _ hfr (ai.trans rfl))
 · refine aE (aC bu ai) ?_
   obtain rfl:=aJ h
   exact hK _ _ _ _ _ aY ax (kn _ hfr (ai.trans rfl))
theorem GA {F:Nat} {r1:bl} {H0:AH} {aM:Bool} (h:qp F r1=some aM):
 aG Tryz.prog 36 [(.agg [(.str r1.cv.aq),(.str r1.cv.domain),(.int .i64 r1.state),(.int .i64 r1.tries),(.int .i64 r1.next),(.int .i64 r1.code),(.str r1.why)])] H0 fun v H'=>v=(.bool aM)∧H'=H0:=by
 refine dX Je uB [] fun hcl K0 aO H hH hfr=> ?_
 clear hH
 have hle:=hfr.le
 rw [qp.eq_1] at h
 refine bT ?_
 obtain ⟨q2,eH⟩:∃q:Nat,H.length=q:=⟨_,rfl⟩
 try rw [eH]
 obtain ⟨zg,bz,h⟩:=ay h
 refine cg ax (Cp (q2:=q2) (Fr.app hfr) ko br bz ?_)
 intro H hfr ai
 have hle:=hfr.le
 have aT:=aL ai
 refine aE ai ?_
 obtain ⟨t12,fQ,h⟩:=ay h
 refine cg ax (Cq (q6:=q2) hfr (ai.trans rfl) br fQ ?_)
 intro H hfr ai
 have hle:=hfr.le
 have aT:=aL ai
 refine aE ai ?_
 obtain rfl:=aJ h
 exact aO _ _ _ bE (bp hfr hcl (bC bw (.bool t12)) bA bt ⟨rfl,rfl⟩)
abbrev E0:aD:=(.seq (.rg [(aj 1 (.box (.t 0))),(aj 2 (.aZ (.c (.bool false))))]) (.seq (.rg [(aj 3 (.ld (.t 1) (some 7))),(aj 4 (.call (.c (.fn 36 [])) [(.t 3)])),(aj 5 (.un .not (.t 4))),(bh 2 5)]) .ret))
theorem E1:bx Tryz.prog 35 6 [(.tmp 2)] (erase E0):=⟨Tryz.f35,_,rfl,by decide,rfl,by kernel_rfl,rfl,rfl⟩
abbrev E2:List Nat:=[0,1,2]
def mA (F:Nat) (r1:bl):Option (Bool):=
 (qp F r1).bind fun r2=>some (!r2)
theorem DA {F:Nat} {r1:bl} {H0:AH} {aM:Bool} (h:mA F r1=some aM):
 aG Tryz.prog 35 [(.agg [(.str r1.cv.aq),(.str r1.cv.domain),(.int .i64 r1.state),(.int .i64 r1.tries),(.int .i64 r1.next),(.int .i64 r1.code),(.str r1.why)])] H0 fun v H'=>v=(.bool aM)∧H'=H0:=by
 refine dX E1 E2 [] fun hcl K0 aO H hH hfr=> ?_
 clear hH
 have hle:=hfr.le
 rw [mA.eq_1] at h
 refine bT ?_
 obtain ⟨r2,hy1,h⟩:=ay h
 refine bf ax (GA hy1) ?_
 refine bT ?_
 obtain rfl:=aJ h
 exact aO _ _ _ bE (bp (Fr.app hfr) hcl (bC bw (.bool (!r2))) bA bt ⟨rfl,rfl⟩)
abbrev gZ:aD:=(.seq (.rg [(aj 9 (.bin .lss (.t 8) (.t 7)))]) (.seq (.cond (.t 9) .skip (.exit 0)) (.seq (.blk 1 (.seq (.rg [(aB 10 8),(bh 5 10)]) (.seq (.rg [(aB 11 1),(aB 12 0),(aB 13 5),(aj 14 (.ku 7 (.t 12) (.t 13))),(aj 15 (.ld (.t 14) (some 7))),(aj 16 (.call (.t 11) [(.t 15)]))]) (.cond (.t 16) (.seq (.rg [(aB 17 5),(bh 4 17)]) .ret) .skip)))) (.rg [(aj 18 (.bin .add (.t 8) (.c (.int .i64 1)))),(aB 8 18)]))))
abbrev rA:aD:=(.seq (.rg [(aj 4 (.aZ (.c (.int .i64 0))))]) (.seq (.seq (.rg [(aB 6 0),(aj 7 (.len (.t 6))),(aj 8 (.mv (.c (.int .i64 0))))]) (.blk 0 (.loop (erase gZ)))) (.seq (.rg [(aj 4 (.aZ (.c (.int .i64 (-1)))))]) .ret)))
theorem rB:bx Tryz.prog 66 19 [(.tmp 4)] (erase rA):=⟨Tryz.f66,_,rfl,by decide,rfl,by kernel_rfl,rfl,rfl⟩
abbrev j4:List Nat:=[0,1,4,5,7,8,9,16]
def cm (F:Nat) (s1:List bl):(Int×Int)→Option (St Int Unit (Int×Int))
 |(t2,t3)=>
  (if (decide (t3<(s1.length:Int))) then
   (idx s1 t3).bind fun x4=>
   (mA F x4).bind fun r5=>
   (if r5 then
    some (.ret t3)
   else
    some (.cT (t2,(IntKind.wrap .i64 (t3+1)))))
  else
   some (.fJ ()))
def eU (F:Nat) (s1:List bl):Option (Int):=
 ((iter (cm F s1) F (0,0)).bind fun o8=>
 match o8 with
 | .inr ()=>
   some (-1)
 | .inl r7=>
   some r7)
theorem og {F:Nat} {t3:Int} {s1:List bl} {t2:Int} {H:AH} {K:Exit→Env→AH→Prop} {o:(Int)⊕(Unit)}
 (h:iter (cm F s1) F (t2,t3)=some o)
 (dn:∀o':Unit,o= .inr o'→K (.exit 0) [] H)
 (kr:∀o':Int,o= .inl o'→K .ret [(4,(.int .i64 o'))] H):
 AX Tryz.prog j4 19 H.length (.loop (erase gZ)) K [(0,(.sl .n 7 (ml aA s1))),(1,(.fn 35 [])),(4,(.int .i64 t2)),(7,(.int .i64 (s1.length:Int))),(8,(.int .i64 t3))] H:=by
 refine ji (fun s e H1=>match s with|(t2,t3)=>e=[(0,(.sl .n 7 (ml aA s1))),(1,(.fn 35 [])),(4,(.int .i64 t2)),(7,(.int .i64 (s1.length:Int))),(8,(.int .i64 t3))]∧H1=H) h ⟨rfl,rfl⟩ ?_
 rintro K' ⟨t2,t3⟩ st e H ⟨rfl,rfl⟩ h hN hB hR hX
 rw [cm.eq_1] at h
 refine aS ?_
 refine bX h (fun hy1 h=> ?_) fun hy1 h=> ?_
 · obtain ⟨x4,bg,h⟩:=ay h
   refine bO bg ?_
   obtain ⟨r5,bz,h⟩:=ay h
   refine bf ax (DA bz) ?_
   refine aS ?_
   refine bX h (fun bu h=> ?_) fun bu h=> ?_
   · refine aS ?_
     obtain rfl:=aJ h
     exact hX _ _ _ _ _ eM aY ax (kr _ (hR _ rfl))
   · refine aS ?_
     obtain rfl:=aJ h
     exact hN _ rfl _ _ _ _ aY ax ⟨rfl,rfl⟩
 · refine aS ?_
   obtain rfl:=aJ h
   exact hX _ _ _ _ _ eM WE.nil ax (dn _ (hB _ rfl))
theorem qq {F:Nat} {s1:List bl} {H0:AH} {aM:Int} (h:eU F s1=some aM):
 aG Tryz.prog 66 [(.sl .n 7 (ml aA s1)),(.fn 35 [])] H0 fun v H'=>v=(.int .i64 aM)∧H'=H0:=by
 refine gz rB j4 fun hcl K0 aO=> ?_
 rw [eU.eq_1] at h
 refine aS ?_
 obtain ⟨o8,bV,h⟩:=ay h
 refine cg ax (og bV ?_ ?_)
 · rintro ⟨⟩ rfl
   try dsimp only at h
   refine aS ?_
   obtain rfl:=aJ h
   exact aO _ _ _ bE (aW hcl (bC bw (.int .i64 (-1))) bA bt ⟨rfl,rfl⟩)
 · rintro r7 rfl
   try dsimp only at h
   refine aS ?_
   obtain rfl:=aJ h
   exact aO _ _ _ bE (aW hcl (bC bw (.int .i64 r7)) bA bt ⟨rfl,rfl⟩)
abbrev oE:aD:=(.seq (.rg [(aj 4 (.aZ (.c (.bool false))))]) (.seq (.rg [(aB 5 0),(aB 6 1),(aj 7 (.call (.c (.fn 66 [])) [(.t 5),(.t 6)])),(aj 8 (.bin .geq (.t 7) (.c (.int .i64 0)))),(bh 4 8)]) .ret))
theorem oF:bx Tryz.prog 34 9 [(.tmp 4)] (erase oE):=⟨Tryz.f34,_,rfl,by decide,rfl,by kernel_rfl,rfl,rfl⟩
abbrev oG:List Nat:=[0,1,4]
def de (F:Nat) (s1:List bl):Option (Bool):=
 (eU F s1).bind fun r2=>some (decide (0≤r2))
theorem oh {F:Nat} {s1:List bl} {H0:AH} {aM:Bool} (h:de F s1=some aM):
 aG Tryz.prog 34 [(.sl .n 7 (ml aA s1)),(.fn 35 [])] H0 fun v H'=>v=(.bool aM)∧H'=H0:=by
 refine gz oF oG fun hcl K0 aO=> ?_
 rw [de.eq_1] at h
 refine aS ?_
 obtain ⟨r2,hy1,h⟩:=ay h
 refine bf ax (qq hy1) ?_
 refine aS ?_
 obtain rfl:=aJ h
 exact aO _ _ _ bE (aW hcl (bC bw (.bool (decide (0≤r2)))) bA bt ⟨rfl,rfl⟩)
abbrev vb:aD:=(.rg [(aj 3 (.aV (.t 1) 0)),(aj 4 (.ld (.t 3) (some 2))),(aj 5 (.call (.c (.fn 32 [])) [(.t 4)])),(aB 6 5),(aF 7 (.aV (.t 1) 2) 6 true),(aF 8 (.ld (.t 7) none) 6 true),(aF 9 (.call (.c (.fn 33 [])) [(.t 8),(.c (.int .i64 0)),(.c (.int .i64 2147483647))]) 6 true),(aj 10 (.pick (.t 6) (.t 9) (.c (.bool false)))),(aB 11 10),(aF 12 (.aV (.t 1) 3) 11 true),(aF 13 (.ld (.t 12) none) 11 true),(aF 14 (.call (.c (.fn 33 [])) [(.t 13),(.c (.int .i64 0)),(.c (.int .i64 2147483647))]) 11 true),(aj 15 (.pick (.t 11) (.t 14) (.c (.bool false)))),(aB 16 15),(aF 17 (.aV (.t 1) 5) 16 true),(aF 18 (.ld (.t 17) none) 16 true),(aF 19 (.len (.t 18)) 16 true),(aF 20 (.call (.c (.fn 33 [])) [(.t 19),(.c (.int .i64 1)),(.c (.int .i64 100))]) 16 true),(aj 21 (.pick (.t 16) (.t 20) (.c (.bool false)))),(aB 22 21),(aF 23 (.aV (.t 1) 5) 22 true),(aF 24 (.ld (.t 23) none) 22 true),(aF 25 (.call (.c (.fn 34 [])) [(.t 24),(.c (.fn 35 []))]) 22 true),(aF 26 (.un .not (.t 25)) 22 true),(aj 27 (.pick (.t 22) (.t 26) (.c (.bool false)))),(bh 2 27)])
abbrev Jf:aD:=(.seq (.rg [(aj 1 (.box (.t 0))),(aj 2 (.aZ (.c (.bool false))))]) (.seq (.sem (erase vb)) .ret))
theorem Jg:bx Tryz.prog 13 28 [(.tmp 2)] (erase Jf):=⟨Tryz.f13,_,rfl,by decide,rfl,by kernel_rfl,rfl,rfl⟩
abbrev AZ:List Nat:=[0,1,2]
def nU (F:Nat) (e1:ak):Option (Bool):=
 (lG F e1.av).bind fun r3=>
 (if r3 then
  (eN e1.born 0 2147483647).bind fun r4=>
  (if r4 then
   (eN e1.size 0 2147483647).bind fun r5=>
   (if r5 then
    (eN (e1.az.length:Int) 1 100).bind fun r6=>
    (if r6 then
     (de F e1.az).bind fun r7=>some (!r7)
    else
     some false)
   else
    some false)
  else
   some false)
 else
  some false)
def ij (F:Nat) (e1:ak):Option (Bool):=
 (nU F e1).bind fun t9=>
 some t9
theorem Cr {F:Nat} {e1:ak} {q2:Nat} {H0 H:AH} (hfr:Fr H0 H0.length [] H) (ai:H[q2]? =some [(.str e1.av.aq),(.str e1.av.domain),(.int .i64 e1.born),(.int .i64 e1.size),(.int .u32 e1.sum),(.sl .n 7 (ml aA e1.az))]) (eD:H0.length≤q2) {K:Exit→Env→AH→Prop} {t8:Bool}
 (h:nU F e1=some t8)
 (kn:∀H':AH,Fr H0 H0.length [] H'→H'[q2]? =some [(.str e1.av.aq),(.str e1.av.domain),(.int .i64 e1.born),(.int .i64 e1.size),(.int .u32 e1.sum),(.sl .n 7 (ml aA e1.az))]→K .normal [(2,(.bool t8))] H'):
 AX Tryz.prog AZ 28 H0.length (erase vb) K [(1,(.ptr q2 0)),(2,(.bool false))] H:=by
 refine dj fun K' hK=> ?_
 have hle:=hfr.le
 have aT:=aL ai
 rw [nU.eq_1] at h
 refine aE ai ?_
 obtain ⟨r3,hy1,h⟩:=ay h
 refine bf ax (wK hy1) ?_
 refine aE ai ?_
 refine cq h (fun bg h=> ?_) fun bg h=> ?_
 · refine aE (aC bg ai) ?_
   obtain ⟨r4,bz,h⟩:=ay h
   refine bf ax (eW bz) ?_
   refine aE ai ?_
   refine cq h (fun bu h=> ?_) fun bu h=> ?_
   · refine aE (aC bu ai) ?_
     obtain ⟨r5,bV,h⟩:=ay h
     refine bf ax (eW bV) ?_
     refine aE ai ?_
     refine cq h (fun ct h=> ?_) fun ct h=> ?_
     · refine aE (aC ct ai) ?_
       obtain ⟨r6,dy,h⟩:=ay h
       refine bf ax (eW dy) ?_
       refine aE ai ?_
       refine cq h (fun dz h=> ?_) fun dz h=> ?_
       · refine aE (aC dz ai) ?_
         obtain ⟨r7,ew,h⟩:=ay h
         refine bf ax (oh ew) ?_
         refine aE ai ?_
         obtain rfl:=aJ h
         exact hK _ _ _ _ _ aY ax (kn _ hfr (ai.trans rfl))
       · refine aE (aC dz ai) ?_
         obtain rfl:=aJ h
         exact hK _ _ _ _ _ aY ax (kn _ hfr (ai.trans rfl))
     · refine aE (aC ct ai) ?_
       obtain rfl:=aJ h
       exact hK _ _ _ _ _ aY ax (kn _ hfr (ai.trans rfl))
   · refine aE (aC bu ai) ?_
     obtain rfl:=aJ h
     exact hK _ _ _ _ _ aY ax (kn _ hfr (ai.trans rfl))
 · refine aE (aC bg ai) ?_
   obtain rfl:=aJ h
   exact hK _ _ _ _ _ aY ax (kn _ hfr (ai.trans rfl))
theorem kI {F:Nat} {e1:ak} {H0:AH} {aM:Bool} (h:ij F e1=some aM):
 aG Tryz.prog 13 [(.agg [(.str e1.av.aq),(.str e1.av.domain),(.int .i64 e1.born),(.int .i64 e1.size),(.int .u32 e1.sum),(.sl .n 7 (ml aA e1.az))])] H0 fun v H'=>v=(.bool aM)∧H'=H0:=by
 refine dX Jg AZ [] fun hcl K0 aO H hH hfr=> ?_
 clear hH
 have hle:=hfr.le
 rw [ij.eq_1] at h
 refine bT ?_
 obtain ⟨q2,eH⟩:∃q:Nat,H.length=q:=⟨_,rfl⟩
 try rw [eH]
 obtain ⟨t9,cZ,h⟩:=ay h
 refine cg ax (Cr (q2:=q2) (Fr.app hfr) ko br cZ ?_)
 intro H hfr ai
 have hle:=hfr.le
 have aT:=aL ai
 refine aE ai ?_
 obtain rfl:=aJ h
 exact aO _ _ _ bE (bp hfr hcl (bC bw (.bool t9)) bA bt ⟨rfl,rfl⟩)
abbrev zh:aD:=(.seq (.rg [(aj 0 (.aZ (.c (.v (.pointer none)))))]) (.seq (.rg [(aj 1 (.build [(.sl .ex 1 [])] [])),(aj 2 (.box (.t 1))),(bh 0 2)]) .ret))
theorem zi:bx Tryz.prog 23 3 [(.tmp 0)] (erase zh):=⟨Tryz.f23,_,rfl,by decide,rfl,by kernel_rfl,rfl,rfl⟩
abbrev zj:List Nat:=[0]
def fK:Option ((Option aU)):=
 some (some (aU.mk ([]:List UInt8)))
theorem oO {H0:AH} {aM:Option aU} (h:fK=some aM):
 aG Tryz.prog 23 [] H0 fun v H'=>match (generalizing:=false) aM with|none=>v=(.v (.pointer none))∧Fr H0 H0.length [] H'|some Jh=>∃zk,v=(.ptr zk 0)∧H0.length≤zk∧Fr H0 H0.length [] H'∧H'[zk]? =some [(.sl .own 1 (ml b8 Jh.b))]:=by
 refine dX zi zj [] fun hcl K0 aO H hH hfr=> ?_
 clear hH
 have hle:=hfr.le
 rw [fK.eq_1] at h
 refine bT ?_
 obtain rfl:=aJ h
 exact aO _ _ _ bE (Li (bC bw (.ptr H.length 0)) (r':=(.ptr H.length 0)) bt (eT.set (q:=H.length) (cs':=[(.sl .own 1 [])]) ko gG) ⟨H.length,rfl,br,(bn _ (Fr.app hfr)),bL⟩)
abbrev zm:aD:=(.rg [(aB 4 0),(aB 5 0),(aj 6 (.ei (.t 5))),(aj 7 (.aV (.t 6) 0)),(aj 8 (.ld (.t 7) none)),(aB 9 1),(aj 10 (.dV (.int .u8) (.t 9))),(aj 11 (.kf 1 [(.t 10)])),(aj 12 (.app 1 1 (.t 8) (.t 11))),(aj 13 (.ei (.t 4))),(aj 14 (.aV (.t 13) 0)),(cX (.st (.t 14) (.t 12) 1))])
theorem zn:bx Tryz.prog 27 15 [] (erase zm):=⟨Tryz.f27,_,rfl,by decide,rfl,by kernel_rfl,rfl,rfl⟩
abbrev zo:List Nat:=[0,1]
def dL (w2:aU) (fD:Int):Option (aU):=
 (cB 1 w2.b ([(UInt8.ofInt fD)]:List UInt8)).bind fun x4=>some (aU.mk x4)
theorem gI {w2:aU} {fD:Int} {q1:Nat} {H0:AH} (ai:H0[q1]? =some [(.sl .own 1 (ml b8 w2.b))]) {aM:aU} (h:dL w2 fD=some aM):
 aG Tryz.prog 27 [(.ptr q1 0),(.int .i64 fD)] H0 fun v H'=>v=(.bK [])∧H'=(H0.set q1 [(.sl .own 1 (ml b8 aM.b))]):=by
 have aT:=aL ai
 refine dX zn zo [q1] fun hcl K0 aO H hH hfr=> ?_
 rw [←hH] at ai
 clear hH
 have hle:=hfr.le
 have eZ:=aL ai
 rw [dL.eq_1] at h
 obtain ⟨x4,hy1,h⟩:=ay h
 have bg:cB 1 (ml b8 w2.b) [(b8 (UInt8.ofInt fD))]=some (ml b8 x4):=ez (f:=b8) hy1
 refine aE (aC bg ai) ?_
 obtain rfl:=aJ h
 exact aO _ _ _ I3 (cc (bn _ (bn _ hfr)) hcl bw bA bt bL br jK gG ⟨rfl,rfl⟩)
abbrev xU:aD:=(.rg [(aB 4 0),(aB 5 0),(aj 6 (.ei (.t 5))),(aj 7 (.aV (.t 6) 0)),(aj 8 (.ld (.t 7) none)),(aB 9 1),(aj 10 (.dV (.int .u8) (.t 9))),(aB 11 1),(aj 12 (.bin .shr (.t 11) (.c (.int .u64 8)))),(aj 13 (.dV (.int .u8) (.t 12))),(aB 14 1),(aj 15 (.bin .shr (.t 14) (.c (.int .u64 16)))),(aj 16 (.dV (.int .u8) (.t 15))),(aB 17 1),(aj 18 (.bin .shr (.t 17) (.c (.int .u64 24)))),(aj 19 (.dV (.int .u8) (.t 18))),(aj 20 (.kf 1 [(.t 10),(.t 13),(.t 16),(.t 19)])),(aj 21 (.app 1 1 (.t 8) (.t 20))),(aj 22 (.ei (.t 4))),(aj 23 (.aV (.t 22) 0)),(cX (.st (.t 23) (.t 21) 1))])
theorem xV:bx Tryz.prog 28 24 [] (erase xU):=⟨Tryz.f28,_,rfl,by decide,rfl,by kernel_rfl,rfl,rfl⟩
abbrev xW:List Nat:=[0,1]
def dx (w2:aU) (fD:Int):Option (aU):=
 (cB 1 w2.b ([(UInt8.ofInt fD),(UInt8.ofInt (shr .i64 fD 8)),(UInt8.ofInt (shr .i64 fD 16)),(UInt8.ofInt (shr .i64 fD 24))]:List UInt8)).bind fun x4=>some (aU.mk x4)
theorem gm {w2:aU} {fD:Int} {q1:Nat} {H0:AH} (ai:H0[q1]? =some [(.sl .own 1 (ml b8 w2.b))]) {aM:aU} (h:dx w2 fD=some aM):
 aG Tryz.prog 28 [(.ptr q1 0),(.int .i64 fD)] H0 fun v H'=>v=(.bK [])∧H'=(H0.set q1 [(.sl .own 1 (ml b8 aM.b))]):=by
 have aT:=aL ai
 refine dX xV xW [q1] fun hcl K0 aO H hH hfr=> ?_
 rw [←hH] at ai
 clear hH
 have hle:=hfr.le
 have eZ:=aL ai
 rw [dx.eq_1] at h
 obtain ⟨x4,hy1,h⟩:=ay h
 have bg:cB 1 (ml b8 w2.b) [(b8 (UInt8.ofInt fD)),(b8 (UInt8.ofInt (shr .i64 fD 8))),(b8 (UInt8.ofInt (shr .i64 fD 16))),(b8 (UInt8.ofInt (shr .i64 fD 24)))]=some (ml b8 x4):=ez (f:=b8) hy1
 refine aE (aC bg ai) ?_
 obtain rfl:=aJ h
 exact aO _ _ _ I3 (cc (bn _ (bn _ hfr)) hcl bw bA bt bL br jK gG ⟨rfl,rfl⟩)
abbrev vC:aD:=(.seq (.rg [(aB 4 0),(aB 5 1),(aj 6 (.len (.t 5))),(aj 7 (.call (.c (.fn 28 [])) [(.t 4),(.t 6)]))]) (.rg [(aB 8 0),(aB 9 0),(aj 10 (.ei (.t 9))),(aj 11 (.aV (.t 10) 0)),(aj 12 (.ld (.t 11) none)),(aB 13 1),(aj 14 (.app 1 1 (.t 12) (.t 13))),(aj 15 (.ei (.t 8))),(aj 16 (.aV (.t 15) 0)),(cX (.st (.t 16) (.t 14) 1))]))
theorem vD:bx Tryz.prog 25 17 [] (erase vC):=⟨Tryz.f25,_,rfl,by decide,rfl,by kernel_rfl,rfl,rfl⟩
abbrev vE:List Nat:=[0,1]
def fq (w2:aU) (b3:List UInt8):Option (aU):=
 (dx w2 (b3.length:Int)).bind fun r4=>(cB 1 r4.b b3).bind fun x5=>some (aU.mk x5)
theorem uC {w2:aU} {b3:List UInt8} {q1:Nat} {H0:AH} (ai:H0[q1]? =some [(.sl .own 1 (ml b8 w2.b))]) {aM:aU} (h:fq w2 b3=some aM):
 aG Tryz.prog 25 [(.ptr q1 0),(.sl .n 1 (ml b8 b3))] H0 fun v H'=>v=(.bK [])∧H'=(H0.set q1 [(.sl .own 1 (ml b8 aM.b))]):=by
 have aT:=aL ai
 refine dX vD vE [q1] fun hcl K0 aO H hH hfr=> ?_
 rw [←hH] at ai
 clear hH
 have hle:=hfr.le
 have eZ:=aL ai
 rw [fq.eq_1] at h
 refine aE ai ?_
 obtain ⟨r4,hy1,h⟩:=ay h
 refine bf ax (gm (ai.trans rfl) hy1) ?_
 refine aE ai ?_
 obtain ⟨x5,bg,h⟩:=ay h
 have bz:cB 1 (ml b8 r4.b) (ml b8 b3)=some (ml b8 x5):=ez (f:=b8) bg
 refine aE (aC bz ai) ?_
 obtain rfl:=aJ h
 exact aO _ _ _ I3 (cc (bn _ (bn _ (bn _ hfr))) hcl bw bA bt bL br jK gG ⟨rfl,rfl⟩)
abbrev A0:aD:=(.rg [(aj 3 (.ld (.t 1) none)),(aB 4 0),(aj 5 (.dV .sb (.t 4))),(aj 6 (.call (.c (.fn 25 [])) [(.t 3),(.t 5)]))])
theorem A1:bx Tryz.prog 24 7 [] (erase A0):=⟨Tryz.f24,_,rfl,by decide,rfl,by kernel_rfl,rfl,rfl⟩
abbrev A2:List Nat:=[0,1]
def e8 (s1:List UInt8) (v3:aU):Option (aU):=
 (fq v3 s1).bind fun r5=>some r5
theorem lq {s1:List UInt8} {v3:aU} {q2:Nat} {q4:Nat} {H0:AH} (ai:H0[q2]? =some [(.ptr q4 0)]) (au:H0[q4]? =some [(.sl .own 1 (ml b8 v3.b))]) (eD:q2≠q4) {aM:aU} (h:e8 s1 v3=some aM):
 aG Tryz.prog 24 [(.str s1),(.ptr q2 0)] H0 fun v H'=>v=(.bK [])∧H'=(H0.set q4 [(.sl .own 1 (ml b8 aM.b))]):=by
 have aT:=aL ai
 have cM:=aL au
 refine dX A1 A2 [q4] fun hcl K0 aO H hH hfr=> ?_
 rw [←hH] at ai au
 clear hH
 have hle:=hfr.le
 have eZ:=aL ai
 have Ji:=aL au
 rw [e8.eq_1] at h
 refine aE (aC ai au) ?_
 obtain ⟨r5,hy1,h⟩:=ay h
 refine bf ax (uC (au.trans rfl) hy1) ?_
 refine aE (aC ai au) ?_
 obtain rfl:=aJ h
 exact aO _ _ _ I3 (cc (bn _ hfr) hcl bw bA bt bL br jK gG ⟨rfl,rfl⟩)
abbrev A3:aD:=(.seq (.rg [(aj 2 (.box (.t 0)))]) (.seq (.rg [(aj 3 (.ld (.t 1) none)),(aj 4 (.aV (.t 2) 0)),(aj 5 (.ld (.t 4) none)),(aj 6 (.call (.t 3) [(.t 5)]))]) (.rg [(aj 7 (.ld (.t 1) none)),(aj 8 (.aV (.t 2) 1)),(aj 9 (.ld (.t 8) none)),(aj 10 (.call (.t 7) [(.t 9)]))])))
theorem A4:bx Tryz.prog 26 11 [] (erase A3):=⟨Tryz.f26,_,rfl,by decide,rfl,by kernel_rfl,rfl,rfl⟩
abbrev A5:List Nat:=[0,1,2]
def gh (a1:aK) (v4:aU):Option (aU):=
 (e8 a1.aq v4).bind fun r6=>(e8 a1.domain r6).bind fun r7=>some r7
theorem qs {a1:aK} {v4:aU} {q2:Nat} {q3:Nat} {q5:Nat} {H0:AH} (ai:H0[q2]? =some [(.fn 24 [(.ptr q3 0)])]) (au:H0[q3]? =some [(.ptr q5 0)]) (aR:H0[q5]? =some [(.sl .own 1 (ml b8 v4.b))]) (eD:q2≠q3) (hi1:q2≠q5) (hi2:q3≠q5) {aM:aU} (h:gh a1 v4=some aM):
 aG Tryz.prog 26 [(.agg [(.str a1.aq),(.str a1.domain)]),(.ptr q2 0)] H0 fun v H'=>v=(.bK [])∧H'=(H0.set q5 [(.sl .own 1 (ml b8 aM.b))]):=by
 have aT:=aL ai
 have cM:=aL au
 have lu:=aL aR
 refine dX A4 A5 [q5] fun hcl K0 aO H hH hfr=> ?_
 rw [←hH] at ai au aR
 clear hH
 have hle:=hfr.le
 have eZ:=aL ai
 have Ji:=aL au
 have aco:=aL aR
 rw [gh.eq_1] at h
 refine aE (aC ai (aC au aR)) ?_
 obtain ⟨r6,hy1,h⟩:=ay h
 refine bf ax (lq (q2:=q3) (q4:=q5) (eo (au.trans rfl)) (eo (aR.trans rfl)) br hy1) ?_
 refine aE (aC ai (aC au aR)) ?_
 obtain ⟨r7,bg,h⟩:=ay h
 refine bf ax (lq (q2:=q3) (q4:=q5) (aX (eo (au.trans rfl))) bL br bg) ?_
 refine aE (aC ai (aC au aR)) ?_
 obtain rfl:=aJ h
 exact aO _ _ _ I3 (cc (bn _ (bn _ (Fr.app hfr))) hcl bw bA bt bL br jK gG ⟨rfl,rfl⟩)
abbrev xX:aD:=(.rg [(aB 4 0),(aB 5 0),(aj 6 (.ei (.t 5))),(aj 7 (.aV (.t 6) 0)),(aj 8 (.ld (.t 7) none)),(aB 9 1),(aj 10 (.dV (.int .u8) (.t 9))),(aB 11 1),(aj 12 (.bin .shr (.t 11) (.c (.int .u64 8)))),(aj 13 (.dV (.int .u8) (.t 12))),(aj 14 (.kf 1 [(.t 10),(.t 13)])),(aj 15 (.app 1 1 (.t 8) (.t 14))),(aj 16 (.ei (.t 4))),(aj 17 (.aV (.t 16) 0)),(cX (.st (.t 17) (.t 15) 1))])
theorem xY:bx Tryz.prog 29 18 [] (erase xX):=⟨Tryz.f29,_,rfl,by decide,rfl,by kernel_rfl,rfl,rfl⟩
abbrev xZ:List Nat:=[0,1]
def gp (w2:aU) (fD:Int):Option (aU):=
 (cB 1 w2.b ([(UInt8.ofInt fD),(UInt8.ofInt (shr .i64 fD 8))]:List UInt8)).bind fun x4=>some (aU.mk x4)
theorem wM {w2:aU} {fD:Int} {q1:Nat} {H0:AH} (ai:H0[q1]? =some [(.sl .own 1 (ml b8 w2.b))]) {aM:aU} (h:gp w2 fD=some aM):
 aG Tryz.prog 29 [(.ptr q1 0),(.int .i64 fD)] H0 fun v H'=>v=(.bK [])∧H'=(H0.set q1 [(.sl .own 1 (ml b8 aM.b))]):=by
 have aT:=aL ai
 refine dX xY xZ [q1] fun hcl K0 aO H hH hfr=> ?_
 rw [←hH] at ai
 clear hH
 have hle:=hfr.le
 have eZ:=aL ai
 rw [gp.eq_1] at h
 obtain ⟨x4,hy1,h⟩:=ay h
 have bg:cB 1 (ml b8 w2.b) [(b8 (UInt8.ofInt fD)),(b8 (UInt8.ofInt (shr .i64 fD 8)))]=some (ml b8 x4):=ez (f:=b8) hy1
 refine aE (aC bg ai) ?_
 obtain rfl:=aJ h
 exact aO _ _ _ I3 (cc (bn _ (bn _ hfr)) hcl bw bA bt bL br jK gG ⟨rfl,rfl⟩)
theorem DB:bx Tryz.prog 60 8 [(.tmp 2)] (AF 1 1):=⟨Tryz.f60,_,rfl,by decide,rfl,by kernel_rfl,rfl,rfl⟩
def fG (s1:List UInt8):Option (List UInt8):=cB 1 [] s1
theorem gO {s1:List UInt8} {H0:AH} {aM:List UInt8} (h:fG s1=some aM):aG Tryz.prog 60 [(.sl .n 1 (ml b8 s1))] H0 fun v H'=>v=(.sl .own 1 (ml b8 aM))∧H'=H0:=I2 DB (ez (f:=b8) h)
abbrev wN:aD:=(.seq (.rg [(aj 2 (.aZ (.c (.sl .ex 1 []))))]) (.seq (.rg [(aB 3 0),(aj 4 (.ei (.t 3))),(aj 5 (.aV (.t 4) 0)),(aj 6 (.ld (.t 5) none)),(aj 7 (.call (.c (.fn 60 [])) [(.t 6)])),(bh 2 7)]) .ret))
theorem wO:bx Tryz.prog 31 8 [(.tmp 2)] (erase wN):=⟨Tryz.f31,_,rfl,by decide,rfl,by kernel_rfl,rfl,rfl⟩
abbrev wP:List Nat:=[0,2]
def ir (w2:aU):Option ((List UInt8)):=
 (fG w2.b).bind fun r3=>some r3
theorem vF {w2:aU} {q1:Nat} {H0:AH} (ai:H0[q1]? =some [(.sl .own 1 (ml b8 w2.b))]) {aM:List UInt8} (h:ir w2=some aM):
 aG Tryz.prog 31 [(.ptr q1 0)] H0 fun v H'=>v=(.sl .own 1 (ml b8 aM))∧H'=H0:=by
 have aT:=aL ai
 refine dX wO wP [] fun hcl K0 aO H hH hfr=> ?_
 rw [←hH] at ai
 clear hH
 have hle:=hfr.le
 have eZ:=aL ai
 rw [ir.eq_1] at h
 refine aE ai ?_
 obtain ⟨r3,hy1,h⟩:=ay h
 refine bf ax (gO hy1) ?_
 refine aE ai ?_
 obtain rfl:=aJ h
 exact aO _ _ _ bE (bp hfr hcl (bC bw (.sl .own 1 (ml b8 r3))) bA bt ⟨rfl,rfl⟩)
abbrev tJ:aD:=(.seq (.rg [(aj 11 (.bin .lss (.t 10) (.t 9)))]) (.seq (.cond (.t 11) .skip (.exit 0)) (.seq (.blk 1 (.seq (.rg [(aj 12 (.ku 1 (.t 8) (.t 10))),(aj 13 (.ld (.t 12) none)),(bh 6 13)]) (.seq (.rg [(aB 14 4),(aB 15 6),(aj 16 (.dV (.int .u32) (.t 15))),(aj 17 (.bin .xor (.t 14) (.t 16))),(bh 4 17)]) (.seq (.rg [(aB 18 4),(aj 19 (.bin .shr (.t 18) (.c (.int .u64 4)))),(aB 20 4),(aj 21 (.bin .and (.t 20) (.c (.int .u32 15)))),(aj 22 (.Qj 1 16 (.t 3) (.t 21))),(aj 23 (.ld (.t 22) none)),(aj 24 (.bin .xor (.t 19) (.t 23))),(bh 4 24)]) (.rg [(aB 25 4),(aj 26 (.bin .shr (.t 25) (.c (.int .u64 4)))),(aB 27 4),(aj 28 (.bin .and (.t 27) (.c (.int .u32 15)))),(aj 29 (.Qj 1 16 (.t 3) (.t 28))),(aj 30 (.ld (.t 29) none)),(aj 31 (.bin .xor (.t 26) (.t 30))),(bh 4 31)]))))) (.rg [(aj 32 (.bin .add (.t 10) (.c (.int .i64 1)))),(aB 10 32)]))))
abbrev Jj:aD:=(.seq (.rg [(aj 2 (.aZ (.c (.int .u32 0))))]) (.seq (.rg [(aj 7 (.build [(.int .u32 0),(.int .u32 498536548),(.int .u32 997073096),(.int .u32 651767980),(.int .u32 1994146192),(.int .u32 1802195444),(.int .u32 1303535960),(.int .u32 1342533948),(.int .u32 3988292384),(.int .u32 4027552580),(.int .u32 3604390888),(.int .u32 3412177804),(.int .u32 2607071920),(.int .u32 2262029012),(.int .u32 2685067896),(.int .u32 3183342108)] [])),(aj 3 (.alloc [(.int .u32 0),(.int .u32 0),(.int .u32 0),(.int .u32 0),(.int .u32 0),(.int .u32 0),(.int .u32 0),(.int .u32 0),(.int .u32 0),(.int .u32 0),(.int .u32 0),(.int .u32 0),(.int .u32 0),(.int .u32 0),(.int .u32 0),(.int .u32 0)])),(cX (.st (.t 3) (.t 7) 16))]) (.seq (.rg [(aj 4 (.aZ (.c (.int .u32 4294967295))))]) (.seq (.seq (.rg [(aB 8 0),(aj 9 (.len (.t 8))),(aj 10 (.mv (.c (.int .i64 0))))]) (.blk 0 (.loop (erase tJ)))) (.seq (.rg [(aB 33 4),(aj 34 (.un .xor (.t 33))),(bh 2 34)]) .ret)))))
theorem Jk:bx Tryz.prog 61 35 [(.tmp 2)] (erase Jj):=⟨Tryz.f61,_,rfl,by decide,rfl,by kernel_rfl,rfl,rfl⟩
abbrev A6:List Nat:=[0,2,3,4,6,8,9,10,11]
def fL:List Int:=[0,498536548,997073096,651767980,1994146192,1802195444,1303535960,1342533948,3988292384,4027552580,3604390888,3412177804,2607071920,2262029012,2685067896,3183342108]
def iP (b1:List UInt8):(Int×Int)→Option (St Int Int (Int×Int))
 |(v3,t4)=>
  (if (decide (t4<(b1.length:Int))) then
   (idx b1 t4).bind fun x5=>
   (wD 16 (yE .u32 (tw .u32 v3 (IntKind.wrap .u32 (x5.toNat:Int))) 15)).bind fun j6=>
   (fL[j6]?).bind fun x7=>
   (wD 16 (yE .u32 (tw .u32 (shr .u32 (tw .u32 v3 (IntKind.wrap .u32 (x5.toNat:Int))) 4) x7) 15)).bind fun j8=>
   (fL[j8]?).bind fun x9=>
   some (.cT ((tw .u32 (shr .u32 (tw .u32 (shr .u32 (tw .u32 v3 (IntKind.wrap .u32 (x5.toNat:Int))) 4) x7) 4) x9),(IntKind.wrap .i64 (t4+1))))
  else
   some (.fJ v3))
def nK (F:Nat) (b1:List UInt8):Option (Int):=
 ((iter (iP b1) F (4294967295,0)).bind fun E3=>
 match E3 with
 | .inr v11=>
   some (tA .u32 v11)
 | .inl _=>none)
theorem Cs {F:Nat} {t4:Int} {b1:List UInt8} {v3:Int} {q2:Nat} {H0 H:AH} (hfr:Fr H0 H0.length [] H) (ai:H[q2]? =some (ml (iY .u32) fL)) (eD:H0.length≤q2) {K:Exit→Env→AH→Prop} {o:(Int)⊕(Int)}
 (h:iter (iP b1) F (v3,t4)=some o)
 (dn:∀o':Int,o= .inr o'→∀H':AH,Fr H0 H0.length [] H'→H'[q2]? =some (ml (iY .u32) fL)→K (.exit 0) [(4,(.int .u32 o'))] H'):
 AX Tryz.prog A6 35 H0.length (.loop (erase tJ)) K [(3,(.ptr q2 0)),(4,(.int .u32 v3)),(8,(.sl .n 1 (ml b8 b1))),(9,(.int .i64 (b1.length:Int))),(10,(.int .i64 t4))] H:=by
 refine ji (fun s e H1=>match s with|(v3,t4)=>e=[(3,(.ptr q2 0)),(4,(.int .u32 v3)),(8,(.sl .n 1 (ml b8 b1))),(9,(.int .i64 (b1.length:Int))),(10,(.int .i64 t4))]∧Fr H0 H0.length [] H1∧H1[q2]? =some (ml (iY .u32) fL)) h ⟨rfl,hfr,ai⟩ ?_
 rintro K' ⟨v3,t4⟩ st e H ⟨rfl,hfr,ai⟩ h hN hB hR hX
 have hle:=hfr.le
 have aT:=aL ai
 rw [iP.eq_1] at h
 refine aE ai ?_
 refine bX h (fun hy1 h=> ?_) fun hy1 h=> ?_
 · obtain ⟨x5,bg,h⟩:=ay h
   obtain ⟨j6,bz,h⟩:=ay h
   obtain ⟨x7,bu,h⟩:=ay h
   have bV:=uu (f:=(iY .u32)) bu
   obtain ⟨j8,ct,h⟩:=ay h
   obtain ⟨x9,dy,h⟩:=ay h
   have dz:=uu (f:=(iY .u32)) dy
   refine aE (aC bg (aC bz (aC bV (aC ct (aC dz ai))))) ?_
   obtain rfl:=aJ h
   exact hN _ rfl _ _ _ _ aY ax ⟨rfl,hfr,(ai.trans rfl)⟩
 · refine aE ai ?_
   obtain rfl:=aJ h
   exact hX _ _ _ _ _ eM aY ax (dn _ (hB _ rfl) _ hfr (ai.trans rfl))
theorem yI {F:Nat} {b1:List UInt8} {H0:AH} {aM:Int} (h:nK F b1=some aM):
 aG Tryz.prog 61 [(.sl .n 1 (ml b8 b1))] H0 fun v H'=>v=(.int .u32 aM)∧H'=H0:=by
 refine dX Jk A6 [] fun hcl K0 aO H hH hfr=> ?_
 clear hH
 have hle:=hfr.le
 rw [nK.eq_1] at h
 refine bT ?_
 obtain ⟨q2,eH⟩:∃q:Nat,H.length=q:=⟨_,rfl⟩
 try rw [eH]
 obtain ⟨E3,ew,h⟩:=ay h
 refine cg ax (Cs (q2:=q2) (bn _ (Fr.app hfr)) bL br ew ?_)
 · rintro v11 rfl H hfr ai
   try dsimp only at h ai
   have hle:=hfr.le
   have aT:=aL ai
   refine aE ai ?_
   obtain rfl:=aJ h
   exact aO _ _ _ bE (bp hfr hcl (bC bw (.int .u32 (tA .u32 v11))) bA bt ⟨rfl,rfl⟩)
abbrev GB:aD:=(.seq (.rg [(aj 2 (.aZ (.c (.sl .ex 1 []))))]) (.seq (.rg [(aj 4 (.call (.c (.fn 23 [])) [])),(bh 3 4)]) (.seq (.rg [(aB 5 3),(aB 6 0),(aj 7 (.call (.c (.fn 60 [])) [(.t 6)])),(aj 8 (.ei (.t 5))),(aj 9 (.aV (.t 8) 0)),(cX (.st (.t 9) (.t 7) 1))]) (.seq (.rg [(aB 10 3),(aB 11 0),(aj 12 (.call (.c (.fn 61 [])) [(.t 11)])),(aj 13 (.dV (.int .i64) (.t 12))),(aj 14 (.call (.c (.fn 28 [])) [(.t 10),(.t 13)]))]) (.seq (.rg [(aB 15 3),(aj 16 (.ei (.t 15))),(aj 17 (.aV (.t 16) 0)),(aj 18 (.ld (.t 17) none)),(bh 2 18)]) .ret)))))
theorem GC:bx Tryz.prog 30 19 [(.tmp 2)] (erase GB):=⟨Tryz.f30,_,rfl,by decide,rfl,by kernel_rfl,rfl,rfl⟩
abbrev GD:List Nat:=[0,2,3]
def om (F:Nat) (b1:List UInt8):Option ((List UInt8)):=
 ((fK).bind fun r2=>
 match r2 with
 |none=>
  none
 |some t3=>
  (fG b1).bind fun r6=>
  (nK F b1).bind fun r7=>
  (dx (aU.mk r6) (IntKind.wrap .i64 r7)).bind fun r8=>some r8.b)
theorem E4 {F:Nat} {b1:List UInt8} {H0:AH} {aM:List UInt8} (h:om F b1=some aM):
 aG Tryz.prog 30 [(.sl .n 1 (ml b8 b1))] H0 fun v H'=>v=(.sl .n 1 (ml b8 aM))∧H'=H0:=by
 refine dX GC GD [] fun hcl K0 aO H hH hfr=> ?_
 clear hH
 have hle:=hfr.le
 rw [om.eq_1] at h
 refine bT ?_
 obtain ⟨r2,hy1,h⟩:=ay h
 rcases r2 with _|t3
 · try dsimp only at h
   cases h
 · try dsimp only at h
   refine ZB ax (oO hy1) ?_
   rintro _ H ⟨q5,rfl,E5,A7,ai⟩
   try simp only [mb,mc] at E5
   have hfr:=Fr.trans hfr A7 (by simp)
   have hle:=hfr.le
   have aT:=aL ai
   refine aE ai ?_
   obtain ⟨r6,bz,h⟩:=ay h
   refine bf ax (gO bz) ?_
   refine aE ai ?_
   obtain ⟨r7,bu,h⟩:=ay h
   refine bf ax (yI bu) ?_
   refine aE ai ?_
   obtain ⟨r8,bV,h⟩:=ay h
   refine bf ax (gm (q1:=q5) bL bV) ?_
   refine aE ai ?_
   obtain rfl:=aJ h
   exact aO _ _ _ bE (bp (bn _ (bn _ hfr)) hcl (bC bw (.sl .n 1 (ml b8 r8.b))) bA bt ⟨rfl,rfl⟩)
abbrev rT:aD:=(.seq (.rg [(aj 32 (.bin .lss (.t 31) (.t 30)))]) (.seq (.cond (.t 32) .skip (.exit 0)) (.seq (.blk 1 (.seq (.rg [(aj 33 (.ku 1 (.t 29) (.t 31))),(aj 34 (.ld (.t 33) none)),(bh 7 34)]) (.rg [(aj 35 (.ld (.t 3) none)),(aB 36 7),(aj 37 (.call (.c (.fn 28 [])) [(.t 35),(.t 36)]))]))) (.rg [(aj 38 (.bin .add (.t 31) (.c (.int .i64 1)))),(aB 31 38)]))))
abbrev rU:aD:=(.seq (.rg [(aj 48 (.bin .lss (.t 47) (.t 46)))]) (.seq (.cond (.t 48) .skip (.exit 2)) (.seq (.blk 3 (.seq (.rg [(aj 49 (.ku 7 (.t 45) (.t 47))),(aj 50 (.ld (.t 49) (some 7))),(aj 9 (.alloc [(.str []),(.str []),(.int .i64 0),(.int .i64 0),(.int .i64 0),(.int .i64 0),(.str [])])),(cX (.st (.t 9) (.t 50) 7))]) (.seq (.rg [(aB 51 5),(aj 52 (.aV (.t 9) 0)),(aj 53 (.ld (.t 52) (some 2))),(aj 54 (.call (.t 51) [(.t 53)]))]) (.seq (.rg [(aj 55 (.ld (.t 3) none)),(aj 56 (.aV (.t 9) 2)),(aj 57 (.ld (.t 56) none)),(aj 58 (.call (.c (.fn 27 [])) [(.t 55),(.t 57)]))]) (.seq (.rg [(aj 59 (.ld (.t 3) none)),(aj 60 (.aV (.t 9) 3)),(aj 61 (.ld (.t 60) none)),(aj 62 (.call (.c (.fn 27 [])) [(.t 59),(.t 61)]))]) (.seq (.rg [(aj 63 (.ld (.t 3) none)),(aj 64 (.aV (.t 9) 4)),(aj 65 (.ld (.t 64) none)),(aj 66 (.call (.c (.fn 28 [])) [(.t 63),(.t 65)]))]) (.seq (.rg [(aj 67 (.ld (.t 3) none)),(aj 68 (.aV (.t 9) 5)),(aj 69 (.ld (.t 68) none)),(aj 70 (.call (.c (.fn 29 [])) [(.t 67),(.t 69)]))]) (.rg [(aj 71 (.ld (.t 4) none)),(aj 72 (.aV (.t 9) 6)),(aj 73 (.ld (.t 72) none)),(aj 74 (.call (.t 71) [(.t 73)]))])))))))) (.rg [(aj 75 (.bin .add (.t 47) (.c (.int .i64 1)))),(aB 47 75)]))))
abbrev GG:aD:=(.seq (.rg [(aj 1 (.box (.t 0))),(aj 2 (.aZ (.c (.sl .ex 1 []))))]) (.seq (.seq (.rg [(aj 10 (.ld (.t 1) (some 6))),(aj 11 (.call (.c (.fn 13 [])) [(.t 10)])),(aj 12 (.un .not (.t 11)))]) (.cond (.t 12) (.seq (.rg [(aj 2 (.aZ (.c (.sl .ex 1 []))))]) .ret) .skip)) (.seq (.rg [(aj 13 (.call (.c (.fn 23 [])) [])),(aj 3 (.alloc [(.v (.pointer none))])),(cX (.st (.t 3) (.t 13) 1))]) (.seq (.rg [(aj 14 (.JM 24 [(.t 3)])),(aj 4 (.alloc [(.v .nilFunc)])),(cX (.st (.t 4) (.t 14) 1))]) (.seq (.rg [(aj 15 (.JM 26 [(.t 4)])),(bh 5 15)]) (.seq (.rg [(aj 16 (.ld (.t 3) none)),(aj 17 (.call (.c (.fn 27 [])) [(.t 16),(.c (.int .i64 1))]))]) (.seq (.rg [(aB 18 5),(aj 19 (.aV (.t 1) 0)),(aj 20 (.ld (.t 19) (some 2))),(aj 21 (.call (.t 18) [(.t 20)]))]) (.seq (.seq (.rg [(aj 22 (.aV (.t 1) 2)),(aj 23 (.ld (.t 22) none)),(aj 24 (.aV (.t 1) 3)),(aj 25 (.ld (.t 24) none)),(aj 26 (.aV (.t 1) 4)),(aj 27 (.ld (.t 26) none)),(aj 28 (.dV (.int .i64) (.t 27))),(aj 29 (.kf 1 [(.t 23),(.t 25),(.t 28)])),(aj 30 (.len (.t 29))),(aj 31 (.mv (.c (.int .i64 0))))]) (.blk 0 (.loop (erase rT)))) (.seq (.rg [(aj 39 (.ld (.t 3) none)),(aj 40 (.aV (.t 1) 5)),(aj 41 (.ld (.t 40) none)),(aj 42 (.len (.t 41))),(aj 43 (.call (.c (.fn 27 [])) [(.t 39),(.t 42)]))]) (.seq (.seq (.rg [(aj 44 (.aV (.t 1) 5)),(aj 45 (.ld (.t 44) none)),(aj 46 (.len (.t 45))),(aj 47 (.mv (.c (.int .i64 0))))]) (.blk 2 (.loop (erase rU)))) (.seq (.rg [(aj 76 (.ld (.t 3) none)),(aj 77 (.call (.c (.fn 31 [])) [(.t 76)])),(aj 78 (.call (.c (.fn 30 [])) [(.t 77)])),(bh 2 78)]) .ret)))))))))))
theorem GH:bx Tryz.prog 10 79 [(.tmp 2)] (erase GG):=⟨Tryz.f10,_,rfl,by decide,rfl,by kernel_rfl,rfl,rfl⟩
abbrev sV:List Nat:=[0,1,2,3,4,5,7,9,12,29,30,31,32,45,46,47,48]
def cU (e1:ak):(Int×aU)→Option (St (List UInt8) aU (Int×aU))
 |(t13,Ln)=>
  (if (decide (t13<((3:Nat):Int))) then
   (idx ([e1.born,e1.size,(IntKind.wrap .i64 e1.sum)]:List Int) t13).bind fun Lo=>
   (dx Ln Lo).bind fun r16=>some (.cT ((IntKind.wrap .i64 (t13+1)),r16))
  else
   some (.fJ Ln))
def eS (e1:ak):(Int×aU)→Option (St (List UInt8) aU (Int×aU))
 |(t23,E6)=>
  (if (decide (t23<(e1.az.length:Int))) then
   (idx e1.az t23).bind fun Cm=>
   (gh Cm.cv E6).bind fun wQ=>
   (dL wQ Cm.state).bind fun Ct=>
   (dL Ct Cm.tries).bind fun Wr=>
   (dx Wr Cm.next).bind fun S5=>
   (gp S5 Cm.code).bind fun Ws=>
   (e8 Cm.why Ws).bind fun S6=>some (.cT ((IntKind.wrap .i64 (t23+1)),S6))
  else
   some (.fJ E6))
def hM (F:Nat) (e1:ak):Option ((List UInt8)):=
 (ij F e1).bind fun r2=>
 (if (!r2) then
  some ([]:List UInt8)
 else
  ((fK).bind fun r3=>
  match r3 with
  |none=>
   none
  |some t5=>
   (dL t5 1).bind fun r7=>
   (gh e1.av r7).bind fun r8=>
   ((iter (cU e1) F (0,r8)).bind fun o37=>
   match o37 with
   | .inr s18=>
     (dL s18 (e1.az.length:Int)).bind fun rC=>
     ((iter (eS e1) F (0,rC)).bind fun o36=>
     match o36 with
     | .inr Cu=>
       (ir Cu).bind fun Wt=>(om F Wt).bind fun DC=>some DC
     | .inl _=>none)
   | .inl _=>none)))
theorem A8 {F:Nat} {t13:Int} {e1:ak} {Ln:aU} {q9:Nat} {kJ:Nat} {mZ:Nat} {lS:Nat} {H0 H:AH} (hfr:Fr H0 H0.length [] H) (ai:H[q9]? =some [(.str e1.av.aq),(.str e1.av.domain),(.int .i64 e1.born),(.int .i64 e1.size),(.int .u32 e1.sum),(.sl .n 7 (ml aA e1.az))]) (au:H[lS]? =some [(.sl .own 1 (ml b8 Ln.b))]) (aR:H[kJ]? =some [(.ptr lS 0)]) (bH:H[mZ]? =some [(.fn 24 [(.ptr kJ 0)])]) (eD:H0.length≤q9) (hi1:H0.length≤lS) (hi2:q9≠lS) (vB:H0.length≤kJ) (hi4:q9≠kJ) (OB:lS≠kJ) (hi6:H0.length≤mZ) (hi7:q9≠mZ) (hi8:lS≠mZ) (hi9:kJ≠mZ) {K:Exit→Env→AH→Prop} {o:((List UInt8))⊕(aU)}
 (h:iter (cU e1) F (t13,Ln)=some o)
 (dn:∀o':aU,o= .inr o'→∀H':AH,Fr H0 H0.length [] H'→H'[q9]? =some [(.str e1.av.aq),(.str e1.av.domain),(.int .i64 e1.born),(.int .i64 e1.size),(.int .u32 e1.sum),(.sl .n 7 (ml aA e1.az))]→H'[lS]? =some [(.sl .own 1 (ml b8 o'.b))]→H'[kJ]? =some [(.ptr lS 0)]→H'[mZ]? =some [(.fn 24 [(.ptr kJ 0)])]→K (.exit 0) [(1,(.ptr q9 0)),(3,(.ptr kJ 0)),(4,(.ptr mZ 0)),(5,(.fn 26 [(.ptr mZ 0)]))] H'):
 AX Tryz.prog sV 79 H0.length (.loop (erase rT)) K [(1,(.ptr q9 0)),(3,(.ptr kJ 0)),(4,(.ptr mZ 0)),(5,(.fn 26 [(.ptr mZ 0)])),(29,(.sl .ex 1 [(.int .i64 e1.born),(.int .i64 e1.size),(.int .i64 (IntKind.wrap .i64 e1.sum))])),(30,(.int .i64 ((3:Nat):Int))),(31,(.int .i64 t13))] H:=by
 refine ji (fun s e H1=>match s with|(t13,Ln)=>e=[(1,(.ptr q9 0)),(3,(.ptr kJ 0)),(4,(.ptr mZ 0)),(5,(.fn 26 [(.ptr mZ 0)])),(29,(.sl .ex 1 [(.int .i64 e1.born),(.int .i64 e1.size),(.int .i64 (IntKind.wrap .i64 e1.sum))])),(30,(.int .i64 ((3:Nat):Int))),(31,(.int .i64 t13))]∧Fr H0 H0.length [] H1∧H1[q9]? =some [(.str e1.av.aq),(.str e1.av.domain),(.int .i64 e1.born),(.int .i64 e1.size),(.int .u32 e1.sum),(.sl .n 7 (ml aA e1.az))]∧H1[lS]? =some [(.sl .own 1 (ml b8 Ln.b))]∧H1[kJ]? =some [(.ptr lS 0)]∧H1[mZ]? =some [(.fn 24 [(.ptr kJ 0)])]) h ⟨rfl,hfr,ai,au,aR,bH⟩ ?_
 rintro K' ⟨t13,Ln⟩ st e H ⟨rfl,hfr,ai,au,aR,bH⟩ h hN hB hR hX
 have hle:=hfr.le
 have aT:=aL ai
 have cM:=aL au
 have lu:=aL aR
 have zp:=aL bH
 rw [cU.eq_1] at h
 refine aE (aC ai (aC au (aC aR bH))) ?_
 refine bX h (fun ct h=> ?_) fun ct h=> ?_
 · obtain ⟨Lo,dy,h⟩:=ay h
   have dz:idx [(.int .i64 e1.born),(.int .i64 e1.size),(.int .i64 (IntKind.wrap .i64 e1.sum))] t13=some ((iY .i64) Lo):=acm (f:=(iY .i64)) dy
   refine aE (aC dz (aC ai (aC au (aC aR bH)))) ?_
   obtain ⟨r16,ew,h⟩:=ay h
   refine bf ax (gm (au.trans rfl) ew) ?_
   refine aE (aC ai (aC au (aC aR bH))) ?_
   obtain rfl:=aJ h
   exact hN _ rfl _ _ _ _ aY ax ⟨rfl,(bn _ hfr),(aX (ai.trans rfl)),bL,(aX (aR.trans rfl)),(aX (bH.trans rfl))⟩
 · refine aE (aC ai (aC au (aC aR bH))) ?_
   obtain rfl:=aJ h
   exact hX _ _ _ _ _ eM aY ax (dn _ (hB _ rfl) _ hfr (ai.trans rfl) (au.trans rfl) (aR.trans rfl) (bH.trans rfl))
theorem A9 {F:Nat} {t23:Int} {e1:ak} {E6:aU} {zq:Nat} {sW:Nat} {lz:Nat} {H0 H:AH} (hfr:Fr H0 H0.length [] H) (au:H[lz]? =some [(.sl .own 1 (ml b8 E6.b))]) (aR:H[zq]? =some [(.ptr lz 0)]) (bH:H[sW]? =some [(.fn 24 [(.ptr zq 0)])]) (eD:H0.length≤lz) (hi1:H0.length≤zq) (hi2:lz≠zq) (vB:H0.length≤sW) (hi4:lz≠sW) (OB:zq≠sW) {K:Exit→Env→AH→Prop} {o:((List UInt8))⊕(aU)}
 (h:iter (eS e1) F (t23,E6)=some o)
 (kb2:∀o':aU,o= .inr o'→∀H':AH,Fr H0 H0.length [] H'→H'[lz]? =some [(.sl .own 1 (ml b8 o'.b))]→H'[zq]? =some [(.ptr lz 0)]→H'[sW]? =some [(.fn 24 [(.ptr zq 0)])]→K (.exit 2) [(3,(.ptr zq 0))] H'):
 AX Tryz.prog sV 79 H0.length (.loop (erase rU)) K [(3,(.ptr zq 0)),(4,(.ptr sW 0)),(5,(.fn 26 [(.ptr sW 0)])),(45,(.sl .n 7 (ml aA e1.az))),(46,(.int .i64 (e1.az.length:Int))),(47,(.int .i64 t23))] H:=by
 refine ji (fun s e H1=>match s with|(t23,E6)=>e=[(3,(.ptr zq 0)),(4,(.ptr sW 0)),(5,(.fn 26 [(.ptr sW 0)])),(45,(.sl .n 7 (ml aA e1.az))),(46,(.int .i64 (e1.az.length:Int))),(47,(.int .i64 t23))]∧Fr H0 H0.length [] H1∧H1[lz]? =some [(.sl .own 1 (ml b8 E6.b))]∧H1[zq]? =some [(.ptr lz 0)]∧H1[sW]? =some [(.fn 24 [(.ptr zq 0)])]) h ⟨rfl,hfr,au,aR,bH⟩ ?_
 rintro K' ⟨t23,E6⟩ st e H ⟨rfl,hfr,au,aR,bH⟩ h hN hB hR hX
 have hle:=hfr.le
 have cM:=aL au
 have lu:=aL aR
 have zp:=aL bH
 rw [eS.eq_1] at h
 refine aE (aC au (aC aR bH)) ?_
 refine bX h (fun dS h=> ?_) fun dS h=> ?_
 · obtain ⟨Cm,dc,h⟩:=ay h
   refine aE (aC dc (aC au (aC aR bH))) ?_
   obtain ⟨wQ,fQ,h⟩:=ay h
   refine bf ax (qs (q2:=sW) (q3:=zq) (q5:=lz) (aX (eo (bH.trans rfl))) (aX (eo (aR.trans rfl))) (aX (eo (au.trans rfl))) br br br fQ) ?_
   refine aE (aC au (aC aR bH)) ?_
   obtain ⟨Ct,j0,h⟩:=ay h
   refine bf ax (gI (q1:=lz) bL j0) ?_
   refine aE (aC au (aC aR bH)) ?_
   obtain ⟨Wr,eL,h⟩:=ay h
   refine bf ax (gI (q1:=lz) bL eL) ?_
   refine aE (aC au (aC aR bH)) ?_
   obtain ⟨S5,js,h⟩:=ay h
   refine bf ax (gm (q1:=lz) bL js) ?_
   refine aE (aC au (aC aR bH)) ?_
   obtain ⟨Ws,mu,h⟩:=ay h
   refine bf ax (wM (q1:=lz) bL mu) ?_
   refine aE (aC au (aC aR bH)) ?_
   obtain ⟨S6,jt,h⟩:=ay h
   refine bf ax (lq (q2:=zq) (q4:=lz) (aX (aX (aX (aX (aX (aX (eo (aR.trans rfl)))))))) bL br jt) ?_
   refine aE (aC au (aC aR bH)) ?_
   obtain rfl:=aJ h
   exact hN _ rfl _ _ _ _ aY ax ⟨rfl,(bn _ (bn _ (bn _ (bn _ (bn _ (bn _ (bn _ (Fr.app hfr)))))))),bL,(aX (aX (aX (aX (aX (aX (aX (eo (aR.trans rfl))))))))),(aX (aX (aX (aX (aX (aX (aX (eo (bH.trans rfl)))))))))⟩
 · refine aE (aC au (aC aR bH)) ?_
   obtain rfl:=aJ h
   exact hX _ _ _ _ _ eM aY ax (kb2 _ (hB _ rfl) _ hfr (au.trans rfl) (aR.trans rfl) (bH.trans rfl))
theorem mB {F:Nat} {e1:ak} {H0:AH} {aM:List UInt8} (h:hM F e1=some aM):
 aG Tryz.prog 10 [(.agg [(.str e1.av.aq),(.str e1.av.domain),(.int .i64 e1.born),(.int .i64 e1.size),(.int .u32 e1.sum),(.sl .n 7 (ml aA e1.az))])] H0 fun v H'=>v=(.sl .n 1 (ml b8 aM))∧H'=H0:=by
 refine dX GH sV [] fun hcl K0 aO H hH hfr=> ?_
 clear hH
 have hle:=hfr.le
 rw [hM.eq_1] at h
 refine bT ?_
 obtain ⟨r2,hy1,h⟩:=ay h
 refine bf ax (kI hy1) ?_
 refine bT ?_
 refine bX h (fun bg h=> ?_) fun bg h=> ?_
 · refine bT ?_
   obtain rfl:=aJ h
   exact aO _ _ _ bE (bp (Fr.app hfr) hcl (bC bw (.sl .ex 1 [])) bA bt ⟨rfl,rfl⟩)
 · refine bT ?_
   obtain ⟨r3,bz,h⟩:=ay h
   obtain ⟨q4,uD⟩:∃q:Nat,H.length=q:=⟨_,rfl⟩
   try rw [uD]
   rcases r3 with _|t5
   · try dsimp only at h
     cases h
   · try dsimp only at h
     refine ZB ax (oO bz) ?_
     rintro _ H ⟨q6,rfl,E5,A7,au⟩
     try simp only [mb,mc] at E5
     have ai:H[q4]? =some [(.str e1.av.aq),(.str e1.av.domain),(.int .i64 e1.born),(.int .i64 e1.size),(.int .u32 e1.sum),(.sl .n 7 (ml aA e1.az))]:=(A7.eq _ (aL (by exact ko)) (by simp<;>(first|assumption|omega|(simp only [mb,mc]<;>omega)|fail))).trans (by exact ko)
     have hfr:=Fr.trans (Fr.app hfr) A7 (by simp)
     have hle:=hfr.le
     have aT:=aL ai
     have cM:=aL au
     refine aE (aC ai au) ?_
     obtain ⟨r7,bu,h⟩:=ay h
     refine bf ax (gI (q1:=q6) (aX (eo (aX (eo (au.trans rfl))))) bu) ?_
     refine aE (aC ai au) ?_
     obtain ⟨r8,bV,h⟩:=ay h
     refine bf ax (qs (q2:=(H.length+1)) (q3:=H.length) (q5:=q6) (aX bL) (aX (aX (eo bL))) bL br br br bV) ?_
     refine aE (aC ai au) ?_
     obtain ⟨mZ,ZD⟩:∃q:Nat,(H.length+1)=q:=⟨_,rfl⟩
     try rw [ZD]
     obtain ⟨kJ,ZE⟩:∃q:Nat,H.length=q:=⟨_,rfl⟩
     try rw [ZE]
     try rw [show kJ+1=mZ from by omega]
     obtain ⟨o37,cZ,h⟩:=ay h
     refine cg ax (A8 (q9:=q4) (lS:=q6) (kJ:=kJ) (mZ:=mZ) (bn _ (bn _ (bn _ (Fr.app (bn _ (Fr.app hfr)))))) (aX (aX (aX (eo (aX (eo (ai.trans rfl))))))) bL (aX (aX (aX (eo bL)))) (aX (aX bL)) br br br br br br br br br br cZ ?_)
     · rintro s18 rfl H hfr ai au aR bH
       try dsimp only at h ai au aR bH
       have hle:=hfr.le
       have aT:=aL ai
       have cM:=aL au
       have lu:=aL aR
       have zp:=aL bH
       refine aE (aC ai (aC au (aC aR bH))) ?_
       obtain ⟨rC,cE,h⟩:=ay h
       refine bf ax (gI (au.trans rfl) cE) ?_
       refine aE (aC ai (aC au (aC aR bH))) ?_
       obtain ⟨o36,ju,h⟩:=ay h
       refine cg ax (A9 (lz:=q6) (zq:=kJ) (sW:=mZ) (bn _ hfr) bL (aX (aR.trans rfl)) (aX (bH.trans rfl)) br br br br br br ju ?_)
       · rintro Cu rfl H hfr au aR bH
         try dsimp only at h au aR bH
         have hle:=hfr.le
         have cM:=aL au
         have lu:=aL aR
         have zp:=aL bH
         refine aE (aC au (aC aR bH)) ?_
         obtain ⟨Wt,oe,h⟩:=ay h
         refine bf ax (vF (au.trans rfl) oe) ?_
         refine aE (aC au (aC aR bH)) ?_
         obtain ⟨DC,j3,h⟩:=ay h
         refine bf ax (E4 j3) ?_
         refine aE (aC au (aC aR bH)) ?_
         obtain rfl:=aJ h
         exact aO _ _ _ bE (bp hfr hcl (bC bw (.sl .n 1 (ml b8 DC))) bA bt ⟨rfl,rfl⟩)
abbrev zu:aD:=(.seq (.rg [(aj 2 (.aZ (.c (.v (.pointer none)))))]) (.seq (.rg [(aB 3 0),(aj 4 (.call (.c (.fn 60 [])) [(.t 3)])),(aj 5 (.build [(.sl .ex 1 []),(.int .i64 0)] [(0,(1,(.t 4)))])),(aj 6 (.box (.t 5))),(bh 2 6)]) .ret))
theorem zw:bx Tryz.prog 45 7 [(.tmp 2)] (erase zu):=⟨Tryz.f45,_,rfl,by decide,rfl,by kernel_rfl,rfl,rfl⟩
abbrev zx:List Nat:=[0,2]
def fM (b1:List UInt8):Option ((Option aN)):=
 (fG b1).bind fun r2=>some (some (aN.mk r2 0))
theorem oP {b1:List UInt8} {H0:AH} {aM:Option aN} (h:fM b1=some aM):
 aG Tryz.prog 45 [(.sl .n 1 (ml b8 b1))] H0 fun v H'=>match (generalizing:=false) aM with|none=>v=(.v (.pointer none))∧Fr H0 H0.length [] H'|some Jh=>∃zk,v=(.ptr zk 0)∧H0.length≤zk∧Fr H0 H0.length [] H'∧H'[zk]? =some [(.sl .n 1 (ml b8 Jh.b)),(.int .i64 Jh.err)]:=by
 refine dX zw zx [] fun hcl K0 aO H hH hfr=> ?_
 clear hH
 have hle:=hfr.le
 rw [fM.eq_1] at h
 refine bT ?_
 obtain ⟨r2,hy1,h⟩:=ay h
 refine bf ax (gO hy1) ?_
 refine bT ?_
 obtain rfl:=aJ h
 exact aO _ _ _ bE (Li (bC bw (.ptr H.length 0)) (r':=(.ptr H.length 0)) bt ax ⟨H.length,rfl,br,(Fr.app hfr),ko⟩)
abbrev wR:aD:=(.seq (.rg [(aj 4 (.aZ (.c (.sl .ex 1 []))))]) (.seq (.blk 0 (.seq (.rg [(aB 7 0),(aj 8 (.ei (.t 7))),(aj 9 (.aV (.t 8) 1)),(aj 10 (.ld (.t 9) none)),(aj 11 (.bin .neq (.t 10) (.c (.int .i64 0)))),(bh 6 11)]) (.cond (.t 6) (.seq (.rg [(aj 4 (.aZ (.c (.sl .ex 1 []))))]) .ret) (.seq (.rg [(aB 13 1),(aj 14 (.bin .lss (.t 13) (.c (.int .i64 0)))),(bh 12 14)]) (.cond (.t 12) (.seq (.rg [(aB 15 0),(aj 16 (.ei (.t 15))),(aj 17 (.aV (.t 16) 1)),(cX (.st (.t 17) (.c (.int .i64 1)) 1))]) (.seq (.rg [(aj 4 (.aZ (.c (.sl .ex 1 []))))]) .ret)) (.seq (.rg [(aB 19 1),(aB 20 0),(aj 21 (.ei (.t 20))),(aj 22 (.aV (.t 21) 0)),(aj 23 (.ld (.t 22) none)),(aj 24 (.len (.t 23))),(aj 25 (.bin .gtr (.t 19) (.t 24))),(bh 18 25)]) (.cond (.t 18) (.seq (.rg [(aB 26 0),(aj 27 (.ei (.t 26))),(aj 28 (.aV (.t 27) 1)),(cX (.st (.t 28) (.c (.int .i64 2)) 1))]) (.seq (.rg [(aj 4 (.aZ (.c (.sl .ex 1 []))))]) .ret)) .skip))))))) (.seq (.rg [(aB 29 0),(aj 30 (.ei (.t 29))),(aj 31 (.aV (.t 30) 0)),(aj 32 (.ld (.t 31) none)),(aB 33 1),(aB 34 1),(aj 35 (.slc 1 (.t 32) none (some (.t 33)) (some (.t 34)))),(bh 5 35)]) (.seq (.rg [(aB 36 0),(aB 37 0),(aj 38 (.ei (.t 37))),(aj 39 (.aV (.t 38) 0)),(aj 40 (.ld (.t 39) none)),(aB 41 1),(aj 42 (.slc 1 (.t 40) (some (.t 41)) none none)),(aj 43 (.ei (.t 36))),(aj 44 (.aV (.t 43) 0)),(cX (.st (.t 44) (.t 42) 1))]) (.seq (.rg [(aB 45 5),(bh 4 45)]) .ret)))))
theorem wS:bx Tryz.prog 85 46 [(.tmp 4)] (erase wR):=⟨Tryz.f85,_,rfl,by decide,rfl,by kernel_rfl,rfl,rfl⟩
abbrev wT:List Nat:=[0,1,4,5,6,12,18]
def eI (r2:aN) (fD:Int):Option ((List UInt8)×aN):=
 (if (!decide (r2.err=0)) then
  some (([]:List UInt8),r2)
 else
  (if (decide (fD<0)) then
   some (([]:List UInt8),(aN.mk r2.b 1))
  else
   (if (decide ((r2.b.length:Int)<fD)) then
    some (([]:List UInt8),(aN.mk r2.b 2))
   else
    (wC r2.b 0 fD fD).bind fun x4=>
    (sub r2.b fD (r2.b.length:Int)).bind fun x5=>some (x4,(aN.mk x5 r2.err)))))
theorem nj {r2:aN} {fD:Int} {q1:Nat} {H0:AH} (ai:H0[q1]? =some [(.sl .n 1 (ml b8 r2.b)),(.int .i64 r2.err)]) {aM:List UInt8} {cD:aN} (h:eI r2 fD=some (aM,cD)):
 aG Tryz.prog 85 [(.ptr q1 0),(.int .i64 fD)] H0 fun v H'=>v=(.sl .own 1 (ml b8 aM))∧H'=(H0.set q1 [(.sl .n 1 (ml b8 cD.b)),(.int .i64 cD.err)]):=by
 have aT:=aL ai
 refine dX wS wT [q1] fun hcl K0 aO H hH hfr=> ?_
 rw [←hH] at ai
 clear hH
 have hle:=hfr.le
 have eZ:=aL ai
 rw [eI.eq_1] at h
 refine aE ai ?_
 refine bX h (fun hy1 h=> ?_) fun hy1 h=> ?_
 · refine aE ai ?_
   obtain ⟨rfl,rfl⟩:=dm h
   exact aO _ _ _ bE (cc hfr hcl (bC bw (.sl .ex 1 [])) bA bt (ai.trans rfl) br jK gG ⟨rfl,rfl⟩)
 · refine aE ai ?_
   refine bX h (fun bg h=> ?_) fun bg h=> ?_
   · refine aE ai ?_
     obtain ⟨rfl,rfl⟩:=dm h
     exact aO _ _ _ bE (cc (bn _ hfr) hcl (bC bw (.sl .ex 1 [])) bA bt bL br jK gG ⟨rfl,rfl⟩)
   · refine aE ai ?_
     refine bX h (fun bz h=> ?_) fun bz h=> ?_
     · refine aE ai ?_
       obtain ⟨rfl,rfl⟩:=dm h
       exact aO _ _ _ bE (cc (bn _ hfr) hcl (bC bw (.sl .ex 1 [])) bA bt bL br jK gG ⟨rfl,rfl⟩)
     · obtain ⟨x4,bu,h⟩:=ay h
       have bV:=Zx (f:=b8) bu
       obtain ⟨x5,ct,h⟩:=ay h
       have dy:=yX (f:=b8) ct
       refine aE (aC bu (aC ct ai)) ?_
       obtain ⟨rfl,rfl⟩:=dm h
       exact aO _ _ _ bE (cc (bn _ hfr) hcl (bC bw (.sl .ex 1 (ml b8 x4))) bA bt bL br jK gG ⟨rfl,rfl⟩)
abbrev jv:aD:=(.seq (.rg [(aj 13 (.bin .lss (.t 12) (.t 11)))]) (.seq (.cond (.t 13) .skip (.exit 0)) (.seq (.blk 1 (.seq (.rg [(aB 14 12),(aj 15 (.ku 1 (.t 10) (.t 12))),(aj 16 (.ld (.t 15) none)),(bh 6 14),(bh 7 16)]) (.rg [(aB 17 5),(aB 18 7),(aj 19 (.dV (.int .i64) (.t 18))),(aB 20 6),(aj 21 (.bin .mul (.c (.int .i64 8)) (.t 20))),(aj 22 (.bin .shl (.t 19) (.t 21))),(aj 23 (.bin .or (.t 17) (.t 22))),(bh 5 23)]))) (.rg [(aj 24 (.bin .add (.t 12) (.c (.int .i64 1)))),(aB 12 24)]))))
abbrev uE:aD:=(.seq (.rg [(aj 4 (.aZ (.c (.int .i64 0))))]) (.seq (.rg [(aj 5 (.aZ (.c (.int .i64 0))))]) (.seq (.seq (.rg [(aB 8 0),(aB 9 1),(aj 10 (.call (.c (.fn 85 [])) [(.t 8),(.t 9)])),(aj 11 (.len (.t 10))),(aj 12 (.mv (.c (.int .i64 0))))]) (.blk 0 (.loop (erase jv)))) (.seq (.rg [(aB 25 5),(bh 4 25)]) .ret))))
theorem uF:bx Tryz.prog 73 26 [(.tmp 4)] (erase uE):=⟨Tryz.f73,_,rfl,by decide,rfl,by kernel_rfl,rfl,rfl⟩
abbrev mC:List Nat:=[0,1,4,5,6,7,10,11,12,13]
def cG (r4:List UInt8):(Int×Int)→Option (St (Int×aN) Int (Int×Int))
 |(C9,t7)=>
  (if (decide (t7<(r4.length:Int))) then
   (idx r4 t7).bind fun x8=>
   (Lm .i64 (IntKind.wrap .i64 (x8.toNat:Int)) (IntKind.wrap .i64 (8*t7))).bind fun x9=>
   some (.cT ((Kl .i64 C9 x9),(IntKind.wrap .i64 (t7+1))))
  else
   some (.fJ C9))
def dh (F:Nat) (r2:aN) (iu:Int):Option (Int×aN):=
 (eI r2 iu).bind fun (r4,r5)=>
 ((iter (cG r4) F (0,0)).bind fun E3=>
 match E3 with
 | .inr OC=>
   some (OC,r5)
 | .inl _=>none)
theorem qt {F:Nat} {t7:Int} {r4:List UInt8} {C9:Int} {q1:Nat} {r5:aN} {H0 H:AH} (hfr:Fr H0 H0.length [q1] H) (ai:H[q1]? =some [(.sl .n 1 (ml b8 r5.b)),(.int .i64 r5.err)]) (eD:q1<H0.length) {K:Exit→Env→AH→Prop} {o:(Int×aN)⊕(Int)}
 (h:iter (cG r4) F (C9,t7)=some o)
 (dn:∀o':Int,o= .inr o'→∀H':AH,Fr H0 H0.length [q1] H'→H'[q1]? =some [(.sl .n 1 (ml b8 r5.b)),(.int .i64 r5.err)]→K (.exit 0) [(5,(.int .i64 o'))] H'):
 AX Tryz.prog mC 26 H0.length (.loop (erase jv)) K [(5,(.int .i64 C9)),(10,(.sl .own 1 (ml b8 r4))),(11,(.int .i64 (r4.length:Int))),(12,(.int .i64 t7))] H:=by
 refine ji (fun s e H1=>match s with|(C9,t7)=>e=[(5,(.int .i64 C9)),(10,(.sl .own 1 (ml b8 r4))),(11,(.int .i64 (r4.length:Int))),(12,(.int .i64 t7))]∧Fr H0 H0.length [q1] H1∧H1[q1]? =some [(.sl .n 1 (ml b8 r5.b)),(.int .i64 r5.err)]) h ⟨rfl,hfr,ai⟩ ?_
 rintro K' ⟨C9,t7⟩ st e H ⟨rfl,hfr,ai⟩ h hN hB hR hX
 have hle:=hfr.le
 have aT:=aL ai
 rw [cG.eq_1] at h
 refine aE ai ?_
 refine bX h (fun bg h=> ?_) fun bg h=> ?_
 · obtain ⟨x8,bz,h⟩:=ay h
   obtain ⟨x9,bu,h⟩:=ay h
   have bV:=Wh (k':= .i64) bu
   refine aE (aC bz (aC bV ai)) ?_
   obtain rfl:=aJ h
   exact hN _ rfl _ _ _ _ aY ax ⟨rfl,hfr,(ai.trans rfl)⟩
 · refine aE ai ?_
   obtain rfl:=aJ h
   exact hX _ _ _ _ _ eM aY ax (dn _ (hB _ rfl) _ hfr (ai.trans rfl))
theorem gP {F:Nat} {r2:aN} {iu:Int} {q1:Nat} {H0:AH} (ai:H0[q1]? =some [(.sl .n 1 (ml b8 r2.b)),(.int .i64 r2.err)]) {aM:Int} {cD:aN} (h:dh F r2 iu=some (aM,cD)):
 aG Tryz.prog 73 [(.ptr q1 0),(.int .i64 iu)] H0 fun v H'=>v=(.int .i64 aM)∧H'=(H0.set q1 [(.sl .n 1 (ml b8 cD.b)),(.int .i64 cD.err)]):=by
 have aT:=aL ai
 refine dX uF mC [q1] fun hcl K0 aO H hH hfr=> ?_
 rw [←hH] at ai
 clear hH
 have hle:=hfr.le
 have eZ:=aL ai
 rw [dh.eq_1] at h
 refine aE ai ?_
 obtain ⟨⟨r4,r5⟩,hy1,h⟩:=ay h
 dsimp only at h
 refine bf ax (nj (ai.trans rfl) hy1) ?_
 refine aE ai ?_
 obtain ⟨E3,ct,h⟩:=ay h
 refine cg ax (qt (q1:=q1) (r5:=r5) (bn _ hfr) bL br ct ?_)
 · rintro OC rfl H hfr ai
   try dsimp only at h ai
   have hle:=hfr.le
   have aT:=aL ai
   refine aE ai ?_
   obtain ⟨rfl,rfl⟩:=dm h
   exact aO _ _ _ bE (cc hfr hcl (bC bw (.int .i64 OC)) bA bt (ai.trans rfl) br jK gG ⟨rfl,rfl⟩)
abbrev ya:aD:=(.seq (.rg [(aj 2 (.aZ (.c (.int .i64 0))))]) (.seq (.rg [(aB 3 0),(aj 4 (.call (.c (.fn 73 [])) [(.t 3),(.c (.int .i64 4))])),(bh 2 4)]) .ret))
theorem yb:bx Tryz.prog 50 5 [(.tmp 2)] (erase ya):=⟨Tryz.f50,_,rfl,by decide,rfl,by kernel_rfl,rfl,rfl⟩
abbrev yc:List Nat:=[0,2]
def cK (F:Nat) (r2:aN):Option (Int×aN):=
 (dh F r2 4).bind fun (r3,r4)=>some (r3,r4)
theorem dM {F:Nat} {r2:aN} {q1:Nat} {H0:AH} (ai:H0[q1]? =some [(.sl .n 1 (ml b8 r2.b)),(.int .i64 r2.err)]) {aM:Int} {cD:aN} (h:cK F r2=some (aM,cD)):
 aG Tryz.prog 50 [(.ptr q1 0)] H0 fun v H'=>v=(.int .i64 aM)∧H'=(H0.set q1 [(.sl .n 1 (ml b8 cD.b)),(.int .i64 cD.err)]):=by
 have aT:=aL ai
 refine dX yb yc [q1] fun hcl K0 aO H hH hfr=> ?_
 rw [←hH] at ai
 clear hH
 have hle:=hfr.le
 have eZ:=aL ai
 rw [cK.eq_1] at h
 refine aE ai ?_
 obtain ⟨⟨r3,r4⟩,hy1,h⟩:=ay h
 dsimp only at h
 refine bf ax (gP (ai.trans rfl) hy1) ?_
 refine aE ai ?_
 obtain ⟨rfl,rfl⟩:=dm h
 exact aO _ _ _ bE (cc (bn _ hfr) hcl (bC bw (.int .i64 r3)) bA bt bL br jK gG ⟨rfl,rfl⟩)
abbrev GI:aD:=(.seq (.rg [(aj 2 (.aZ (.c (.sl .ex 1 [])))),(aj 3 (.aZ (.c (.int .i64 0))))]) (.seq (.rg [(aB 5 0),(aj 6 (.len (.t 5))),(aj 7 (.bin .sub (.t 6) (.c (.int .i64 4)))),(bh 4 7)]) (.seq (.seq (.rg [(aB 8 4),(aj 9 (.bin .lss (.t 8) (.c (.int .i64 0))))]) (.cond (.t 9) (.seq (.rg [(aj 2 (.aZ (.c (.sl .ex 1 [])))),(aj 3 (.aZ (.c (.int .i64 2))))]) .ret) .skip)) (.seq (.seq (.rg [(aB 10 0),(aB 11 4),(aj 12 (.slc 1 (.t 10) (some (.t 11)) none none)),(aB 15 0),(aB 16 4),(aj 17 (.slc 1 (.t 15) none (some (.t 16)) none)),(aj 13 (.call (.c (.fn 45 [])) [(.t 12)])),(aj 14 (.call (.c (.fn 50 [])) [(.t 13)])),(aj 18 (.call (.c (.fn 61 [])) [(.t 17)])),(aj 19 (.dV (.int .i64) (.t 18))),(aj 20 (.bin .neq (.t 14) (.t 19)))]) (.cond (.t 20) (.seq (.rg [(aj 2 (.aZ (.c (.sl .ex 1 [])))),(aj 3 (.aZ (.c (.int .i64 4))))]) .ret) .skip)) (.seq (.rg [(aB 21 0),(aB 22 4),(aj 23 (.slc 1 (.t 21) none (some (.t 22)) none)),(aj 24 (.call (.c (.fn 60 [])) [(.t 23)])),(bh 2 24),(aj 3 (.aZ (.c (.int .i64 0))))]) .ret)))))
theorem GJ:bx Tryz.prog 44 25 [(.tmp 2),(.tmp 3)] (erase GI):=⟨Tryz.f44,_,rfl,by decide,rfl,by kernel_rfl,rfl,rfl⟩
abbrev GK:List Nat:=[0,2,3,4,9,20]
def oq (F:Nat) (b1:List UInt8):Option ((List UInt8)×Int):=
 (if (decide ((IntKind.wrap .i64 ((b1.length:Int) - 4))<0)) then
  some (([]:List UInt8),2)
 else
  (sub b1 (IntKind.wrap .i64 ((b1.length:Int) - 4)) (b1.length:Int)).bind fun x2=>
  (sub b1 0 (IntKind.wrap .i64 ((b1.length:Int) - 4))).bind fun x3=>
  ((fM x2).bind fun r4=>
  match r4 with
  |none=>
   none
  |some t5=>
   (cK F t5).bind fun (r7,r8)=>
   (nK F x3).bind fun r9=>
   (if (!decide (r7=(IntKind.wrap .i64 r9))) then
    some (([]:List UInt8),4)
   else
    (fG x3).bind fun lR=>some (lR,0))))
theorem E7 {F:Nat} {b1:List UInt8} {H0:AH} {aM:List UInt8} {cD:Int} (h:oq F b1=some (aM,cD)):
 aG Tryz.prog 44 [(.sl .n 1 (ml b8 b1))] H0 fun v H'=>v=(.bK [(.sl .n 1 (ml b8 aM)),(.int .i64 cD)])∧H'=H0:=by
 refine dX GJ GK [] fun hcl K0 aO H hH hfr=> ?_
 clear hH
 have hle:=hfr.le
 rw [oq.eq_1] at h
 refine bT ?_
 refine bX h (fun hy1 h=> ?_) fun hy1 h=> ?_
 · refine bT ?_
   obtain ⟨rfl,rfl⟩:=dm h
   exact aO _ _ _ bE (bp hfr hcl (bC (bC bw (.int .i64 2)) (.sl .ex 1 [])) bA bt ⟨rfl,rfl⟩)
 · obtain ⟨x2,bg,h⟩:=ay h
   have bz:=yX (f:=b8) bg
   obtain ⟨x3,bu,h⟩:=ay h
   have bV:=yX (f:=b8) bu
   refine aE (aC bg bu) ?_
   obtain ⟨r4,ct,h⟩:=ay h
   rcases r4 with _|t5
   · try dsimp only at h
     cases h
   · try dsimp only at h
     refine ZB ax (oP ct) ?_
     rintro _ H ⟨q6,rfl,E5,A7,ai⟩
     try simp only [mb,mc] at E5
     have hfr:=Fr.trans hfr A7 (by simp)
     have hle:=hfr.le
     have aT:=aL ai
     refine aE ai ?_
     obtain ⟨⟨r7,r8⟩,dy,h⟩:=ay h
     dsimp only at h
     refine bf ax (dM (ai.trans rfl) dy) ?_
     refine aE ai ?_
     obtain ⟨r9,dz,h⟩:=ay h
     refine bf ax (yI dz) ?_
     refine aE ai ?_
     refine bX h (fun ew h=> ?_) fun ew h=> ?_
     · refine aE ai ?_
       obtain ⟨rfl,rfl⟩:=dm h
       exact aO _ _ _ bE (bp (bn _ hfr) hcl (bC (bC bw (.int .i64 4)) (.sl .ex 1 [])) bA bt ⟨rfl,rfl⟩)
     · have cZ:=yX (f:=b8) bu
       refine aE (aC bu ai) ?_
       obtain ⟨lR,cE,h⟩:=ay h
       refine bf ax (gO cE) ?_
       refine aE ai ?_
       obtain ⟨rfl,rfl⟩:=dm h
       exact aO _ _ _ bE (bp (bn _ hfr) hcl (bC (bC bw (.int .i64 0)) (.sl .own 1 (ml b8 lR))) bA bt ⟨rfl,rfl⟩)
abbrev zy:aD:=(.seq (.rg [(aj 2 (.aZ (.c (.int .i64 0))))]) (.seq (.rg [(aB 3 0),(aj 4 (.call (.c (.fn 73 [])) [(.t 3),(.c (.int .i64 1))])),(bh 2 4)]) .ret))
theorem zz:bx Tryz.prog 49 5 [(.tmp 2)] (erase zy):=⟨Tryz.f49,_,rfl,by decide,rfl,by kernel_rfl,rfl,rfl⟩
abbrev zA:List Nat:=[0,2]
def dN (F:Nat) (r2:aN):Option (Int×aN):=
 (dh F r2 1).bind fun (r3,r4)=>some (r3,r4)
theorem gJ {F:Nat} {r2:aN} {q1:Nat} {H0:AH} (ai:H0[q1]? =some [(.sl .n 1 (ml b8 r2.b)),(.int .i64 r2.err)]) {aM:Int} {cD:aN} (h:dN F r2=some (aM,cD)):
 aG Tryz.prog 49 [(.ptr q1 0)] H0 fun v H'=>v=(.int .i64 aM)∧H'=(H0.set q1 [(.sl .n 1 (ml b8 cD.b)),(.int .i64 cD.err)]):=by
 have aT:=aL ai
 refine dX zz zA [q1] fun hcl K0 aO H hH hfr=> ?_
 rw [←hH] at ai
 clear hH
 have hle:=hfr.le
 have eZ:=aL ai
 rw [dN.eq_1] at h
 refine aE ai ?_
 obtain ⟨⟨r3,r4⟩,hy1,h⟩:=ay h
 dsimp only at h
 refine bf ax (gP (ai.trans rfl) hy1) ?_
 refine aE ai ?_
 obtain ⟨rfl,rfl⟩:=dm h
 exact aO _ _ _ bE (cc (bn _ hfr) hcl (bC bw (.int .i64 r3)) bA bt bL br jK gG ⟨rfl,rfl⟩)
abbrev vG:aD:=(.seq (.rg [(aj 4 (.aZ (.c (.sl .ex 1 []))))]) (.seq (.rg [(aB 5 0),(aB 6 1),(aj 7 (.call (.c (.fn 85 [])) [(.t 5),(.t 6)])),(aj 8 (.call (.c (.fn 60 [])) [(.t 7)])),(bh 4 8)]) .ret))
theorem vH:bx Tryz.prog 72 9 [(.tmp 4)] (erase vG):=⟨Tryz.f72,_,rfl,by decide,rfl,by kernel_rfl,rfl,rfl⟩
abbrev vI:List Nat:=[0,1,4]
def fz (r2:aN) (iu:Int):Option ((List UInt8)×aN):=
 (eI r2 iu).bind fun (r4,r5)=>(fG r4).bind fun r6=>some (r6,r5)
theorem uG {r2:aN} {iu:Int} {q1:Nat} {H0:AH} (ai:H0[q1]? =some [(.sl .n 1 (ml b8 r2.b)),(.int .i64 r2.err)]) {aM:List UInt8} {cD:aN} (h:fz r2 iu=some (aM,cD)):
 aG Tryz.prog 72 [(.ptr q1 0),(.int .i64 iu)] H0 fun v H'=>v=(.sl .own 1 (ml b8 aM))∧H'=(H0.set q1 [(.sl .n 1 (ml b8 cD.b)),(.int .i64 cD.err)]):=by
 have aT:=aL ai
 refine dX vH vI [q1] fun hcl K0 aO H hH hfr=> ?_
 rw [←hH] at ai
 clear hH
 have hle:=hfr.le
 have eZ:=aL ai
 rw [fz.eq_1] at h
 refine aE ai ?_
 obtain ⟨⟨r4,r5⟩,hy1,h⟩:=ay h
 dsimp only at h
 refine bf ax (nj (ai.trans rfl) hy1) ?_
 refine aE ai ?_
 obtain ⟨r6,bg,h⟩:=ay h
 refine bf ax (gO bg) ?_
 refine aE ai ?_
 obtain ⟨rfl,rfl⟩:=dm h
 exact aO _ _ _ bE (cc (bn _ hfr) hcl (bC bw (.sl .own 1 (ml b8 r6))) bA bt bL br jK gG ⟨rfl,rfl⟩)
abbrev kK:aD:=(.rg [(aB 8 0),(aj 9 (.ei (.t 8))),(aj 10 (.aV (.t 9) 1)),(aj 11 (.ld (.t 10) none)),(aj 12 (.bin .eql (.t 11) (.c (.int .i64 0)))),(aB 13 12),(aF 14 (.mv (.t 5)) 13 true),(aF 15 (.mv (.t 1)) 13 true),(aF 16 (.bin .gtr (.t 14) (.t 15)) 13 true),(aj 17 (.pick (.t 13) (.t 16) (.c (.bool false))))])
abbrev kL:aD:=(.cond (.t 17) (.rg [(aB 18 0),(aj 19 (.ei (.t 18))),(aj 20 (.aV (.t 19) 1)),(cX (.st (.t 20) (.c (.int .i64 5)) 1))]) .skip)
abbrev vJ:aD:=(.seq (.rg [(aj 4 (.aZ (.c (.sl .ex 1 []))))]) (.seq (.rg [(aB 6 0),(aj 7 (.call (.c (.fn 50 [])) [(.t 6)])),(bh 5 7)]) (.seq (.seq (.sem (erase kK)) (.sem (erase kL))) (.seq (.rg [(aB 21 0),(aB 22 5),(aj 23 (.call (.c (.fn 72 [])) [(.t 21),(.t 22)])),(bh 4 23)]) .ret))))
theorem vK:bx Tryz.prog 47 24 [(.tmp 4)] (erase vJ):=⟨Tryz.f47,_,rfl,by decide,rfl,by kernel_rfl,rfl,rfl⟩
abbrev iV:List Nat:=[0,1,4,5,17]
def fE (r5:aN) (ec:Int) (r4:Int):Option (aN):=
 (if ((decide (r5.err=0))&&(decide (ec<r4))) then
  some (aN.mk r5.b 5)
 else
  some r5)
def eg (F:Nat) (r2:aN) (ec:Int):Option ((List UInt8)×aN):=
 (cK F r2).bind fun (r4,r5)=>
 (fE r5 ec r4).bind fun s7=>
 (fz s7 r4).bind fun (r8,r9)=>some (r8,r9)
theorem rD {q1:Nat} {ec:Int} {r4:Int} {r5:aN} {H0 H:AH} (hfr:Fr H0 H0.length [q1] H) (ai:H[q1]? =some [(.sl .n 1 (ml b8 r5.b)),(.int .i64 r5.err)]) (eD:q1<H0.length) {K:Exit→Env→AH→Prop}
 (kn:∀H':AH,Fr H0 H0.length [q1] H'→H'[q1]? =some [(.sl .n 1 (ml b8 r5.b)),(.int .i64 r5.err)]→K .normal [(0,(.ptr q1 0)),(5,(.int .i64 r4)),(17,(.bool ((decide (r5.err=0))&&(decide (ec<r4)))))] H'):
 AX Tryz.prog iV 24 H0.length (erase kK) K [(0,(.ptr q1 0)),(1,(.int .i64 ec)),(5,(.int .i64 r4))] H:=by
 refine dj fun K' hK=> ?_
 have hle:=hfr.le
 have aT:=aL ai
 refine aE ai ?_
 refine kD (fun bg=> ?_) fun bg=> ?_
 · refine aE (aC bg ai) ?_
   exact hK _ _ _ _ _ (dD bg) ax (kn _ hfr (ai.trans rfl))
 · refine aE (aC bg ai) ?_
   exact hK _ _ _ _ _ (dD bg) ax (kn _ hfr (ai.trans rfl))
theorem rE {r5:aN} {ec:Int} {r4:Int} {q1:Nat} {H0 H:AH} (hfr:Fr H0 H0.length [q1] H) (ai:H[q1]? =some [(.sl .n 1 (ml b8 r5.b)),(.int .i64 r5.err)]) (eD:q1<H0.length) {K:Exit→Env→AH→Prop} {s6:aN}
 (h:fE r5 ec r4=some s6)
 (kn:∀H':AH,Fr H0 H0.length [q1] H'→H'[q1]? =some [(.sl .n 1 (ml b8 s6.b)),(.int .i64 s6.err)]→K .normal [(0,(.ptr q1 0)),(5,(.int .i64 r4))] H'):
 AX Tryz.prog iV 24 H0.length (erase kL) K [(0,(.ptr q1 0)),(5,(.int .i64 r4)),(17,(.bool ((decide (r5.err=0))&&(decide (ec<r4)))))] H:=by
 refine dj fun K' hK=> ?_
 have hle:=hfr.le
 have aT:=aL ai
 rw [fE.eq_1] at h
 refine aE ai ?_
 refine bX h (fun bz h=> ?_) fun bz h=> ?_
 · refine aE ai ?_
   obtain rfl:=aJ h
   exact hK _ _ _ _ _ aY ax (kn _ (bn _ hfr) bL)
 · refine aE ai ?_
   obtain rfl:=aJ h
   exact hK _ _ _ _ _ aY ax (kn _ hfr (ai.trans rfl))
theorem mD {F:Nat} {r2:aN} {ec:Int} {q1:Nat} {H0:AH} (ai:H0[q1]? =some [(.sl .n 1 (ml b8 r2.b)),(.int .i64 r2.err)]) {aM:List UInt8} {cD:aN} (h:eg F r2 ec=some (aM,cD)):
 aG Tryz.prog 47 [(.ptr q1 0),(.int .i64 ec)] H0 fun v H'=>v=(.sl .own 1 (ml b8 aM))∧H'=(H0.set q1 [(.sl .n 1 (ml b8 cD.b)),(.int .i64 cD.err)]):=by
 have aT:=aL ai
 refine dX vK iV [q1] fun hcl K0 aO H hH hfr=> ?_
 rw [←hH] at ai
 clear hH
 have hle:=hfr.le
 have eZ:=aL ai
 rw [eg.eq_1] at h
 refine aE ai ?_
 obtain ⟨⟨r4,r5⟩,hy1,h⟩:=ay h
 dsimp only at h
 refine bf ax (dM (ai.trans rfl) hy1) ?_
 refine aE ai ?_
 refine cg ax (rD (q1:=q1) (ec:=ec) (r4:=r4) (r5:=r5) (bn _ hfr) bL br ?_)
 intro H hfr ai
 have hle:=hfr.le
 have aT:=aL ai
 refine aE ai ?_
 obtain ⟨s7,bu,h⟩:=ay h
 refine cg ax (rE (q1:=q1) hfr (ai.trans rfl) br bu ?_)
 intro H hfr ai
 have hle:=hfr.le
 have aT:=aL ai
 refine aE ai ?_
 obtain ⟨⟨r8,r9⟩,bV,h⟩:=ay h
 dsimp only at h
 refine bf ax (uG (ai.trans rfl) bV) ?_
 refine aE ai ?_
 obtain ⟨rfl,rfl⟩:=dm h
 exact aO _ _ _ bE (cc (bn _ hfr) hcl (bC bw (.sl .own 1 (ml b8 r8))) bA bt bL br jK gG ⟨rfl,rfl⟩)
abbrev Ba:aD:=(.seq (.rg [(aj 1 (.aZ (.c (.str []))))]) (.seq (.rg [(aj 2 (.ld (.t 0) none)),(aj 3 (.call (.c (.fn 47 [])) [(.t 2),(.c (.int .i64 256))])),(aj 4 (.dV .bs (.t 3))),(bh 1 4)]) .ret))
theorem Bb:bx Tryz.prog 46 5 [(.tmp 1)] (erase Ba):=⟨Tryz.f46,_,rfl,by decide,rfl,by kernel_rfl,rfl,rfl⟩
abbrev Bc:List Nat:=[0,1]
def e9 (F:Nat) (v2:aN):Option ((List UInt8)×aN):=
 (eg F v2 256).bind fun (r4,r5)=>some (r4,r5)
theorem qu {F:Nat} {v2:aN} {q1:Nat} {q3:Nat} {H0:AH} (ai:H0[q1]? =some [(.ptr q3 0)]) (au:H0[q3]? =some [(.sl .n 1 (ml b8 v2.b)),(.int .i64 v2.err)]) (eD:q1≠q3) {aM:List UInt8} {cD:aN} (h:e9 F v2=some (aM,cD)):
 aG Tryz.prog 46 [(.ptr q1 0)] H0 fun v H'=>v=(.str aM)∧H'=(H0.set q3 [(.sl .n 1 (ml b8 cD.b)),(.int .i64 cD.err)]):=by
 have aT:=aL ai
 have cM:=aL au
 refine dX Bb Bc [q3] fun hcl K0 aO H hH hfr=> ?_
 rw [←hH] at ai au
 clear hH
 have hle:=hfr.le
 have eZ:=aL ai
 have Ji:=aL au
 rw [e9.eq_1] at h
 refine aE (aC ai au) ?_
 obtain ⟨⟨r4,r5⟩,hy1,h⟩:=ay h
 dsimp only at h
 refine bf ax (mD (au.trans rfl) hy1) ?_
 refine aE (aC ai au) ?_
 obtain ⟨rfl,rfl⟩:=dm h
 exact aO _ _ _ bE (cc (bn _ hfr) hcl (bC bw (.str r4)) bA bt bL br jK gG ⟨rfl,rfl⟩)
abbrev Bd:aD:=(.seq (.rg [(aj 1 (.alloc [(.str []),(.str [])]))]) (.seq (.rg [(aj 3 (.ld (.t 0) none)),(aj 4 (.call (.t 3) [])),(bh 2 4)]) (.seq (.rg [(aB 5 2),(aj 6 (.ld (.t 0) none)),(aj 7 (.call (.t 6) [])),(aj 8 (.build [(.str []),(.str [])] [(0,(1,(.t 5))),(1,(1,(.t 7)))])),(cX (.st (.t 1) (.t 8) 2))]) .ret)))
theorem Be:bx Tryz.prog 48 9 [(.cell 1 23)] (erase Bd):=⟨Tryz.f48,_,rfl,by decide,rfl,by kernel_rfl,rfl,rfl⟩
abbrev Bf:List Nat:=[0,1,2]
def gi (F:Nat) (v3:aN):Option (aK×aN):=
 (e9 F v3).bind fun (r5,r6)=>
 (e9 F r6).bind fun (r7,r8)=>some ((aK.mk r5 r7),r8)
theorem zB {F:Nat} {v3:aN} {q1:Nat} {q2:Nat} {q4:Nat} {H0:AH} (ai:H0[q1]? =some [(.fn 46 [(.ptr q2 0)])]) (au:H0[q2]? =some [(.ptr q4 0)]) (aR:H0[q4]? =some [(.sl .n 1 (ml b8 v3.b)),(.int .i64 v3.err)]) (eD:q1≠q2) (hi1:q1≠q4) (hi2:q2≠q4) {aM:aK} {cD:aN} (h:gi F v3=some (aM,cD)):
 aG Tryz.prog 48 [(.ptr q1 0)] H0 fun v H'=>v=(.agg [(.str aM.aq),(.str aM.domain)])∧H'=(H0.set q4 [(.sl .n 1 (ml b8 cD.b)),(.int .i64 cD.err)]):=by
 have aT:=aL ai
 have cM:=aL au
 have lu:=aL aR
 refine dX Be Bf [q4] fun hcl K0 aO H hH hfr=> ?_
 rw [←hH] at ai au aR
 clear hH
 have hle:=hfr.le
 have eZ:=aL ai
 have Ji:=aL au
 have aco:=aL aR
 rw [gi.eq_1] at h
 refine aE (aC ai (aC au aR)) ?_
 obtain ⟨⟨r5,r6⟩,hy1,h⟩:=ay h
 dsimp only at h
 refine bf ax (qu (q1:=q2) (q3:=q4) (eo (au.trans rfl)) (eo (aR.trans rfl)) br hy1) ?_
 refine aE (aC ai (aC au aR)) ?_
 obtain ⟨⟨r7,r8⟩,bg,h⟩:=ay h
 dsimp only at h
 refine bf ax (qu (q1:=q2) (q3:=q4) (aX (eo (au.trans rfl))) bL br bg) ?_
 refine aE (aC ai (aC au aR)) ?_
 obtain ⟨rfl,rfl⟩:=dm h
 exact aO _ _ _ bE (cc (bn _ (bn _ (bn _ (Fr.app hfr)))) hcl (gy (cs:=[(.str r5),(.str r7)]) (v:=(.agg [(.str r5),(.str r7)])) (by kernel_rfl) (n:=(some 2)) (by kernel_rfl) rfl bL (by simp [jl,jk,lQ,b5,AV.flat,nP,oB,AV.bS,Tg.sh]) bw) bA bt (aX bL) br jK gG ⟨rfl,rfl⟩)
abbrev zC:aD:=(.seq (.rg [(aj 1 (.aZ (.c (.str []))))]) (.seq (.rg [(aj 2 (.ld (.t 0) none)),(aj 3 (.call (.c (.fn 47 [])) [(.t 2),(.c (.int .i64 256))])),(aj 4 (.dV .bs (.t 3))),(bh 1 4)]) .ret))
theorem zD:bx Tryz.prog 46 5 [(.tmp 1)] (erase zC):=⟨Tryz.f46,_,rfl,by decide,rfl,by kernel_rfl,rfl,rfl⟩
abbrev zE:List Nat:=[0,1]
def fN (F:Nat) (v2:aN):Option ((List UInt8)×aN):=
 (eg F v2 256).bind fun (r3,r4)=>some (r3,r4)
theorem kq {F:Nat} {v2:aN} {q1:Nat} {H0:AH} (ai:H0[q1]? =some [(.sl .n 1 (ml b8 v2.b)),(.int .i64 v2.err)]) {aM:List UInt8} {cD:aN} (h:fN F v2=some (aM,cD)):
 aG Tryz.prog 46 [(.ep (.agg [(.ptr q1 0)]) 0)] H0 fun v H'=>v=(.str aM)∧H'=(H0.set q1 [(.sl .n 1 (ml b8 cD.b)),(.int .i64 cD.err)]):=by
 have aT:=aL ai
 refine dX zD zE [q1] fun hcl K0 aO H hH hfr=> ?_
 rw [←hH] at ai
 clear hH
 have hle:=hfr.le
 have eZ:=aL ai
 rw [fN.eq_1] at h
 refine aE ai ?_
 obtain ⟨⟨r3,r4⟩,hy1,h⟩:=ay h
 dsimp only at h
 refine bf ax (mD (ai.trans rfl) hy1) ?_
 refine aE ai ?_
 obtain ⟨rfl,rfl⟩:=dm h
 exact aO _ _ _ bE (cc (bn _ hfr) hcl (bC bw (.str r3)) bA bt bL br jK gG ⟨rfl,rfl⟩)
abbrev zF:aD:=(.seq (.rg [(aj 1 (.alloc [(.str []),(.str [])]))]) (.seq (.rg [(aj 3 (.ld (.t 0) none)),(aj 4 (.call (.t 3) [])),(bh 2 4)]) (.seq (.rg [(aB 5 2),(aj 6 (.ld (.t 0) none)),(aj 7 (.call (.t 6) [])),(aj 8 (.build [(.str []),(.str [])] [(0,(1,(.t 5))),(1,(1,(.t 7)))])),(cX (.st (.t 1) (.t 8) 2))]) .ret)))
theorem zG:bx Tryz.prog 48 9 [(.cell 1 23)] (erase zF):=⟨Tryz.f48,_,rfl,by decide,rfl,by kernel_rfl,rfl,rfl⟩
abbrev zH:List Nat:=[0,1,2]
def jO (F:Nat) (v3:aN):Option (aK×aN):=
 (fN F v3).bind fun (r4,r5)=>
 (fN F r5).bind fun (r6,r7)=>some ((aK.mk r4 r6),r7)
theorem yd {F:Nat} {v3:aN} {q1:Nat} {q2:Nat} {H0:AH} (ai:H0[q1]? =some [(.fn 46 [(.ep (.agg [(.ptr q2 0)]) 0)])]) (au:H0[q2]? =some [(.sl .n 1 (ml b8 v3.b)),(.int .i64 v3.err)]) (eD:q1≠q2) {aM:aK} {cD:aN} (h:jO F v3=some (aM,cD)):
 aG Tryz.prog 48 [(.ptr q1 0)] H0 fun v H'=>v=(.agg [(.str aM.aq),(.str aM.domain)])∧H'=(H0.set q2 [(.sl .n 1 (ml b8 cD.b)),(.int .i64 cD.err)]):=by
 have aT:=aL ai
 have cM:=aL au
 refine dX zG zH [q2] fun hcl K0 aO H hH hfr=> ?_
 rw [←hH] at ai au
 clear hH
 have hle:=hfr.le
 have eZ:=aL ai
 have Ji:=aL au
 rw [jO.eq_1] at h
 refine aE (aC ai au) ?_
 obtain ⟨⟨r4,r5⟩,hy1,h⟩:=ay h
 dsimp only at h
 refine bf ax (kq (q1:=q2) (eo (au.trans rfl)) hy1) ?_
 refine aE (aC ai au) ?_
 obtain ⟨⟨r6,r7⟩,bg,h⟩:=ay h
 dsimp only at h
 refine bf ax (kq (q1:=q2) bL bg) ?_
 refine aE (aC ai au) ?_
 obtain ⟨rfl,rfl⟩:=dm h
 exact aO _ _ _ bE (cc (bn _ (bn _ (bn _ (Fr.app hfr)))) hcl (gy (cs:=[(.str r4),(.str r6)]) (v:=(.agg [(.str r4),(.str r6)])) (by kernel_rfl) (n:=(some 2)) (by kernel_rfl) rfl bL (by simp [jl,jk,lQ,b5,AV.flat,nP,oB,AV.bS,Tg.sh]) bw) bA bt (aX bL) br jK gG ⟨rfl,rfl⟩)
abbrev ye:aD:=(.seq (.rg [(aj 2 (.aZ (.c (.int .i64 0))))]) (.seq (.rg [(aB 3 0),(aj 4 (.call (.c (.fn 73 [])) [(.t 3),(.c (.int .i64 2))])),(bh 2 4)]) .ret))
theorem yf:bx Tryz.prog 51 5 [(.tmp 2)] (erase ye):=⟨Tryz.f51,_,rfl,by decide,rfl,by kernel_rfl,rfl,rfl⟩
abbrev yg:List Nat:=[0,2]
def gq (F:Nat) (r2:aN):Option (Int×aN):=
 (dh F r2 2).bind fun (r3,r4)=>some (r3,r4)
theorem wU {F:Nat} {r2:aN} {q1:Nat} {H0:AH} (ai:H0[q1]? =some [(.sl .n 1 (ml b8 r2.b)),(.int .i64 r2.err)]) {aM:Int} {cD:aN} (h:gq F r2=some (aM,cD)):
 aG Tryz.prog 51 [(.ptr q1 0)] H0 fun v H'=>v=(.int .i64 aM)∧H'=(H0.set q1 [(.sl .n 1 (ml b8 cD.b)),(.int .i64 cD.err)]):=by
 have aT:=aL ai
 refine dX yf yg [q1] fun hcl K0 aO H hH hfr=> ?_
 rw [←hH] at ai
 clear hH
 have hle:=hfr.le
 have eZ:=aL ai
 rw [gq.eq_1] at h
 refine aE ai ?_
 obtain ⟨⟨r3,r4⟩,hy1,h⟩:=ay h
 dsimp only at h
 refine bf ax (gP (ai.trans rfl) hy1) ?_
 refine aE ai ?_
 obtain ⟨rfl,rfl⟩:=dm h
 exact aO _ _ _ bE (cc (bn _ hfr) hcl (bC bw (.int .i64 r3)) bA bt bL br jK gG ⟨rfl,rfl⟩)
abbrev kM:aD:=(.rg [(aB 3 0),(aj 4 (.ei (.t 3))),(aj 5 (.aV (.t 4) 1)),(aj 6 (.ld (.t 5) none)),(aj 7 (.bin .eql (.t 6) (.c (.int .i64 0)))),(aB 8 7),(aF 9 (.mv (.t 0)) 8 true),(aF 10 (.ei (.t 9)) 8 true),(aF 11 (.aV (.t 10) 0) 8 true),(aF 12 (.ld (.t 11) none) 8 true),(aF 13 (.len (.t 12)) 8 true),(aF 14 (.bin .gtr (.t 13) (.c (.int .i64 0))) 8 true),(aj 15 (.pick (.t 8) (.t 14) (.c (.bool false))))])
abbrev vL:aD:=(.seq (.rg [(aj 2 (.aZ (.c (.int .i64 0))))]) (.seq (.seq (.sem (erase kM)) (.cond (.t 15) (.seq (.rg [(aj 2 (.aZ (.c (.int .i64 3))))]) .ret) .skip)) (.seq (.rg [(aB 16 0),(aj 17 (.ei (.t 16))),(aj 18 (.aV (.t 17) 1)),(aj 19 (.ld (.t 18) none)),(bh 2 19)]) .ret)))
theorem vM:bx Tryz.prog 52 20 [(.tmp 2)] (erase vL):=⟨Tryz.f52,_,rfl,by decide,rfl,by kernel_rfl,rfl,rfl⟩
abbrev nk:List Nat:=[0,2,15]
def fA (r1:aN):Option (Int):=
 (if ((decide (r1.err=0))&&(decide (0<(r1.b.length:Int)))) then
  some 3
 else
  some r1.err)
theorem rF {r1:aN} {H:AH} {K:Exit→Env→AH→Prop}
 (kn:K .normal [(0,(.ep (.agg [(.sl .n 1 (ml b8 r1.b)),(.int .i64 r1.err)]) 0)),(15,(.bool ((decide (r1.err=0))&&(decide (0<(r1.b.length:Int))))))] H):
 AX Tryz.prog nk 20 H.length (erase kM) K [(0,(.ep (.agg [(.sl .n 1 (ml b8 r1.b)),(.int .i64 r1.err)]) 0))] H:=by
 refine dj fun K' hK=> ?_
 refine aS ?_
 refine kD (fun hy1=> ?_) fun hy1=> ?_
 · refine bO hy1 ?_
   exact hK _ _ _ _ _ (dD hy1) ax kn
 · refine bO hy1 ?_
   exact hK _ _ _ _ _ (dD hy1) ax kn
theorem uH {r1:aN} {H0:AH} {aM:Int} (h:fA r1=some aM):
 aG Tryz.prog 52 [(.ep (.agg [(.sl .n 1 (ml b8 r1.b)),(.int .i64 r1.err)]) 0)] H0 fun v H'=>v=(.int .i64 aM)∧H'=H0:=by
 refine gz vM nk fun hcl K0 aO=> ?_
 rw [fA.eq_1] at h
 refine aS ?_
 refine cg ax (rF (r1:=r1) ?_)
 refine aS ?_
 refine bX h (fun bg h=> ?_) fun bg h=> ?_
 · refine aS ?_
   obtain rfl:=aJ h
   exact aO _ _ _ bE (aW hcl (bC bw (.int .i64 3)) bA bt ⟨rfl,rfl⟩)
 · refine aS ?_
   obtain rfl:=aJ h
   exact aO _ _ _ bE (aW hcl (bC bw (.int .i64 r1.err)) bA bt ⟨rfl,rfl⟩)
abbrev E8:aD:=(.seq (.rg [(aj 4 (.aZ (.c (.bool false))))]) (.seq (.rg [(aB 5 0),(aj 6 (.dV .bs (.t 5))),(aB 7 1),(aj 8 (.dV .bs (.t 7))),(aj 9 (.bin .eql (.t 6) (.t 8))),(bh 4 9)]) .ret))
theorem E9:bx Tryz.prog 53 10 [(.tmp 4)] (erase E8):=⟨Tryz.f53,_,rfl,by decide,rfl,by kernel_rfl,rfl,rfl⟩
abbrev Fa:List Nat:=[0,1,4]
def bytes_Equal (a1:List UInt8) (b2:List UInt8):Option (Bool):=
 some (decide (a1=b2))
theorem DD {a1:List UInt8} {b2:List UInt8} {H0:AH} {aM:Bool} (h:bytes_Equal a1 b2=some aM):
 aG Tryz.prog 53 [(.sl .n 1 (ml b8 a1)),(.sl .n 1 (ml b8 b2))] H0 fun v H'=>v=(.bool aM)∧H'=H0:=by
 refine gz E9 Fa fun hcl K0 aO=> ?_
 rw [bytes_Equal.eq_1] at h
 refine aS ?_
 obtain rfl:=aJ h
 exact aO _ _ _ bE (aW hcl (bC bw (.bool (decide (a1=b2)))) bA bt ⟨rfl,rfl⟩)
end Go.Proofs.cC
end
