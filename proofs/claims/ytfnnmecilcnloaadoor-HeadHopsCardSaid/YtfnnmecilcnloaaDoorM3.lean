import Derived.Test.YtfnnmecilcnloaaDoorM2
import Derived.Shelf.Strconv.Itoa3
import Derived.Shelf.Small.Strs
import Derived.Shelf.Utf8.RuneCount
import Derived.Shelf.Strconv.Atoi
import Derived.Shelf.Strconv.Itoa0
import Derived.Shelf.Strconv.Itoa1
import Derived.Shelf.LaysM
import Derived.Shelf.Strconv.Itoa2
import Derived.Shelf.Strconv.AtoiErrFast
import Derived.Shelf.Strconv.ParseIntEmpty
import Derived.Shelf.Strconv.AtoiFail
import Derived.Shelf.Strconv.Clone
import Derived.Shelf.Strconv.SyntaxError
import Derived.Shelf.LaysC
import Derived.Shelf.Strconv.ToError
import Derived.Shelf.Strconv.Lower
import Derived.Shelf.Strconv.ParseUint10
import Derived.Shelf.Strconv.ParseUint10Empty
import Derived.Shelf.Strconv.ParseUint10Any
import Derived.Shelf.Strconv.ParseInt10
import Derived.Shelf.Strconv.AtoiLong
import Derived.Shelf.Strconv.AtoiInnerAll
import Derived.Shelf.Strconv.RangeError
import Derived.Shelf.Strconv.ToErrorRange
import Derived.Shelf.Strconv.AtoiAll
import Derived.Shelf.Strconv.ErrVarAll
import Derived.Shelf.Strings.Search1
import Derived.Shelf.Strings.Search2
import Derived.Shelf.Strings.Search3
import Derived.Shelf.Strings.Cut
import Derived.Shelf.Strings.Count
import Derived.Shelf.Strings.Shaped
import Derived.Shelf.Strings.Split
import Derived.Shelf.Strings.SplitShaped
import Derived.Shelf.Unicode.Decode
import Derived.Shelf.Strings.RuneCount
import Derived.Shelf.Strings.Explode
import Derived.Shelf.Unicode.DecodeSlow
import Derived.Shelf.Unicode.DecodeAny
import Derived.Test.YtfnnmecilcnloaaDoorProg
import Derived.Lib.Split
import Derived.Shelf.Spec.SlicesGrow
import Derived.Shelf.SlGeneric
import Derived.Lib.IndexMore
set_option linter.unusedSimpArgs false
set_option linter.unusedVariables false
set_option linter.unusedSectionVars false
set_option linter.defProp false
section
namespace Go.Am
open Go
variable [Tabs]
def EK (k:Nat) (xs:List AV):Prop:=∀(i:Nat) (a:AV),xs[i]? =some a→a.cells.length=k∧aY a.cells=true∧cR a.cells=true∧bz a.cells=true
theorem EK.ml {α:Type} {f:α→AV} {k:Nat} (h:∀x,(f x).cells.length=k∧aY (f x).cells=true∧cR (f x).cells=true∧bz (f x).cells=true) (l:List α):EK k (ml f l):=by
 intro i a hi
 simp only [Am.ml,List.getElem?_map,Option.map_eq_some_iff] at hi
 obtain ⟨x, -,rfl⟩:=hi
 exact h x
def fla (xs:List AV):List AV:=(xs.map fun a=>a.cells.map AV.s1).flatten
theorem ga (a:AV) (xs:List AV):fla (a::xs)=a.cells.map AV.s1++fla xs:=rfl
theorem Aj (xs ys:List AV):fla (xs++ys)=fla xs++fla ys:=by simp [fla]
theorem EK.tail {k:Nat} {a:AV} {xs:List AV} (h:EK k (a::xs)):EK k xs:=fun i b hb=>h (i+1) b (by simpa using hb)
theorem gu {k:Nat}:∀ {xs:List AV},EK k xs→(fla xs).length=xs.length*k:=by
 intro xs
 induction xs with
 |nil=>intro _;simp [fla]
 |cons a r ih=>intro h;rw [ga,List.length_append,List.length_map,ih h.tail,(h 0 a rfl).1,List.length_cons,Nat.succ_mul];omega
theorem Ak {k:Nat}:∀ {xs:List AV},EK k xs→∀(i j:Nat) (a:AV),xs[i]? =some a→j<k→(fla xs)[i*k+j]? =(a.cells.map AV.s1)[j]? :=by
 intro xs
 induction xs with
 |nil=>intro _ i j a h;simp at h
 |cons y r ih=>
  intro h i j a hi hj
  have hy:=(h 0 y rfl).1
  rw [ga]
  cases i with
  |zero=>
   simp at hi;subst hi
   rw [List.getElem?_append_left (by simp;omega)];simp
  |succ i=>
   rw [List.getElem?_append_right (by simp only [List.length_map,hy,Nat.succ_mul];omega)]
   rw [show (i+1)*k+j - (y.cells.map AV.s1).length=i*k+j by simp only [List.length_map,hy,Nat.succ_mul];omega]
   exact ih h.tail i j a (by simpa using hi) hj
theorem JO {k:Nat}:∀ {xs:List AV},EK k xs→∀(i j:Nat) (a a' w:AV),xs[i]? =some a→j<k→a'.cells.map AV.s1=(a.cells.map AV.s1).set j w→fla (xs.set i a')=(fla xs).set (i*k+j) w:=by
 intro xs
 induction xs with
 |nil=>intro _ i j a a' w h;simp at h
 |cons y r ih=>
  intro h i j a a' w hi hj hw
  have hy:=(h 0 y rfl).1
  cases i with
  |zero=>
   simp at hi;subst hi
   rw [List.set_cons_zero,ga,ga,hw,List.set_append_left _ _ (by simp;omega)];simp
  |succ i=>
   rw [List.set_cons_succ,ga,ga,ih h.tail i j a a' w (by simpa using hi) hj hw,List.set_append_right _ _ (by simp only [List.length_map,hy,Nat.succ_mul];omega)]
   rw [show (i+1)*k+j - (y.cells.map AV.s1).length=i*k+j by simp only [List.length_map,hy,Nat.succ_mul];omega]
theorem Pc (a:AV):a.s1.s1=a.s1:=by cases a<;>rfl
theorem Mj (xs:List AV):(fla xs).map AV.s1=fla xs:=by
 unfold fla
 rw [List.map_flatten,List.map_map]
 congr 1
 apply List.map_congr_left
 intro a _
 simp [List.map_map,Function.comp_def,Pc]
theorem tG {k:Nat}:∀ {xs:List AV},EK k xs→∀(q:Nat) (a:AV),(fla xs)[q]? =some a→a.flat=true∧a.np=true∧a.dV=true:=by
 intro xs
 induction xs with
 |nil=>intro _ q a h;simp [fla] at h
 |cons y r ih=>
  intro h q a hq
  rw [ga] at hq
  by_cases hlt:q<(y.cells.map AV.s1).length
  · rw [List.getElem?_append_left hlt,List.getElem?_map,Option.map_eq_some_iff] at hq
    obtain ⟨z,hz,rfl⟩:=hq
    have h1:=ey (h 0 y rfl).2.2.2 hz
    have h2:=kZ (h 0 y rfl).2.2.1 hz
    have h3:z.dV=true:=by
     have:=(h 0 y rfl).2.1
     generalize y.cells=l at this hz
     clear hlt
     induction l generalizing q with
     |nil=>simp at hz
     |cons b l ihl=>
      simp only [aY,Bool.and_eq_true] at this
      cases q with
      |zero=>simp at hz;subst hz;exact this.1
      |succ q=>exact ihl q this.2 (by simpa using hz)
    cases z<;>simp_all [AV.s1,AV.flat,AV.np,AV.dV]
  · rw [List.getElem?_append_right (by omega)] at hq
    exact ih h.tail _ a hq
theorem Al {l:List AV} (h:∀(q:Nat) (a:AV),l[q]? =some a→a.flat=true):bz l=true:=by
 induction l with
 |nil=>rfl
 |cons a r ih=>simp only [bz,Bool.and_eq_true];exact ⟨h 0 a rfl,ih fun q b hb=>h (q+1) b (by simpa using hb)⟩
theorem fI (k:Nat) (xs:List AV) (c:Nat):ew k xs c=fla xs++List.replicate ((c - xs.length)*k) .un:=rfl
theorem o9 {k c:Nat} {xs:List AV} (h:EK k xs) (hc:xs.length≤c):(ew k xs c).length=c*k:=by
 rw [fI,List.length_append,gu h,List.length_replicate, ←Nat.add_mul];congr 1;omega
theorem qt {k c:Nat} {xs:List AV} (h:EK k xs):(ew k xs c).take (xs.length*k)=fla xs:=by
 rw [fI,List.take_append_of_le_length (by rw [gu h];exact Nat.le_refl _),List.take_of_length_le (by rw [gu h];exact Nat.le_refl _)]
theorem JP {k c i j:Nat} {xs:List AV} {a:AV} (h:EK k xs) (hi:xs[i]? =some a) (hj:j<k):(ew k xs c)[i*k+j]? =(a.cells.map AV.s1)[j]? :=by
 have hlt:i<xs.length:=(List.getElem?_eq_some_iff.1 hi).1
 have:(i+1)*k≤xs.length*k:=Nat.mul_le_mul_right _ hlt
 rw [Nat.succ_mul] at this
 rw [fI,List.getElem?_append_left (by rw [gu h];omega),Ak h i j a hi hj]
theorem GH {k c i j:Nat} {xs:List AV} {a a' w:AV} (h:EK k xs) (hi:xs[i]? =some a) (hj:j<k) (hw:a'.cells.map AV.s1=(a.cells.map AV.s1).set j w):
 over (ew k xs c) (i*k+j) [w]=some (ew k (xs.set i a') c):=by
 have hlt:i<xs.length:=(List.getElem?_eq_some_iff.1 hi).1
 have hm:(i+1)*k≤xs.length*k:=Nat.mul_le_mul_right _ hlt
 rw [Nat.succ_mul] at hm
 have hl:=gu h
 unfold over
 rw [if_pos (by rw [fI,List.length_append,hl,List.length_singleton];omega)]
 congr 1
 rw [fI k (xs.set i a'),List.length_set,JO h i j a a' w hi hj hw,fI]
 rw [←List.set_append_left _ _ (by rw [hl];omega)]
 rw [List.set_eq_take_append_cons_drop,if_pos (by rw [List.length_append,hl];omega)]
 simp
def GF (k n0 q:Nat) (xs:List AV) (c:Nat) (ah:AH):Prop:=
 (c=0∧xs=[])∨(n0≤q∧0<c∧xs.length≤c∧ah[q]? =some (ew k xs c))
theorem GF.lt {k n0 q c:Nat} {xs:List AV} {ah:AH} (h:GF k n0 q xs c ah) (hc:0<c):q<ah.length∧n0≤q:=by
 rcases h with ⟨h, -⟩|⟨h1, -, -,h2⟩
 · omega
 · exact ⟨(List.getElem?_eq_some_iff.1 h2).1,h1⟩
theorem GF.nil {k n0 q:Nat} {ah:AH}:GF k n0 q [] 0 ah:= .inl ⟨rfl,rfl⟩
theorem GF.at {k n0 q c i:Nat} {xs:List AV} {ah:AH} {a:AV} (h:GF k n0 q xs c ah) (hi:xs[i]? =some a):n0≤q∧ah[q]? =some (ew k xs c):=by
 rcases h with ⟨-,rfl⟩|⟨h1, -, -,h2⟩
 · simp at hi
 · exact ⟨h1,h2⟩
theorem GF.of {k n0 q c:Nat} {xs:List AV} {ah aj:AH} (h:GF k n0 q xs c ah) (he:q<ah.length→n0≤q→aj[q]? =ah[q]?):GF k n0 q xs c aj:=by
 rcases h with h|⟨h1,h2,h3,h4⟩
 · exact .inl h
 · exact .inr ⟨h1,h2,h3,by rw [he (List.getElem?_eq_some_iff.1 h4).1 h1];exact h4⟩
theorem GF.set {k n0 q c i:Nat} {xs:List AV} {ah:AH} {a a':AV} (h:GF k n0 q xs c ah) (hi:xs[i]? =some a):GF k n0 q (xs.set i a') c (ah.set q (ew k (xs.set i a') c)):=by
 rcases h with ⟨-,rfl⟩|⟨h1,h2,h3,h4⟩
 · simp at hi
 · exact .inr ⟨h1,h2,by simpa using h3,List.getElem?_set_self (List.getElem?_eq_some_iff.1 h4).1⟩
section
variable {P:Program} {L:List Nat} {N n0:Nat} {e:Env} {ah:AH} {t:List It} {Q:Exit→Env→AH→Prop} {r:List az} {d:Option Nat} {g:Option (Nat×Bool)}
theorem JQ {α:Type} {f:α→AV} {k b q c n1:Nat} {x y:Ar} {tg:Tg} {X Y Z:List α} {ys:List AV} (hf:∀x,(f x).cells.length=k∧aY (f x).cells=true∧cR (f x).cells=true∧bz (f x).cells=true)
 (oS:0<k) (hx:ev e x= .bf q k X.length c) (hy:ev e y= .sl tg k ys) (hys:ys=ml f Y) (hY:Y≠[]) (hz:dn b X Y=some Z) (hG:GF k n1 q (ml f X) c ah) (hn:n1≤ah.length)
 (hK:∀q' c' aj,GF k n1 q' (ml f Z) c' aj→(∀s,s<ah.length→s<n1∨(0<c→s≠q)→aj[s]? =ah[s]?)→ah.length≤aj.length→(q'=q∨ah.length≤q')→
  U P L N n0 (.ops r::t) Q .normal (ak L e d (.bf q' k Z.length c')) aj):
 UG P L N n0 ⟨d, .fD k b x y,g⟩ r t Q e ah (some true):=by
 subst hys
 obtain ⟨hc,hZ⟩:=Bl hz
 injection hZ with hZ
 subst hZ
 have eX:=EK.ml hf X
 have eY:=EK.ml hf Y
 have Vu:EK k (ml f (X++Y)):=EK.ml hf _
 have hap:ml f (X++Y)=ml f X++ml f Y:=by simp [ml]
 have lX:(ml f X).length=X.length:=by simp [ml]
 have lY:(ml f Y).length=Y.length:=by simp [ml]
 have hyp:0<Y.length:=List.length_pos_iff.2 hY
 show iE L d k b x y e ah fun e ah=>U P L N n0 (.ops r::t) Q .normal e ah
 unfold iE
 rw [hx,hy]
 refine ⟨rfl,rfl,by simpa [ml] using hY,by rw [lY];exact hc.1,by rw [lY];exact hc.2, ?_⟩
 have Rw:(X++Y).length=X.length+Y.length:=List.length_append
 rcases hG with ⟨rfl,hX⟩|⟨h1,h2,h3,h4⟩
 · have hX:X=[]:=by simpa [ml] using hX
   subst hX
   refine .inl ⟨rfl,rfl,fun c' aZ=> ?_⟩
   rw [lY] at aZ ⊢
   have:=hK ah.length c' (ah++[ew k (ml f Y) c']) (.inr ⟨hn,by omega,by simpa [ml] using aZ,by simp⟩) (fun s hs _=>List.getElem?_append_left hs) (by simp) (.inr (Nat.le_refl _))
   simpa using this
 · rw [lX] at h3
   have hlt:=(List.getElem?_eq_some_iff.1 h4).1
   refine .inr ⟨_,h4,fun h0=> ?_,o9 eX (by rw [lX];exact h3),h3, ?_,fun hr=> ?_,fun hr c' aZ=> ?_⟩
   · have:=o9 eX (c:=c) (by rw [lX];exact h3)
     rw [h0] at this
     have h5:=Nat.mul_pos h2 oS
     simp at this
     omega
   · rw [←lX,qt eX];exact Al fun q a hq=>(tG eX q a hq).1
   · rw [lY] at hr ⊢
     have e1:(ew k (ml f X) c).take (X.length*k)++((ml f Y).map fun a=>a.cells.map AV.s1).flatten++(ew k (ml f X) c).drop ((X.length+Y.length)*k)=ew k (ml f (X++Y)) c:=by
      have t1:=qt (c:=c) eX
      rw [lX] at t1
      rw [t1,fI k (ml f (X++Y)),hap,Aj]
      show fla (ml f X)++fla (ml f Y)++_=_
      congr 1
      rw [fI,List.drop_append,List.drop_of_length_le (by rw [gu eX,lX];exact Nat.mul_le_mul_right _ (by omega)),List.nil_append,List.drop_replicate]
      congr 1
      rw [gu eX,List.length_append,lX,lY, ←Nat.sub_mul, ←Nat.sub_mul]
      congr 1
      omega
     rw [e1]
     have:=hK q c (ah.set q (ew k (ml f (X++Y)) c)) (.inr ⟨h1,h2,by simpa [ml] using hr,List.getElem?_set_self hlt⟩) (fun s hs hq=>List.getElem?_set_ne (hq.elim (fun h=>by omega) (fun h=>Ne.symm (h h2)))) (by simp) (.inl rfl)
     rw [Rw] at this
     exact this
   · rw [lY] at aZ hr ⊢
     have e1:((ew k (ml f X) c).take (X.length*k)).map AV.s1++ew k (ml f Y) (c' - X.length)=ew k (ml f (X++Y)) c':=by
      have t1:=qt (c:=c) eX
      rw [lX] at t1
      rw [t1,Mj,fI,fI,hap,Aj,List.append_assoc]
      congr 3
      rw [List.length_append,lX,lY];congr 1;omega
     rw [e1]
     have:=hK ah.length c' (ah++[ew k (ml f (X++Y)) c']) (.inr ⟨hn,by omega,by simpa [ml] using aZ,by simp⟩) (fun s hs _=>List.getElem?_append_left hs) (by simp) (.inr (Nat.le_refl _))
     rw [Rw] at this
     exact this
theorem Pd {q k n c:Nat}:DP L e ah d (.bf q k n c)=some (ak L e d (.int .i64 n),ah):=rfl
theorem Rx {q k n c:Nat} {ki:IntKind} {i:Int}:o7 L e ah d k (.bf q k n c) (.int ki i)=(ox n i).map fun j=>(ak L e d (.ptr q (j*k)),ah):=by
 simp only [o7,ox,and_true]
 split<;>simp
theorem Pe {k m s p:Nat} {ki:IntKind} {i:Int}:zd L e ah d k m (.ptr s p) (.int ki i)=(ox m i).map fun j=>(ak L e d (.ptr s (p+j*k)),ah):=by
 simp only [zd,ox]
 split<;>simp
theorem Pf {k m p:Nat} {a:AV} {ki:IntKind} {i:Int}:zd L e ah d k m (.ep a p) (.int ki i)=(ox m i).map fun j=>(ak L e d (.ep a (p+j*k)),ah):=by
 simp only [zd,ox]
 split<;>simp
theorem Pg {k:Nat}:ze L e ah d k (.sl .ex k [])=some (ak L e d (.bf 0 k 0 0),ah):=by simp [ze]
theorem Ph {s k n c j:Nat}:ze L e ah d j (.bf s k n c)=some (ak L e d (.bf s k n c),ah):=rfl
theorem Pj {u k j:Nat} {xs:List AV}:ze L e ah d j (.sl (.fr (.tmp u)) k xs)=DG L e ah d u k xs (Am.get e u):=rfl
theorem Mk {u k:Nat} {xs zs:List AV}:DG L e ah d u k xs (.sl .own k zs)=some (ak L (put e u (.sl .n k zs)) d (.sl .own k xs),ah):=by simp [DG]
end
theorem Wx.U6 {s k n m c:Nat} (h:n=m):Wx (.bf s k n c) (.bf s k m c):=by subst h;exact .same (by simp)
theorem Wx.bf {s k n c:Nat}:Wx (.bf s k n c) (.bf s k n c):= .same (by simp)
def WG:=And.intro @Pj<|And.intro @Mk<|And.intro @LF<|And.intro @LG<|And.intro @LH<|And.intro @LI<|And.intro @LJ<|And.intro @LK<|And.intro @LL<|And.intro @LM<|And.intro @LN<|And.intro @LO<|And.intro @LP<|And.intro @LQ<|And.intro @LR<|And.intro @LS<|And.intro @LU<|And.intro @LV<|And.intro @IB<|And.intro @IC<|And.intro @ID<|And.intro @IE<|And.intro @Pd<|And.intro @Rx<|And.intro @Pe<|And.intro @Pf<|And.intro @Pg<|And.intro @Ph<|And.intro @N3<|And.intro @N4<|And.intro @Nat.add_zero<|And.intro @Nat.zero_add @Nat.mul_one
section
variable {P:Program} {L:List Nat} {N n0:Nat} {F:Nat→Prop} {γ:List Nat} {C:Nat→List Value} {e e':Env} {ah:AH} {ts:Array Value} {w:World} {Q K:Exit→Env→AH→Prop}
theorem VR.one' {x:AV} {u:Value} (hx:VR C γ x u) (hk:x.dV=true):u.oneCell'=true:=by
 cases hx<;>first|rfl|cases hk|skip
 rename_i hs
 cases u<;>first|rfl|cases hs
theorem SR.An (h:SR L N F γ C e ah ts w) {s k n1 c:Nat} {xs:List AV} (hkp:0<k) (hk:EK k xs) (hG:GF k n1 s xs c ah)
 (he:∀t,get e' t=get e t∨(get e t= .bf s k xs.length c∧get e' t= .sl .n k xs)):∃C',SR L N F γ C' e' (if c=0 then ah else ah.set s []) ts w∧Ext F C w C' w:=by
 rcases hG with ⟨rfl,rfl⟩|⟨-,hc0,hcl,hs⟩
 · refine ⟨C, ?_,Ext.refl ..⟩
   rw [if_pos rfl]
   have hbk:∀p b,blk γ e' ah ts w p b→blk γ e ah ts w p b:=by
    intro p b hp
    cases p with
    |tmp t=>
     simp only [blk] at hp ⊢
     rcases he t with h1|⟨h1,h2⟩
     · rwa [h1] at hp
     · rw [h2] at hp;simp [aV] at hp
    |obj s=>exact hp
    |cell s i=>exact hp
   refine ⟨h.mem,h.sz,fun t=> ?_,fun p q b hp hq=>h.cj p q b (hbk p b hp) (hbk q b hq),fun p b hp=>h.nf p b (hbk p b hp),h.fz,fun t l k' xs' ht=> ?_⟩
   · rcases he t with h1|⟨h1,h2⟩
     · rw [h1];exact h.env t
     · rw [h2]
       have hv:=(h.env t).1
       rw [h1] at hv
       obtain ⟨a,hv, -⟩:=hv.mw
       rw [hv]
       exact ⟨.jN ..,by simp [TC]⟩
   · rcases he t with h1|⟨h1,h2⟩
     · rw [h1] at ht
       have hf:=h.fr t l k' xs' ht
       cases l with
       |tmp u=>
        refine ⟨hf.1,fun hu=>hf.2 ?_⟩
        rcases he u with g1|⟨g1,g2⟩
        · rwa [g1] at hu
        · rw [g2] at hu;cases hu
       |cell s' o=>exact hf
     · rw [h2] at ht;cases ht
 rw [if_neg (by omega)]
 have hlt:s<γ.length:=by rw [h.mem.len];exact (List.getElem?_eq_some_iff.1 hs).1
 obtain ⟨b,hb⟩:∃b,γ[s]? =some b:=⟨_,List.getElem?_eq_getElem hlt⟩
 obtain ⟨vs,ty,hh,hsz,hcell⟩:=h.mem.obj s b _ hs hb
 have oV:blk γ e ah ts w (.obj s) b:=hb
 have oS:ew k xs c≠[]:=by
  intro h0
  have:=o9 (c:=c) hk hcl
  rw [h0] at this
  have h5:=Nat.mul_pos hc0 hkp
  simp at this
  omega
 have yH:=h.mem.lG s b _ hs oS hb
 refine ⟨fun x=>if x=b then vs.toList.take (xs.length*k) else C x, ?_⟩
 generalize ot:(fun x=>if x=b then vs.toList.take (xs.length*k) else C x)=C'
 have c0:C' b=vs.toList.take (xs.length*k):=by rw [←ot];simp
 have c1:∀x,x≠b→C' x=C x:=fun x hx=>by rw [←ot];simp [hx]
 have Vv:=o9 (c:=c) hk hcl
 have hmul:xs.length*k≤c*k:=Nat.mul_le_mul_right _ hcl
 have hvl:(C' b).length=xs.length*k:=by rw [c0,List.length_take,show vs.toList.length=vs.size from Array.length_toList];omega
 have hpre:∀x,C x <+: C' x:=by
  intro x
  by_cases hx:x=b
  · subst hx;rw [yH];exact List.nil_prefix
  · rw [c1 x hx];exact List.prefix_refl _
 have fj:∀(s':Nat),s'≠s→(ah.set s [])[s']? =ah[s']? :=fun s' hn=>List.getElem?_set_ne (Ne.symm hn)
 have dX:(ah.set s [])[s]? =some []:=List.getElem?_set_self (by rw [←h.mem.len];exact hlt)
 have ou:∀(s':Nat),γ[s']? =some b→s'=s:=fun s' hs'=>by
  have:=h.cj (.obj s') (.obj s) b hs' hb;injection this
 have hbk:∀p x,blk γ e' (ah.set s []) ts w p x→blk γ e ah ts w p x:=by
  intro p x hp
  cases p with
  |obj s'=>exact hp
  |cell s' i=>
   obtain ⟨ds,a,b0,h1,h2,h3,h4⟩:=hp
   by_cases hn:s'=s
   · subst hn;rw [dX] at h1;injection h1 with h1;subst h1;simp at h2
   · rw [fj s' hn] at h1;exact ⟨ds,a,b0,h1,h2,h3,h4⟩
  |tmp t=>
   simp only [blk] at hp ⊢
   rcases he t with h1|⟨h1,h2⟩
   · rwa [h1] at hp
   · rw [h2] at hp;simp [aV] at hp
 have iH:∀(a:AV) (v:Value),TC w C a v→(∀x,aV a v=some x→x≠b)→TC w C' a v:=fun a v ht hn=>ht.mono fun x hx=>⟨rfl,c1 x (hn x hx)⟩
 refine ⟨⟨⟨by simp [h.mem.len],fun s' x ds h1 h2=> ?_,fun x hx=> ?_,fun s' x ds h1 h0 h2=> ?_,fun s' x ds us ty' fr h1 h2 h3=> ?_⟩,h.sz,fun t=> ?_,fun p q x hp hq=>h.cj p q x (hbk p x hp) (hbk q x hq),fun p x hp=>h.nf p x (hbk p x hp),h.fz,fun t l k xs ht=> ?_⟩,
  ⟨hpre,fun x hx=>⟨rfl,c1 x (fun e=>h.nf _ _ oV (e▸hx))⟩,Nat.le_refl _,rfl,rfl,rfl⟩⟩
 · by_cases hn:s'=s
   · subst hn
     rw [dX] at h1;injection h1 with h1;subst h1
     rw [hb] at h2;injection h2 with h2;subst h2
     exact ⟨vs,ty,hh,by simp,by simp⟩
   · rw [fj s' hn] at h1
     obtain ⟨us,ty',g1,g2,g3⟩:=h.mem.obj s' x ds h1 h2
     refine ⟨us,ty',g1,g2,fun i a hi=>⟨(g3 i a hi).1.mono hpre _ (fun _ _ h=>h),iH _ _ (g3 i a hi).2 fun y hy e=> ?_⟩⟩
     subst e
     obtain ⟨v,hv, -, -⟩:=cellAt h.mem h1 hi h2
     have A2:v=us.getD i undef:=by
      have hlt:i<us.size:=Nat.lt_of_lt_of_le (List.getElem?_eq_some_iff.1 hi).1 g2
      rw [bY g1,Array.getElem?_eq_getElem hlt] at hv
      simp [Array.getD_eq_getD_getElem?,Array.getElem?_eq_getElem hlt,Option.some.inj hv]
     have:blk γ e ah ts w (.cell s' i) y:=⟨ds,a,x,h1,hi,h2,by rw [hv,A2];exact hy⟩
     have:=h.cj _ _ _ this oV
     cases this
 · by_cases JN:x=b
   · subst JN;exact ⟨vs,ty.1,ty.2,hh,by rw [c0];exact List.take_prefix _ _⟩
   · rw [c1 x JN] at hx ⊢;exact h.mem.mz x hx
 · have hn:s'≠s:=by
    rintro rfl
    rw [dX] at h1;injection h1 with h1;exact h0 h1.symm
   rw [fj s' hn] at h1
   rw [c1 x (fun e=>hn (ou s' (e▸h2)))]
   exact h.mem.lG s' x ds h1 h0 h2
 · by_cases hn:s'=s
   · subst hn
     rw [dX] at h1;injection h1 with h1;subst h1
     intro i hi;simp at hi
   · rw [fj s' hn] at h1
     exact h.mem.sN s' x ds us ty' fr h1 h2 h3
 · rcases he t with h1|⟨h1,h2⟩
   · rw [h1]
     refine ⟨(h.env t).1.mono hpre _ (fun _ _ h=>h),iH _ _ (h.env t).2 fun y hy e=> ?_⟩
     subst e
     have:=h.cj (.tmp t) (.obj s) y hy oV
     cases this
   · have hv:=(h.env t).1
     rw [h1] at hv
     obtain ⟨ad,hv,hnc,hcase⟩:=hv.mw
     have hcase:ad=some ⟨b,0,none⟩:=by
      rcases hcase with ⟨-,h0⟩|⟨b',hb',e⟩
      · omega
      · rw [hb] at hb';injection hb' with hb';subst hb';exact e
     subst hcase
     rw [h2,hv]
     have hval:∀q,q<xs.length*k→(C' b).getD q undef=vs.getD q undef:=by
      intro q hq
      rw [c0]
      simp [List.getD_eq_getElem?_getD,Array.getD_eq_getD_getElem?,List.getElem?_take_of_lt hq]
     have gX:∀q a,(fla xs)[q]? =some a→VR C γ a (vs.getD q undef):=by
      intro q a hq
      refine (hcell q a ?_).1
      rw [fI,List.getElem?_append_left (List.getElem?_eq_some_iff.1 hq).1];exact hq
     have hfl:=gu hk
     refine ⟨.sl _ _ _ _ _ _ _ _ rfl hnc (fun i a hi=>(hk i a hi).1) (by omega) (fun q _ hq=> ?_) (fun i a hi j y hj=> ?_),by simp [TC]⟩
     · rw [Nat.zero_add] at hq
       rw [hval q hq]
       have HB:(fla xs)[q]? =some ((fla xs)[q]'(by omega)):=List.getElem?_eq_getElem (by omega)
       have h3:=gX q _ HB
       have h4:=(tG hk q _ HB).2.2
       exact VR.one' h3 h4
     · have hlt':i<xs.length:=(List.getElem?_eq_some_iff.1 hi).1
       have G4:j<k:=by rw [←(hk i a hi).1];exact (List.getElem?_eq_some_iff.1 hj).1
       have hm:(i+1)*k≤xs.length*k:=Nat.mul_le_mul_right _ hlt'
       rw [Nat.succ_mul] at hm
       rw [Nat.zero_add,hval _ (by omega)]
       have hg:=Ak hk i j a hi G4
       rw [List.getElem?_map,hj] at hg
       have h3:=gX _ _ hg
       have hnp:=kZ (hk i a hi).2.2.1 hj
       have h4:VR C [] y.s1 (vs.getD (i*k+j) undef):=h3.np (tG hk _ _ hg).2.1
       have h5:VR C' [] y.s1 (vs.getD (i*k+j) undef):=h4.mono hpre [] (fun _ _ h=>h)
       cases y with
       |sl t k xs=>exact h5.eG _
       |_=>exact h5
 · rcases he t with h1|⟨h1,h2⟩
   · have hf:=h.fr t l k xs (by rw [←h1];exact ht)
     cases l with
     |tmp u=>
      refine ⟨hf.1,fun hu=>hf.2 ?_⟩
      rcases he u with g1|⟨g1,g2⟩
      · rwa [g1] at hu
      · rw [g2] at hu;cases hu
     |cell s' o=>
      intro ds a x g1 g2 g3 g4
      by_cases hn:s'=s
      · subst hn;rw [dX] at g1;injection g1 with g1;subst g1;simp at g2
      · rw [fj s' hn] at g1;exact hf ds a x g1 g2 g3 g4
   · rw [h2] at ht;cases ht
end
end Go.Am
namespace Go.Am
open Go
variable [Tabs]
section
variable {P:Program} {L:List Nat} {N n0:Nat} {e e':Env} {ah:AH} {K:Exit→Env→AH→Prop}
inductive FG (s k c:Nat) (xs:List AV):Env→Env→Prop
 |nil:FG s k c xs [] []
 |same (i:Nat) (a:AV) (r r':Env):FG s k c xs r r'→FG s k c xs ((i,a)::r) ((i,a)::r')
 |lay (i n:Nat) (r r':Env):n=xs.length→FG s k c xs r r'→FG s k c xs ((i, .bf s k n c)::r) ((i, .sl .n k xs)::r')
theorem FG.get {s k c:Nat} {xs:List AV} {e e':Env} (h:FG s k c xs e e') (t:Nat):Am.get e' t=Am.get e t∨(Am.get e t= .bf s k xs.length c∧Am.get e' t= .sl .n k xs):=by
 induction h with
 |nil=>exact .inl rfl
 |same i a r r' _ ih=>
  simp only [Am.get]
  by_cases hi:i=t
  · simp [hi]
  · simpa [hi] using ih
 |lay i n r r' hn _ ih=>
  simp only [Am.get]
  by_cases hi:i=t
  · exact .inr ⟨by simp [hi,hn],by simp [hi]⟩
  · simpa [hi] using ih
theorem AX.An {c0:aq} {s k n1 c:Nat} {xs:List AV} (hkp:0<k) (hk:EK k xs) (hG:GF k n1 s xs c ah) (he:FG s k c xs e e')
 (h:∀H',(∀s',s'<n1∨(0<c→s'≠s)→H'[s']? =ah[s']?)→H'.length=ah.length→AX P L N n0 c0 K e' H'):AX P L N n0 c0 K e ah:=by
 intro c' aZ F γ C ts w fG hn
 obtain ⟨C',h1,h2⟩:=fG.An hkp hk hG he.get
 have hsame:∀s',s'<n1∨(0<c→s'≠s)→(if c=0 then ah else ah.set s [])[s']? =ah[s']? :=by
  intro s' hs'
  rcases hG with ⟨rfl, -⟩|⟨g1,g2, -, -⟩
  · rw [if_pos rfl]
  · rw [if_neg (by omega),List.getElem?_set_ne]
    rcases hs' with h|h
    · omega
    · exact Ne.symm (h g2)
 refine wp_mono (h _ hsame (by split<;>simp) c' aZ F γ C' ts w h1 hn) ?_
 rintro x a w' ⟨q1,q2,e2,kB,γ2,C2,q3,q4,q5,q6⟩
 exact ⟨q1,q2,e2,kB,γ2,C2,q3,q4,q5,h2.trans q6⟩
end
end Go.Am
namespace Go.Am
open Go
variable [Tabs]
def EF {α:Type} (k:Nat) (f:α→AV):Prop:=∀x,(f x).cells.length=k∧aY (f x).cells=true∧cR (f x).cells=true∧bz (f x).cells=true
section
variable {α:Type} {f:α→AV} {k c j o n q:Nat} {X:List α} {x x':α} {w:AV} {ah:AH}
theorem nN (h:X[j]? =some x):(ml f X)[j]? =some (f x):=by simp [ml,h]
theorem DS:(ml f X).set j (f x')=ml f (X.set j x'):=by simp [ml,List.map_set]
theorem vL (he:EF k f) (h:X[j]? =some x) (ho:o<k):(ew k (ml f X) c)[j*k+o]? =((f x).cells.map AV.s1)[o]? :=JP (EK.ml he X) (nN h) ho
theorem Pm (he:EF k f) (h:X[j]? =some x) (ho:0<k):(ew k (ml f X) c)[j*k]? =((f x).cells.map AV.s1)[0]? :=vL (o:=0) he h ho
theorem tH (he:EF k f) (h:X[j]? =some x) (ho:o<k) (hw:(f x').cells.map AV.s1=((f x).cells.map AV.s1).set o w):over (ew k (ml f X) c) (j*k+o) [w]=some (ew k (ml f (X.set j x')) c):=by
 rw [GH (EK.ml he X) (nN h) ho hw,DS]
theorem M8 (he:EF k f) (h:X[j]? =some x) (ho:0<k) (hw:(f x').cells.map AV.s1=((f x).cells.map AV.s1).set 0 w):over (ew k (ml f X) c) (j*k) [w]=some (ew k (ml f (X.set j x')) c):=tH (o:=0) he h ho hw
theorem GF.Ry (h:GF k n q (ml f X) c ah) (hj:X[j]? =some x):GF k n q (ml f (X.set j x')) c (ah.set q (ew k (ml f (X.set j x')) c)):=by
 have:=h.set (a':=f x') (nN hj)
 rwa [DS] at this
theorem GF.Rz (h:GF k n q (ml f X) c ah) (hj:X[j]? =some x):ah[q]? =some (ew k (ml f X) c):=(h.at (nN hj)).2
theorem GF.Ug (h:GF k n q (ml f X) c ah) (hj:X[j]? =some x):n≤q:=(h.at (nN hj)).1
end
theorem Fr.grow {H0 H H':AH} {S:List Nat} {n q c:Nat} (h:Fr H0 n S H) (hs:∀s,s<H.length→s<n∨(0<c→s≠q)→H'[s]? =H[s]?) (hl:H.length≤H'.length):Fr H0 n S H':=
 ⟨Nat.le_trans h.le hl,fun j hj tF=>(hs j (Nat.lt_of_lt_of_le hj h.le) (.inl hj)).trans (h.eq j hj tF)⟩
theorem Fr.lay {H0 H H':AH} {S:List Nat} {n q c:Nat} (h:Fr H0 n S H) (hs:∀s,s<n∨(0<c→s≠q)→H'[s]? =H[s]?) (hl:H'.length=H.length):Fr H0 n S H':=
 ⟨by rw [hl];exact h.le,fun j hj tF=>(hs j (.inl hj)).trans (h.eq j hj tF)⟩
end Go.Am
end
section
namespace Go.Am
open Go
variable [Tabs]
theorem RA {e:Env} {n:Nat}:ev e (.t n)=Am.get e n:=rfl
theorem RB {e:Env} {a:AV}:ev e (.c a)=a:=rfl
theorem JR {e:Env} {n:Int}:bI e n none= .int .i64 n:=rfl
theorem JS {e:Env} {n:Int} {x:Ar}:bI e n (some x)=ev e x:=rfl
def WU:=And.intro @NI<|And.intro @Ld<|And.intro @NJ<|And.intro @Le<|And.intro @NK<|And.intro @NL<|And.intro @QA<|And.intro @Lf<|And.intro @NM<|And.intro @Lg<|And.intro @Lh<|And.intro @HV<|And.intro @HW<|And.intro @HX<|And.intro @Ew<|And.intro @Ex<|And.intro @Be<|And.intro @NN<|And.intro @HY<|And.intro @Ey<|And.intro @HZ<|And.intro @Ez<|And.intro @NO<|And.intro @Lo<|And.intro @Lp<|And.intro @EA<|And.intro @Lq<|And.intro @QF<|And.intro @NS<|And.intro @Lr<|And.intro @H6<|And.intro @NT<|And.intro @H7<|And.intro @NU<|And.intro @Od<|And.intro @NV<|And.intro @NW<|And.intro @DR<|And.intro @QG<|And.intro @JJ<|And.intro @M7<|And.intro @NX<|And.intro @QH<|And.intro @QI<|And.intro @NY<|And.intro @QJ<|And.intro @NZ<|And.intro @N0<|And.intro @N1<|And.intro @N2<|And.intro @Lv<|And.intro @N5<|And.intro @N6<|And.intro @JI<|And.intro @JG<|And.intro @DQ<|And.intro @N9<|And.intro @Lw<|@Lx
def WV:=And.intro @RA<|And.intro @RB<|And.intro @DJ<|And.intro @DK<|And.intro @Lz<|And.intro @LA<|And.intro @Il<|And.intro @LB<|And.intro @Im<|And.intro @LC<|And.intro @Io<|And.intro @JR<|And.intro @JS<|And.intro @Ip<|And.intro @Iq<|And.intro @Oe<|And.intro @Og<|And.intro @Ir<|And.intro @Is<|And.intro @MZ<|And.intro @Iu<|And.intro @Iv<|And.intro @Iw<|And.intro @Ix<|And.intro @Iy<|And.intro @Iz<|And.intro @IA<|And.intro @Oh<|And.intro @Oi<|And.intro @Oj<|And.intro @Ok<|And.intro @Ol<|And.intro @Om<|And.intro @QT<|And.intro @On<|And.intro @Oo<|And.intro @Oq<|And.intro @Ot<|And.intro @Ou<|And.intro @Ov<|And.intro @Ox<|And.intro @Oy<|And.intro @QU<|And.intro @QV<|And.intro @QW<|And.intro @QX<|And.intro @Oz<|And.intro @OA<|And.intro @OB<|And.intro @OC<|And.intro @OD<|And.intro @OE<|And.intro @QY<|And.intro @QZ<|And.intro @Q0<|And.intro @OF<|And.intro @OG<|And.intro @OH<|And.intro @Bm<|And.intro @wJ<|And.intro @rF<|And.intro @TS<|And.intro @TT<|And.intro @TU<|And.intro @TV<|And.intro @Q2<|And.intro @Q3<|And.intro @Q4<|And.intro @Q5<|And.intro @DN<|And.intro @OI<|And.intro @OJ<|And.intro @OK<|And.intro @DI<|And.intro @wF<|And.intro @zj<|And.intro @nM<|And.intro @OL<|And.intro @n5<|And.intro @n6<|And.intro @N7<|And.intro @N8<|And.intro @za<|@zb
theorem AX.JT {P:Program} {L:List Nat} {N n0:Nat} {K:Exit→Env→AH→Prop} {e:Env} {ah:AH} {m c:aq} (hm:erase m=c) (ho:jo N c=true) (h:U P L N n0 [.code m] K .normal e ah):AX P L N n0 c K e ah:=by
 subst hm
 exact fun c' aZ=>iB c' m _ e ah aZ ho h
theorem Wx.Pn {a b:Bool} (h:a=b):Wx (.bool a) (.bool b):=by subst h;exact Wx.bool
theorem Wx.RC {k:IntKind} {a b:Int} (h:a=b):Wx (.int k a) (.int k b):=by subst h;exact Wx.int
theorem Wx.U7 {a b:List UInt8} (h:a=b):Wx (.str a) (.str b):=by subst h;exact Wx.str
theorem dc.U8 {ah:AH} {q:Nat} {cs:List AV} (hq:ah[q]? =some cs):dc ah (ah.set q cs):=by
 rw [EE hq];exact dc.refl _
theorem Po {α:Type} {f:α→AV} {xs:List α} {i:Int} {x:α} (h:idx xs i=some x):idx (ml f xs) i=some (f x):=by rw [DI,h];rfl
theorem Pp {α:Type} {f:α→AV} {xs ys:List α} {i j:Int} (h:sub xs i j=some ys):sub (ml f xs) i j=some (ml f ys):=by rw [wF,h];rfl
theorem S0 {α:Type} {f:α→AV} {xs ys:List α} {i j m:Int} (h:rG xs i j m=some ys):rG (ml f xs) i j m=some (ml f ys):=by rw [zj,h];rfl
end Go.Am
namespace Go.Am
open Go
variable [Tabs]
section
variable {P:Program} {L:List Nat} {N n0:Nat} {e:Env} {ah:AH} {t:List It} {Q:Exit→Env→AH→Prop} {r:List az}
theorem RD {a b:aq} {B:Bool} (h:B=true) (hk:U P L N n0 (.code a::t) Q .normal e ah):UC P L N n0 a b t Q e ah (.bool B):=by subst h;exact hk
theorem RE {a b:aq} {B:Bool} (h:B=false) (hk:U P L N n0 (.code b::t) Q .normal e ah):UC P L N n0 a b t Q e ah (.bool B):=by subst h;exact hk
theorem Uh {o:az} {B want:Bool} (h:B=want) (hk:UG P L N n0 o r t Q e ah (some true)):UG P L N n0 o r t Q e ah (some (B==want)):=by subst h;simpa using hk
theorem JU {o:az} {B want:Bool} (h:B= !want) (hk:U P L N n0 (.ops r::t) Q .normal (iL e o.d) ah):UG P L N n0 o r t Q e ah (some (B==want)):=by
 subst h;cases want<;>exact hk
theorem Ui {o:az} {B:Bool} (h:B=false) (hk:U P L N n0 (.ops r::t) Q .normal (iL e o.d) ah):UG P L N n0 o r t Q e ah (some (B==true)):=JU h hk
theorem Uj {o:az} {B:Bool} (h:B=true) (hk:U P L N n0 (.ops r::t) Q .normal (iL e o.d) ah):UG P L N n0 o r t Q e ah (some (B==false)):=JU h hk
end
theorem S1 (B:Bool):B=true∨B=false:=by cases B<;>simp
theorem Uk:(true==true)=true:=rfl
theorem Ul:(true==false)=false:=rfl
theorem Um:(false==true)=false:=rfl
theorem Un:(false==false)=true:=rfl
def WB:=And.intro @Uk<|And.intro @Ul<|And.intro @Um<|And.intro @Un<|And.intro @Bool.and_true<|And.intro @Bool.true_and<|And.intro @Bool.and_false<|And.intro @Bool.false_and<|And.intro @Bool.or_true<|And.intro @Bool.true_or<|And.intro @Bool.or_false<|And.intro @Bool.false_or<|And.intro @Bool.not_true<|And.intro @Bool.not_false<|And.intro @decide_true<|And.intro @decide_false<|And.intro @and_true<|And.intro @true_and<|And.intro @and_self<|And.intro @and_false<|And.intro @false_and<|And.intro @Nat.zero_add<|And.intro @Nat.add_zero<|And.intro @Nat.succ_ne_zero<|And.intro @Nat.lt_irrefl<|And.intro @Bool.false_eq_true<|And.intro @List.contains_cons.{0}<|And.intro @List.contains_nil.{0}<|And.intro @List.take_succ_cons.{0}<|And.intro @List.take_zero.{0}<|And.intro @List.drop_succ_cons.{0}<|And.intro @List.drop_zero.{0}<|And.intro @List.length_cons.{0}<|And.intro @List.length_nil.{0}<|And.intro @List.getElem?_cons_zero.{0}<|And.intro @List.getElem?_cons_succ.{0}<|And.intro @List.getElem?_nil.{0}<|And.intro @List.cons_append.{0}<|And.intro @List.nil_append.{0}<|And.intro @List.append_nil.{0}<|And.intro @List.all_cons.{0}<|And.intro @List.all_nil.{0}<|And.intro @List.set_cons_zero.{0}<|And.intro @List.set_cons_succ.{0}<|And.intro @List.isEmpty_cons.{0}<|And.intro @List.isEmpty_nil.{0}<|And.intro @List.map_cons.{0,0}<|And.intro @List.map_nil.{0,0}<|And.intro @Option.map_some.{0,0}<|And.intro @Option.map_none.{0,0}<|@Option.bind_some.{0,0}
end Go.Am
namespace Go.Am
open Go
variable [Tabs]
section
variable {P:Program} {e':Env} {H0 H':AH} {rs:List ResultVar} {vs:List AV} {r':AV} {R:AV→AH→Prop}
theorem aH (hcl:fO H0.length H0) (hr:c8 P e' H0 rs=some vs) (hc:Cl H0.length (fin vs)) (hw:Wx (fin vs) r') (hR:R r' H0):mO P H0 rs R e' H0:=
 ⟨vs,r',H0,hr,hw,hR, .inl ⟨hc,by rw [List.take_length];exact hcl,Nat.le_refl _,by rw [List.take_length];exact dc.refl _⟩⟩
theorem bW (hf:Fr H0 H0.length [] H') (hcl:fO H0.length H0) (hr:c8 P e' H' rs=some vs) (hc:Cl H0.length (fin vs)) (hw:Wx (fin vs) r') (hR:R r' H0):mO P H0 rs R e' H':=
 ⟨vs,r',H0,hr,hw,hR, .inl ⟨hc,by rw [hf.M4];exact hcl,hf.le,by rw [hf.M4];exact dc.refl _⟩⟩
theorem RF (hr:c8 P e' H' rs=some vs) (hw:Wx (fin vs) r') {aj:AH} (hh:dc H' aj) (hR:R r' aj):mO P H0 rs R e' H':=
 ⟨vs,r',aj,hr,hw,hR, .inr hh⟩
theorem RG {s:Nat} {c c':List AV} (hf:Fr H0 H0.length [s] H') (hcl:fO H0.length H0) (hr:c8 P e' H' rs=some vs) (hc:Cl H0.length (fin vs)) (hw:Wx (fin vs) r')
 (hs:H'[s]? =some c) (hl:s<H0.length) (Pq:∀a∈c,Cl H0.length a) (Pr:mN c c') (hR:R r' (H0.set s c')):mO P H0 rs R e' H':=by
 refine ⟨vs,r',H0.set s c',hr,hw,hR, .inl ⟨hc,by rw [hf.M5 hs hl];exact hcl.set Pq,hf.le, ?_⟩⟩
 rw [hf.M5 hs hl]
 have:=dc.set (ah:=H0.set s c) (q:=s) (cs':=c') (h_eq hl) Pr
 rwa [List.set_set] at this
theorem dc.trans {a b c:AH} (h1:dc a b) (h2:∀(s:Nat) (cs':List AV),c[s]? =some cs'→∃cs,b[s]? =some cs∧(cs'=cs∨(mN cs cs'∧a[s]? =some cs))) (hl:c.length=b.length):dc a c:=by
 refine ⟨by rw [hl,h1.1],fun s cs' hs=> ?_⟩
 obtain ⟨cs,hb,rfl|⟨hw,ha⟩⟩:=h2 s cs' hs
 · exact h1.2 s _ hb
 · exact ⟨cs,ha, .inr hw⟩
theorem dc.RH {ah:AH} {q q2:Nat} {cs cs' ds ds':List AV} (hne:q≠q2) (hq:ah[q]? =some cs) (hc:mN cs cs') (uJ:ah[q2]? =some ds) (hd:mN ds ds'):dc ah ((ah.set q cs').set q2 ds'):=by
 refine dc.trans (dc.set hq hc) (fun s es hs=> ?_) (by simp)
 rw [List.getElem?_set] at hs
 split at hs
 · rename_i h;subst h
   split at hs
   · injection hs with hs;subst hs
     exact ⟨ds,by rw [List.getElem?_set_ne hne];exact uJ, .inr ⟨hd,uJ⟩⟩
   · cases hs
 · exact ⟨es,hs, .inl rfl⟩
theorem RI {s s2:Nat} {c c' d d':List AV} (hf:Fr H0 H0.length [s,s2] H') (hcl:fO H0.length H0) (hr:c8 P e' H' rs=some vs) (hc:Cl H0.length (fin vs)) (hw:Wx (fin vs) r')
 (hs:H'[s]? =some c) (hl:s<H0.length) (Pq:∀a∈c,Cl H0.length a) (Pr:mN c c') (hs2:H'[s2]? =some d) (nP:s2<H0.length) (RJ:∀a∈d,Cl H0.length a) (RL:mN d d') (hne:s≠s2)
 (hR:R r' ((H0.set s c').set s2 d')):mO P H0 rs R e' H':=by
 refine ⟨vs,r',(H0.set s c').set s2 d',hr,hw,hR, .inl ⟨hc,by rw [hf.M6 hs hs2 hl nP hne];exact (hcl.set Pq).set RJ,hf.le, ?_⟩⟩
 rw [hf.M6 hs hs2 hl nP hne]
 have:=dc.RH (ah:=(H0.set s c).set s2 d) (q:=s) (q2:=s2) (cs:=c) (cs':=c') (ds:=d) (ds':=d') hne (by rw [List.getElem?_set_ne (Ne.symm hne)];exact h_eq hl) Pr (h_eq (by simpa using nP)) RL
 have e1:(((H0.set s c).set s2 d).set s c').set s2 d'=(H0.set s c').set s2 d':=by
  rw [List.set_comm d c' (Ne.symm hne),List.set_set,List.set_set]
 rwa [e1] at this
end
theorem Fr.trans {ah H H':AH} {n0:Nat} {S S2:List Nat} (h:Fr ah n0 S H) (h2:Fr H H.length S2 H') (hs:∀s∈S2,s∈S∨n0≤s):Fr ah n0 S H':=by
 have h3:=h.le
 refine ⟨Nat.le_trans h.le h2.le,fun j hj tF=> ?_⟩
 rw [h2.eq j (by omega),h.eq j hj tF]
 intro hm
 rcases hs j hm with h4|h4
 · exact tF h4
 · omega
end Go.Am
namespace Go.Am
open Go
variable [Tabs]
theorem M9 {P:Program} {L:List Nat} {N n0:Nat} {e:Env} {ah:AH} {t:List It} {Q:Exit→Env→AH→Prop} {r:List az} {d:Option Nat} {f:Nat} {zq zq':List AV} {aW HE:AH} {V:AV}
 (h:av P f zq' aW fun v H'=>v=V∧H'=HE) (hw:WL zq zq') (hh:dc ah aW) (hk:U P L N n0 (.ops r::t) Q .normal (ak L (mJ e) d V.df) HE):UK P L N n0 f zq d r t Q e ah:=by
 refine MY h hw hh ?_
 rintro _ _ ⟨rfl,rfl⟩
 exact hk
end Go.Am
namespace Go.Am
open Go
variable [Tabs]
def WW:=And.intro WG<|And.intro WM<|And.intro WU<|And.intro WV<|And.intro WB<|And.intro T5<|And.intro T6<|And.intro T7<|And.intro T8<|And.intro T9<|And.intro Ua Ub
def WH:=And.intro @h_eq<|And.intro @M3<|And.intro @IG @DO
theorem Vw:Tg.sh .ex= .ex:=rfl
theorem LD:Tg.sh .own= .n:=rfl
theorem Vx:Tg.sh .n= .n:=rfl
end Go.Am
end
section
namespace Go.Am
open Go
variable [Tabs]
theorem SR.DT {L:List Nat} {N:Nat} {F:Nat→Prop} {γ:List Nat} {C:Nat→List Value} {e:Env} {ah:AH} {ts:Array Value} {w:World} (h:SR L N F γ C e ah ts w) {r:AV} {v:Value} (hv:VR C γ r v) (ht:TC w C r v)
 (ho:r.aT=false) (hf:∀l k xs,r≠ .sl (.fr l) k xs):SR [] 1 F γ C [(0,r)] ah #[v] w:=by
 have hbk:∀p b,blk γ [(0,r)] ah #[v] w p b→blk γ e ah ts w p b∧∀t,p≠ .tmp t:=by
  intro p b hp
  cases p with
  |obj s=>exact ⟨hp,by simp⟩
  |cell s i=>exact ⟨hp,by simp⟩
  |tmp t=>
   simp only [blk,get] at hp
   split at hp
   · rename_i h0;subst h0;rw [dL _ ho] at hp;cases hp
   · simp [aV] at hp
 refine ⟨h.mem,rfl,fun t=> ?_,fun p q b hp hq=>h.cj p q b (hbk p b hp).1 (hbk q b hq).1,fun p b hp=>h.nf p b (hbk p b hp).1,h.fz,fun t l k xs htl=> ?_⟩
 · by_cases h0:0=t
   · subst h0;simp only [get,if_true];exact ⟨hv,ht⟩
   · simp only [get,if_neg h0];exact ⟨.un ..,by generalize (#[v]:Array Value).getD t undef=u;cases u<;>trivial⟩
 · simp only [get] at htl
   split at htl
   · exact absurd htl (hf l k xs)
   · cases htl
theorem av.Ml {P:Program} {f:Nat} {args:List AV} {ah:AH} {l:List UInt8} (hc:ez P f=true)
 (h:∀(F:Nat→Prop) (C:Nat→List Value) (γ:List Nat) (w:World) (vs:Array Value),FL F w→vs.size=args.length→(∀(i:Nat) (a:AV),args[i]? =some a→VR C γ a (vs.getD i undef))→
  Calls P f vs w fun en w'=>en= .returned (.string ⟨l.toArray⟩)∧(∀b,b<w.heap.size→w'.heap[b]? =w.heap[b]?)∧w.heap.size≤w'.heap.size∧fF w w'):
 av P f args ah fun r aj=>r= .str l∧aj=ah:=by
 refine ⟨hc,fun F γ C w vs hs=> ?_⟩
 refine (h F C γ w vs hs.fz hs.sz fun i a hi=> ?_).mono ?_
 · have:=(hs.env i).1
   rw [cq] at this
   simpa [hi] using this
 · rintro en w' ⟨rfl,h1,h2,h3⟩
   have hg:=hs.grow (C':=C) h1 h2 (fun _ _=>rfl) (fun b hb hne=>by
    exfalso
    obtain ⟨vs',ty,fr,hh, -⟩:=hs.mem.mz b hne
    have:b<w.heap.size:=by
     rcases Nat.lt_or_ge b w.heap.size with h4|h4
     · exact h4
     · rw [Array.getElem?_eq_none h4] at hh;cases hh
    omega) h3
   exact ⟨.str l, .string ⟨l.toArray⟩,ah,γ,C,rfl,⟨rfl,rfl⟩,List.prefix_refl _,hg.1.DT (.str ..) (by simp [TC]) rfl (by simp),hg.2⟩
theorem av.JV {P:Program} {f:Nat} {args:List AV} {ah:AH} {r:AV} (ho:r.aT=false) (hf:∀l k xs,r≠ .sl (.fr l) k xs) (hc:ez P f=true)
 (h:∀(F:Nat→Prop) (C:Nat→List Value) (γ:List Nat) (w:World) (vs:Array Value),FL F w→vs.size=args.length→(∀(i:Nat) (a:AV),args[i]? =some a→VR C γ a (vs.getD i undef))→
  Calls P f vs w fun en w'=>∃v,en= .returned v∧VR C γ r v∧TC w' C r v∧(∀b,b<w.heap.size→w'.heap[b]? =w.heap[b]?)∧w.heap.size≤w'.heap.size∧fF w w'):
 av P f args ah fun r' aj=>r'=r∧aj=ah:=by
 refine ⟨hc,fun F γ C w vs hs=> ?_⟩
 refine (h F C γ w vs hs.fz hs.sz fun i a hi=> ?_).mono ?_
 · have:=(hs.env i).1
   rw [cq] at this
   simpa [hi] using this
 · rintro en w' ⟨v,rfl,hv,ht,h1,h2,h3⟩
   have hg:=hs.grow (C':=C) h1 h2 (fun _ _=>rfl) (fun b hb hne=>by
    exfalso
    obtain ⟨vs',ty,fr,hh, -⟩:=hs.mem.mz b hne
    have:b<w.heap.size:=by
     rcases Nat.lt_or_ge b w.heap.size with h4|h4
     · exact h4
     · rw [Array.getElem?_eq_none h4] at hh;cases hh
    omega) h3
   exact ⟨r,v,ah,γ,C,rfl,⟨rfl,rfl⟩,List.prefix_refl _,hg.1.DT hv ht ho hf,hg.2⟩
theorem av.JW {P:Program} {f:Nat} {args:List AV} {ah:AH} {ps:List (List UInt8)} (hc:ez P f=true)
 (h:∀(F:Nat→Prop) (C:Nat→List Value) (γ:List Nat) (w:World) (vs:Array Value),FL F w→vs.size=args.length→(∀(i:Nat) (a:AV),args[i]? =some a→VR C γ a (vs.getD i undef))→
  Calls P f vs w fun en w'=>∃t fr,en= .returned (.slice (some ⟨w.heap.size,0,none⟩) ps.length ps.length)∧w'=w.alloc (.cells (ps.map fun l=>Value.string ⟨l.toArray⟩).toArray t fr)∧fr.2≤fr.1):
 av P f args ah fun r' aj=>r'= .sl .n 1 (ml .str ps)∧aj=ah:=by
 refine ⟨hc,fun F γ C w vs hs=> ?_⟩
 refine (h F C γ w vs hs.fz hs.sz fun i a hi=> ?_).mono ?_
 · have:=(hs.env i).1
   rw [cq] at this
   simpa [hi] using this
 · rintro en w' ⟨t,fr,rfl,rfl,hfr⟩
   obtain ⟨C', -,he,hg,hv⟩:=mG (w':=w.alloc (.cells (ps.map fun l=>Value.string ⟨l.toArray⟩).toArray t fr)) (ds:=[]) hs (d:=none) (by simp) (cs:=(ps.map fun l=>Value.string ⟨l.toArray⟩).toArray) (t:=t) (fr:=fr)
    (rO:=ps.map fun l=>Value.string ⟨l.toArray⟩) (xs:=ml .str ps) (k:=1) (n:=ps.length) (c:=ps.length)
    (fun b hb=>by show (w.heap.push _)[b]? =_;rw [Array.getElem?_push_lt hb,Array.getElem?_eq_getElem hb]) (by show (w.heap.push _).size=_;simp) (by show (w.heap.push _)[w.heap.size]? =_;simp)
    (by simp) (by simp only [List.mem_map];rintro v ⟨l, -,rfl⟩;rfl) (by simp) (by simp [ml]) (Nat.le_refl _) (by simp) (by intro i _;omega)
    (by intro i a hi;simp only [ml,List.getElem?_map,Option.map_eq_some_iff] at hi;obtain ⟨l, -,rfl⟩:=hi;rfl)
    (by
     intro i a hi j y hj
     simp only [ml,List.getElem?_map,Option.map_eq_some_iff] at hi
     obtain ⟨l,hl,rfl⟩:=hi
     cases j with
     |succ j=>simp [AV.cells] at hj
     |zero=>
      simp only [AV.cells,List.getElem?_cons_zero,Option.some.injEq] at hj
      subst hj
      simp only [Nat.mul_one,Nat.add_zero,List.getD_eq_getElem?_getD,List.getElem?_map,hl,Option.map_some,Option.getD_some]
      exact .str ..)
   exact ⟨.sl .n 1 (ml .str ps),_,ah,γ,C',rfl,⟨rfl,rfl⟩,List.prefix_refl _,hg.DT (hv.eG _) (by simp [TC]) rfl (by simp),he⟩
theorem Ao {P:Program} {f:Nat} {ah:AH} (n:Int) (hc:ez P f=true) (htab:∀F w,FL F w→Lib.TabIs P w "internal/strconv.uint64pow10" .u64 Lib.pow10Tab)
 (RM:∀w,Lib.TabIs P w "internal/strconv.uint64pow10" .u64 Lib.pow10Tab→Calls P f #[.int .i64 n] w fun e w'=>e= .returned (.string ⟨(Lib.itoa n).toArray⟩)∧∃k os,w'=Go.Sort.grow (w.drewN k) os):
 av P f [.int .i64 n] ah fun r aj=>r= .str (Lib.itoa n)∧aj=ah:=by
 refine av.Ml hc fun F C γ w vs hF hl hv=> ?_
 have h0:=(hv 0 _ rfl).bK
 have hvs:vs= #[.int .i64 n]:=by
  apply Array.ext
  · simpa using hl
  · intro i h1 h2
    simp at h2;subst h2
    simpa [Array.getD_eq_getD_getElem?,Array.getElem?_eq_getElem h1] using h0
 subst hvs
 refine (RM w (htab F w hF)).mono ?_
 rintro e w' ⟨rfl,k,os,rfl⟩
 refine ⟨rfl,fun b hb=> ?_, ?_,rfl,rfl,rfl⟩
 · show (w.heap++os)[b]? =_
   rw [Array.getElem?_append_left hb]
 · show w.heap.size≤(w.heap++os).size
   simp
theorem GI {P:Program} {w:World} {F:Nat→Prop} {name:String} {k:IntKind} {zs:List Int} {g:Nat} (hF:FL F w) (hm:(g,fun cs=>cs=(zs.map fun z=>Value.int k z).toArray)∈Tabs.l) (hg:P.globalNamed name=some g):Lib.TabIs P w name k zs:=by
 obtain ⟨-,cs,ty,fr,h,hcs⟩:=hF.yC _ hm
 simp only at h hcs
 subst hcs
 unfold Lib.TabIs World.var?
 rw [hg]
 simp [h]
end Go.Am
end
section
namespace Go.Am
open Go
variable [Tabs]
def AV.pg:AV→Bool
 | .int _ _| .bool _| .str _| .v _=>true
 |_=>false
def xy:List AV→Bool
 |[]=>true
 |a::r=>a.pg&&xy r
def AV.xA:AV→Bool
 | .agg cs=>xy cs
 |a=>a.pg
def sF:List AV→Bool
 |[]=>true
 |a::r=>a.xA&&sF r
def AV.uR:AV→Bool
 | .aL cs=>sF cs
 |a=>a.xA
theorem k7 {l:List AV} (h:xy l=true) {i:Nat} {a:AV} (hi:l[i]? =some a):a.pg=true:=by
 induction l generalizing i with
 |nil=>simp at hi
 |cons b r ih=>
  simp only [xy,Bool.and_eq_true] at h
  cases i with
  |zero=>simp at hi;subst hi;exact h.1
  |succ i=>exact ih h.2 (by simpa using hi)
theorem rH {l:List AV} (h:sF l=true) {i:Nat} {a:AV} (hi:l[i]? =some a):a.xA=true:=by
 induction l generalizing i with
 |nil=>simp at hi
 |cons b r ih=>
  simp only [sF,Bool.and_eq_true] at h
  cases i with
  |zero=>simp at hi;subst hi;exact h.1
  |succ i=>exact ih h.2 (by simpa using hi)
theorem VR.pg {C C':Nat→List Value} {γ γ':List Nat} {a:AV} {v:Value} (h:VR C γ a v) (hs:a.pg=true):VR C' γ' a v:=by
 cases h with
 |v _ _ hv=>exact .v _ _ hv
 |int=>exact .int ..
 |bool=>exact .bool ..
 |str=>exact .str ..
 |_=>cases hs
theorem VR.xA {C C':Nat→List Value} {γ γ':List Nat} {a:AV} {v:Value} (h:VR C γ a v) (hs:a.xA=true):VR C' γ' a v:=by
 cases h with
 |agg _ cs vs h1 h2=>exact .agg _ _ _ h1 fun i a hi=>(h2 i a hi).pg (k7 hs hi)
 |v _ _ hv=>exact .v _ _ hv
 |int=>exact .int ..
 |bool=>exact .bool ..
 |str=>exact .str ..
 |_=>cases hs
theorem VR.uR {C C':Nat→List Value} {γ γ':List Nat} {a:AV} {v:Value} (h:VR C γ a v) (hs:a.uR=true):VR C' γ' a v:=by
 cases h with
 |aL _ cs vs h1 h2=>exact .aL _ _ _ h1 fun i a hi=>(h2 i a hi).xA (rH hs hi)
 |agg _ cs vs h1 h2=>exact .agg _ _ _ h1 fun i a hi=>(h2 i a hi).pg (k7 hs hi)
 |v _ _ hv=>exact .v _ _ hv
 |int=>exact .int ..
 |bool=>exact .bool ..
 |str=>exact .str ..
 |_=>cases hs
theorem fy.pg {a:AV} (hs:a.pg=true) (v:Value):fy a v:=by
 cases a<;>first|(cases hs;done)|(cases v<;>trivial)
theorem vZ.xA {a:AV} (hs:a.xA=true) (v:Value):vZ a v:=by
 cases a with
 |agg cs=>cases v<;>first|trivial|exact fun i a hi=>fy.pg (k7 hs hi) _
 |_=>first|(cases hs;done)|(cases v<;>trivial)
theorem TC.uR {w:World} {C:Nat→List Value} {a:AV} (hs:a.uR=true) (v:Value):TC w C a v:=by
 cases a with
 |aL cs=>cases v<;>first|trivial|exact fun i a hi=>vZ.xA (rH hs hi) _
 |agg cs=>cases v<;>first|trivial|exact fun i a hi=>fy.pg (k7 hs hi) _
 |_=>first|(cases hs;done)|(cases v<;>trivial)
theorem JX {a:AV} (hs:a.uR=true):a.aT=false:=by
 cases a<;>first|rfl|cases hs
theorem Mm {a:AV} (hs:a.uR=true) (l:Loc) (k:Nat) (xs:List AV):a≠ .sl (.fr l) k xs:=by
 rintro rfl;cases hs
inductive e8 (ah:AH):AV→AV→Prop
 |same (a):a.pg=true→e8 ah a a
 |ep (a p):e8 ah (.ep a p) (.ep a p)
 |sl (t k xs):e8 ah (.sl t k xs) (.sl .n k xs)
 |ptr (s o:Nat) (cs cs':List AV):ah[s]? =some cs→cs'.length=cs.length→(∀(i:Nat) (a a':AV),cs[i]? =some a→cs'[i]? =some a'→e8 ah a a')→e8 ah (.ptr s o) (.ep (.agg cs') o)
inductive PE (ah:AH):AV→AV→Prop
 |one (a a'):e8 ah a a'→PE ah a a'
 |fn (f:Nat) (cs:List AV):PE ah (.fn f []) (.fn f [])
 |agg (cs cs':List AV):cs'.length=cs.length→(∀(i:Nat) (a a':AV),cs[i]? =some a→cs'[i]? =some a'→e8 ah a a')→PE ah (.agg cs) (.agg cs')
def tI (w:World) (b:Nat):List Value:=match w.heap[b]? with|some (.cells vs _ _)=>vs.toList|_=>[]
open Classical in
noncomputable def Cx (w:World) (γ:List Nat) (C:Nat→List Value):Nat→List Value:=fun b=>if b∈γ then tI w b else C b
section
variable {L:List Nat} {N:Nat} {F:Nat→Prop} {γ:List Nat} {C:Nat→List Value} {e:Env} {ah:AH} {ts:Array Value} {w:World}
theorem DU (h:Mem γ C ah w) (b:Nat):C b <+: Cx w γ C b:=by
 unfold Cx
 split
 · rename_i hb
   by_cases hne:C b=[]
   · rw [hne];exact List.nil_prefix
   · obtain ⟨vs,ty,fr,hh,hp⟩:=h.mz b hne
     unfold tI;rw [hh];exact hp
 · exact List.prefix_refl _
theorem DV {s b:Nat} {vs:Array Value} {ty:TypeId} {fr:Nat×Nat} (hs:γ[s]? =some b) (hb:w.heap[b]? =some (.cells vs ty fr)):Cx w γ C b=vs.toList:=by
 unfold Cx tI
 rw [if_pos (List.mem_of_getElem? hs),hb]
theorem VR.Mn {C:Nat→List Value} {γ:List Nat} {t:Tg} {k:Nat} {xs:List AV} {v:Value} (h:VR C γ (.sl t k xs) v) (γ':List Nat):VR C γ' (.sl .n k xs) v:=by
 cases h with
 |jN=>exact .jN ..
 |sl _ _ _ _ b o n c hn hc hk hl ho hx=>exact .sl _ _ _ _ _ _ _ _ hn hc hk hl ho hx
theorem e8.vr (hm:Mem γ C ah w) {a a':AV} (hp:e8 ah a a'):∀ {v:Value},VR C γ a v→VR (Cx w γ C) [] a' v:=by
 induction hp with
 |same a hs=>intro v h;exact h.pg hs
 |ep a p=>
  intro v h
  have h':=h.np rfl
  exact h'.mono (DU hm) [] (fun _ _ h=>h)
 |sl t k xs=>
  intro v h
  exact (h.Mn []).mono (DU hm) [] (fun _ _ h=>h)
 |ptr s o cs cs' hs hl hc ih=>
  intro v h
  obtain ⟨b,hb,rfl⟩:=h.dW
  obtain ⟨vs,ty,hh,hsz,hcell⟩:=hm.obj s b cs hs hb
  have hx:Cx w γ C b=vs.toList:=DV hb hh
  suffices hS:VR (Cx w γ C) [] (.ep (.agg cs') o) (.pointer (some ⟨b,0+o,none⟩)) by rwa [Nat.zero_add] at hS
  refine VR.ep [] (.agg cs') o b 0 (by rw [hx];simpa [AV.cells,hl] using hsz) fun j a' hj=> ?_
  simp only [AV.cells] at hj
  have hlt:j<cs.length:=by rw [←hl];exact (List.getElem?_eq_some_iff.1 hj).1
  have h0:cs[j]? =some cs[j]:=List.getElem?_eq_getElem hlt
  have:=ih j _ _ h0 hj (hcell j _ h0).1
  rw [hx,Nat.zero_add]
  have e1:vs.toList.getD j undef=vs.getD j undef:=by simp [List.getD_eq_getElem?_getD,Array.getD_eq_getD_getElem?]
  rw [e1];exact this
theorem e8.flat {a a':AV} (hp:e8 ah a a') (v:Value):fy a' v∧a'.plain=true:=by
 cases hp with
 |same _ hs=>exact ⟨fy.pg hs v,by cases a<;>first|rfl|cases hs⟩
 |ep=>exact ⟨by cases v<;>trivial,rfl⟩
 |sl=>exact ⟨v7 ..,rfl⟩
 |ptr=>exact ⟨by cases v<;>trivial,rfl⟩
theorem PE.vr (hm:Mem γ C ah w) {a a':AV} (hp:PE ah a a') {v:Value} (h:VR C γ a v):VR (Cx w γ C) [] a' v:=by
 cases hp with
 |one _ _ h1=>exact h1.vr hm h
 |fn f cs=>
  obtain ⟨vs,rfl,h1,h2⟩:=h.vW
  exact .fn _ _ _ _ h1 (by simp)
 |agg cs cs' hl hc=>
  obtain ⟨vs,rfl,h1,h2⟩:=h.gr
  refine .agg _ _ _ (by omega) fun i a' hi=> ?_
  have hlt:i<cs.length:=by rw [←hl];exact (List.getElem?_eq_some_iff.1 hi).1
  have h0:cs[i]? =some cs[i]:=List.getElem?_eq_getElem hlt
  exact (hc i _ _ h0 hi).vr hm (h2 i _ h0)
theorem PE.tc {a a':AV} (hp:PE ah a a') {C':Nat→List Value} (v:Value):TC w C' a' v∧a'.plain=true:=by
 cases hp with
 |one _ _ h1=>
  cases h1 with
  |same _ hs=>exact ⟨by cases a<;>first|(cases hs;done)|(cases v<;>trivial),by cases a<;>first|rfl|cases hs⟩
  |ep=>exact ⟨by cases v<;>trivial,rfl⟩
  |sl=>exact ⟨by cases v<;>trivial,rfl⟩
  |ptr=>exact ⟨by cases v<;>trivial,rfl⟩
 |fn=>exact ⟨by cases v<;>trivial,rfl⟩
 |agg cs cs' hl hc=>
  refine ⟨?_,rfl⟩
  cases v with
  |agg vs=>
   intro i a' hi
   have hlt:i<cs.length:=by rw [←hl];exact (List.getElem?_eq_some_iff.1 hi).1
   exact ((hc i _ _ (List.getElem?_eq_getElem hlt) hi).flat _).1
  |_=>trivial
def rQ (ah:AH):List AV→List AV→Prop
 |[],[]=>True
 |a::r,a'::r'=>PE ah a a'∧rQ ah r r'
 |_,_=>False
theorem rQ.len:∀ {xs ys:List AV},rQ ah xs ys→ys.length=xs.length:=by
 intro xs
 induction xs with
 |nil=>intro ys h;cases ys with|nil=>rfl|cons=>exact h.elim
 |cons a r ih=>intro ys h;cases ys with|nil=>exact h.elim|cons a' r'=>simp [ih h.2]
theorem rQ.get:∀ {xs ys:List AV},rQ ah xs ys→∀(i:Nat) (a a':AV),xs[i]? =some a→ys[i]? =some a'→PE ah a a':=by
 intro xs
 induction xs with
 |nil=>intro ys _ i a a' h;simp at h
 |cons a r ih=>
  intro ys h i b b' h1 h2
  cases ys with
  |nil=>exact h.elim
  |cons a' r'=>
   rcases i with _|i
   · simp at h1 h2;subst h1;subst h2;exact h.1
   · exact ih h.2 i b b' (by simpa using h1) (by simpa using h2)
def gQ (ah:AH):List AV→List AV→Prop
 |[],[]=>True
 |a::r,a'::r'=>e8 ah a a'∧gQ ah r r'
 |_,_=>False
theorem gQ.len:∀ {xs ys:List AV},gQ ah xs ys→ys.length=xs.length:=by
 intro xs
 induction xs with
 |nil=>intro ys h;cases ys with|nil=>rfl|cons=>exact h.elim
 |cons a r ih=>intro ys h;cases ys with|nil=>exact h.elim|cons a' r'=>simp [ih h.2]
theorem gQ.get:∀ {xs ys:List AV},gQ ah xs ys→∀(i:Nat) (a a':AV),xs[i]? =some a→ys[i]? =some a'→e8 ah a a':=by
 intro xs
 induction xs with
 |nil=>intro ys _ i a a' h;simp at h
 |cons a r ih=>
  intro ys h i b b' h1 h2
  cases ys with
  |nil=>exact h.elim
  |cons a' r'=>
   rcases i with _|i
   · simp at h1 h2;subst h1;subst h2;exact h.1
   · exact ih h.2 i b b' (by simpa using h1) (by simpa using h2)
theorem rQ.nil:rQ ah [] []:=trivial
theorem rQ.cons {a a':AV} {r r':List AV} (h:PE ah a a') (hr:rQ ah r r'):rQ ah (a::r) (a'::r'):=⟨h,hr⟩
theorem gQ.nil:gQ ah [] []:=trivial
theorem gQ.cons {a a':AV} {r r':List AV} (h:e8 ah a a') (hr:gQ ah r r'):gQ ah (a::r) (a'::r'):=⟨h,hr⟩
theorem e8.int {k:IntKind} {i:Int}:e8 ah (.int k i) (.int k i):= .same _ rfl
theorem e8.b8 {c:UInt8}:e8 ah (Am.b8 c) (Am.b8 c):= .same _ rfl
theorem e8.bool {b:Bool}:e8 ah (.bool b) (.bool b):= .same _ rfl
theorem e8.str {l:List UInt8}:e8 ah (.str l) (.str l):= .same _ rfl
theorem e8.v {x:Value}:e8 ah (.v x) (.v x):= .same _ rfl
theorem e8.U9 {s o:Nat} {cs cs':List AV} (hs:ah[s]? =some cs) (h:gQ ah cs cs'):e8 ah (.ptr s o) (.ep (.agg cs') o):= .ptr _ _ _ _ hs h.len h.get
theorem PE.Va {cs cs':List AV} (h:gQ ah cs cs'):PE ah (.agg cs) (.agg cs'):= .agg _ _ h.len h.get
theorem av.Uo {P:Program} {f:Nat} {args args':List AV} {R:AV→Prop} (h:av P f args' [] fun r aj=>R r∧aj=[]) (hp:rQ ah args args') (hs:∀r,R r→r.uR=true):
 av P f args ah fun r aj=>R r∧aj=ah:=by
 refine ⟨h.1,fun F γ C w vs fG=> ?_⟩
 have Ep:∀(l:List AV) (t:Nat),get (cx 0 l) t=(l[t]?).getD .un:=fun l t=>by rw [cq];simp
 have DW:∀t,VR (Cx w γ C) [] (get (cx 0 args') t) (vs.getD t undef)∧TC w (Cx w γ C) (get (cx 0 args') t) (vs.getD t undef)∧(get (cx 0 args') t).plain=true:=by
  intro t
  rw [Ep]
  cases ht:args'[t]? with
  |none=>exact ⟨.un ..,by cases vs.getD t undef<;>trivial,rfl⟩
  |some a'=>
   have hlt:t<args.length:=by rw [←hp.len];exact (List.getElem?_eq_some_iff.1 ht).1
   have h0:args[t]? =some args[t]:=List.getElem?_eq_getElem hlt
   have h1:=(fG.env t).1
   rw [Ep,h0] at h1
   have RN:=hp.get t _ _ h0 ht
   exact ⟨RN.vr fG.mem h1,RN.tc _⟩
 have hnb:∀p b,¬blk [] (cx 0 args') [] vs w p b:=by
  intro p b hb
  cases p with
  |obj s=>simp [blk] at hb
  |cell s i=>obtain ⟨cs,a,b0,h1, -⟩:=hb;simp at h1
  |tmp t=>simp only [blk] at hb;rw [dL _ (dy (DW t).2.2)] at hb;cases hb
 have hs0:SR [] args'.length (fun b=>b<w.heap.size) [] (Cx w γ C) (cx 0 args') [] vs w:=by
  refine ⟨⟨rfl,fun s b cs h1=>by simp at h1,fun b hne=> ?_,fun s b cs h1=>by simp at h1,fun s b cs us ty fr h1=>by simp at h1⟩,by rw [fG.sz,hp.len],fun t=>⟨(DW t).1,(DW t).2.1⟩,fun p q b h1=>absurd h1 (hnb p b),fun p b h1=>absurd h1 (hnb p b),
   ⟨fun b hb=>hb,fun e he=>⟨fG.fz.lt _ (fG.fz.yC e he).1,(fG.fz.yC e he).2⟩⟩,fun t l k xs ht=>absurd ht (nJ (DW t).2.2 l k xs)⟩
  by_cases hb:b∈γ
  · obtain ⟨s,hsb⟩:=List.getElem?_of_mem hb
    have hlt:s<ah.length:=by rw [←fG.mem.len];exact (List.getElem?_eq_some_iff.1 hsb).1
    obtain ⟨xs,ty,hh, -⟩:=fG.mem.obj s b _ (List.getElem?_eq_getElem hlt) hsb
    exact ⟨xs,ty.1,ty.2,hh,by rw [DV hsb hh];exact List.prefix_refl _⟩
  · have:Cx w γ C b=C b:=by unfold Cx;rw [if_neg hb]
    rw [this] at hne ⊢
    exact fG.mem.mz b hne
 refine (h.2 _ [] (Cx w γ C) w vs hs0).mono ?_
 rintro en w' ⟨r,v,aj,γ',Ni,rfl,⟨hR,rfl⟩,hγ,RO,hx⟩
 have hold:∀b,b<w.heap.size→w'.heap[b]? =w.heap[b]? :=fun b hb=>(hx.keep b hb).1
 have hg:=fG.grow (w':=w') (C':=C) hold hx.size (fun _ _=>rfl) (fun b hb hne=>by
  exfalso
  obtain ⟨vs',ty,fr,hh, -⟩:=fG.mem.mz b hne
  exact absurd (mE hh) (by omega)) hx.out
 have hv:=(RO.env 0).1
 simp only [get,if_true] at hv
 have hsc:=hs r hR
 exact ⟨r,v,ah,γ,C,rfl,⟨hR,rfl⟩,List.prefix_refl _,hg.1.DT (hv.uR hsc) (TC.uR hsc _) (JX hsc) (Mm hsc),hg.2⟩
end
end Go.Am
end
section
set_option maxRecDepth 100000
namespace Go.Am
open Go
open Nat renaming reduceEqDiff→nA,reduceLT→nB,reduceLeDiff→nC,reduceAdd→nD,reduceSub→nE,reduceMul→nF,reduceBEq→nG
variable [Tabs]
theorem Pt {P:Program} {L:List Nat} {N n0:Nat} {e:Env} {ah:AH} {t:List It} {Q:Exit→Env→AH→Prop} {r:List az} {d:Option Nat} {g:Option (Nat×Bool)} {n:Bool} {x:Ar} {tg:Tg} {k:Nat} {xs:List AV}
 (hx:ev e x= .sl tg k xs) (h1:xs=[]→∀b,U P L N n0 (.ops r::t) Q .normal (ak L e d (.bool b)) ah) (h2:xs≠[]→U P L N n0 (.ops r::t) Q .normal (ak L e d (.bool n)) ah):
 UG P L N n0 ⟨d, .nq n x,g⟩ r t Q e ah (some true):=by
 show sJ L d n x e ah _
 unfold sJ
 rw [hx]
 exact ⟨h1,h2⟩
def pn (k b:Nat):aq:= .seq (.rg [⟨some 2, .bg (.c (.sl .ex k [])),none⟩]) (.seq (.seq (.rg [⟨some 3, .mv (.t 0),none⟩,⟨some 4, .nq false (.t 3),none⟩]) (.cond (.t 4) (.seq (.rg [⟨some 2, .bg (.c (.sl .ex k [])),none⟩]) .ret) .skip))
 (.seq (.rg [⟨some 5, .qg k [],none⟩,⟨some 6, .mv (.t 0),none⟩,⟨some 7, .app k b (.t 5) (.t 6),none⟩,⟨some 2, .bg (.t 7),none⟩]) .ret))
theorem xB {P:Program} {f k b:Nat} {xs ys:List AV} {H0:AH} (hF:bB P f 8 [.tmp 2] (pn k b)) (hz:dn b [] xs=some ys):av P f [.sl .n k xs] H0 fun v H'=>v= .sl .own k ys∧H'=H0:=by
 refine av.Ob hF (m:=pn k b) rfl [0,2,4] rfl (by simp) fun hcl K0 aN=> ?_
 refine AX.JT (m:=pn k b) rfl rfl ?_
 have hys:ys=xs:=by unfold dn at hz;split at hz<;>simp_all
 subst hys
 simp only [WW, ↓reduceIte,nA,nB,nC,nD,nE,nF,nG,reduceCtorEq,pn]
 have step:U P [0,2,4] 8 H0.length [.code .skip, .code (.seq (.rg [⟨some 5, .qg k [],none⟩,⟨some 6, .mv (.t 0),none⟩,⟨some 7, .app k b (.t 5) (.t 6),none⟩,⟨some 2, .bg (.t 7),none⟩]) .ret)] K0 .normal
  [(0, .sl .n k ys),(2, .sl .ex k []),(4, .bool false)] H0:=by
  simp only [WW, ↓reduceIte,nA,nB,nC,nD,nE,nF,nG,reduceCtorEq,hz,List.all_nil,List.map_nil]
  refine aN _ _ _ (.inr rfl) ?_
  exact aH hcl (nL (a:= .sl .own k ys) rfl rfl qs) (by simp [fin,AV.df]) Wx.oo (r':= .sl .own k ys) ⟨rfl,rfl⟩
 refine Pt (by rfl) (fun h0 b=> ?_) (fun h0=> ?_)
 · subst h0
   simp only [WW, ↓reduceIte,nA,nB,nC,nD,nE,nF,nG,reduceCtorEq]
   cases b
   · refine RE rfl ?_
     exact step
   · refine RD rfl ?_
     simp only [WW, ↓reduceIte,nA,nB,nC,nD,nE,nF,nG,reduceCtorEq]
     refine aN _ _ _ (.inr rfl) ?_
     exact aH hcl (nL (a:= .sl .ex k []) rfl rfl qs) (by simp [fin,AV.df]) (Wx.own ..) (r':= .sl .own k []) ⟨rfl,rfl⟩
 · simp only [WW, ↓reduceIte,nA,nB,nC,nD,nE,nF,nG,reduceCtorEq,hz,List.all_nil,List.map_nil]
   refine aN _ _ _ (.inr rfl) ?_
   exact aH hcl (nL (a:= .sl .own k ys) rfl rfl qs) (by simp [fin,AV.df]) Wx.oo (r':= .sl .own k ys) ⟨rfl,rfl⟩
end Go.Am
namespace Go.Am
open Go
variable [Tabs]
theorem SR.Na {L:List Nat} {N:Nat} {F:Nat→Prop} {γ:List Nat} {C:Nat→List Value} {e:Env} {ah:AH} {ts:Array Value} {w:World} (h:SR L N F γ C e ah ts w) {r:AV} {v:Value} (hr:Am.get e 0=r) (hv:ts.getD 0 undef=v)
 (hf:∀l k xs,r≠ .sl (.fr l) k xs):SR [] 1 F γ C [(0,r)] ah #[v] w:=by
 subst hr;subst hv
 have hbk:∀p b,blk γ [(0,Am.get e 0)] ah #[ts.getD 0 undef] w p b→blk γ e ah ts w p b:=by
  intro p b hp
  cases p with
  |obj s=>exact hp
  |cell s i=>exact hp
  |tmp t=>
   simp only [blk,Am.get] at hp ⊢
   split at hp
   · rename_i h0;subst h0;exact hp
   · simp [aV] at hp
 refine ⟨h.mem,rfl,fun t=> ?_,fun p q b hp hq=>h.cj p q b (hbk p b hp) (hbk q b hq),fun p b hp=>h.nf p b (hbk p b hp),h.fz,fun t l k xs htl=> ?_⟩
 · by_cases h0:0=t
   · subst h0;simp only [Am.get,if_true];exact h.env 0
   · simp only [Am.get,if_neg h0];exact ⟨.un ..,by generalize (#[ts.getD 0 undef]:Array Value).getD t undef=u;cases u<;>trivial⟩
 · simp only [Am.get] at htl
   split at htl
   · exact absurd htl (hf l k xs)
   · cases htl
theorem Ap {P:Program} {f:Nat} {n:Int} {H0:AH} {el:TypeId} {z:Value} (hc:ez P f=true) (hz:z.cells.size=1) (h0:0≤n)
 (hroom:∀(base:Option Addr) (w:World),n=0→Calls P f #[.slice base 0 0, .int .i64 n] w fun e w'=>e= .returned (.slice base 0 0)∧w'=w)
 (hgrow:∀(base:Option Addr) (w:World),0<n→Calls P f #[.slice base 0 0, .int .i64 n] w fun e w'=>e= .returned (.slice (some ⟨w.heap.size,0,none⟩) 0 (grownCap w n.toNat 0 el))∧
  w'=w.drew.alloc (.cells ((#[]:Array Value)++Builtin.zeroCells z.cells n.toNat++Builtin.zeroCells z.cells (grownCap w n.toNat 0 el - n.toNat)) el)):
 av P f [.sl .ex 1 [], .int .i64 n] H0 fun v H'=>v= .sl .own 1 []∧H'=H0:=by
 refine ⟨hc,fun F γ C w vs hs=> ?_⟩
 have h1:=hs.env 0
 have h2:=(hs.env 1).1
 rw [cq] at h1 h2
 simp only [Nat.zero_le,if_true,Nat.sub_zero,List.getElem?_cons_zero,Option.getD_some] at h1
 simp only [Nat.zero_le,if_true,Nat.sub_zero,List.getElem?_cons_succ,List.getElem?_cons_zero,Option.getD_some] at h2
 obtain ⟨a,c,e1, -⟩:=h1.1.cz
 rw [e1] at h1
 have hc0:c=0:=h1.2
 subst hc0
 have e2:=h2.bK
 have hvs:vs= #[.slice a 0 0, .int .i64 n]:=by
  have hsz:vs.size=2:=hs.sz
  apply Array.ext
  · simpa using hsz
  · intro i g1 g2
    have:i=0∨i=1:=by omega
    rcases this with rfl|rfl
    · simpa [Array.getD_eq_getD_getElem?,Array.getElem?_eq_getElem g1] using e1
    · simpa [Array.getD_eq_getD_getElem?,Array.getElem?_eq_getElem g1] using e2
 by_cases hn:n=0
 · rw [hvs]
   refine (hroom a w hn).mono ?_
   rintro en w' ⟨rfl,rfl⟩
   have hw:SR [] 2 F γ C (Am.put (cx 0 [.sl .ex 1 [], .int .i64 n]) 0 (.sl .own 1 [])) H0 vs w':=by
    refine hs.wx ⟨fun t=> ?_,dc.refl _⟩
    rw [cw]
    split
    · rename_i ht;subst ht
      rw [cq]
      exact Wx.own _ _
    · refine Wx.same fun l k xs=> ?_
      rw [cq]
      match t with
      |0=>simp
      |1=>simp
      |t+2=>simp
   exact ⟨.sl .own 1 [],_,H0,γ,C,rfl,⟨rfl,rfl⟩,List.prefix_refl _,hw.Na (by rw [cw];simp) (by rw [hvs];rfl) (by simp),Ext.refl ..⟩
 · have hpos:0<n:=by omega
   rw [hvs]
   refine (hgrow a w hpos).mono ?_
   rintro en w' ⟨rfl,rfl⟩
   generalize hcap:grownCap w n.toNat 0 el=cap
   have hge:n.toNat≤cap:=by rw [←hcap];exact grownCap_ge w _ _ _
   generalize hrow:(#[]:Array Value)++Builtin.zeroCells z.cells n.toNat++Builtin.zeroCells z.cells (cap - n.toNat)=row
   have hrl:row.size=cap:=by
    rw [←hrow];simp only [Array.size_append,size_zeroCells,hz];simp;omega
   obtain ⟨q1,q2,q3⟩:=heap_alloc w.drew (.cells row el)
   obtain ⟨C',g1,g2, -, -⟩:=mG (ds:=[]) (w':=w.drew.alloc (.cells row el)) (d:=some 0) (rO:=[]) (xs:=[]) (k:=1) (n:=0) (c:=cap)
    hs (by intro x hx;injection hx with hx;subst hx;simp) q2 q3 q1 (by simp) (by simp) (by simp) rfl (Nat.zero_le _) (by omega) (fun q hq=>by simp) (by simp) (by simp)
   refine ⟨.sl .own 1 [],_,H0,γ,C',rfl,⟨rfl,rfl⟩,List.prefix_refl _,g1.Na ?_ ?_ (by simp),g2⟩
   · simp [Am.ak,cw,AV.aT,AV.df]
   · rw [hvs];rfl
end Go.Am
end
section
set_option maxRecDepth 100000
namespace Go.Am
open Go
open Nat renaming reduceEqDiff→nA,reduceLT→nB,reduceLeDiff→nC,reduceAdd→nD,reduceSub→nE,reduceMul→nF,reduceBEq→nG
variable [Tabs]
theorem GJ {p:Prop} (h:p:=by first|assumption|omega|(simp only [n5,n6]<;>omega)):p:=h
section
variable {H T:AH} {q s:Nat} {c c':List AV}
theorem Mo (h:q<H.length:=by first|assumption|omega|(simp only [n5,n6]<;>omega)) (hc:c=c':=by rfl):(H.set q c)[q]? =some c':=hc▸h_eq h
theorem Vy {r:Option (List AV)} (hx:H[q]? =r) (h:s≠q:=by first|assumption|omega|(simp only [n5,n6]<;>omega)):(H.set s c)[q]? =r:=(M3 h).trans hx
theorem Vz {r:Option (List AV)} (hx:H[q]? =r) (h:q<H.length:=by first|assumption|omega|(simp only [n5,n6]<;>omega)):(H++T)[q]? =r:=(IG h).trans hx
theorem Pu (h:q=H.length:=by first|assumption|omega|(simp only [n5,n6]<;>omega)) (hc:c=c':=by rfl):(H++[c])[q]? =some c':=hc▸DO h
theorem Aq {ah:AH} {n0:Nat} {S:List Nat} (s:Nat) (h:Fr ah n0 S H) (hs:s∈S∨n0≤s:=by first|exact .inr (by first|assumption|omega|(simp only [n5,n6]<;>omega))|exact .inl (by simp)):Fr ah n0 S (H.set s c):=Fr.set h hs
end
theorem ay {H:AH}:dc H H:=dc.refl _
theorem aC {g g':Prop} (k:g') (h:g=g':=by
 first|(conv=>lhs;simp only [WW, ↓reduceIte,nA,nB,nC,nD,nE,nF,nG,reduceCtorEq])|rfl):g:=h▸k
theorem bh {p g g':Prop} (f:p) (k:g') (h:p→g=g':=by
 intro f;first|(conv=>lhs;simp only [WW, ↓reduceIte,nA,nB,nC,nD,nE,nF,nG,reduceCtorEq,f])|rfl):g:=h f▸k
theorem bk {g g':Prop} (k:g') (h:g=g':=by
 first|(conv=>lhs;simp (disch:=first|assumption|omega|(simp only [n5,n6]<;>omega)|fail) only [WW,WH, ↓reduceIte,nA,nB,nC,nD,nE,nF,nG,reduceCtorEq])|rfl):g:=h▸k
theorem bN {p g g':Prop} (f:p) (k:g') (h:p→g=g':=by
 intro f;first|(conv=>lhs;simp (disch:=first|assumption|omega|(simp only [n5,n6]<;>omega)|fail) only [WW,WH, ↓reduceIte,nA,nB,nC,nD,nE,nF,nG,reduceCtorEq,f])|rfl):g:=h f▸k
structure GZ (p:Prop):Prop where
 out:p
section
variable {P:Program} {L:List Nat} {N n0:Nat} {e:Env} {ah:AH} {t:List It} {Q:Exit→Env→AH→Prop} {r:List az}
theorem cX {β:Type} {x y:Option β} {z:β} {o:az} {B want:Bool} (h:(if B=true then x else y)=some z) (k1:B=true→x=some z→GZ (UG P L N n0 o r t Q e ah (some (true==want))))
 (k2:B=false→y=some z→GZ (UG P L N n0 o r t Q e ah (some (false==want)))):GZ (UG P L N n0 o r t Q e ah (some (B==want))):=by
 cases B
 · exact k2 rfl h
 · exact k1 rfl h
theorem tJ {o:az} {B want:Bool} (k1:B=true→GZ (UG P L N n0 o r t Q e ah (some (true==want))))
 (k2:B=false→GZ (UG P L N n0 o r t Q e ah (some (false==want)))):GZ (UG P L N n0 o r t Q e ah (some (B==want))):=by
 cases B
 · exact k2 rfl
 · exact k1 rfl
theorem cB {β:Type} {x y:Option β} {z:β} {a b:aq} {B:Bool} (h:(if B=true then x else y)=some z) (k1:B=true→x=some z→GZ (U P L N n0 (.code a::t) Q .normal e ah))
 (k2:B=false→y=some z→GZ (U P L N n0 (.code b::t) Q .normal e ah)):GZ (UC P L N n0 a b t Q e ah (.bool B)):=by
 cases B
 · exact k2 rfl h
 · exact k1 rfl h
end
def AV.RP:AV→Bool
 | .sl (.fr _) _ _=>false
 |_=>true
theorem Wx.Pv {a:AV} (h:a.RP=true):Wx a a:= .same fun l k xs e=>by subst e;cases h
theorem Wx.Up {s k n n' c:Nat} (h:n=n'):Wx (.bf s k n c) (.bf s k n' c):=by subst h;exact Wx.Pv rfl
theorem RQ {cs cs':List AV} (h:fP cs cs':=by repeat (first|exact fP.nil|apply fP.same|apply fP.n)):fP cs cs':=h
theorem Uq {cs cs':List AV} (h:gY cs cs':=by repeat (first|exact gY.nil|apply gY.same|apply gY.n|refine gY.agg RQ ?_)):gY cs cs':=h
theorem bJ {a a':AV} (h:Wx a a':=by
 first|exact Wx.Pv rfl|exact Wx.n|exact Wx.own .. |exact Wx.un _|exact Wx.agg RQ|exact Wx.err|exact Wx.Up (by simp)|exact Wx.QS Uq):Wx a a':=h
theorem aU {e e1:Env} (h:WE e e1:=by
 repeat (refine WE.cons bJ ?_)
 exact WE.nil):WE e e1:=h
theorem iN {p:Prop} {e e1:Env} (f:p) (h:p→WE e e1:=by
 intro f
 repeat (refine WE.cons (by first|exact bJ|exact Wx.Pn (by simp only [f,WB])|exact Wx.RC (by simp only [f,WB])) ?_)
 exact WE.nil):WE e e1:=h f
theorem VA {a a':List AV} (h:WL a a':=by
 repeat (refine WL.cons bJ ?_)
 exact WL.nil):WL a a':=h
theorem VB {a a':List AV} (h:mN a a':=by
 repeat (refine mN.cons bJ ?_)
 exact mN.nil):mN a a':=h
theorem eN {x:Exit} (h:x≠ .normal:=by simp):x≠ .normal:=h
section
variable {P:Program} {L:List Nat} {N n0:Nat} {e:Env} {ah:AH} {t:List It} {Q:Exit→Env→AH→Prop} {r:List az} {d:Option Nat} {f:Nat}
theorem bG {zs zs':List AV} {aW HE:AH} {V:AV} (hh:dc ah aW) (h:av P f zs' aW fun v H'=>v=V∧H'=HE) (hk:GZ (U P L N n0 (.ops r::t) Q .normal (ak L (mJ e) d V.df) HE))
 (hw:WL zs zs':=by
 repeat (refine WL.cons bJ ?_)
 exact WL.nil):GZ (UK P L N n0 f zs d r t Q e ah):=⟨M9 h hw hh hk.out⟩
theorem VC {zs zs':List AV} {aW:AH} {R:AV→AH→Prop} (hh:dc ah aW) (h:av P f zs' aW R) (hk:∀v aj,R v aj→GZ (U P L N n0 (.ops r::t) Q .normal (ak L (mJ e) d v.df) aj))
 (hw:WL zs zs':=by
 repeat (refine WL.cons bJ ?_)
 exact WL.nil):GZ (UK P L N n0 f zs d r t Q e ah):=⟨MY h hw hh fun v aj hR=>(hk v aj hR).out⟩
theorem VD {zs zs':List AV} {V:AV} (h:av P f zs' [] fun v H'=>v=V∧H'=[]) (hp:rQ ah zs zs') (hk:GZ (U P L N n0 (.ops r::t) Q .normal (ak L (mJ e) d V.df) ah)) (hs:V.uR=true:=by rfl) (hw:WL zs zs:=by
 repeat (refine WL.cons (Wx.Pv rfl) ?_)
 exact WL.nil):GZ (UK P L N n0 f zs d r t Q e ah):=
 ⟨M9 (av.Uo h hp (by rintro _ rfl;exact hs)) hw (dc.refl _) hk.out⟩
theorem VE {cs cs':List AV} (h:gQ ah cs cs':=by
 repeat (first|exact gQ.nil|refine gQ.cons (by first|exact e8.int|exact e8.b8|exact e8.bool|exact e8.str|exact e8.v|exact .sl _ _ _|exact .ep _ _) ?_)):gQ ah cs cs':=h
theorem JY {c:aq} (h:AX P L N n0 c (fun x e ah=>GZ (U P L N n0 t Q x e ah)) e ah):GZ (UX P L N n0 c t Q e ah):=⟨Oa (AX.mono h fun _ _ _ h=>h.out)⟩
theorem Mp {c:aq} (h:GZ (UX P L N n0 c t Q e ah)):AX P L N n0 c (fun x e ah=>GZ (U P L N n0 t Q x e ah)) e ah:=AX.mono h.out fun _ _ _ h=>⟨h⟩
theorem cy {c:aq} {e1:Env} {aW:AH} (hh:dc ah aW) (h:AX P L N n0 c (fun x e ah=>GZ (U P L N n0 t Q x e ah)) e1 aW) (he:WE e e1:=by
 repeat (refine WE.cons bJ ?_)
 exact WE.nil):GZ (UX P L N n0 c t Q e ah):=JY (AX.weak he hh h)
theorem Ur {α:Type} {f:α→AV} {k b q c n1:Nat} {x y:Ar} {tg:Tg} {X Y Z:List α} {ys:List AV} {g:Option (Nat×Bool)} (hf:∀x,(f x).cells.length=k∧aY (f x).cells=true∧cR (f x).cells=true∧bz (f x).cells=true)
 (oS:0<k) (hx:ev e x= .bf q k X.length c) (hy:ev e y= .sl tg k ys) (hys:ys=ml f Y) (hY:Y≠[]) (hz:dn b X Y=some Z) (hG:GF k n1 q (ml f X) c ah) (hn:n1≤ah.length)
 (hK:∀q' c' aj,GF k n1 q' (ml f Z) c' aj→(∀s,s<ah.length→s<n1∨(0<c→s≠q)→aj[s]? =ah[s]?)→ah.length≤aj.length→(q'=q∨ah.length≤q')→
  GZ (U P L N n0 (.ops r::t) Q .normal (ak L e d (.bf q' k Z.length c')) aj)):
 GZ (UG P L N n0 ⟨d, .fD k b x y,g⟩ r t Q e ah (some true)):=⟨JQ hf oS hx hy hys hY hz hG hn fun q' c' aj h1 h2 h3 h4=>(hK q' c' aj h1 h2 h3 h4).out⟩
end
theorem aD {α:Type} {a b:α} (h:some a=some b):a=b:=Option.some.inj h
theorem DX {α β:Type} {a b:α} {c d:β} (h:some (a,c)=some (b,d)):a=b∧c=d:=Prod.mk.inj (Option.some.inj h)
theorem Nb {α β γ:Type} {a b:α} {c d:β} {e f:γ} (h:some (a,c,e)=some (b,d,f)):a=b∧c=d∧e=f:=by
 obtain ⟨h1,h2⟩:=DX h;exact ⟨h1,Prod.mk.inj h2⟩
theorem RR {α β γ δ:Type} {a b:α} {c d:β} {e f:γ} {g i:δ} (h:some (a,c,e,g)=some (b,d,f,i)):a=b∧c=d∧e=f∧g=i:=by
 obtain ⟨h1,h2,h3⟩:=Nb h;exact ⟨h1,h2,Prod.mk.inj h3⟩
theorem RS {α β γ δ ε:Type} {a b:α} {c d:β} {e f:γ} {g i:δ} {j k:ε} (h:some (a,c,e,g,j)=some (b,d,f,i,k)):a=b∧c=d∧e=f∧g=i∧j=k:=by
 obtain ⟨h1,h2,h3,h4⟩:=RR h;exact ⟨h1,h2,h3,Prod.mk.inj h4⟩
theorem Vb {α β γ δ ε ζ:Type} {a b:α} {c d:β} {e f:γ} {g i:δ} {j k:ε} {l m:ζ} (h:some (a,c,e,g,j,l)=some (b,d,f,i,k,m)):a=b∧c=d∧e=f∧g=i∧j=k∧l=m:=by
 obtain ⟨h1,h2,h3,h4,h5⟩:=RS h;exact ⟨h1,h2,h3,h4,Prod.mk.inj h5⟩
theorem bR {P:Program} {e:Env} {ah:AH}:c8 P e ah []=some []:=rfl
theorem bO {P:Program} {e:Env} {ah:AH} {t:Nat} {rs:List ResultVar} {vs:List AV} (hr:c8 P e ah rs=some vs) (a:AV) (h:Am.get e t=a:=by rfl) (ht:a.cr=false:=by rfl):c8 P e ah (.tmp t::rs)=some (a::vs):=nL h ht hr
theorem bS {n:Nat} {a:AV} (h:Cl n a:=by first|(simp [fin,M1,M0,Bn,DN];done)|(simp [fin,AV.df,AV.sh,AV.aS,M1,M0,Bn,DN];done)):Cl n a:=h
theorem VF {n:Nat} {c:List AV} (h:∀a∈c,Cl n a:=by simp [DN];try omega):∀a∈c,Cl n a:=h
theorem aX {p q:Prop} (a:p) (b:q):p∧q:=⟨a,b⟩
theorem bT:Exit.ret= .normal∨Exit.ret= .ret:= .inr rfl
theorem VG:Exit.normal= .normal∨Exit.normal= .ret:= .inl rfl
theorem uS {P:Program} {N f:Nat} {rs:List ResultVar} {m:aq} (hF:bB P f N rs (erase m)) (L:List Nat) {args:List AV} {R:AV→AH→Prop} {H0:AH} (S:List Nat) {F0:AH→Prop} (hf:F0 H0)
 (h:fO H0.length H0→∀K0:Exit→Env→AH→Prop,(∀x e' H,x= .normal∨x= .ret→mO P H0 rs R e' H→GZ (K0 x e' H))→
  ∀H,Fr H0 H0.length S H→F0 H→GZ (U P L N H0.length [.code m] K0 .normal (cx 0 args) H)) (ho:jo N (erase m)=true:=by kernel_rfl) (hN:args.length≤N:=by simp):av P f args H0 R:=by
 refine av.Ob hF (m:=m) rfl L ho hN fun hcl K0 aN=> ?_
 refine AX.JT (m:=m) rfl ho ?_
 exact (h hcl K0 (fun x e' H h1 h2=>⟨aN x e' H h1 h2⟩) H0 (Fr.refl H0 S) hf).out
theorem dP {P:Program} {N f:Nat} {rs:List ResultVar} {m:aq} (hF:bB P f N rs (erase m)) (L:List Nat) {args:List AV} {R:AV→AH→Prop} {H0:AH}
 (h:fO H0.length H0→∀K0:Exit→Env→AH→Prop,(∀x e' H,x= .normal∨x= .ret→mO P H0 rs R e' H→GZ (K0 x e' H))→
  GZ (U P L N H0.length [.code m] K0 .normal (cx 0 args) H0)) (ho:jo N (erase m)=true:=by kernel_rfl) (hN:args.length≤N:=by simp):av P f args H0 R:=by
 refine av.Ob hF (m:=m) rfl L ho hN fun hcl K0 aN=> ?_
 exact AX.JT (m:=m) rfl ho (h hcl K0 (fun x e' H h1 h2=>⟨aN x e' H h1 h2⟩)).out
theorem e9 {P:Program} {L:List Nat} {N n0:Nat} {e:Env} {ah:AH} {K:Exit→Env→AH→Prop} {m:aq}
 (h:∀K':Exit→Env→AH→Prop,(∀x e ah e1 aW,WE e e1→dc ah aW→K x e1 aW→GZ (K' x e ah))→GZ (U P L N n0 [.code m] K' .normal e ah)) (ho:jo N (erase m)=true:=by kernel_rfl):AX P L N n0 (erase m) K e ah:=
 AX.go rfl ho fun K' hK=>(h K' fun x e ah e1 aW h1 h2 h3=>⟨hK x e ah e1 aW h1 h2 h3⟩).out
theorem k8 {P:Program} {L:List Nat} {N n0:Nat} {e:Env} {ah:AH} {K:Exit→Env→AH→Prop} {m:aq} {ρ τ σ:Type} {body:σ→Option (St ρ τ σ)} (J:σ→Env→AH→Prop) {F:Nat} {s0:σ} {o:ρ⊕τ} (hit:Am.iter body F s0=some o) (h0:J s0 e ah)
 (round:∀(K':Exit→Env→AH→Prop) s st e ah,J s e ah→body s=some st→
 (∀s',st= .cQ s'→∀e' aj e1 aW,WE e' e1→dc aj aW→J s' e1 aW→GZ (K' .normal e' aj))→
 (∀t,st= .eI t→o= .inr t)→(∀r,st= .ret r→o= .inl r)→
 (∀x e' aj e1 aW,x≠ .normal→WE e' e1→dc aj aW→K x e1 aW→GZ (K' x e' aj))→GZ (U P L N n0 [.code m] K' .normal e ah)) (ho:jo N (erase m)=true:=by kernel_rfl):AX P L N n0 (.loop (erase m)) K e ah:=
 AX.iter rfl ho J hit h0 fun K' s st e ah h1 h2 h3 h4 h5 h6=>(round K' s st e ah h1 h2 (fun s' h e' aj e1 aW g1 g2 g3=>⟨h3 s' h e' aj e1 aW g1 g2 g3⟩) h4 h5 fun x e' aj e1 aW hx g1 g2 g3=>⟨h6 x e' aj e1 aW hx g1 g2 g3⟩).out
abbrev ai (d:Nat) (p:cN):az:=⟨some d,p,none⟩
abbrev aF (d:Nat) (p:cN) (g:Nat) (w:Bool):az:=⟨some d,p,some (g,w)⟩
abbrev C3 (p:cN):az:=⟨none,p,none⟩
abbrev ax (d x:Nat):az:=⟨some d, .mv (.t x),none⟩
abbrev aQ (d x:Nat):az:=⟨some d, .bg (.t x),none⟩
end Go.Am
end
section
namespace Go.Proofs
open Go.Shelf
def Tryd.xC:Go.Shelf.Ren:=⟨fun|137=>114|217=>122|266=>135|n=>n,fun|9=>9|5=>5|3=>3|n=>n,fun|n=>n⟩
theorem Tryd.JZ:Go.Proofs.Lays.n137 Tryd.prog Tryd.xC:= {
 mixed:=by kernel_rfl
 f137:=Tryd.func114.trans (congrArg some (by kernel_rfl))
 f217:=Tryd.func122.trans (congrArg some (by kernel_rfl))
 f266:=Tryd.func135.trans (congrArg some (by kernel_rfl))
 t3:=Tryd.underlying3
 a3:=Tryd.isAgg3
 z3:=Tryd.sizeOf3
 v3:=Tryd.zeroValue3
 t5:=Tryd.underlying5
 a5:=Tryd.isAgg5
 z5:=Tryd.sizeOf5
 v5:=Tryd.zeroValue5
 t9:=Tryd.underlying9
 a9:=Tryd.isAgg9
 z9:=Tryd.sizeOf9
 v9:=Tryd.zeroValue9}
def Tryd.uT:Go.Shelf.Ren:=⟨fun|171=>91|243=>111|246=>121|283=>131|284=>132|285=>133|286=>134|129=>144|317=>143|318=>145|319=>146|320=>147|337=>151|338=>152|n=>n,fun|3=>3|9=>9|2=>2|4=>4|171=>121|0=>0|53=>122|37=>26|5=>5|173=>125|212=>136|51=>72|20=>20|213=>137|46=>107|232=>154|233=>155|n=>n,fun|17=>1|18=>6|19=>7|n=>n⟩
theorem Tryd.GK:Go.Proofs.LaysM.n171 Tryd.prog Tryd.uT:= {
 mixed:=by kernel_rfl
 f129:=Tryd.func144.trans (congrArg some (by kernel_rfl))
 f171:=Tryd.func91.trans (congrArg some (by kernel_rfl))
 f243:=Tryd.func111.trans (congrArg some (by kernel_rfl))
 f246:=Tryd.func121.trans (congrArg some (by kernel_rfl))
 f283:=Tryd.func131.trans (congrArg some (by kernel_rfl))
 f284:=Tryd.func132.trans (congrArg some (by kernel_rfl))
 f285:=Tryd.func133.trans (congrArg some (by kernel_rfl))
 f286:=Tryd.func134.trans (congrArg some (by kernel_rfl))
 f317:=Tryd.func143.trans (congrArg some (by kernel_rfl))
 f318:=Tryd.func145.trans (congrArg some (by kernel_rfl))
 f319:=Tryd.func146.trans (congrArg some (by kernel_rfl))
 f320:=Tryd.func147.trans (congrArg some (by kernel_rfl))
 f337:=Tryd.func151.trans (congrArg some (by kernel_rfl))
 f338:=Tryd.func152.trans (congrArg some (by kernel_rfl))
 t0:=Tryd.underlying0
 a0:=Tryd.isAgg0
 z0:=Tryd.sizeOf0
 v0:=Tryd.zeroValue0
 t2:=Tryd.underlying2
 a2:=Tryd.isAgg2
 z2:=Tryd.sizeOf2
 v2:=Tryd.zeroValue2
 t3:=Tryd.underlying3
 a3:=Tryd.isAgg3
 z3:=Tryd.sizeOf3
 v3:=Tryd.zeroValue3
 t4:=Tryd.underlying4
 a4:=Tryd.isAgg4
 z4:=Tryd.sizeOf4
 v4:=Tryd.zeroValue4
 t5:=Tryd.underlying5
 a5:=Tryd.isAgg5
 z5:=Tryd.sizeOf5
 v5:=Tryd.zeroValue5
 t9:=Tryd.underlying9
 a9:=Tryd.isAgg9
 z9:=Tryd.sizeOf9
 v9:=Tryd.zeroValue9
 t20:=Tryd.underlying20
 a20:=Tryd.isAgg20
 z20:=Tryd.sizeOf20
 v20:=Tryd.zeroValue20
 t37:=Tryd.underlying26
 a37:=Tryd.isAgg26
 z37:=Tryd.sizeOf26
 v37:=Tryd.zeroValue26
 t46:=Tryd.underlying107
 a46:=Tryd.isAgg107
 z46:=Tryd.sizeOf107
 v46:=Tryd.zeroValue107
 t51:=Tryd.underlying72
 a51:=Tryd.isAgg72
 z51:=Tryd.sizeOf72
 v51:=Tryd.zeroValue72
 t53:=Tryd.underlying122
 a53:=Tryd.isAgg122
 z53:=Tryd.sizeOf122
 v53:=Tryd.zeroValue122
 t171:=Tryd.underlying121
 a171:=Tryd.isAgg121
 z171:=Tryd.sizeOf121
 v171:=Tryd.zeroValue121
 t173:=Tryd.underlying125
 a173:=Tryd.isAgg125
 z173:=Tryd.sizeOf125
 v173:=Tryd.zeroValue125
 t212:=Tryd.underlying136
 a212:=Tryd.isAgg136
 z212:=Tryd.sizeOf136
 v212:=Tryd.zeroValue136
 t213:=Tryd.underlying137
 a213:=Tryd.isAgg137
 z213:=Tryd.sizeOf137
 t232:=Tryd.underlying154
 a232:=Tryd.isAgg154
 z232:=Tryd.sizeOf154
 v232:=Tryd.zeroValue154
 t233:=Tryd.underlying155
 a233:=Tryd.isAgg155
 z233:=Tryd.sizeOf155
 v233:=Tryd.zeroValue155
 g17:=by kernel_rfl
 g18:=by kernel_rfl
 g19:=by kernel_rfl
 i0:=by kernel_rfl
 i2:=by kernel_rfl
 i3:=by kernel_rfl
 i4:=by kernel_rfl
 i5:=by kernel_rfl
 i9:=by kernel_rfl
 i20:=by kernel_rfl
 i37:=by kernel_rfl
 i46:=by kernel_rfl
 i51:=by kernel_rfl
 i53:=by kernel_rfl
 i171:=by kernel_rfl
 i173:=by kernel_rfl
 i212:=by kernel_rfl
 i232:=by kernel_rfl
 i233:=by kernel_rfl
 m17:=by kernel_rfl
 m18:=by kernel_rfl
 m19:=by kernel_rfl}
def Tryd.uU:Go.Shelf.Ren:=⟨fun|172=>116|244=>126|245=>127|247=>137|279=>138|280=>139|281=>140|282=>141|287=>148|316=>149|171=>91|205=>150|321=>153|322=>154|243=>111|246=>121|283=>131|284=>132|285=>133|286=>134|129=>144|317=>143|318=>145|319=>146|320=>147|337=>151|338=>152|n=>n,fun|9=>9|3=>3|75=>112|76=>113|4=>4|5=>5|167=>129|37=>26|0=>0|85=>130|2=>2|168=>132|53=>122|175=>139|46=>107|210=>142|127=>150|145=>153|143=>151|21=>21|171=>121|173=>125|212=>136|51=>72|20=>20|213=>137|232=>154|233=>155|80=>93|n=>n,fun|15=>2|16=>3|17=>1|18=>6|19=>7|n=>n⟩
theorem Tryd.qu:Go.Proofs.LaysC.n172 Tryd.prog Tryd.uU:= {
 mixed:=by kernel_rfl
 f129:=Tryd.func144.trans (congrArg some (by kernel_rfl))
 f171:=Tryd.func91.trans (congrArg some (by kernel_rfl))
 f172:=Tryd.func116.trans (congrArg some (by kernel_rfl))
 f205:=Tryd.func150.trans (congrArg some (by kernel_rfl))
 f243:=Tryd.func111.trans (congrArg some (by kernel_rfl))
 f244:=Tryd.func126.trans (congrArg some (by kernel_rfl))
 f245:=Tryd.func127.trans (congrArg some (by kernel_rfl))
 f246:=Tryd.func121.trans (congrArg some (by kernel_rfl))
 f247:=Tryd.func137.trans (congrArg some (by kernel_rfl))
 f279:=Tryd.func138.trans (congrArg some (by kernel_rfl))
 f280:=Tryd.func139.trans (congrArg some (by kernel_rfl))
 f281:=Tryd.func140.trans (congrArg some (by kernel_rfl))
 f282:=Tryd.func141.trans (congrArg some (by kernel_rfl))
 f283:=Tryd.func131.trans (congrArg some (by kernel_rfl))
 f284:=Tryd.func132.trans (congrArg some (by kernel_rfl))
 f285:=Tryd.func133.trans (congrArg some (by kernel_rfl))
 f286:=Tryd.func134.trans (congrArg some (by kernel_rfl))
 f287:=Tryd.func148.trans (congrArg some (by kernel_rfl))
 f316:=Tryd.func149.trans (congrArg some (by kernel_rfl))
 f317:=Tryd.func143.trans (congrArg some (by kernel_rfl))
 f318:=Tryd.func145.trans (congrArg some (by kernel_rfl))
 f319:=Tryd.func146.trans (congrArg some (by kernel_rfl))
 f320:=Tryd.func147.trans (congrArg some (by kernel_rfl))
 f321:=Tryd.func153.trans (congrArg some (by kernel_rfl))
 f322:=Tryd.func154.trans (congrArg some (by kernel_rfl))
 f337:=Tryd.func151.trans (congrArg some (by kernel_rfl))
 f338:=Tryd.func152.trans (congrArg some (by kernel_rfl))
 t0:=Tryd.underlying0
 a0:=Tryd.isAgg0
 z0:=Tryd.sizeOf0
 v0:=Tryd.zeroValue0
 t2:=Tryd.underlying2
 a2:=Tryd.isAgg2
 z2:=Tryd.sizeOf2
 v2:=Tryd.zeroValue2
 t3:=Tryd.underlying3
 a3:=Tryd.isAgg3
 z3:=Tryd.sizeOf3
 v3:=Tryd.zeroValue3
 t4:=Tryd.underlying4
 a4:=Tryd.isAgg4
 z4:=Tryd.sizeOf4
 v4:=Tryd.zeroValue4
 t5:=Tryd.underlying5
 a5:=Tryd.isAgg5
 z5:=Tryd.sizeOf5
 v5:=Tryd.zeroValue5
 t9:=Tryd.underlying9
 a9:=Tryd.isAgg9
 z9:=Tryd.sizeOf9
 v9:=Tryd.zeroValue9
 t20:=Tryd.underlying20
 a20:=Tryd.isAgg20
 z20:=Tryd.sizeOf20
 v20:=Tryd.zeroValue20
 t21:=Tryd.underlying21
 a21:=Tryd.isAgg21
 z21:=Tryd.sizeOf21
 v21:=Tryd.zeroValue21
 t37:=Tryd.underlying26
 a37:=Tryd.isAgg26
 z37:=Tryd.sizeOf26
 v37:=Tryd.zeroValue26
 t46:=Tryd.underlying107
 a46:=Tryd.isAgg107
 z46:=Tryd.sizeOf107
 v46:=Tryd.zeroValue107
 t51:=Tryd.underlying72
 a51:=Tryd.isAgg72
 z51:=Tryd.sizeOf72
 v51:=Tryd.zeroValue72
 t53:=Tryd.underlying122
 a53:=Tryd.isAgg122
 z53:=Tryd.sizeOf122
 v53:=Tryd.zeroValue122
 t75:=Tryd.underlying112
 a75:=Tryd.isAgg112
 z75:=Tryd.sizeOf112
 v75:=Tryd.zeroValue112
 t76:=Tryd.underlying113
 a76:=Tryd.isAgg113
 z76:=Tryd.sizeOf113
 v76:=Tryd.zeroValue113
 t85:=Tryd.underlying130
 a85:=Tryd.isAgg130
 z85:=Tryd.sizeOf130
 v85:=Tryd.zeroValue130
 t127:=Tryd.underlying150
 a127:=Tryd.isAgg150
 z127:=Tryd.sizeOf150
 v127:=Tryd.zeroValue150
 t143:=Tryd.underlying151
 a143:=Tryd.isAgg151
 z143:=Tryd.sizeOf151
 v143:=Tryd.zeroValue151
 t145:=Tryd.underlying153
 a145:=Tryd.isAgg153
 z145:=Tryd.sizeOf153
 v145:=Tryd.zeroValue153
 t167:=Tryd.underlying129
 a167:=Tryd.isAgg129
 z167:=Tryd.sizeOf129
 v167:=Tryd.zeroValue129
 t168:=Tryd.underlying132
 a168:=Tryd.isAgg132
 z168:=Tryd.sizeOf132
 v168:=Tryd.zeroValue132
 t171:=Tryd.underlying121
 a171:=Tryd.isAgg121
 z171:=Tryd.sizeOf121
 v171:=Tryd.zeroValue121
 t173:=Tryd.underlying125
 a173:=Tryd.isAgg125
 z173:=Tryd.sizeOf125
 v173:=Tryd.zeroValue125
 t175:=Tryd.underlying139
 a175:=Tryd.isAgg139
 z175:=Tryd.sizeOf139
 v175:=Tryd.zeroValue139
 t210:=Tryd.underlying142
 a210:=Tryd.isAgg142
 z210:=Tryd.sizeOf142
 v210:=Tryd.zeroValue142
 t212:=Tryd.underlying136
 a212:=Tryd.isAgg136
 z212:=Tryd.sizeOf136
 v212:=Tryd.zeroValue136
 t213:=Tryd.underlying137
 a213:=Tryd.isAgg137
 z213:=Tryd.sizeOf137
 t232:=Tryd.underlying154
 a232:=Tryd.isAgg154
 z232:=Tryd.sizeOf154
 v232:=Tryd.zeroValue154
 t233:=Tryd.underlying155
 a233:=Tryd.isAgg155
 z233:=Tryd.sizeOf155
 v233:=Tryd.zeroValue155
 g15:=by kernel_rfl
 g16:=by kernel_rfl
 g17:=by kernel_rfl
 g18:=by kernel_rfl
 g19:=by kernel_rfl
 t80:=Tryd.underlying93
 a80:=Tryd.isAgg93
 z80:=Tryd.sizeOf93
 v80:=Tryd.zeroValue93
 i0:=by kernel_rfl
 i2:=by kernel_rfl
 i3:=by kernel_rfl
 i4:=by kernel_rfl
 i5:=by kernel_rfl
 i9:=by kernel_rfl
 i20:=by kernel_rfl
 i21:=by kernel_rfl
 i37:=by kernel_rfl
 i46:=by kernel_rfl
 i51:=by kernel_rfl
 i53:=by kernel_rfl
 i75:=by kernel_rfl
 i76:=by kernel_rfl
 i80:=by kernel_rfl
 i85:=by kernel_rfl
 i127:=by kernel_rfl
 i143:=by kernel_rfl
 i145:=by kernel_rfl
 i167:=by kernel_rfl
 i168:=by kernel_rfl
 i171:=by kernel_rfl
 i173:=by kernel_rfl
 i175:=by kernel_rfl
 i210:=by kernel_rfl
 i212:=by kernel_rfl
 i232:=by kernel_rfl
 i233:=by kernel_rfl
 m15:=by kernel_rfl
 m16:=by kernel_rfl
 m17:=by kernel_rfl
 m18:=by kernel_rfl
 m19:=by kernel_rfl
 c0:=by kernel_rfl
 c2:=by kernel_rfl
 c3:=by kernel_rfl
 c4:=by kernel_rfl
 c5:=by kernel_rfl
 c9:=by kernel_rfl
 c20:=by kernel_rfl
 c21:=by kernel_rfl
 c37:=by kernel_rfl
 c46:=by kernel_rfl
 c51:=by kernel_rfl
 c53:=by kernel_rfl
 c75:=by kernel_rfl
 c76:=by kernel_rfl
 c80:=by kernel_rfl
 c85:=by kernel_rfl
 c127:=by kernel_rfl
 c143:=by kernel_rfl
 c145:=by kernel_rfl
 c167:=by kernel_rfl
 c168:=by kernel_rfl
 c171:=by kernel_rfl
 c173:=by kernel_rfl
 c175:=by kernel_rfl
 c210:=by kernel_rfl
 c212:=by kernel_rfl
 c213:=by kernel_rfl
 c232:=by kernel_rfl
 c233:=by kernel_rfl}
def Tryd.xD:Go.Shelf.Ren:=⟨fun|145=>61|220=>94|219=>113|217=>122|225=>123|224=>124|267=>125|266=>135|314=>136|n=>n,fun|9=>9|4=>4|59=>80|3=>3|5=>5|46=>107|146=>127|51=>72|n=>n,fun|1=>0|n=>n⟩
theorem Tryd.J0:Go.Proofs.Lays.n145 Tryd.prog Tryd.xD:= {
 mixed:=by kernel_rfl
 f145:=Tryd.func61.trans (congrArg some (by kernel_rfl))
 f217:=Tryd.func122.trans (congrArg some (by kernel_rfl))
 f219:=Tryd.func113.trans (congrArg some (by kernel_rfl))
 f220:=Tryd.func94.trans (congrArg some (by kernel_rfl))
 f224:=Tryd.func124.trans (congrArg some (by kernel_rfl))
 f225:=Tryd.func123.trans (congrArg some (by kernel_rfl))
 f266:=Tryd.func135.trans (congrArg some (by kernel_rfl))
 f267:=Tryd.func125.trans (congrArg some (by kernel_rfl))
 f314:=Tryd.func136.trans (congrArg some (by kernel_rfl))
 t3:=Tryd.underlying3
 a3:=Tryd.isAgg3
 z3:=Tryd.sizeOf3
 v3:=Tryd.zeroValue3
 t4:=Tryd.underlying4
 a4:=Tryd.isAgg4
 z4:=Tryd.sizeOf4
 v4:=Tryd.zeroValue4
 t5:=Tryd.underlying5
 a5:=Tryd.isAgg5
 z5:=Tryd.sizeOf5
 v5:=Tryd.zeroValue5
 t9:=Tryd.underlying9
 a9:=Tryd.isAgg9
 z9:=Tryd.sizeOf9
 v9:=Tryd.zeroValue9
 t46:=Tryd.underlying107
 a46:=Tryd.isAgg107
 z46:=Tryd.sizeOf107
 v46:=Tryd.zeroValue107
 t51:=Tryd.underlying72
 a51:=Tryd.isAgg72
 z51:=Tryd.sizeOf72
 v51:=Tryd.zeroValue72
 t59:=Tryd.underlying80
 a59:=Tryd.isAgg80
 z59:=Tryd.sizeOf80
 v59:=Tryd.zeroValue80
 t146:=Tryd.underlying127
 a146:=Tryd.isAgg127
 z146:=Tryd.sizeOf127
 v146:=Tryd.zeroValue127
 g1:=by kernel_rfl}
def Tryd.uV:Go.Shelf.Ren:=⟨fun|145=>61|220=>94|219=>113|217=>122|225=>123|224=>124|267=>125|266=>135|314=>136|n=>n,fun|9=>9|4=>4|59=>80|3=>3|5=>5|46=>107|146=>127|51=>72|n=>n,fun|1=>0|n=>n⟩
theorem Tryd.GL:Go.Proofs.LaysM.n145 Tryd.prog Tryd.uV:= {
 mixed:=by kernel_rfl
 f145:=Tryd.func61.trans (congrArg some (by kernel_rfl))
 f217:=Tryd.func122.trans (congrArg some (by kernel_rfl))
 f219:=Tryd.func113.trans (congrArg some (by kernel_rfl))
 f220:=Tryd.func94.trans (congrArg some (by kernel_rfl))
 f224:=Tryd.func124.trans (congrArg some (by kernel_rfl))
 f225:=Tryd.func123.trans (congrArg some (by kernel_rfl))
 f266:=Tryd.func135.trans (congrArg some (by kernel_rfl))
 f267:=Tryd.func125.trans (congrArg some (by kernel_rfl))
 f314:=Tryd.func136.trans (congrArg some (by kernel_rfl))
 t3:=Tryd.underlying3
 a3:=Tryd.isAgg3
 z3:=Tryd.sizeOf3
 v3:=Tryd.zeroValue3
 t4:=Tryd.underlying4
 a4:=Tryd.isAgg4
 z4:=Tryd.sizeOf4
 v4:=Tryd.zeroValue4
 t5:=Tryd.underlying5
 a5:=Tryd.isAgg5
 z5:=Tryd.sizeOf5
 v5:=Tryd.zeroValue5
 t9:=Tryd.underlying9
 a9:=Tryd.isAgg9
 z9:=Tryd.sizeOf9
 v9:=Tryd.zeroValue9
 t46:=Tryd.underlying107
 a46:=Tryd.isAgg107
 z46:=Tryd.sizeOf107
 v46:=Tryd.zeroValue107
 t51:=Tryd.underlying72
 a51:=Tryd.isAgg72
 z51:=Tryd.sizeOf72
 v51:=Tryd.zeroValue72
 t59:=Tryd.underlying80
 a59:=Tryd.isAgg80
 z59:=Tryd.sizeOf80
 v59:=Tryd.zeroValue80
 t146:=Tryd.underlying127
 a146:=Tryd.isAgg127
 z146:=Tryd.sizeOf127
 v146:=Tryd.zeroValue127
 g1:=by kernel_rfl
 i3:=by kernel_rfl
 i4:=by kernel_rfl
 i5:=by kernel_rfl
 i9:=by kernel_rfl
 i46:=by kernel_rfl
 i51:=by kernel_rfl
 i59:=by kernel_rfl
 i146:=by kernel_rfl
 m1:=by kernel_rfl
 s1_3:=fun w h=>Go.Proofs.cell_of_shapedOpen_int (zero:= #[.int .i64 0]) (t:=3) h (of_decide_eq_true (by kernel_rfl)) (by kernel_rfl) rfl (by kernel_rfl) (by kernel_rfl) Tryd.underlying3}
def Tryd.xE:Go.Shelf.Ren:=⟨fun|146=>79|221=>110|268=>118|138=>119|143=>120|195=>128|197=>129|218=>130|219=>113|260=>142|217=>122|225=>123|224=>124|267=>125|266=>135|314=>136|n=>n,fun|9=>9|31=>62|3=>3|4=>4|0=>0|105=>119|21=>21|5=>5|46=>107|119=>144|139=>147|138=>146|146=>127|51=>72|n=>n,fun|1=>0|3=>4|4=>5|n=>n⟩
theorem Tryd.J1:Go.Proofs.Lays.n146 Tryd.prog Tryd.xE:= {
 mixed:=by kernel_rfl
 f138:=Tryd.func119.trans (congrArg some (by kernel_rfl))
 f143:=Tryd.func120.trans (congrArg some (by kernel_rfl))
 f146:=Tryd.func79.trans (congrArg some (by kernel_rfl))
 f195:=Tryd.func128.trans (congrArg some (by kernel_rfl))
 f197:=Tryd.func129.trans (congrArg some (by kernel_rfl))
 f217:=Tryd.func122.trans (congrArg some (by kernel_rfl))
 f218:=Tryd.func130.trans (congrArg some (by kernel_rfl))
 f219:=Tryd.func113.trans (congrArg some (by kernel_rfl))
 f221:=Tryd.func110.trans (congrArg some (by kernel_rfl))
 f224:=Tryd.func124.trans (congrArg some (by kernel_rfl))
 f225:=Tryd.func123.trans (congrArg some (by kernel_rfl))
 f260:=Tryd.func142.trans (congrArg some (by kernel_rfl))
 f266:=Tryd.func135.trans (congrArg some (by kernel_rfl))
 f267:=Tryd.func125.trans (congrArg some (by kernel_rfl))
 f268:=Tryd.func118.trans (congrArg some (by kernel_rfl))
 f314:=Tryd.func136.trans (congrArg some (by kernel_rfl))
 t0:=Tryd.underlying0
 a0:=Tryd.isAgg0
 z0:=Tryd.sizeOf0
 v0:=Tryd.zeroValue0
 t3:=Tryd.underlying3
 a3:=Tryd.isAgg3
 z3:=Tryd.sizeOf3
 v3:=Tryd.zeroValue3
 t4:=Tryd.underlying4
 a4:=Tryd.isAgg4
 z4:=Tryd.sizeOf4
 v4:=Tryd.zeroValue4
 t5:=Tryd.underlying5
 a5:=Tryd.isAgg5
 z5:=Tryd.sizeOf5
 v5:=Tryd.zeroValue5
 t9:=Tryd.underlying9
 a9:=Tryd.isAgg9
 z9:=Tryd.sizeOf9
 v9:=Tryd.zeroValue9
 t21:=Tryd.underlying21
 a21:=Tryd.isAgg21
 z21:=Tryd.sizeOf21
 v21:=Tryd.zeroValue21
 t31:=Tryd.underlying62
 a31:=Tryd.isAgg62
 z31:=Tryd.sizeOf62
 v31:=Tryd.zeroValue62
 t46:=Tryd.underlying107
 a46:=Tryd.isAgg107
 z46:=Tryd.sizeOf107
 v46:=Tryd.zeroValue107
 t51:=Tryd.underlying72
 a51:=Tryd.isAgg72
 z51:=Tryd.sizeOf72
 v51:=Tryd.zeroValue72
 t105:=Tryd.underlying119
 a105:=Tryd.isAgg119
 z105:=Tryd.sizeOf119
 v105:=Tryd.zeroValue119
 t119:=Tryd.underlying144
 a119:=Tryd.isAgg144
 z119:=Tryd.sizeOf144
 t138:=Tryd.underlying146
 a138:=Tryd.isAgg146
 z138:=Tryd.sizeOf146
 v138:=Tryd.zeroValue146
 t139:=Tryd.underlying147
 a139:=Tryd.isAgg147
 z139:=Tryd.sizeOf147
 v139:=Tryd.zeroValue147
 t146:=Tryd.underlying127
 a146:=Tryd.isAgg127
 z146:=Tryd.sizeOf127
 v146:=Tryd.zeroValue127
 g1:=by kernel_rfl
 g3:=by kernel_rfl
 g4:=by kernel_rfl}
open Go.RowKit in
theorem Tryd.strings_IndexByte (s:ByteArray) (c:Int) (w:World):
 Calls Tryd.prog 114 #[.string s, .int .u8 c] w fun e w'=>e= .returned (.int .i64 (Lib.indexByte s.data.toList c.toNat.toUInt8))∧w'=w:=Any.strings_IndexByte Tryd.JZ s c w
open Go.RowKit Go.Sort Go.Lib in
theorem Tryd.strconv_Itoa (n:Int) (h0: -9223372036854775808≤n) (h1:n≤9223372036854775807) (w:World) (htab:Lib.TabIs Tryd.prog w "internal/strconv.uint64pow10" .u64 Lib.pow10Tab):
 Calls Tryd.prog 91 #[.int .i64 n] w fun e w'=>e= .returned (.string ⟨(Lib.itoa n).toArray⟩)∧∃k os,w'=grow (w.drewN k) os:=Any.strconv_Itoa Tryd.GK n h0 h1 w htab
open Go.RowKit in
theorem Tryd.strconv_Atoi_ok (s:ByteArray) (hmax:s.size≤9223372036854775806) (v:Int) (h:Lib.atoiAll s.data.toList= .ok v) (w:World):
 Calls Tryd.prog 116 #[.string s] w fun e w'=>e= .returned (.tuple #[.int .i64 v, .nilIface])∧(w'=w∨∃t,w'=Lib.bytesWorld w 5 t):=Any.strconv_Atoi_ok Tryd.qu s hmax v h w
open Go.RowKit in
theorem Tryd.strconv_Atoi_syntax (s:ByteArray) (hlim:s.size≤281474976710656) (h:Lib.atoiAll s.data.toList=Go.Lib.NumEnd.syntax) (ev:Value) (w:World) (hv:w.cell? ⟨2,0,none⟩=some ev) (hev:ev= .nilIface∨∃te pe,ev= .iface te pe):
 Calls Tryd.prog 116 #[.string s] w fun e w'=>∃N,e= .returned (.tuple #[.int .i64 (0), .iface 132 (.pointer (some ⟨N,0,none⟩))])∧w.heap.size≤N∧w'.heap[N]? =some (.cells #[.string ⟨#[65,116,111,105]⟩, .string s,ev] 142 (0,0))∧Below w.heap.size w w':=Any.strconv_Atoi_syntax Tryd.qu s hlim h ev w hv hev
open Go.RowKit in
theorem Tryd.strconv_Atoi_range (s:ByteArray) (hlim:s.size≤281474976710656) (h:Lib.atoiAll s.data.toList= .range) (ev:Value) (w:World) (hv:w.cell? ⟨3,0,none⟩=some ev) (hev:ev= .nilIface∨∃te pe,ev= .iface te pe):
 Calls Tryd.prog 116 #[.string s] w fun e w'=>∃N,e= .returned (.tuple #[.int .i64 (Lib.atoiSat s.data.toList), .iface 132 (.pointer (some ⟨N,0,none⟩))])∧w.heap.size≤N∧w'.heap[N]? =some (.cells #[.string ⟨#[65,116,111,105]⟩, .string s,ev] 142 (0,0))∧Below w.heap.size w w':=Any.strconv_Atoi_range Tryd.qu s hlim h ev w hv hev
open Go.RowKit Go.Lib in
theorem Tryd.strings_Cut (s sep:ByteArray) (m:Int) (w:World) (hs:s.size<4294967281) (hm:w.cell? ⟨0,0,none⟩=some (.int .i64 m)):
 Calls Tryd.prog 61 #[.string s, .string sep] w fun e w'=>e= .returned (.tuple #[.string ⟨(Lib.cut s.data.toList sep.data.toList).1.toArray⟩, .string ⟨(Lib.cut s.data.toList sep.data.toList).2.1.toArray⟩, .bool (Lib.cut s.data.toList sep.data.toList).2.2])∧∃n,w'=w.drewN n:=Any.strings_Cut Tryd.J0 s sep m w hs hm
open Go.RowKit Go.Lib in
theorem Tryd.strings_Cut_shaped (s sep:ByteArray) (w:World) (h:w.ShapedOpen Tryd.prog) (hs:s.size<4294967281):
 Calls Tryd.prog 61 #[.string s, .string sep] w fun e w'=>e= .returned (.tuple #[.string ⟨(Lib.cut s.data.toList sep.data.toList).1.toArray⟩, .string ⟨(Lib.cut s.data.toList sep.data.toList).2.1.toArray⟩, .bool (Lib.cut s.data.toList sep.data.toList).2.2])∧∃n,w'=w.drewN n:=Any.strings_Cut_shaped Tryd.GL s sep w h hs
open Go.RowKit Go.Lib in
theorem Tryd.strings_Split (s sep:ByteArray) (m:Int) (w:World) (hs:s.size<4294967281) (hm:w.cell? ⟨0,0,none⟩=some (.int .i64 m)) (h1:1≤sep.size):
 Calls Tryd.prog 79 #[.string s, .string sep] w fun e w'=>
  e= .returned (.slice (some ⟨w.heap.size,0,none⟩) (Lib.countB s sep+1) (Lib.countB s sep+1))∧w'=w.alloc (.cells ((Lib.splitB sep 0 (Lib.countB s sep) s).map Value.string).toArray 9):=Any.strings_Split Tryd.J1 (by kernel_rfl) s sep m w hs hm h1
end Go.Proofs
end
section
namespace Go.Proofs.ct
open Go Go.Am Go.Proofs
def tK (cs:Array Value):Prop:=∃ev,cs= #[ev]∧(ev= .nilIface∨∃te pe,ev= .iface te pe)
instance nO:Tabs:=⟨[(0,fun cs=>∃m,cs= #[.int .i64 m]),(1,fun cs=>cs=(Lib.pow10Tab.map fun z=>Value.int .u64 z).toArray),(2,tK),(3,tK)]⟩
theorem PZ {F:Nat→Prop} {w:World} (hF:FL F w) {g:Nat} {p:Array Value→Prop} (hm:(g,p)∈Tabs.l) {v:Value} (hp:∀cs,p cs→cs[0]? =some v∨True):∃cs ty fr,w.heap[g]? =some (.cells cs ty fr)∧p cs:=(hF.yC _ hm).2
theorem cell_of {w:World} {g:Nat} {v:Value} {ty:TypeId} {fr:Nat×Nat} (h:w.heap[g]? =some (.cells #[v] ty fr)):w.cell? ⟨g,0,none⟩=some v:=by
 simp [World.cell?,h]
theorem vM {F:Nat→Prop} {w:World} (hF:FL F w):∃m,w.cell? ⟨0,0,none⟩=some (.int .i64 m):=by
 obtain ⟨-,cs,ty,fr,h,m,rfl⟩:=hF.yC (0,fun cs=>∃m,cs= #[.int .i64 m]) (by simp [Tabs.l,nO])
 exact ⟨m,cell_of h⟩
theorem vN {F:Nat→Prop} {w:World} (hF:FL F w) {g:Nat} (hm:(g,tK)∈Tabs.l):∃ev,w.cell? ⟨g,0,none⟩=some ev∧(ev= .nilIface∨∃te pe,ev= .iface te pe):=by
 obtain ⟨-,cs,ty,fr,h,ev,rfl,he⟩:=hF.yC _ hm
 exact ⟨ev,cell_of h,he⟩
theorem args1 {γ:List Nat} {C:Nat→List Value} {vs:Array Value} {a:AV} {v:Value} (hl:vs.size=[a].length) (h:vs.getD 0 undef=v):vs= #[v]:=by
 apply Array.ext
 · simpa using hl
 · intro i h1 h2
   simp at h2;subst h2
   simpa [Array.getD_eq_getD_getElem?,Array.getElem?_eq_getElem h1] using h
theorem args2 {vs:Array Value} {a b:AV} {v u:Value} (hl:vs.size=[a,b].length) (h:vs.getD 0 undef=v) (h':vs.getD 1 undef=u):vs= #[v,u]:=by
 apply Array.ext
 · simpa using hl
 · intro i h1 h2
   have:i=0∨i=1:=by simp at h2;omega
   rcases this with rfl|rfl
   · simpa [Array.getD_eq_getD_getElem?,Array.getElem?_eq_getElem h1] using h
   · simpa [Array.getD_eq_getD_getElem?,Array.getElem?_eq_getElem h1] using h'
def strconv_Itoa (n:Int):Option (List UInt8):=if -9223372036854775808≤n∧n≤9223372036854775807 then some (Lib.itoa n) else none
theorem gb {i1:Int} {H0:AH} {r0:List UInt8} (h:strconv_Itoa i1=some r0):av Tryd.prog 91 [(.int .i64 i1)] H0 fun v H'=>v=(.str r0)∧H'=H0:=by
 unfold strconv_Itoa at h
 obtain ⟨⟨h0,h1⟩,h⟩:=Bl h
 injection h with h
 subst h
 exact Ao i1 (by kernel_rfl) (fun F w hF=>GI hF (g:=1) (by simp [Tabs.l,nO]) (by kernel_rfl)) (fun w ht=>Tryd.strconv_Itoa i1 h0 h1 w ht)
def strings_IndexByte (s:List UInt8) (c:UInt8):Option Int:=some (Lib.indexByte s c)
theorem l6 {s1:List UInt8} {c2:UInt8} {H0:AH} {r0:Int} (h:strings_IndexByte s1 c2=some r0):av Tryd.prog 114 [(.str s1),(b8 c2)] H0 fun v H'=>v=(.int .i64 r0)∧H'=H0:=by
 unfold strings_IndexByte at h
 injection h with h
 subst h
 refine av.JV rfl (by simp) (by kernel_rfl) fun F C γ w vs hF hl hv=> ?_
 have h0:=(hv 0 _ rfl).b5
 have h1:=VR.bK (hv 1 _ rfl)
 obtain rfl:=args2 hl h0 h1
 refine (Tryd.strings_IndexByte ⟨s1.toArray⟩ _ w).mono ?_
 rintro e w' ⟨rfl,rfl⟩
 refine ⟨_,rfl, ?_,by simp [TC],fun _ _=>rfl,Nat.le_refl _,rfl,rfl,rfl⟩
 have:(c2.toNat:Int).toNat.toUInt8=c2:=by simp
 rw [this]
 exact .int ..
def strconv_Atoi (s:List UInt8):Option (Int×Bool):=if s.length≤281474976710656 then some (match Lib.atoiAll s with| .ok v=>(v,false)|Go.Lib.NumEnd.syntax=>(0,true)| .range=>(Lib.atoiSat s,true)) else none
theorem strconv_Atoi_ok {s1:List UInt8} {H0:AH} {r0:Int} {r1:Bool} (h:strconv_Atoi s1=some (r0,r1)):av Tryd.prog 116 [(.str s1)] H0 fun v H'=>v=(.aL [(.int .i64 r0),(b6 r1)])∧H'=H0:=by
 unfold strconv_Atoi at h
 obtain ⟨hs,h⟩:=Bl h
 injection h with h
 refine av.JV rfl (by simp) (by kernel_rfl) fun F C γ w vs hF hl hv=> ?_
 have h0:=(hv 0 _ rfl).b5
 obtain rfl:=args1 (γ:=γ) (C:=C) hl h0
 have hsz:(⟨s1.toArray⟩:ByteArray).size=s1.length:=by simp [ByteArray.size]
 have hd:(⟨s1.toArray⟩:ByteArray).data.toList=s1:=by simp
 rcases tr:Lib.atoiAll s1 with v|_|_
 · rw [tr] at h
   injection h with ha hb
   subst ha hb
   refine (Tryd.strconv_Atoi_ok ⟨s1.toArray⟩ (by omega) v (by rw [hd];exact tr) w).mono ?_
   rintro e w' ⟨rfl,hw⟩
   refine ⟨_,rfl, ?_, ?_, ?_⟩
   · refine .aL _ _ _ rfl fun i a hi=> ?_
     match i,hi with
     |0,hi=>injection hi with hi;subst hi;exact .int ..
     |1,hi=>injection hi with hi;subst hi;exact .v _ _ rfl
   · intro i a hi
     match i,hi with
     |0,hi=>injection hi with hi;subst hi;trivial
     |1,hi=>injection hi with hi;subst hi;trivial
   · rcases hw with rfl|⟨t,rfl⟩
     · exact ⟨fun _ _=>rfl,Nat.le_refl _,rfl,rfl,rfl⟩
     · exact ⟨fun b hb=>Lib.bytesWorld_at_old _ _ _ _ hb,by rw [Lib.bytesWorld_size];omega,rfl,rfl,rfl⟩
 · rw [tr] at h
   injection h with ha hb
   subst ha hb
   obtain ⟨ev,hc,he⟩:=vN hF (g:=2) (by simp [Tabs.l,nO])
   refine (Tryd.strconv_Atoi_syntax ⟨s1.toArray⟩ (by omega) (by rw [hd];exact tr) ev w hc he).mono ?_
   rintro e w' ⟨N,rfl, -, -,hb⟩
   refine ⟨_,rfl, ?_, ?_,hb.block,hb.size,hb.os,hb.tape,hb.output⟩
   · refine .aL _ _ _ rfl fun i a hi=> ?_
     match i,hi with
     |0,hi=>injection hi with hi;subst hi;exact .int ..
     |1,hi=>injection hi with hi;subst hi;exact .bZ ..
   · intro i a hi
     match i,hi with
     |0,hi=>injection hi with hi;subst hi;trivial
     |1,hi=>injection hi with hi;subst hi;trivial
 · rw [tr] at h
   injection h with ha hb
   subst ha hb
   obtain ⟨ev,hc,he⟩:=vN hF (g:=3) (by simp [Tabs.l,nO])
   refine (Tryd.strconv_Atoi_range ⟨s1.toArray⟩ (by omega) (by rw [hd];exact tr) ev w hc he).mono ?_
   rintro e w' ⟨N,rfl, -, -,hb⟩
   refine ⟨_,rfl, ?_, ?_,hb.block,hb.size,hb.os,hb.tape,hb.output⟩
   · refine .aL _ _ _ rfl fun i a hi=> ?_
     match i,hi with
     |0,hi=>injection hi with hi;subst hi;simp only [hd];exact .int ..
     |1,hi=>injection hi with hi;subst hi;exact .bZ ..
   · intro i a hi
     match i,hi with
     |0,hi=>injection hi with hi;subst hi;trivial
     |1,hi=>injection hi with hi;subst hi;trivial
theorem mP {sep:List UInt8} (h1:sep≠[]):∀(n:Nat) (l:List UInt8),Lib.count l sep=n→(Lib.splitK sep 0 n l).length=n+1
 |0,_,_=>rfl
 |n+1,l,h=>by
  rcases Lib.index_spec l sep with ⟨hi, -⟩|⟨i,hi, -, -, -⟩
  · rw [Lib.count_miss hi] at h;cases h
  · have hc:=Lib.count_hit h1 hi
    unfold Lib.splitK
    rw [if_neg (by rw [hi];simp),List.length_cons,mP h1 n _ (by rw [hi,Int.toNat_natCast];omega)]
def strings_Split (s sep:List UInt8):Option (List (List UInt8)):=if s.length<4294967281∧1≤sep.length then some (Lib.split s sep) else none
theorem dR {s1 s2:List UInt8} {H0:AH} {r0:List (List UInt8)} (h:strings_Split s1 s2=some r0):av Tryd.prog 79 [(.str s1),(.str s2)] H0 fun v H'=>v=(.sl .n 1 (ml AV.str r0))∧H'=H0:=by
 unfold strings_Split at h
 obtain ⟨⟨hs,hs2⟩,h⟩:=Bl h
 injection h with h
 subst h
 refine av.JW (by kernel_rfl) fun F C γ w vs hF hl hv=> ?_
 obtain rfl:=args2 hl (hv 0 _ rfl).b5 (hv 1 _ rfl).b5
 obtain ⟨m,hm⟩:=vM hF
 have hsz:(⟨s1.toArray⟩:ByteArray).size=s1.length:=by simp [ByteArray.size]
 have Vc:(⟨s2.toArray⟩:ByteArray).size=s2.length:=by simp [ByteArray.size]
 refine (Tryd.strings_Split ⟨s1.toArray⟩ ⟨s2.toArray⟩ m w (by omega) hm (by omega)).mono ?_
 rintro e w' ⟨rfl,rfl⟩
 have hd:(Lib.splitB ⟨s2.toArray⟩ 0 (Lib.countB ⟨s1.toArray⟩ ⟨s2.toArray⟩) ⟨s1.toArray⟩).map (·.data.toList)=Lib.split s1 s2:=by
  rw [Lib.splitB_data];simp [Lib.split,Lib.countB]
 have hlen:(Lib.split s1 s2).length=Lib.countB ⟨s1.toArray⟩ ⟨s2.toArray⟩+1:=by
  exact mP (by intro h;rw [h] at hs2;simp at hs2) _ _ rfl
 refine ⟨9,(0,0),by rw [hlen], ?_,by simp⟩
 rw [←hd,List.map_map]
 congr 3
end Go.Proofs.ct
end
section
namespace Go.Proofs
open Go.Shelf
def Tryd.jB:Go.Shelf.Ren:=⟨fun|4=>95|n=>n,fun|22=>26|25=>5|3=>3|4=>4|9=>9|20=>20|0=>0|n=>n,fun|n=>n⟩
theorem Tryd.DY:Go.Proofs.Lays8.n4 Tryd.prog Tryd.jB:= {
 mixed:=by kernel_rfl
 f4:=⟨Tryd.f95.name,by decide,Tryd.func95.trans (congrArg some (by kernel_rfl))⟩
 t0:=Tryd.underlying0
 a0:=Tryd.isAgg0
 z0:=Tryd.sizeOf0
 v0:=Tryd.zeroValue0
 t3:=Tryd.underlying3
 a3:=Tryd.isAgg3
 z3:=Tryd.sizeOf3
 v3:=Tryd.zeroValue3
 t4:=Tryd.underlying4
 a4:=Tryd.isAgg4
 z4:=Tryd.sizeOf4
 v4:=Tryd.zeroValue4
 t9:=Tryd.underlying9
 a9:=Tryd.isAgg9
 z9:=Tryd.sizeOf9
 v9:=Tryd.zeroValue9
 t20:=Tryd.underlying20
 a20:=Tryd.isAgg20
 z20:=Tryd.sizeOf20
 v20:=Tryd.zeroValue20
 t22:=Tryd.underlying26
 a22:=Tryd.isAgg26
 z22:=Tryd.sizeOf26
 v22:=Tryd.zeroValue26}
end Go.Proofs
end
section
namespace Go.Proofs.ct
open Go Go.Am Go.Proofs
def Nc:Option TypeInfo→Bool
 |some i=>i.bytes==1&&i.size==1&&(match i.zero with|some z=>z.cells.size==1|none=>false)
 |none=>false
theorem GM {o:Option TypeInfo} (h:Nc o=true):∃i0:TypeInfo,o=some i0∧i0.bytes=1∧i0.size=1∧∃z,i0.zero=some z∧z.cells.size=1:=by
 cases o with
 |none=>cases h
 |some i=>
  simp only [Nc,Bool.and_eq_true,beq_iff_eq] at h
  obtain ⟨⟨h1,h2⟩,h3⟩:=h
  cases hz:i.zero with
  |none=>rw [hz] at h3;cases h3
  |some z=>rw [hz] at h3;exact ⟨i,rfl,h1,h2,z,hz,by simpa using h3⟩
def eB (n:Int):Option (List UInt8):=if n<0 then none else if n.toNat≤140737488355328 then some [] else none
theorem rR {i1:Int} {H0:AH} {r0:List UInt8} (h:eB i1=some r0):av Tryd.prog 95 [(.sl .ex 1 []),(.int .i64 i1)] H0 fun v H'=>v=(.sl .own 1 (ml b8 r0))∧H'=H0:=by
 unfold eB at h
 have h0:0≤i1:=by
  rcases Int.lt_or_le i1 0 with h0|h0
  · rw [if_pos h0] at h;cases h
  · exact h0
 rw [if_neg (by omega)] at h
 obtain ⟨h1,h⟩:=Bl h
 injection h with h
 subst h
 obtain ⟨i0,hi0,hb,hs0,z,hz0,hzs⟩:∃i0:TypeInfo,Tryd.prog.info? (Tryd.jB.t 25)=some i0∧i0.bytes=1∧i0.size=1∧∃z,i0.zero=some z∧z.cells.size=1:=GM (by kernel_rfl)
 have hn:i1=(i1.toNat:Int):=by omega
 refine Ap (z:=z) (el:=Tryd.jB.t 25) (by kernel_rfl) hzs h0 (fun base w h=> ?_) (fun base w h=> ?_)
 · subst h
   exact Any8.slices_Grow_room Tryd.DY base 0 0 0 w (by omega) (by omega) (by omega) (by omega)
 · have:=Any8.slices_Grow_grow Tryd.DY i0 z hi0 hz0 (by omega) base 0 0 i1.toNat [] w (by omega) (by omega) (by rw [hb];omega) (by omega) (by rw [hs0];rfl) (fun _=>rfl) (fun a _ j v hj=>by simp at hj)
   rw [←hn] at this
   change Calls Tryd.prog (Tryd.jB.f 4) _ _ _
   simpa using this
def strings_Cut (s sep:List UInt8):Option (List UInt8×List UInt8×Bool):=if s.length<4294967281 then some (Lib.cut s sep) else none
theorem lJ {s1 s2:List UInt8} {H0:AH} {r0 r1:List UInt8} {r2:Bool} (h:strings_Cut s1 s2=some (r0,r1,r2)):av Tryd.prog 61 [(.str s1),(.str s2)] H0 fun v H'=>v=(.aL [(.str r0),(.str r1),(.bool r2)])∧H'=H0:=by
 unfold strings_Cut at h
 obtain ⟨hs,h⟩:=Bl h
 injection h with h
 refine av.JV rfl (by simp) (by kernel_rfl) fun F C γ w vs hF hl hv=> ?_
 obtain rfl:=args2 hl (hv 0 _ rfl).b5 (hv 1 _ rfl).b5
 obtain ⟨m,hm⟩:=vM hF
 have hsz:(⟨s1.toArray⟩:ByteArray).size=s1.length:=by simp [ByteArray.size]
 refine (Tryd.strings_Cut ⟨s1.toArray⟩ ⟨s2.toArray⟩ m w (by omega) hm).mono ?_
 rintro e w' ⟨rfl,n,rfl⟩
 have hd1:(⟨s1.toArray⟩:ByteArray).data.toList=s1:=by simp
 have yY:(⟨s2.toArray⟩:ByteArray).data.toList=s2:=by simp
 rw [hd1,yY,h]
 refine ⟨_,rfl, ?_, ?_,fun _ _=>rfl,Nat.le_refl _,rfl,rfl,rfl⟩
 · refine .aL _ _ _ rfl fun i a hi=> ?_
   match i,hi with
   |0,hi=>injection hi with hi;subst hi;exact .str ..
   |1,hi=>injection hi with hi;subst hi;exact .str ..
   |2,hi=>injection hi with hi;subst hi;exact .bool ..
 · intro i a hi
   match i,hi with
   |0,hi=>injection hi with hi;subst hi;trivial
   |1,hi=>injection hi with hi;subst hi;trivial
   |2,hi=>injection hi with hi;subst hi;trivial
end Go.Proofs.ct
end
section
set_option maxRecDepth 100000
namespace Go.Proofs.ct
open Go Go.Am Go.Proofs
open Nat renaming reduceEqDiff→nA,reduceLT→nB,reduceLeDiff→nC,reduceAdd→nD,reduceSub→nE,reduceMul→nF,reduceBEq→nG
set_option maxHeartbeats 2000000
structure aB where
 name:List UInt8
 value:List UInt8
 deriving DecidableEq
structure bQ where
 bL:List UInt8
 domain:List UInt8
 deriving DecidableEq
abbrev gv (x:List UInt8):AV:= .sl .n 1 (ml b8 x)
abbrev aE (x:aB):AV:= .agg [(.str x.name),(.str x.value)]
end Go.Proofs.ct
end
section
set_option maxRecDepth 100000
namespace Go.Proofs.ct
open Go Go.Am Go.Proofs
open Nat renaming reduceEqDiff→nA,reduceLT→nB,reduceLeDiff→nC,reduceAdd→nD,reduceSub→nE,reduceMul→nF,reduceBEq→nG
set_option maxHeartbeats 2000000
abbrev tL:aq:=(.seq (.rg [(ai 4 (.bg (.c (.bool false))))]) (.seq (.rg [(ax 5 0),(ai 6 (.fC .bs (.t 5))),(ax 7 1),(ai 8 (.fC .bs (.t 7))),(ai 9 (.bin .eql (.t 6) (.t 8))),(aQ 4 9)]) .ret))
theorem tM:bB Tryd.prog 112 10 [(.tmp 4)] (erase tL):=⟨Tryd.f112,_,rfl,by decide,rfl,by kernel_rfl,rfl,rfl⟩
abbrev tN:List Nat:=[0,1,4]
def gZ (a1:List UInt8) (b2:List UInt8):Option (Bool):=
 some (decide (a1=b2))
theorem rS {a1:List UInt8} {b2:List UInt8} {H0:AH} {aJ:Bool} (h:gZ a1 b2=some aJ):
 av Tryd.prog 112 [(.sl .n 1 (ml b8 a1)),(.sl .n 1 (ml b8 b2))] H0 fun v H'=>v=(.bool aJ)∧H'=H0:=by
 refine dP tM tN fun hcl K0 aN=> ?_
 rw [gZ.eq_1] at h
 refine aC ?_
 obtain rfl:=aD h
 exact aN _ _ _ bT (aH hcl (bO bR (.bool (decide (a1=b2)))) bS bJ ⟨rfl,rfl⟩)
abbrev fQ:aq:=(.rg [(ax 5 0),(ai 6 (.len (.t 5))),(ax 7 1),(ai 8 (.len (.t 7))),(ai 9 (.bin .geq (.t 6) (.t 8))),(ax 10 9),(aF 11 (.mv (.t 0)) 10 true),(aF 12 (.mv (.t 0)) 10 true),(aF 13 (.len (.t 12)) 10 true),(aF 14 (.mv (.t 1)) 10 true),(aF 15 (.len (.t 14)) 10 true),(aF 16 (.bin .sub (.t 13) (.t 15)) 10 true),(aF 17 (.slc 1 (.t 11) (some (.t 16)) none none) 10 true),(aF 18 (.mv (.t 1)) 10 true),(aF 19 (.call (.c (.fn 112 [])) [(.t 17),(.t 18)]) 10 true),(ai 20 (.pick (.t 10) (.t 19) (.c (.bool false)))),(aQ 4 20)])
abbrev oy:aq:=(.seq (.rg [(ai 4 (.bg (.c (.bool false))))]) (.seq (.sem (erase fQ)) .ret))
theorem oz:bB Tryd.prog 92 21 [(.tmp 4)] (erase oy):=⟨Tryd.f92,_,rfl,by decide,rfl,by kernel_rfl,rfl,rfl⟩
abbrev iO:List Nat:=[0,1,4]
def cZ (dY:List UInt8) (s1:List UInt8):Option (Bool):=
 (if (decide ((dY.length:Int)≤(s1.length:Int))) then
  (sub s1 (IntKind.wrap .i64 ((s1.length:Int) - (dY.length:Int))) (s1.length:Int)).bind fun x3=>(gZ x3 dY).bind fun r4=>some r4
 else
  some false)
def de (s1:List UInt8) (dY:List UInt8):Option (Bool):=
 (cZ dY s1).bind fun t6=>
 some t6
theorem k9 {dY:List UInt8} {s1:List UInt8} {H:AH} {K:Exit→Env→AH→Prop} {t5:Bool}
 (h:cZ dY s1=some t5)
 (kn:K .normal [(4,(.bool t5))] H):
 AX Tryd.prog iO 21 H.length (erase fQ) K [(0,(.sl .n 1 (ml b8 s1))),(1,(.sl .n 1 (ml b8 dY))),(4,(.bool false))] H:=by
 refine e9 fun K' hK=> ?_
 rw [cZ.eq_1] at h
 refine aC ?_
 refine cX h (fun hy1 h=> ?_) fun hy1 h=> ?_
 · obtain ⟨x3,bn,h⟩:=au h
   have bt:=Pp (f:=b8) bn
   refine bh (aX hy1 bn) ?_
   obtain ⟨r4,bw,h⟩:=au h
   refine bG ay (rS bw) ?_
   refine aC ?_
   obtain rfl:=aD h
   exact hK _ _ _ _ _ aU ay kn
 · refine bh hy1 ?_
   obtain rfl:=aD h
   exact hK _ _ _ _ _ aU ay kn
theorem nR {s1:List UInt8} {dY:List UInt8} {H0:AH} {aJ:Bool} (h:de s1 dY=some aJ):
 av Tryd.prog 92 [(.sl .n 1 (ml b8 s1)),(.sl .n 1 (ml b8 dY))] H0 fun v H'=>v=(.bool aJ)∧H'=H0:=by
 refine dP oz iO fun hcl K0 aN=> ?_
 rw [de.eq_1] at h
 refine aC ?_
 obtain ⟨t6,bH,h⟩:=au h
 refine cy ay (k9 bH ?_)
 refine aC ?_
 obtain rfl:=aD h
 exact aN _ _ _ bT (aH hcl (bO bR (.bool t6)) bS bJ ⟨rfl,rfl⟩)
theorem rT:bB Tryd.prog 93 8 [(.tmp 2)] (pn 1 1):=⟨Tryd.f93,_,rfl,by decide,rfl,by kernel_rfl,rfl,rfl⟩
def jS (s1:List UInt8):Option (List UInt8):=dn 1 [] s1
theorem qv {s1:List UInt8} {H0:AH} {aJ:List UInt8} (h:jS s1=some aJ):av Tryd.prog 93 [(.sl .n 1 (ml b8 s1))] H0 fun v H'=>v=(.sl .own 1 (ml b8 aJ))∧H'=H0:=xB rT (k5 (f:=b8) h)
abbrev gw:aq:=(.seq (.rg [(ai 12 (.bin .lss (.t 11) (.t 10)))]) (.seq (.cond (.t 12) .skip (.exit 0)) (.seq (.blk 1 (.seq (.rg [(ai 13 (.iD 1 (.t 9) (.t 11))),(ai 14 (.ld (.t 13) none)),(aQ 5 14)]) (.seq (.rg [(ax 15 3),(ax 16 5),(ai 17 (.len (.t 16))),(ai 18 (.bin .add (.t 15) (.t 17))),(aQ 3 18)]) (.seq (.rg [(ax 19 3),(ai 20 (.bin .lss (.t 19) (.c (.int .i64 0))))]) (.cond (.t 20) (.rg [(ai 21 .bad),(C3 .bad)]) .skip))))) (.rg [(ai 22 (.bin .add (.t 11) (.c (.int .i64 1)))),(ax 11 22)]))))
abbrev gx:aq:=(.seq (.rg [(ai 28 (.bin .lss (.t 27) (.t 26)))]) (.seq (.cond (.t 28) .skip (.exit 2)) (.seq (.blk 3 (.seq (.rg [(ai 29 (.iD 1 (.t 25) (.t 27))),(ai 30 (.ld (.t 29) none)),(aQ 8 30)]) (.rg [(ax 31 6),(ax 32 8),(ai 33 (.app 1 1 (.t 31) (.t 32))),(aQ 6 33)]))) (.rg [(ai 34 (.bin .add (.t 27) (.c (.int .i64 1)))),(ax 27 34)]))))
abbrev qw:aq:=(.seq (.rg [(ai 2 (.bg (.c (.sl .ex 1 []))))]) (.seq (.rg [(ai 3 (.bg (.c (.int .i64 0))))]) (.seq (.seq (.rg [(ax 9 0),(ai 10 (.len (.t 9))),(ai 11 (.mv (.c (.int .i64 0))))]) (.blk 0 (.loop (erase gw)))) (.seq (.rg [(ax 23 3),(ai 24 (.call (.c (.fn 95 [])) [(.c (.sl .ex 1 [])),(.t 23)])),(aQ 6 24)]) (.seq (.seq (.rg [(ax 25 0),(ai 26 (.len (.t 25))),(ai 27 (.mv (.c (.int .i64 0))))]) (.blk 2 (.loop (erase gx)))) (.seq (.rg [(ax 35 6),(ai 2 (.om 1 (.t 35)))]) .ret))))))
theorem qx:bB Tryd.prog 64 36 [(.tmp 2)] (erase qw):=⟨Tryd.f64,_,rfl,by decide,rfl,by kernel_rfl,rfl,rfl⟩
abbrev gf:List Nat:=[0,2,3,5,6,8,9,10,11,12,20,25,26,27,28]
def bp (bC:List (List UInt8)):(Int×Int)→Option (St (List UInt8) Int (Int×Int))
 |(lf,t3)=>
  (if (decide (t3<(bC.length:Int))) then
   (idx bC t3).bind fun x4=>
   (if (decide ((IntKind.wrap .i64 (lf+(x4.length:Int)))<0)) then
    none
   else
    some (.cQ ((IntKind.wrap .i64 (lf+(x4.length:Int))),(IntKind.wrap .i64 (t3+1)))))
  else
   some (.eI lf))
def br (bC:List (List UInt8)):((List UInt8)×Int)→Option (St (List UInt8) (List UInt8) ((List UInt8)×Int))
 |(dA,t9)=>
  (if (decide (t9<(bC.length:Int))) then
   (idx bC t9).bind fun pz=>
   (dn 1 dA pz).bind fun mQ=>some (.cQ (mQ,(IntKind.wrap .i64 (t9+1))))
  else
   some (.eI dA))
def dZ (F:Nat) (bC:List (List UInt8)):Option ((List UInt8)):=
 ((iter (bp bC) F (0,0)).bind fun RT=>
 match RT with
 | .inr C4=>
   (eB C4).bind fun r7=>
   ((iter (br bC) F (r7,0)).bind fun J2=>
   match J2 with
   | .inr mR=>
     some mR
   | .inl _=>none)
 | .inl _=>none)
theorem mS {F:Nat} {t3:Int} {bC:List (List UInt8)} {lf:Int} {H:AH} {K:Exit→Env→AH→Prop} {o:((List UInt8))⊕(Int)}
 (h:iter (bp bC) F (lf,t3)=some o)
 (fJ:∀o':Int,o= .inr o'→K (.exit 0) [(0,(.sl .n 1 (ml gv bC))),(3,(.int .i64 o'))] H):
 AX Tryd.prog gf 36 H.length (.loop (erase gw)) K [(0,(.sl .n 1 (ml gv bC))),(3,(.int .i64 lf)),(9,(.sl .n 1 (ml gv bC))),(10,(.int .i64 (bC.length:Int))),(11,(.int .i64 t3))] H:=by
 refine k8 (fun s e H1=>match s with|(lf,t3)=>e=[(0,(.sl .n 1 (ml gv bC))),(3,(.int .i64 lf)),(9,(.sl .n 1 (ml gv bC))),(10,(.int .i64 (bC.length:Int))),(11,(.int .i64 t3))]∧H1=H) h ⟨rfl,rfl⟩ ?_
 rintro K' ⟨lf,t3⟩ st e H ⟨rfl,rfl⟩ h hN hB hR hX
 rw [bp.eq_1] at h
 refine aC ?_
 refine cB h (fun hy1 h=> ?_) fun hy1 h=> ?_
 · obtain ⟨x4,bn,h⟩:=au h
   refine bh bn ?_
   refine cB h (fun bt h=> ?_) fun bt h=> ?_
   · cases h
   · refine aC ?_
     obtain rfl:=aD h
     exact hN _ rfl _ _ _ _ aU ay ⟨rfl,rfl⟩
 · refine aC ?_
   obtain rfl:=aD h
   exact hX _ _ _ _ _ eN aU ay (fJ _ (hB _ rfl))
theorem mT {F:Nat} {t9:Int} {bC:List (List UInt8)} {dA:List UInt8} {H:AH} {K:Exit→Env→AH→Prop} {o:((List UInt8))⊕((List UInt8))}
 (h:iter (br bC) F (dA,t9)=some o)
 (J3:∀o':(List UInt8),o= .inr o'→K (.exit 2) [(6,(.sl .own 1 (ml b8 o')))] H):
 AX Tryd.prog gf 36 H.length (.loop (erase gx)) K [(6,(.sl .own 1 (ml b8 dA))),(25,(.sl .n 1 (ml gv bC))),(26,(.int .i64 (bC.length:Int))),(27,(.int .i64 t9))] H:=by
 refine k8 (fun s e H1=>match s with|(dA,t9)=>e=[(6,(.sl .own 1 (ml b8 dA))),(25,(.sl .n 1 (ml gv bC))),(26,(.int .i64 (bC.length:Int))),(27,(.int .i64 t9))]∧H1=H) h ⟨rfl,rfl⟩ ?_
 rintro K' ⟨dA,t9⟩ st e H ⟨rfl,rfl⟩ h hN hB hR hX
 rw [br.eq_1] at h
 refine aC ?_
 refine cB h (fun cM h=> ?_) fun cM h=> ?_
 · obtain ⟨pz,dJ,h⟩:=au h
   obtain ⟨mQ,ec,h⟩:=au h
   have lg:dn 1 (ml b8 dA) (ml b8 pz)=some (ml b8 mQ):=k5 (f:=b8) ec
   refine bh (aX dJ lg) ?_
   obtain rfl:=aD h
   exact hN _ rfl _ _ _ _ aU ay ⟨rfl,rfl⟩
 · refine aC ?_
   obtain rfl:=aD h
   exact hX _ _ _ _ _ eN aU ay (J3 _ (hB _ rfl))
theorem pE {F:Nat} {bC:List (List UInt8)} {H0:AH} {aJ:List UInt8} (h:dZ F bC=some aJ):
 av Tryd.prog 64 [(.sl .n 1 (ml gv bC))] H0 fun v H'=>v=(.sl .own 1 (ml b8 aJ))∧H'=H0:=by
 refine dP qx gf fun hcl K0 aN=> ?_
 rw [dZ.eq_1] at h
 refine aC ?_
 obtain ⟨RT,bw,h⟩:=au h
 refine cy ay (mS bw ?_)
 · rintro C4 rfl
   try dsimp only at h
   refine aC ?_
   obtain ⟨r7,bH,h⟩:=au h
   refine bG ay (rR (i1:=C4) bH) ?_
   refine aC ?_
   obtain ⟨J2,fR,h⟩:=au h
   refine cy ay (mT fR ?_)
   · rintro mR rfl
     try dsimp only at h
     refine aC ?_
     obtain rfl:=aD h
     exact aN _ _ _ bT (aH hcl (bO bR (.sl .own 1 (ml b8 mR))) bS bJ ⟨rfl,rfl⟩)
abbrev lK:aq:=(.rg [(ax 3 0),(ai 4 (.len (.t 3))),(ai 5 (.bin .eql (.t 4) (.c (.int .i64 0)))),(ax 6 5),(aF 7 (.mv (.t 0)) 6 false),(aF 8 (.mv (.c .un)) 6 false),(aF 9 (.lit 8 [13,10]) 6 false),(aF 10 (.call (.c (.fn 92 [])) [(.t 7),(.t 9)]) 6 false),(ai 11 (.pick (.t 6) (.c (.bool true)) (.t 10)))])
abbrev xF:aq:=(.seq (.rg [(ai 2 (.bg (.c (.sl .ex 1 []))))]) (.seq (.seq (.sem (erase lK)) (.cond (.t 11) (.seq (.rg [(ax 12 0),(ai 13 (.call (.c (.fn 93 [])) [(.t 12)])),(aQ 2 13)]) .ret) .skip)) (.seq (.rg [(ax 14 0),(ai 16 (.lit 15 [13,10])),(ai 17 (.qg 1 [(.t 14),(.t 16)])),(ai 18 (.call (.c (.fn 64 [])) [(.t 17)])),(aQ 2 18)]) .ret)))
theorem xG:bB Tryd.prog 60 19 [(.tmp 2)] (erase xF):=⟨Tryd.f60,_,rfl,by decide,rfl,by kernel_rfl,rfl,rfl⟩
abbrev pF:List Nat:=[0,2,11]
def eO (b1:List UInt8):Option (Bool):=
 (if (decide ((b1.length:Int)=0)) then
  some true
 else
  (de b1 ([13,10]:List UInt8)).bind fun r2=>some r2)
def iP (F:Nat) (b1:List UInt8):Option ((List UInt8)):=
 (eO b1).bind fun t4=>
 (if t4 then
  (jS b1).bind fun r5=>some r5
 else
  (dZ F ([b1,([13,10]:List UInt8)]:List (List UInt8))).bind fun r6=>some r6)
theorem qy {b1:List UInt8} {H:AH} {K:Exit→Env→AH→Prop} {t3:Bool}
 (h:eO b1=some t3)
 (kn:K .normal [(0,(.sl .n 1 (ml b8 b1))),(11,(.bool t3))] H):
 AX Tryd.prog pF 19 H.length (erase lK) K [(0,(.sl .n 1 (ml b8 b1)))] H:=by
 refine e9 fun K' hK=> ?_
 rw [eO.eq_1] at h
 refine aC ?_
 refine cX h (fun hy1 h=> ?_) fun hy1 h=> ?_
 · refine bh hy1 ?_
   obtain rfl:=aD h
   exact hK _ _ _ _ _ aU ay kn
 · refine bh hy1 ?_
   obtain ⟨r2,bn,h⟩:=au h
   refine bG ay (nR bn) ?_
   refine aC ?_
   obtain rfl:=aD h
   exact hK _ _ _ _ _ aU ay kn
theorem uW {F:Nat} {b1:List UInt8} {H0:AH} {aJ:List UInt8} (h:iP F b1=some aJ):
 av Tryd.prog 60 [(.sl .n 1 (ml b8 b1))] H0 fun v H'=>v=(.sl .own 1 (ml b8 aJ))∧H'=H0:=by
 refine dP xG pF fun hcl K0 aN=> ?_
 rw [iP.eq_1] at h
 refine aC ?_
 obtain ⟨t4,bt,h⟩:=au h
 refine cy ay (qy bt ?_)
 refine aC ?_
 refine cB h (fun bw h=> ?_) fun bw h=> ?_
 · refine aC ?_
   obtain ⟨r5,bH,h⟩:=au h
   refine bG ay (qv bH) ?_
   refine aC ?_
   obtain rfl:=aD h
   exact aN _ _ _ bT (aH hcl (bO bR (.sl .own 1 (ml b8 r5))) bS bJ ⟨rfl,rfl⟩)
 · refine aC ?_
   obtain ⟨r6,cM,h⟩:=au h
   refine bG ay (pE cM) ?_
   refine aC ?_
   obtain rfl:=aD h
   exact aN _ _ _ bT (aH hcl (bO bR (.sl .own 1 (ml b8 r6))) bS bJ ⟨rfl,rfl⟩)
abbrev lM:aq:=(.rg [(ax 9 0),(ax 10 3),(ai 11 (.ixs (.t 9) (.t 10))),(ai 12 (.bin .lss (.t 11) (.c (b8 33)))),(ax 13 12),(aF 14 (.mv (.t 0)) 13 false),(aF 15 (.mv (.t 3)) 13 false),(aF 16 (.ixs (.t 14) (.t 15)) 13 false),(aF 17 (.bin .gtr (.t 16) (.c (b8 126))) 13 false),(ai 18 (.pick (.t 13) (.c (.bool true)) (.t 17))),(ax 19 18),(aF 20 (.mv (.t 0)) 19 false),(aF 21 (.mv (.t 3)) 19 false),(aF 22 (.ixs (.t 20) (.t 21)) 19 false),(aF 23 (.bin .eql (.t 22) (.c (b8 58))) 19 false),(ai 24 (.pick (.t 19) (.c (.bool true)) (.t 23)))])
abbrev kC:aq:=(.seq (.rg [(ai 7 (.bin .lss (.t 6) (.t 5)))]) (.seq (.cond (.t 7) .skip (.exit 0)) (.seq (.blk 1 (.seq (.rg [(ax 8 6),(aQ 3 8)]) (.seq (.sem (erase lM)) (.cond (.t 24) (.seq (.rg [(ai 2 (.bg (.c (.bool false))))]) .ret) .skip)))) (.rg [(ai 25 (.bin .add (.t 6) (.c (.int .i64 1)))),(ax 6 25)]))))
abbrev lN:aq:=(.rg [(ax 26 0),(ai 27 (.bin .neq (.t 26) (.c (.str [])))),(ax 28 27),(aF 29 (.mv (.t 0)) 28 true),(aF 30 (.lens (.t 29)) 28 true),(aF 31 (.bin .leq (.t 30) (.c (.int .i64 76))) 28 true),(ai 32 (.pick (.t 28) (.t 31) (.c (.bool false)))),(aQ 2 32)])
abbrev xH:aq:=(.seq (.rg [(ai 2 (.bg (.c (.bool false))))]) (.seq (.seq (.rg [(ax 4 0),(ai 5 (.lens (.t 4))),(ai 6 (.mv (.c (.int .i64 0))))]) (.blk 0 (.loop (erase kC)))) (.seq (.sem (erase lN)) .ret)))
theorem xI:bB Tryd.prog 25 33 [(.tmp 2)] (erase xH):=⟨Tryd.f25,_,rfl,by decide,rfl,by kernel_rfl,rfl,rfl⟩
abbrev hO:List Nat:=[0,2,3,5,6,7,24]
def eP (s1:List UInt8) (t2:Int):Option (Bool):=
 (idx s1 t2).bind fun x3=>
 (if (decide (x3<33)) then
  some true
 else
  (if (decide (126<x3)) then
   some true
  else
   some (decide (x3=58))))
def cT (s1:List UInt8):Int→Option (St Bool Unit Int)
 |t2=>
  (if (decide (t2<(s1.length:Int))) then
   (eP s1 t2).bind fun t5=>
   (if t5 then
    some (.ret false)
   else
    some (.cQ (IntKind.wrap .i64 (t2+1))))
  else
   some (.eI ()))
def fc (F:Nat) (s1:List UInt8):Option (Bool):=
 ((iter (cT s1) F 0).bind fun o8=>
 match o8 with
 | .inr ()=>
   some ((!decide (s1=([]:List UInt8)))&&(decide ((s1.length:Int)≤76)))
 | .inl r7=>
   some r7)
theorem qz {s1:List UInt8} {t2:Int} {H:AH} {K:Exit→Env→AH→Prop} {t4:Bool}
 (h:eP s1 t2=some t4)
 (kn:K .normal [(0,(.str s1)),(5,(.int .i64 (s1.length:Int))),(6,(.int .i64 t2)),(24,(.bool t4))] H):
 AX Tryd.prog hO 33 H.length (erase lM) K [(0,(.str s1)),(3,(.int .i64 t2)),(5,(.int .i64 (s1.length:Int))),(6,(.int .i64 t2))] H:=by
 refine e9 fun K' hK=> ?_
 rw [eP.eq_1] at h
 obtain ⟨x3,bn,h⟩:=au h
 refine bh bn ?_
 refine cX h (fun bt h=> ?_) fun bt h=> ?_
 · refine bh bt ?_
   obtain rfl:=aD h
   exact hK _ _ _ _ _ aU ay kn
 · refine bh (aX bt bn) ?_
   refine cX h (fun bw h=> ?_) fun bw h=> ?_
   · refine bh bw ?_
     obtain rfl:=aD h
     exact hK _ _ _ _ _ aU ay kn
   · refine bh (aX bw bn) ?_
     obtain rfl:=aD h
     exact hK _ _ _ _ _ aU ay kn
theorem qA {F:Nat} {t2:Int} {s1:List UInt8} {H:AH} {K:Exit→Env→AH→Prop} {o:(Bool)⊕(Unit)}
 (h:iter (cT s1) F t2=some o)
 (fJ:∀o':Unit,o= .inr o'→K (.exit 0) [(0,(.str s1))] H)
 (kr:∀o':Bool,o= .inl o'→K .ret [(2,(.bool o'))] H):
 AX Tryd.prog hO 33 H.length (.loop (erase kC)) K [(0,(.str s1)),(5,(.int .i64 (s1.length:Int))),(6,(.int .i64 t2))] H:=by
 refine k8 (fun s e H1=>match s with|t2=>e=[(0,(.str s1)),(5,(.int .i64 (s1.length:Int))),(6,(.int .i64 t2))]∧H1=H) h ⟨rfl,rfl⟩ ?_
 rintro K' t2 st e H ⟨rfl,rfl⟩ h hN hB hR hX
 rw [cT.eq_1] at h
 refine aC ?_
 refine cB h (fun hy1 h=> ?_) fun hy1 h=> ?_
 · refine aC ?_
   obtain ⟨t5,bH,h⟩:=au h
   refine cy ay (qz bH ?_)
   refine aC ?_
   refine cB h (fun cM h=> ?_) fun cM h=> ?_
   · refine aC ?_
     obtain rfl:=aD h
     exact hX _ _ _ _ _ eN aU ay (kr _ (hR _ rfl))
   · refine aC ?_
     obtain rfl:=aD h
     exact hN _ rfl _ _ _ _ aU ay ⟨rfl,rfl⟩
 · refine aC ?_
   obtain rfl:=aD h
   exact hX _ _ _ _ _ eN aU ay (fJ _ (hB _ rfl))
theorem qB {s1:List UInt8} {H:AH} {K:Exit→Env→AH→Prop}
 (kn:K .normal [(2,(.bool ((!decide (s1=([]:List UInt8)))&&(decide ((s1.length:Int)≤76)))))] H):
 AX Tryd.prog hO 33 H.length (erase lN) K [(0,(.str s1))] H:=by
 refine e9 fun K' hK=> ?_
 refine aC ?_
 refine tJ (fun ec=> ?_) fun ec=> ?_
 · refine bh ec ?_
   exact hK _ _ _ _ _ (iN ec) ay kn
 · refine bh ec ?_
   exact hK _ _ _ _ _ (iN ec) ay kn
theorem jT {F:Nat} {s1:List UInt8} {H0:AH} {aJ:Bool} (h:fc F s1=some aJ):
 av Tryd.prog 25 [(.str s1)] H0 fun v H'=>v=(.bool aJ)∧H'=H0:=by
 refine dP xI hO fun hcl K0 aN=> ?_
 rw [fc.eq_1] at h
 refine aC ?_
 obtain ⟨o8,dJ,h⟩:=au h
 refine cy ay (qA dJ ?_ ?_)
 · rintro ⟨⟩ rfl
   try dsimp only at h
   refine aC ?_
   refine cy ay (qB (s1:=s1) ?_)
   refine aC ?_
   obtain rfl:=aD h
   exact aN _ _ _ bT (aH hcl (bO bR (.bool ((!decide (s1=([]:List UInt8)))&&(decide ((s1.length:Int)≤76))))) bS bJ ⟨rfl,rfl⟩)
 · rintro r7 rfl
   try dsimp only at h
   refine aC ?_
   obtain rfl:=aD h
   exact aN _ _ _ bT (aH hcl (bO bR (.bool r7)) bS bJ ⟨rfl,rfl⟩)
abbrev kD:aq:=(.rg [(ax 33 4),(ai 34 (.len (.t 33))),(ai 35 (.bin .gtr (.t 34) (.c (.int .i64 0)))),(ax 36 35),(aF 37 (.mv (.t 6)) 36 true),(aF 38 (.bin .neq (.t 37) (.c (.str []))) 36 true),(ai 39 (.pick (.t 36) (.t 38) (.c (.bool false)))),(ax 40 39),(aF 41 (.mv (.t 6)) 40 true),(aF 42 (.ixs (.t 41) (.c (.int .i64 0))) 40 true),(aF 43 (.bin .eql (.t 42) (.c (b8 32))) 40 true),(aF 44 (.mv (.t 43)) 40 true),(aF 45 (.mv (.t 6)) 44 false),(aF 46 (.ixs (.t 45) (.c (.int .i64 0))) 44 false),(aF 47 (.bin .eql (.t 46) (.c (b8 9))) 44 false),(aF 48 (.pick (.t 44) (.c (.bool true)) (.t 47)) 40 true),(ai 49 (.pick (.t 40) (.t 48) (.c (.bool false)))),(aQ 32 49)])
abbrev kE:aq:=(.rg [(ax 63 11),(ax 64 63),(aF 65 (.mv (.t 9)) 64 true),(aF 66 (.call (.c (.fn 25 [])) [(.t 65)]) 64 true),(ai 67 (.pick (.t 64) (.t 66) (.c (.bool false)))),(aQ 62 67)])
abbrev kF:aq:=(.rg [(ax 77 4),(ax 78 7),(ai 79 (.fC .sb (.t 78))),(aQ 2 77),(aQ 3 79)])
abbrev kG:aq:=(.rg [(ax 29 4),(ax 30 5),(ai 31 (.fC .sb (.t 30))),(aQ 2 29),(aQ 3 31)])
abbrev jC:aq:=(.seq (.seq (.rg [(ax 15 5),(ai 16 (.bin .neq (.t 15) (.c (.str []))))]) (.cond (.t 16) .skip (.exit 0))) (.blk 1 (.seq (.rg [(ax 18 5),(ai 19 (.call (.c (.fn 61 [])) [(.t 18),(.c (.str [13,10]))])),(ax 17 19),(ai 20 (.ext (.t 17) 0)),(ai 21 (.ext (.t 17) 1)),(ai 22 (.ext (.t 17) 2)),(aQ 6 20),(aQ 7 21),(aQ 8 22)]) (.seq (.rg [(ax 24 6),(ai 25 (.call (.c (.fn 61 [])) [(.t 24),(.c (.str [58]))])),(ax 23 25),(ai 26 (.ext (.t 23) 0)),(ai 27 (.ext (.t 23) 1)),(ai 28 (.ext (.t 23) 2)),(aQ 9 26),(aQ 10 27),(aQ 11 28)]) (.seq (.blk 2 (.seq (.sem (erase kD)) (.cond (.t 32) (.rg [(ax 50 4),(ax 51 4),(ai 52 (.len (.t 51))),(ai 53 (.bin .sub (.t 52) (.c (.int .i64 1)))),(ai 54 (.iD 2 (.t 50) (.t 53))),(ai 55 (.oh (.t 54) 1)),(ai 56 (.ld (.t 55) none)),(ax 57 6),(ai 58 (.bin .add (.c (.str [13,10])) (.t 57))),(ai 59 (.bin .add (.t 56) (.t 58))),(ai 60 (.iD 2 (.t 50) (.t 53))),(ai 61 (.oh (.t 60) 1)),(C3 (.st (.t 61) (.t 59) 1))]) (.seq (.sem (erase kE)) (.cond (.t 62) (.rg [(ax 68 4),(ax 69 9),(ax 70 10),(ai 71 (.build [(.str []),(.str [])] [(0,(1,(.t 69))),(1,(1,(.t 70)))])),(ai 72 (.qg 2 [(.t 71)])),(ai 73 (.fD 2 32 (.t 68) (.t 72))),(aQ 4 73)]) (.seq (.rg [(ax 75 6),(ai 76 (.bin .eql (.t 75) (.c (.str [])))),(aQ 74 76)]) (.cond (.t 74) (.seq (.sem (erase kF)) .ret) (.seq (.sem (erase kG)) .ret)))))))) (.rg [(ax 80 7),(aQ 5 80)]))))))
abbrev kH:aq:=(.rg [(ax 81 4),(aQ 2 81),(ai 3 (.bg (.c (.sl .ex 1 []))))])
abbrev uX:aq:=(.seq (.rg [(ai 2 (.bg (.c (.sl .ex 2 [])))),(ai 3 (.bg (.c (.sl .ex 1 []))))]) (.seq (.rg [(ai 4 (.om 2 (.c (.sl .ex 2 []))))]) (.seq (.rg [(ax 12 0),(ai 13 (.call (.c (.fn 60 [])) [(.t 12)])),(ai 14 (.fC .bs (.t 13))),(aQ 5 14)]) (.seq (.blk 0 (.loop (erase jC))) (.seq (.sem (erase kH)) .ret)))))
theorem uY:bB Tryd.prog 18 82 [(.tmp 2),(.tmp 3)] (erase uX):=⟨Tryd.f18,_,rfl,by decide,rfl,by kernel_rfl,rfl,rfl⟩
abbrev cU:List Nat:=[0,2,3,4,5,6,7,9,10,11,16,32,62,74]
def ef (s6:List aB) (r7:List UInt8):Option (Bool):=
 (if (decide (0<(s6.length:Int))) then
  (if (!decide (r7=([]:List UInt8))) then
   (idx r7 0).bind fun xJ=>
   (if (decide (xJ=32)) then
    some true
   else
    some (decide (xJ=9)))
  else
   some false)
 else
  some false)
def eg (F:Nat) (nS:Bool) (oA:List UInt8):Option (Bool):=
 (if nS then
  (fc F oA).bind fun RU=>some RU
 else
  some false)
def cF (F:Nat):((List UInt8)×(List aB))→Option (St ((List aB)×(List UInt8)) (List aB) ((List UInt8)×(List aB)))
 |(cv,s6)=>
  (if (!decide (cv=([]:List UInt8))) then
   (strings_Cut cv ([13,10]:List UInt8)).bind fun (r7,r8,r9)=>
   (strings_Cut r7 ([58]:List UInt8)).bind fun (oA,nT,nS)=>
   (ef s6 r7).bind fun t17=>
   (if t17 then
    (ox s6.length (IntKind.wrap .i64 ((s6.length:Int) - 1))).bind fun GN=>
    (s6[GN]?).bind fun uZ=>
    (cat ([13,10]:List UInt8) r7).bind fun As=>
    (cat uZ.value As).bind fun qC=>some (.cQ (r8,(List.set s6 GN (aB.mk uZ.name qC))))
   else
    (eg F nS oA).bind fun t26=>
    (if t26 then
     (dn 32 s6 ([(aB.mk oA nT)]:List aB)).bind fun RV=>some (.cQ (r8,RV))
    else
     (if (decide (r7=([]:List UInt8))) then
      some (.ret (s6,r8))
     else
      some (.ret (s6,cv)))))
  else
   some (.eI s6))
def ei (F:Nat) (b1:List UInt8):Option ((List aB)×(List UInt8)):=
 (iP F b1).bind fun r2=>
 ((iter (cF F) F (r2,([]:List aB))).bind fun RW=>
 match RW with
 | .inr xK=>
   some (xK,([]:List UInt8))
 | .inl (Pw,C5)=>
   some (Pw,C5))
theorem pG {s6:List aB} {r7:List UInt8} {Mq:Nat} {Mr:Nat} {cv:List UInt8} {r8:List UInt8} {oA:List UInt8} {nT:List UInt8} {nS:Bool} {H0 H:AH} (hfr:Fr H0 H0.length [] H) (aA:GF 2 H0.length Mq (ml aE s6) Mr H) {K:Exit→Env→AH→Prop} {t16:Bool}
 (h:ef s6 r7=some t16)
 (kn:∀H':AH,Fr H0 H0.length [] H'→GF 2 H0.length Mq (ml aE s6) Mr H'→K .normal [(4,(.bf Mq 2 s6.length Mr)),(5,(.str cv)),(6,(.str r7)),(7,(.str r8)),(9,(.str oA)),(10,(.str nT)),(11,(.bool nS)),(32,(.bool t16))] H'):
 AX Tryd.prog cU 82 H0.length (erase kD) K [(4,(.bf Mq 2 s6.length Mr)),(5,(.str cv)),(6,(.str r7)),(7,(.str r8)),(9,(.str oA)),(10,(.str nT)),(11,(.bool nS))] H:=by
 refine e9 fun K' hK=> ?_
 have hle:=hfr.le
 rw [ef.eq_1] at h
 refine bk ?_
 refine cX h (fun bH h=> ?_) fun bH h=> ?_
 · refine bN bH ?_
   refine cX h (fun cM h=> ?_) fun cM h=> ?_
   · obtain ⟨xJ,dJ,h⟩:=au h
     refine bN (aX cM dJ) ?_
     refine cX h (fun ec h=> ?_) fun ec h=> ?_
     · refine bN ec ?_
       obtain rfl:=aD h
       exact hK _ _ _ _ _ (iN (aX bH (aX cM ec))) ay (kn _ hfr aA)
     · refine bN (aX ec dJ) ?_
       obtain rfl:=aD h
       exact hK _ _ _ _ _ (iN (aX bH (aX cM ec))) ay (kn _ hfr aA)
   · refine bN cM ?_
     obtain rfl:=aD h
     exact hK _ _ _ _ _ (iN (aX bH cM)) ay (kn _ hfr aA)
 · refine bN bH ?_
   obtain rfl:=aD h
   exact hK _ _ _ _ _ (iN bH) ay (kn _ hfr aA)
theorem pH {F:Nat} {nS:Bool} {oA:List UInt8} {Ms:Nat} {s6:List aB} {Mt:Nat} {cv:List UInt8} {r7:List UInt8} {r8:List UInt8} {nT:List UInt8} {H0 H:AH} (hfr:Fr H0 H0.length [] H) (aA:GF 2 H0.length Ms (ml aE s6) Mt H) {K:Exit→Env→AH→Prop} {t25:Bool}
 (h:eg F nS oA=some t25)
 (kn:∀H':AH,Fr H0 H0.length [] H'→GF 2 H0.length Ms (ml aE s6) Mt H'→K .normal [(4,(.bf Ms 2 s6.length Mt)),(5,(.str cv)),(6,(.str r7)),(7,(.str r8)),(9,(.str oA)),(10,(.str nT)),(62,(.bool t25))] H'):
 AX Tryd.prog cU 82 H0.length (erase kE) K [(4,(.bf Ms 2 s6.length Mt)),(5,(.str cv)),(6,(.str r7)),(7,(.str r8)),(9,(.str oA)),(10,(.str nT)),(11,(.bool nS))] H:=by
 refine e9 fun K' hK=> ?_
 have hle:=hfr.le
 rw [eg.eq_1] at h
 refine bk ?_
 refine cX h (fun mU h=> ?_) fun mU h=> ?_
 · refine bN mU ?_
   obtain ⟨RU,tO,h⟩:=au h
   refine bG ay (jT tO) ?_
   refine bk ?_
   obtain rfl:=aD h
   exact hK _ _ _ _ _ (iN mU) ay (kn _ hfr aA)
 · refine bN mU ?_
   obtain rfl:=aD h
   exact hK _ _ _ _ _ (iN mU) ay (kn _ hfr aA)
theorem pI {s6:List aB} {r8:List UInt8} {H0 H:AH} (hfr:Fr H0 H0.length [] H) {K:Exit→Env→AH→Prop}
 (kn:∀H':AH,Fr H0 H0.length [] H'→K .normal [(2,(.sl .n 2 (ml aE s6))),(3,(.sl .own 1 (ml b8 r8)))] H'):
 AX Tryd.prog cU 82 H0.length (erase kF) K [(4,(.sl .n 2 (ml aE s6))),(7,(.str r8))] H:=by
 refine e9 fun K' hK=> ?_
 have hle:=hfr.le
 refine bk ?_
 exact hK _ _ _ _ _ aU ay (kn _ hfr)
theorem pJ {s6:List aB} {cv:List UInt8} {H0 H:AH} (hfr:Fr H0 H0.length [] H) {K:Exit→Env→AH→Prop}
 (kn:∀H':AH,Fr H0 H0.length [] H'→K .normal [(2,(.sl .n 2 (ml aE s6))),(3,(.sl .own 1 (ml b8 cv)))] H'):
 AX Tryd.prog cU 82 H0.length (erase kG) K [(4,(.sl .n 2 (ml aE s6))),(5,(.str cv))] H:=by
 refine e9 fun K' hK=> ?_
 have hle:=hfr.le
 refine bk ?_
 exact hK _ _ _ _ _ aU ay (kn _ hfr)
theorem pK {F:Nat} {cv:List UInt8} {s6:List aB} {q3:Nat} {q4:Nat} {H0 H:AH} (hfr:Fr H0 H0.length [] H) (aA:GF 2 H0.length q3 (ml aE s6) q4 H) {K:Exit→Env→AH→Prop} {o:((List aB)×(List UInt8))⊕((List aB))}
 (h:iter (cF F) F (cv,s6)=some o)
 (fJ:∀o':(List aB),o= .inr o'→∀H':AH,∀RX RY:Nat,Fr H0 H0.length [] H'→GF 2 H0.length RX (ml aE o') RY H'→K (.exit 0) [(4,(.bf RX 2 o'.length RY))] H')
 (kr:∀o':(List aB)×(List UInt8),o= .inl o'→∀H':AH,Fr H0 H0.length [] H'→K .ret [(2,(.sl .n 2 (ml aE o'.1))),(3,(.sl .n 1 (ml b8 o'.2)))] H'):
 AX Tryd.prog cU 82 H0.length (.loop (erase jC)) K [(4,(.bf q3 2 s6.length q4)),(5,(.str cv))] H:=by
 refine k8 (fun s e H1=>match s with|(cv,s6)=>∃q3 q4:Nat,e=[(4,(.bf q3 2 s6.length q4)),(5,(.str cv))]∧Fr H0 H0.length [] H1∧GF 2 H0.length q3 (ml aE s6) q4 H1) h ⟨q3,q4,rfl,hfr,aA⟩ ?_
 rintro K' ⟨cv,s6⟩ st e H ⟨q3,q4,rfl,hfr,aA⟩ h hN hB hR hX
 have hle:=hfr.le
 rw [cF.eq_1] at h
 refine bk ?_
 refine cB h (fun bn h=> ?_) fun bn h=> ?_
 · refine bk ?_
   obtain ⟨⟨r7,r8,r9⟩,bt,h⟩:=au h
   dsimp only at h
   refine bG ay (lJ (s1:=cv) (s2:=([13,10]:List UInt8)) bt) ?_
   refine bk ?_
   obtain ⟨⟨oA,nT,nS⟩,bw,h⟩:=au h
   dsimp only at h
   refine bG ay (lJ (s1:=r7) (s2:=([58]:List UInt8)) bw) ?_
   refine bk ?_
   obtain ⟨t17,lg,h⟩:=au h
   refine cy ay (pG (cv:=cv) (r8:=r8) (oA:=oA) (nT:=nT) (nS:=nS) hfr aA lg ?_)
   intro H hfr aA
   have hle:=hfr.le
   refine bk ?_
   refine cB h (fun fR h=> ?_) fun fR h=> ?_
   · obtain ⟨GN,gR,h⟩:=au h
     obtain ⟨uZ,fk,h⟩:=au h
     have mV:=GF.Rz (f:=aE) (aA) fk
     have pL:(ew 2 (ml aE s6) q4)[GN*2+1]? =some (.str uZ.value):=vL (f:=aE) (fun _=>⟨rfl,rfl,rfl,rfl⟩) fk (by decide)
     obtain ⟨As,tP,h⟩:=au h
     obtain ⟨qC,tQ,h⟩:=au h
     have pM:=GF.Rz (f:=aE) (aA) fk
     have pN:=GF.Ug (f:=aE) (aA) fk
     have rI:over (ew 2 (ml aE s6) q4) (GN*2+1) [(.str qC)]=some (ew 2 (ml aE (List.set s6 GN (aB.mk uZ.name qC))) q4):=tH (f:=aE) (x':=(aB.mk uZ.name qC)) (fun _=>⟨rfl,rfl,rfl,rfl⟩) fk (by decide) rfl
     have tR:=GF.Ry (f:=aE) (x':=(aB.mk uZ.name qC)) (aA) fk
     refine bN (aX gR (aX mV (aX pL (aX tP (aX tQ (aX gR (aX pM rI))))))) ?_
     obtain rfl:=aD h
     exact hN _ rfl _ _ _ _ aU ay ⟨q3,q4,rfl,(Fr.set (s:=q3) hfr (.inr pN)),tR⟩
   · refine bk ?_
     obtain ⟨t26,tS,h⟩:=au h
     refine cy ay (pH (s6:=s6) (cv:=cv) (r7:=r7) (r8:=r8) (nT:=nT) hfr aA tS ?_)
     intro H hfr aA
     have hle:=hfr.le
     refine bk ?_
     refine cB h (fun tT h=> ?_) fun tT h=> ?_
     · obtain ⟨RV,tU,h⟩:=au h
       refine bk ?_
       refine Ur (f:=aE) (X:=s6) (Y:=([(aB.mk oA nT)]:List aB)) (n1:=H0.length) (fun _=>⟨rfl,rfl,rfl,rfl⟩) (by decide) rfl rfl rfl (by simp) tU (aA) (by first|assumption|omega|(simp only [n5,n6]<;>omega)|fail) fun Us Ut H Uu rP C6 Lb=> ?_
       have hfr:=Fr.grow hfr rP C6
       have aA:=Uu
       have hle:=hfr.le
       refine bk ?_
       obtain rfl:=aD h
       exact hN _ rfl _ _ _ _ aU ay ⟨Us,Ut,rfl,hfr,aA⟩
     · refine bk ?_
       refine cB h (fun tV h=> ?_) fun tV h=> ?_
       · refine bk ?_
         refine JY ?_
         apply AX.An (n1:=H0.length) (by decide) (EK.ml (f:=aE) (fun _=>⟨rfl,rfl,rfl,rfl⟩) s6) (aA)
         · repeat (first|exact FG.nil|apply FG.lay _ _ _ _ (nM _ _).symm|apply FG.same)
         intro H rP C6
         have hfr:=Fr.lay hfr rP C6
         have hle:=hfr.le
         refine Mp ?_
         refine cy ay (pI (s6:=s6) (r8:=r8) hfr ?_)
         intro H hfr
         have hle:=hfr.le
         refine bk ?_
         obtain rfl:=aD h
         exact hX _ _ _ _ _ eN aU ay (kr _ (hR _ rfl) _ hfr)
       · refine bk ?_
         refine JY ?_
         apply AX.An (n1:=H0.length) (by decide) (EK.ml (f:=aE) (fun _=>⟨rfl,rfl,rfl,rfl⟩) s6) (aA)
         · repeat (first|exact FG.nil|apply FG.lay _ _ _ _ (nM _ _).symm|apply FG.same)
         intro H rP C6
         have hfr:=Fr.lay hfr rP C6
         have hle:=hfr.le
         refine Mp ?_
         refine cy ay (pJ (s6:=s6) (cv:=cv) hfr ?_)
         intro H hfr
         have hle:=hfr.le
         refine bk ?_
         obtain rfl:=aD h
         exact hX _ _ _ _ _ eN aU ay (kr _ (hR _ rfl) _ hfr)
 · refine bk ?_
   obtain rfl:=aD h
   exact hX _ _ _ _ _ eN aU ay (fJ _ (hB _ rfl) _ q3 q4 hfr aA)
theorem pO {xK:List aB} {H0 H:AH} (hfr:Fr H0 H0.length [] H) {K:Exit→Env→AH→Prop}
 (kn:∀H':AH,Fr H0 H0.length [] H'→K .normal [(2,(.sl .n 2 (ml aE xK))),(3,(.sl .ex 1 []))] H'):
 AX Tryd.prog cU 82 H0.length (erase kH) K [(4,(.sl .n 2 (ml aE xK)))] H:=by
 refine e9 fun K' hK=> ?_
 have hle:=hfr.le
 refine bk ?_
 exact hK _ _ _ _ _ aU ay (kn _ hfr)
theorem iQ {F:Nat} {b1:List UInt8} {H0:AH} {aJ:List aB} {At:List UInt8} (h:ei F b1=some (aJ,At)):
 av Tryd.prog 18 [(.sl .n 1 (ml b8 b1))] H0 fun v H'=>v=(.aL [(.sl .n 2 (ml aE aJ)),(.sl .n 1 (ml b8 At))])∧H'=H0:=by
 refine uS uY cU [] (F0:=fun _=>True) trivial fun hcl K0 aN H hfr hs=> ?_
 have hle:=hfr.le
 rw [ei.eq_1] at h
 refine bk ?_
 obtain ⟨r2,hy1,h⟩:=au h
 refine bG ay (uW hy1) ?_
 refine bk ?_
 obtain ⟨RW,Au,h⟩:=au h
 refine cy ay (pK hfr GF.nil Au ?_ ?_)
 · rintro xK rfl H VH VI hfr aA
   try dsimp only at h aA
   have hle:=hfr.le
   refine bk ?_
   refine JY ?_
   apply AX.An (n1:=H0.length) (by decide) (EK.ml (f:=aE) (fun _=>⟨rfl,rfl,rfl,rfl⟩) xK) (aA)
   · repeat (first|exact FG.nil|apply FG.lay _ _ _ _ (nM _ _).symm|apply FG.same)
   intro H rP C6
   have hfr:=Fr.lay hfr rP C6
   have hle:=hfr.le
   refine Mp ?_
   refine cy ay (pO (xK:=xK) hfr ?_)
   intro H hfr
   have hle:=hfr.le
   refine bk ?_
   obtain ⟨rfl,rfl⟩:=DX h
   exact aN _ _ _ bT (bW hfr hcl (bO (bO bR (.sl .ex 1 [])) (.sl .n 2 (ml aE xK))) bS bJ ⟨rfl,rfl⟩)
 · rintro ⟨Pw,C5⟩ rfl H hfr
   try dsimp only at h
   have hle:=hfr.le
   refine bk ?_
   obtain ⟨rfl,rfl⟩:=DX h
   exact aN _ _ _ bT (bW hfr hcl (bO (bO bR (.sl .n 1 (ml b8 C5))) (.sl .n 2 (ml aE Pw))) bS bJ ⟨rfl,rfl⟩)
abbrev kI:aq:=(.rg [(ax 15 5),(ai 16 (.bin .geq (.t 15) (.c (b8 65)))),(ax 17 16),(aF 18 (.mv (.t 5)) 17 true),(aF 19 (.bin .leq (.t 18) (.c (b8 90))) 17 true),(ai 20 (.pick (.t 17) (.t 19) (.c (.bool false))))])
abbrev jD:aq:=(.seq (.rg [(ai 11 (.bin .lss (.t 10) (.t 9)))]) (.seq (.cond (.t 11) .skip (.exit 0)) (.seq (.blk 1 (.seq (.rg [(ax 12 10),(ai 13 (.iD 1 (.t 8) (.t 10))),(ai 14 (.ld (.t 13) none)),(aQ 4 12),(aQ 5 14)]) (.seq (.sem (erase kI)) (.cond (.t 20) (.rg [(ax 21 3),(ax 22 4),(ai 23 (.iD 1 (.t 21) (.t 22))),(ai 24 (.ld (.t 23) none)),(ai 25 (.bin .or (.t 24) (.c (b8 32)))),(ai 26 (.iD 1 (.t 21) (.t 22))),(C3 (.st (.t 26) (.t 25) 1))]) .skip)))) (.rg [(ai 27 (.bin .add (.t 10) (.c (.int .i64 1)))),(ax 10 27)]))))
abbrev u0:aq:=(.seq (.rg [(ai 2 (.bg (.c (.str []))))]) (.seq (.rg [(ax 6 0),(ai 7 (.ko (.t 6))),(aQ 3 7)]) (.seq (.seq (.rg [(ax 8 3),(ai 9 (.len (.t 8))),(ai 10 (.mv (.c (.int .i64 0))))]) (.blk 0 (.loop (erase jD)))) (.seq (.rg [(ax 28 3),(ai 29 (.fC .bs (.t 28))),(aQ 2 29)]) .ret))))
theorem u6:bB Tryd.prog 41 30 [(.tmp 2)] (erase u0):=⟨Tryd.f41,_,rfl,by decide,rfl,by kernel_rfl,rfl,rfl⟩
abbrev jU:List Nat:=[0,2,3,4,5,8,9,10,11,20]
def cG (s1:List UInt8):(Int×(List UInt8))→Option (St (List UInt8) (List UInt8) (Int×(List UInt8)))
 |(t3,s4)=>
  (if (decide (t3<(s1.length:Int))) then
   (ox s1.length t3).bind fun j5=>
   (s4[j5]?).bind fun x6=>
   (if ((decide (65≤x6))&&(decide (x6≤90))) then
    (Ai s4 j5 (x6 ||| 32)).bind fun s8=>some (.cQ ((IntKind.wrap .i64 (t3+1)),s8))
   else
    some (.cQ ((IntKind.wrap .i64 (t3+1)),s4)))
  else
   some (.eI s4))
def fm (F:Nat) (s1:List UInt8):Option ((List UInt8)):=
 ((iter (cG s1) F (0,s1)).bind fun RZ=>
 match RZ with
 | .inr R0=>
   (sub R0 0 (s1.length:Int)).bind fun mQ=>some mQ
 | .inl _=>none)
theorem pP {q7:Nat} {s1:List UInt8} {t3:Int} {x6:UInt8} {s4:List UInt8} {H0 H:AH} (hfr:Fr H0 H0.length [] H) (aA:H[q7]? =some (ml b8 s4)) (hi0:H0.length≤q7) {K:Exit→Env→AH→Prop}
 (kn:∀H':AH,Fr H0 H0.length [] H'→H'[q7]? =some (ml b8 s4)→K .normal [(3,(.bD q7 1 0 s1.length)),(4,(.int .i64 t3)),(8,(.bD q7 1 0 s1.length)),(9,(.int .i64 (s1.length:Int))),(10,(.int .i64 t3)),(20,(.bool ((decide (65≤x6))&&(decide (x6≤90)))))] H'):
 AX Tryd.prog jU 30 H0.length (erase kI) K [(3,(.bD q7 1 0 s1.length)),(4,(.int .i64 t3)),(5,(b8 x6)),(8,(.bD q7 1 0 s1.length)),(9,(.int .i64 (s1.length:Int))),(10,(.int .i64 t3))] H:=by
 refine e9 fun K' hK=> ?_
 have hle:=hfr.le
 have iR:=lI aA
 refine bN aA ?_
 refine tJ (fun bw=> ?_) fun bw=> ?_
 · refine bN (aX bw aA) ?_
   exact hK _ _ _ _ _ (iN bw) ay (kn _ hfr (aA.trans rfl))
 · refine bN (aX bw aA) ?_
   exact hK _ _ _ _ _ (iN bw) ay (kn _ hfr (aA.trans rfl))
theorem pQ {F:Nat} {t3:Int} {s1:List UInt8} {s4:List UInt8} {q2:Nat} {H0 H:AH} (hfr:Fr H0 H0.length [] H) (aA:H[q2]? =some (ml b8 s4)) (hi0:H0.length≤q2) {K:Exit→Env→AH→Prop} {o:((List UInt8))⊕((List UInt8))}
 (h:iter (cG s1) F (t3,s4)=some o)
 (fJ:∀o':(List UInt8),o= .inr o'→∀H':AH,Fr H0 H0.length [] H'→H'[q2]? =some (ml b8 o')→K (.exit 0) [(3,(.bD q2 1 0 s1.length))] H'):
 AX Tryd.prog jU 30 H0.length (.loop (erase jD)) K [(3,(.bD q2 1 0 s1.length)),(8,(.bD q2 1 0 s1.length)),(9,(.int .i64 (s1.length:Int))),(10,(.int .i64 t3))] H:=by
 refine k8 (fun s e H1=>match s with|(t3,s4)=>e=[(3,(.bD q2 1 0 s1.length)),(8,(.bD q2 1 0 s1.length)),(9,(.int .i64 (s1.length:Int))),(10,(.int .i64 t3))]∧Fr H0 H0.length [] H1∧H1[q2]? =some (ml b8 s4)) h ⟨rfl,hfr,aA⟩ ?_
 rintro K' ⟨t3,s4⟩ st e H ⟨rfl,hfr,aA⟩ h hN hB hR hX
 have hle:=hfr.le
 have iR:=lI aA
 rw [cG.eq_1] at h
 refine bN aA ?_
 refine cB h (fun hy1 h=> ?_) fun hy1 h=> ?_
 · obtain ⟨j5,bn,h⟩:=au h
   obtain ⟨x6,bt,h⟩:=au h
   refine bN (aX bn (aX bt aA)) ?_
   refine cy ay (pP (q7:=q2) (s1:=s1) (t3:=t3) (x6:=x6) (s4:=s4) hfr (aA.trans rfl) GJ ?_)
   intro H hfr aA
   have hle:=hfr.le
   have iR:=lI aA
   refine bN aA ?_
   refine cB h (fun bH h=> ?_) fun bH h=> ?_
   · obtain ⟨s8,cM,h⟩:=au h
     refine bN (aX bn (aX bt (aX bn (aX cM aA)))) ?_
     obtain rfl:=aD h
     exact hN _ rfl _ _ _ _ aU ay ⟨rfl,(Aq q2 hfr),Mo⟩
   · refine bN aA ?_
     obtain rfl:=aD h
     exact hN _ rfl _ _ _ _ aU ay ⟨rfl,hfr,(aA.trans rfl)⟩
 · refine bN aA ?_
   obtain rfl:=aD h
   exact hX _ _ _ _ _ eN aU ay (fJ _ (hB _ rfl) _ hfr (aA.trans rfl))
theorem mW {F:Nat} {s1:List UInt8} {H0:AH} {aJ:List UInt8} (h:fm F s1=some aJ):
 av Tryd.prog 41 [(.str s1)] H0 fun v H'=>v=(.str aJ)∧H'=H0:=by
 refine uS u6 jU [] (F0:=fun _=>True) trivial fun hcl K0 aN H hfr hs=> ?_
 have hle:=hfr.le
 rw [fm.eq_1] at h
 refine bk ?_
 obtain ⟨q2,C7⟩:∃q:Nat,H.length=q:=⟨_,rfl⟩
 try rw [C7]
 obtain ⟨RZ,dJ,h⟩:=au h
 refine cy ay (pQ (q2:=q2) (Fr.app hfr) Pu GJ dJ ?_)
 · rintro R0 rfl H hfr aA
   try dsimp only at h aA
   have hle:=hfr.le
   have iR:=lI aA
   refine bk ?_
   obtain ⟨mQ,ec,h⟩:=au h
   refine bN (aX ec aA) ?_
   obtain rfl:=aD h
   exact aN _ _ _ bT (bW hfr hcl (bO bR (.str mQ)) bS bJ ⟨rfl,rfl⟩)
abbrev lO:aq:=(.seq (.rg [(ai 13 (.bin .lss (.t 12) (.t 11)))]) (.seq (.cond (.t 13) .skip (.exit 0)) (.seq (.blk 1 (.seq (.rg [(ai 14 (.iD 2 (.t 10) (.t 12))),(ai 15 (.ld (.t 14) (some 2))),(ai 9 (.alloc [(.str []),(.str [])])),(C3 (.st (.t 9) (.t 15) 2))]) (.seq (.seq (.rg [(ai 16 (.oh (.t 9) 0)),(ai 17 (.ld (.t 16) none)),(ai 18 (.call (.c (.fn 41 [])) [(.t 17)])),(ax 19 1),(ai 20 (.call (.c (.fn 41 [])) [(.t 19)])),(ai 21 (.bin .neq (.t 18) (.t 20)))]) (.cond (.t 21) (.exit 1) .skip)) (.seq (.rg [(ax 22 7),(ai 23 (.bin .add (.t 22) (.c (.int .i64 1)))),(aQ 7 23)]) (.seq (.rg [(ax 24 7),(ai 25 (.bin .eql (.t 24) (.c (.int .i64 1))))]) (.cond (.t 25) (.rg [(ai 26 (.oh (.t 9) 1)),(ai 27 (.ld (.t 26) none)),(aQ 6 27)]) .skip)))))) (.rg [(ai 28 (.bin .add (.t 12) (.c (.int .i64 1)))),(ax 12 28)]))))
abbrev Av:aq:=(.seq (.rg [(ai 4 (.bg (.c (.str [])))),(ai 5 (.bg (.c (.int .i64 0))))]) (.seq (.rg [(ai 6 (.bg (.c (.str [])))),(ai 7 (.bg (.c (.int .i64 0))))]) (.seq (.seq (.rg [(ax 10 0),(ai 11 (.len (.t 10))),(ai 12 (.mv (.c (.int .i64 0))))]) (.blk 0 (.loop (erase lO)))) (.seq (.rg [(ax 29 6),(ax 30 7),(aQ 4 29),(aQ 5 30)]) .ret))))
theorem Aw:bB Tryd.prog 19 31 [(.tmp 4),(.tmp 5)] (erase Av):=⟨Tryd.f19,_,rfl,by decide,rfl,by kernel_rfl,rfl,rfl⟩
abbrev rJ:List Nat:=[0,1,4,5,6,7,9,10,11,12,13,21,25]
def dB (F:Nat) (l1:List aB) (jV:List UInt8):((List UInt8)×Int×Int)→Option (St ((List UInt8)×Int) ((List UInt8)×Int) ((List UInt8)×Int×Int))
 |(pR,tW,t5)=>
  (if (decide (t5<(l1.length:Int))) then
   (idx l1 t5).bind fun x6=>
   (fm F x6.name).bind fun r7=>
   (fm F jV).bind fun r8=>
   (if (!decide (r7=r8)) then
    some (.cQ (pR,tW,(IntKind.wrap .i64 (t5+1))))
   else
    (if (decide ((IntKind.wrap .i64 (tW+1))=1)) then
     some (.cQ (x6.value,(IntKind.wrap .i64 (tW+1)),(IntKind.wrap .i64 (t5+1))))
    else
     some (.cQ (pR,(IntKind.wrap .i64 (tW+1)),(IntKind.wrap .i64 (t5+1))))))
  else
   some (.eI (pR,tW)))
def iC (F:Nat) (l1:List aB) (jV:List UInt8):Option ((List UInt8)×Int):=
 ((iter (dB F l1 jV) F (([]:List UInt8),0,0)).bind fun R1=>
 match R1 with
 | .inr (C8,J4)=>
   some (C8,J4)
 | .inl _=>none)
theorem rU {F:Nat} {t5:Int} {l1:List aB} {jV:List UInt8} {pR:List UInt8} {tW:Int} {H0 H:AH} (hfr:Fr H0 H0.length [] H) {K:Exit→Env→AH→Prop} {o:((List UInt8)×Int)⊕((List UInt8)×Int)}
 (h:iter (dB F l1 jV) F (pR,tW,t5)=some o)
 (fJ:∀o':(List UInt8)×Int,o= .inr o'→∀H':AH,Fr H0 H0.length [] H'→K (.exit 0) [(6,(.str o'.1)),(7,(.int .i64 o'.2))] H'):
 AX Tryd.prog rJ 31 H0.length (.loop (erase lO)) K [(1,(.str jV)),(6,(.str pR)),(7,(.int .i64 tW)),(10,(.sl .n 2 (ml aE l1))),(11,(.int .i64 (l1.length:Int))),(12,(.int .i64 t5))] H:=by
 refine k8 (fun s e H1=>match s with|(pR,tW,t5)=>e=[(1,(.str jV)),(6,(.str pR)),(7,(.int .i64 tW)),(10,(.sl .n 2 (ml aE l1))),(11,(.int .i64 (l1.length:Int))),(12,(.int .i64 t5))]∧Fr H0 H0.length [] H1) h ⟨rfl,hfr⟩ ?_
 rintro K' ⟨pR,tW,t5⟩ st e H ⟨rfl,hfr⟩ h hN hB hR hX
 have hle:=hfr.le
 rw [dB.eq_1] at h
 refine bk ?_
 refine cB h (fun hy1 h=> ?_) fun hy1 h=> ?_
 · obtain ⟨x6,bn,h⟩:=au h
   refine bN bn ?_
   obtain ⟨r7,bt,h⟩:=au h
   refine bG ay (mW bt) ?_
   refine bk ?_
   obtain ⟨r8,bw,h⟩:=au h
   refine bG ay (mW bw) ?_
   refine bk ?_
   refine cB h (fun bH h=> ?_) fun bH h=> ?_
   · refine bk ?_
     obtain rfl:=aD h
     exact hN _ rfl _ _ _ _ aU ay ⟨rfl,(Aq H.length (Fr.app hfr))⟩
   · refine bk ?_
     refine cB h (fun cM h=> ?_) fun cM h=> ?_
     · refine bk ?_
       obtain rfl:=aD h
       exact hN _ rfl _ _ _ _ aU ay ⟨rfl,(Aq H.length (Fr.app hfr))⟩
     · refine bk ?_
       obtain rfl:=aD h
       exact hN _ rfl _ _ _ _ aU ay ⟨rfl,(Aq H.length (Fr.app hfr))⟩
 · refine bk ?_
   obtain rfl:=aD h
   exact hX _ _ _ _ _ eN aU ay (fJ _ (hB _ rfl) _ hfr)
theorem pS {F:Nat} {l1:List aB} {jV:List UInt8} {H0:AH} {aJ:List UInt8} {At:Int} (h:iC F l1 jV=some (aJ,At)):
 av Tryd.prog 19 [(.sl .n 2 (ml aE l1)),(.str jV)] H0 fun v H'=>v=(.aL [(.str aJ),(.int .i64 At)])∧H'=H0:=by
 refine uS Aw rJ [] (F0:=fun _=>True) trivial fun hcl K0 aN H hfr hs=> ?_
 have hle:=hfr.le
 rw [iC.eq_1] at h
 refine bk ?_
 obtain ⟨R1,dJ,h⟩:=au h
 refine cy ay (rU hfr dJ ?_)
 · rintro ⟨C8,J4⟩ rfl H hfr
   try dsimp only at h
   have hle:=hfr.le
   refine bk ?_
   obtain ⟨rfl,rfl⟩:=DX h
   exact aN _ _ _ bT (bW hfr hcl (bO (bO bR (.int .i64 J4)) (.str C8)) bS bJ ⟨rfl,rfl⟩)
abbrev lP:aq:=(.rg [(ax 3 0),(ai 4 (.bin .rem (.t 3) (.c (.int .i64 4)))),(ai 5 (.bin .eql (.t 4) (.c (.int .i64 0)))),(ax 6 5),(aF 7 (.mv (.t 0)) 6 true),(aF 8 (.bin .rem (.t 7) (.c (.int .i64 100))) 6 true),(aF 9 (.bin .neq (.t 8) (.c (.int .i64 0))) 6 true),(aF 10 (.mv (.t 9)) 6 true),(aF 11 (.mv (.t 0)) 10 false),(aF 12 (.bin .rem (.t 11) (.c (.int .i64 400))) 10 false),(aF 13 (.bin .eql (.t 12) (.c (.int .i64 0))) 10 false),(aF 14 (.pick (.t 10) (.c (.bool true)) (.t 13)) 6 true),(ai 15 (.pick (.t 6) (.t 14) (.c (.bool false)))),(aQ 2 15)])
abbrev xL:aq:=(.seq (.rg [(ai 2 (.bg (.c (.bool false))))]) (.seq (.sem (erase lP)) .ret))
theorem xM:bB Tryd.prog 89 16 [(.tmp 2)] (erase xL):=⟨Tryd.f89,_,rfl,by decide,rfl,by kernel_rfl,rfl,rfl⟩
abbrev pT:List Nat:=[0,2]
def gh (y1:Int):Option (Bool):=
 some ((decide ((Int.tmod y1 4)=0))&&((!decide ((Int.tmod y1 100)=0))||(decide ((Int.tmod y1 400)=0))))
theorem qD {y1:Int} {H:AH} {K:Exit→Env→AH→Prop}
 (kn:K .normal [(2,(.bool ((decide ((Int.tmod y1 4)=0))&&((!decide ((Int.tmod y1 100)=0))||(decide ((Int.tmod y1 400)=0))))))] H):
 AX Tryd.prog pT 16 H.length (erase lP) K [(0,(.int .i64 y1)),(2,(.bool false))] H:=by
 refine e9 fun K' hK=> ?_
 have bw:rm .i64 y1 4=some (Int.tmod y1 4):=rfl
 refine bh bw ?_
 refine tJ (fun bH=> ?_) fun bH=> ?_
 · have cM:rm .i64 y1 100=some (Int.tmod y1 100):=rfl
   refine bh (aX bH cM) ?_
   refine tJ (fun dJ=> ?_) fun dJ=> ?_
   · refine bh dJ ?_
     exact hK _ _ _ _ _ (iN (aX bH dJ)) ay kn
   · have ec:rm .i64 y1 400=some (Int.tmod y1 400):=rfl
     refine bh (aX dJ ec) ?_
     exact hK _ _ _ _ _ (iN (aX bH dJ)) ay kn
 · refine bh bH ?_
   exact hK _ _ _ _ _ (iN bH) ay kn
theorem n7 {y1:Int} {H0:AH} {aJ:Bool} (h:gh y1=some aJ):
 av Tryd.prog 89 [(.int .i64 y1)] H0 fun v H'=>v=(.bool aJ)∧H'=H0:=by
 refine dP xM pT fun hcl K0 aN=> ?_
 rw [gh.eq_1] at h
 refine aC ?_
 refine cy ay (qD (y1:=y1) ?_)
 refine aC ?_
 obtain rfl:=aD h
 exact aN _ _ _ bT (aH hcl (bO bR (.bool ((decide ((Int.tmod y1 4)=0))&&((!decide ((Int.tmod y1 100)=0))||(decide ((Int.tmod y1 400)=0)))))) bS bJ ⟨rfl,rfl⟩)
abbrev lQ:aq:=(.rg [(ax 7 1),(ai 8 (.bin .eql (.t 7) (.c (.int .i64 1)))),(ax 9 8),(aF 10 (.mv (.t 0)) 9 true),(aF 11 (.call (.c (.fn 89 [])) [(.t 10)]) 9 true),(ai 12 (.pick (.t 9) (.t 11) (.c (.bool false))))])
abbrev xN:aq:=(.seq (.rg [(ai 4 (.bg (.c (.int .i64 0))))]) (.seq (.rg [(ai 6 (.build [(.int .i64 31),(.int .i64 28),(.int .i64 31),(.int .i64 30),(.int .i64 31),(.int .i64 30),(.int .i64 31),(.int .i64 31),(.int .i64 30),(.int .i64 31),(.int .i64 30),(.int .i64 31)] [])),(ai 5 (.alloc [(.int .i64 0),(.int .i64 0),(.int .i64 0),(.int .i64 0),(.int .i64 0),(.int .i64 0),(.int .i64 0),(.int .i64 0),(.int .i64 0),(.int .i64 0),(.int .i64 0),(.int .i64 0)])),(C3 (.st (.t 5) (.t 6) 12))]) (.seq (.seq (.sem (erase lQ)) (.cond (.t 12) (.seq (.rg [(ai 4 (.bg (.c (.int .i64 29))))]) .ret) .skip)) (.seq (.rg [(ax 13 1),(ai 14 (.G2 1 12 (.t 5) (.t 13))),(ai 15 (.ld (.t 14) none)),(aQ 4 15)]) .ret))))
theorem xO:bB Tryd.prog 90 16 [(.tmp 4)] (erase xN):=⟨Tryd.f90,_,rfl,by decide,rfl,by kernel_rfl,rfl,rfl⟩
abbrev pU:List Nat:=[0,1,4,5,12]
def dh:List Int:=[31,28,31,30,31,30,31,31,30,31,30,31]
def gp (m2:Int) (y1:Int):Option (Bool):=
 (if (decide (m2=1)) then
  (gh y1).bind fun r4=>some r4
 else
  some false)
def gi (y1:Int) (m2:Int):Option (Int):=
 (gp m2 y1).bind fun t6=>
 (if t6 then
  some 29
 else
  (ox 12 m2).bind fun j7=>(dh[j7]?).bind fun x8=>some x8)
theorem qE {m2:Int} {y1:Int} {q3:Nat} {H0 H:AH} (hfr:Fr H0 H0.length [] H) (aA:H[q3]? =some (ml (vK .i64) dh)) (hi0:H0.length≤q3) {K:Exit→Env→AH→Prop} {t5:Bool}
 (h:gp m2 y1=some t5)
 (kn:∀H':AH,Fr H0 H0.length [] H'→H'[q3]? =some (ml (vK .i64) dh)→K .normal [(1,(.int .i64 m2)),(5,(.ptr q3 0)),(12,(.bool t5))] H'):
 AX Tryd.prog pU 16 H0.length (erase lQ) K [(0,(.int .i64 y1)),(1,(.int .i64 m2)),(5,(.ptr q3 0))] H:=by
 refine e9 fun K' hK=> ?_
 have hle:=hfr.le
 have iR:=lI aA
 rw [gp.eq_1] at h
 refine bN aA ?_
 refine cX h (fun hy1 h=> ?_) fun hy1 h=> ?_
 · refine bN (aX hy1 aA) ?_
   obtain ⟨r4,bn,h⟩:=au h
   refine bG ay (n7 bn) ?_
   refine bN aA ?_
   obtain rfl:=aD h
   exact hK _ _ _ _ _ aU ay (kn _ hfr (aA.trans rfl))
 · refine bN (aX hy1 aA) ?_
   obtain rfl:=aD h
   exact hK _ _ _ _ _ aU ay (kn _ hfr (aA.trans rfl))
theorem n8 {y1:Int} {m2:Int} {H0:AH} {aJ:Int} (h:gi y1 m2=some aJ):
 av Tryd.prog 90 [(.int .i64 y1),(.int .i64 m2)] H0 fun v H'=>v=(.int .i64 aJ)∧H'=H0:=by
 refine uS xO pU [] (F0:=fun _=>True) trivial fun hcl K0 aN H hfr hs=> ?_
 have hle:=hfr.le
 rw [gi.eq_1] at h
 refine bk ?_
 obtain ⟨q3,C9⟩:∃q:Nat,H.length=q:=⟨_,rfl⟩
 try rw [C9]
 obtain ⟨t6,bt,h⟩:=au h
 refine cy ay (qE (q3:=q3) (Aq q3 (Fr.app hfr)) Mo GJ bt ?_)
 intro H hfr aA
 have hle:=hfr.le
 have iR:=lI aA
 refine bN aA ?_
 refine cB h (fun bw h=> ?_) fun bw h=> ?_
 · refine bN aA ?_
   obtain rfl:=aD h
   exact aN _ _ _ bT (bW hfr hcl (bO bR (.int .i64 29)) bS bJ ⟨rfl,rfl⟩)
 · obtain ⟨j7,bH,h⟩:=au h
   obtain ⟨x8,cM,h⟩:=au h
   have dJ:=nN (f:=(vK .i64)) cM
   refine bN (aX bH (aX dJ aA)) ?_
   obtain rfl:=aD h
   exact aN _ _ _ bT (bW hfr hcl (bO bR (.int .i64 x8)) bS bJ ⟨rfl,rfl⟩)
abbrev lR:aq:=(.cond (.t 7) (.rg [(ax 8 5),(ai 9 (.bin .add (.t 8) (.c (.int .i64 1)))),(aQ 5 9)]) .skip)
abbrev kJ:aq:=(.blk 1 (.seq (.rg [(ai 5 (.bg (.c (.int .i64 365))))]) (.seq (.seq (.rg [(ax 6 2),(ai 7 (.call (.c (.fn 89 [])) [(.t 6)]))]) (.sem (erase lR))) (.seq (.seq (.rg [(ax 10 0),(ax 11 5),(ai 12 (.bin .lss (.t 10) (.t 11)))]) (.cond (.t 12) (.exit 0) .skip)) (.seq (.rg [(ax 13 0),(ax 14 5),(ai 15 (.bin .sub (.t 13) (.t 14))),(aQ 0 15)]) (.rg [(ax 16 2),(ai 17 (.bin .add (.t 16) (.c (.int .i64 1)))),(aQ 2 17)]))))))
abbrev kK:aq:=(.seq (.seq (.rg [(ax 18 0),(ax 19 2),(ax 20 3),(ai 21 (.call (.c (.fn 90 [])) [(.t 19),(.t 20)])),(ai 22 (.bin .geq (.t 18) (.t 21)))]) (.cond (.t 22) .skip (.exit 2))) (.blk 3 (.seq (.rg [(ax 23 0),(ax 24 2),(ax 25 3),(ai 26 (.call (.c (.fn 90 [])) [(.t 24),(.t 25)])),(ai 27 (.bin .sub (.t 23) (.t 26))),(aQ 0 27)]) (.rg [(ax 28 3),(ai 29 (.bin .add (.t 28) (.c (.int .i64 1)))),(aQ 3 29)]))))
abbrev xP:aq:=(.seq (.rg [(ai 2 (.bg (.c (.int .i64 0)))),(ai 3 (.bg (.c (.int .i64 0)))),(ai 4 (.bg (.c (.int .i64 0))))]) (.seq (.rg [(ai 2 (.bg (.c (.int .i64 1970))))]) (.seq .skip (.seq (.blk 0 (.loop (erase kJ))) (.seq (.blk 2 (.loop (erase kK))) (.seq (.rg [(ax 30 2),(ax 31 3),(ax 32 0),(ai 33 (.bin .add (.t 32) (.c (.int .i64 1)))),(aQ 2 30),(aQ 3 31),(aQ 4 33)]) .ret))))))
theorem xQ:bB Tryd.prog 54 34 [(.tmp 2),(.tmp 3),(.tmp 4)] (erase xP):=⟨Tryd.f54,_,rfl,by decide,rfl,by kernel_rfl,rfl,rfl⟩
abbrev ia:List Nat:=[0,2,3,4,5,7,12,22]
def eR (r4:Bool):Option (Int):=
 (if r4 then
  some (IntKind.wrap .i64 (365+1))
 else
  some 365)
def eS:(Int×Int)→Option (St (Int×Int×Int) (Int×Int) (Int×Int))
 |(pV,y3)=>
  (gh y3).bind fun r4=>
  (eR r4).bind fun J5=>
  (if (decide (pV<J5)) then
   some (.eI (pV,y3))
  else
   some (.cQ ((IntKind.wrap .i64 (pV - J5)),(IntKind.wrap .i64 (y3+1)))))
def eT (rV:Int):(Int×Int)→Option (St (Int×Int×Int) (Int×Int) (Int×Int))
 |(pW,m12)=>
  (gi rV m12).bind fun tX=>
  (if (decide (tX≤pW)) then
   (gi rV m12).bind fun R2=>
   some (.cQ ((IntKind.wrap .i64 (pW - R2)),(IntKind.wrap .i64 (m12+1))))
  else
   some (.eI (pW,m12)))
def iS (F:Nat) (gy:Int):Option (Int×Int×Int):=
 ((iter eS F (gy,1970)).bind fun R3=>
 match R3 with
 | .inr (R4,rV)=>
   ((iter (eT rV) F (R4,0)).bind fun R5=>
   match R5 with
   | .inr (J6,m18)=>
     some (rV,m18,(IntKind.wrap .i64 (J6+1)))
   | .inl _=>none)
 | .inl _=>none)
theorem qF {r4:Bool} {pV:Int} {y3:Int} {H:AH} {K:Exit→Env→AH→Prop} {Nd:Int}
 (h:eR r4=some Nd)
 (kn:K .normal [(0,(.int .i64 pV)),(2,(.int .i64 y3)),(3,(.int .i64 0)),(5,(.int .i64 Nd))] H):
 AX Tryd.prog ia 34 H.length (erase lR) K [(0,(.int .i64 pV)),(2,(.int .i64 y3)),(3,(.int .i64 0)),(5,(.int .i64 365)),(7,(.bool r4))] H:=by
 refine e9 fun K' hK=> ?_
 rw [eR.eq_1] at h
 refine aC ?_
 refine cB h (fun bn h=> ?_) fun bn h=> ?_
 · refine aC ?_
   obtain rfl:=aD h
   exact hK _ _ _ _ _ aU ay kn
 · refine aC ?_
   obtain rfl:=aD h
   exact hK _ _ _ _ _ aU ay kn
theorem qG {F:Nat} {y3:Int} {pV:Int} {H:AH} {K:Exit→Env→AH→Prop} {o:(Int×Int×Int)⊕(Int×Int)}
 (h:iter eS F (pV,y3)=some o)
 (fJ:∀o':Int×Int,o= .inr o'→K (.exit 0) [(0,(.int .i64 o'.1)),(2,(.int .i64 o'.2)),(3,(.int .i64 0))] H):
 AX Tryd.prog ia 34 H.length (.loop (erase kJ)) K [(0,(.int .i64 pV)),(2,(.int .i64 y3)),(3,(.int .i64 0))] H:=by
 refine k8 (fun s e H1=>match s with|(pV,y3)=>e=[(0,(.int .i64 pV)),(2,(.int .i64 y3)),(3,(.int .i64 0))]∧H1=H) h ⟨rfl,rfl⟩ ?_
 rintro K' ⟨pV,y3⟩ st e H ⟨rfl,rfl⟩ h hN hB hR hX
 rw [eS.eq_1] at h
 refine aC ?_
 obtain ⟨r4,hy1,h⟩:=au h
 refine bG ay (n7 hy1) ?_
 refine aC ?_
 obtain ⟨J5,bt,h⟩:=au h
 refine cy ay (qF (pV:=pV) (y3:=y3) bt ?_)
 refine aC ?_
 refine cB h (fun bw h=> ?_) fun bw h=> ?_
 · refine aC ?_
   obtain rfl:=aD h
   exact hX _ _ _ _ _ eN aU ay (fJ _ (hB _ rfl))
 · refine aC ?_
   obtain rfl:=aD h
   exact hN _ rfl _ _ _ _ aU ay ⟨rfl,rfl⟩
theorem qH {F:Nat} {rV:Int} {m12:Int} {pW:Int} {H:AH} {K:Exit→Env→AH→Prop} {o:(Int×Int×Int)⊕(Int×Int)}
 (h:iter (eT rV) F (pW,m12)=some o)
 (J3:∀o':Int×Int,o= .inr o'→K (.exit 2) [(0,(.int .i64 o'.1)),(2,(.int .i64 rV)),(3,(.int .i64 o'.2))] H):
 AX Tryd.prog ia 34 H.length (.loop (erase kK)) K [(0,(.int .i64 pW)),(2,(.int .i64 rV)),(3,(.int .i64 m12))] H:=by
 refine k8 (fun s e H1=>match s with|(pW,m12)=>e=[(0,(.int .i64 pW)),(2,(.int .i64 rV)),(3,(.int .i64 m12))]∧H1=H) h ⟨rfl,rfl⟩ ?_
 rintro K' ⟨pW,m12⟩ st e H ⟨rfl,rfl⟩ h hN hB hR hX
 rw [eT.eq_1] at h
 refine aC ?_
 obtain ⟨tX,cM,h⟩:=au h
 refine bG ay (n8 cM) ?_
 refine aC ?_
 refine cB h (fun dJ h=> ?_) fun dJ h=> ?_
 · refine aC ?_
   obtain ⟨R2,ec,h⟩:=au h
   refine bG ay (n8 ec) ?_
   refine aC ?_
   obtain rfl:=aD h
   exact hN _ rfl _ _ _ _ aU ay ⟨rfl,rfl⟩
 · refine aC ?_
   obtain rfl:=aD h
   exact hX _ _ _ _ _ eN aU ay (J3 _ (hB _ rfl))
theorem u7 {F:Nat} {gy:Int} {H0:AH} {aJ:Int} {At:Int} {R6:Int} (h:iS F gy=some (aJ,At,R6)):
 av Tryd.prog 54 [(.int .i64 gy)] H0 fun v H'=>v=(.aL [(.int .i64 aJ),(.int .i64 At),(.int .i64 R6)])∧H'=H0:=by
 refine dP xQ ia fun hcl K0 aN=> ?_
 rw [iS.eq_1] at h
 refine aC ?_
 obtain ⟨R3,bH,h⟩:=au h
 refine cy ay (qG bH ?_)
 · rintro ⟨R4,rV⟩ rfl
   try dsimp only at h
   refine aC ?_
   obtain ⟨R5,lg,h⟩:=au h
   refine cy ay (qH lg ?_)
   · rintro ⟨J6,m18⟩ rfl
     try dsimp only at h
     refine aC ?_
     obtain ⟨rfl,rfl,rfl⟩:=Nb h
     exact aN _ _ _ bT (aH hcl (bO (bO (bO bR (.int .i64 (IntKind.wrap .i64 (J6+1)))) (.int .i64 m18)) (.int .i64 rV)) bS bJ ⟨rfl,rfl⟩)
abbrev Ax:aq:=(.seq (.rg [(ai 2 (.bg (.c (.str []))))]) (.seq (.rg [(ax 3 0),(ai 4 (.bin .quo (.t 3) (.c (.int .i64 10)))),(ai 5 (.call (.c (.fn 91 [])) [(.t 4)])),(ax 6 0),(ai 7 (.bin .rem (.t 6) (.c (.int .i64 10)))),(ai 8 (.call (.c (.fn 91 [])) [(.t 7)])),(ai 9 (.bin .add (.t 5) (.t 8))),(aQ 2 9)]) .ret))
theorem Ay:bB Tryd.prog 55 10 [(.tmp 2)] (erase Ax):=⟨Tryd.f55,_,rfl,by decide,rfl,by kernel_rfl,rfl,rfl⟩
abbrev Az:List Nat:=[0,2]
def dN (gy:Int):Option ((List UInt8)):=
 (strconv_Itoa (IntKind.wrap .i64 (Int.tdiv gy 10))).bind fun r2=>
 (strconv_Itoa (Int.tmod gy 10)).bind fun r3=>(cat r2 r3).bind fun x4=>some x4
theorem eC {gy:Int} {H0:AH} {aJ:List UInt8} (h:dN gy=some aJ):
 av Tryd.prog 55 [(.int .i64 gy)] H0 fun v H'=>v=(.str aJ)∧H'=H0:=by
 refine dP Ay Az fun hcl K0 aN=> ?_
 rw [dN.eq_1] at h
 have hy1:dv .i64 gy 10=some (IntKind.wrap .i64 (Int.tdiv gy 10)):=rfl
 refine bh hy1 ?_
 obtain ⟨r2,bn,h⟩:=au h
 refine bG ay (gb (i1:=(IntKind.wrap .i64 (Int.tdiv gy 10))) bn) ?_
 refine aC ?_
 have bt:rm .i64 gy 10=some (Int.tmod gy 10):=rfl
 refine bh bt ?_
 obtain ⟨r3,bw,h⟩:=au h
 refine bG ay (gb (i1:=(Int.tmod gy 10)) bw) ?_
 refine aC ?_
 obtain ⟨x4,bH,h⟩:=au h
 refine bh bH ?_
 obtain rfl:=aD h
 exact aN _ _ _ bT (aH hcl (bO bR (.str x4)) bS bJ ⟨rfl,rfl⟩)
abbrev xR:aq:=(.seq (.rg [(ai 2 (.bg (.c (.str []))))]) (.seq (.rg [(ax 3 0),(ai 4 (.bin .quo (.t 3) (.c (.int .i64 100)))),(ai 5 (.call (.c (.fn 55 [])) [(.t 4)])),(ax 6 0),(ai 7 (.bin .rem (.t 6) (.c (.int .i64 100)))),(ai 8 (.call (.c (.fn 55 [])) [(.t 7)])),(ai 9 (.bin .add (.t 5) (.t 8))),(aQ 2 9)]) .ret))
theorem xS:bB Tryd.prog 56 10 [(.tmp 2)] (erase xR):=⟨Tryd.f56,_,rfl,by decide,rfl,by kernel_rfl,rfl,rfl⟩
abbrev xT:List Nat:=[0,2]
def iT (gy:Int):Option ((List UInt8)):=
 (dN (IntKind.wrap .i64 (Int.tdiv gy 100))).bind fun r2=>
 (dN (Int.tmod gy 100)).bind fun r3=>(cat r2 r3).bind fun x4=>some x4
theorem u9 {gy:Int} {H0:AH} {aJ:List UInt8} (h:iT gy=some aJ):
 av Tryd.prog 56 [(.int .i64 gy)] H0 fun v H'=>v=(.str aJ)∧H'=H0:=by
 refine dP xS xT fun hcl K0 aN=> ?_
 rw [iT.eq_1] at h
 have hy1:dv .i64 gy 100=some (IntKind.wrap .i64 (Int.tdiv gy 100)):=rfl
 refine bh hy1 ?_
 obtain ⟨r2,bn,h⟩:=au h
 refine bG ay (eC bn) ?_
 refine aC ?_
 have bt:rm .i64 gy 100=some (Int.tmod gy 100):=rfl
 refine bh bt ?_
 obtain ⟨r3,bw,h⟩:=au h
 refine bG ay (eC bw) ?_
 refine aC ?_
 obtain ⟨x4,bH,h⟩:=au h
 refine bh bH ?_
 obtain rfl:=aD h
 exact aN _ _ _ bT (aH hcl (bO bR (.str x4)) bS bJ ⟨rfl,rfl⟩)
abbrev xU:aq:=(.seq (.rg [(ai 2 (.bg (.c (.str []))))]) (.seq (.rg [(ax 9 0),(ai 10 (.mm true (.t 9) (.c (.int .i64 0)))),(ai 11 (.mm false (.t 10) (.c (.int .i64 253402300799)))),(aQ 0 11)]) (.seq (.rg [(ax 12 0),(ai 13 (.bin .quo (.t 12) (.c (.int .i64 86400)))),(ax 14 0),(ai 15 (.bin .rem (.t 14) (.c (.int .i64 86400)))),(aQ 3 13),(aQ 4 15)]) (.seq (.rg [(ax 17 3),(ai 18 (.call (.c (.fn 54 [])) [(.t 17)])),(ax 16 18),(ai 19 (.ext (.t 16) 0)),(ai 20 (.ext (.t 16) 1)),(ai 21 (.ext (.t 16) 2)),(aQ 5 19),(aQ 6 20),(aQ 7 21)]) (.seq (.rg [(ax 22 3),(ai 23 (.bin .rem (.t 22) (.c (.int .i64 7)))),(aQ 8 23)]) (.seq (.rg ((ax 24 8)::(ai 25 (.bin .mul (.c (.int .i64 3)) (.t 24)))::(ax 26 8)::(ai 27 (.bin .mul (.c (.int .i64 3)) (.t 26)))::(ai 28 (.bin .add (.t 27) (.c (.int .i64 3))))::(ai 29 (.AM (.c (.str [84,104,117,70,114,105,83,97,116,83,117,110,77,111,110,84,117,101,87,101,100])) (some (.t 25)) (some (.t 28))))::(ai 30 (.bin .add (.t 29) (.c (.str [44,32]))))::(ax 31 7)::(ax 35 6)::(ai 36 (.bin .mul (.c (.int .i64 3)) (.t 35)))::(ax 37 6)::(ai 38 (.bin .mul (.c (.int .i64 3)) (.t 37)))::(ai 39 (.bin .add (.t 38) (.c (.int .i64 3))))::(ai 40 (.AM (.c (.str (74::97::110::70::101::98::77::97::114::65::112::114::77::97::121::74::117::110::74::117::108::65::117::103::83::101::112::79::99::116::78::111::118::68::101::99::[]))) (some (.t 36)) (some (.t 39))))::(ax 43 5)::(ax 47 4)::(ai 48 (.bin .quo (.t 47) (.c (.int .i64 3600))))::(ax 52 4)::(ai 53 (.bin .quo (.t 52) (.c (.int .i64 60))))::(ai 54 (.bin .rem (.t 53) (.c (.int .i64 60))))::(ax 58 4)::(ai 59 (.bin .rem (.t 58) (.c (.int .i64 60))))::(ai 32 (.call (.c (.fn 55 [])) [(.t 31)]))::(ai 33 (.bin .add (.t 30) (.t 32)))::(ai 34 (.bin .add (.t 33) (.c (.str [32]))))::(ai 41 (.bin .add (.t 34) (.t 40)))::(ai 42 (.bin .add (.t 41) (.c (.str [32]))))::(ai 44 (.call (.c (.fn 56 [])) [(.t 43)]))::(ai 45 (.bin .add (.t 42) (.t 44)))::(ai 46 (.bin .add (.t 45) (.c (.str [32]))))::(ai 49 (.call (.c (.fn 55 [])) [(.t 48)]))::(ai 50 (.bin .add (.t 46) (.t 49)))::(ai 51 (.bin .add (.t 50) (.c (.str [58]))))::(ai 55 (.call (.c (.fn 55 [])) [(.t 54)]))::(ai 56 (.bin .add (.t 51) (.t 55)))::(ai 57 (.bin .add (.t 56) (.c (.str [58]))))::(ai 60 (.call (.c (.fn 55 [])) [(.t 59)]))::(ai 61 (.bin .add (.t 57) (.t 60)))::(ai 62 (.bin .add (.t 61) (.c (.str [32,43,48,48,48,48]))))::(aQ 2 62)::[])) .ret))))))
theorem xV:bB Tryd.prog 15 63 [(.tmp 2)] (erase xU):=⟨Tryd.f15,_,rfl,by decide,rfl,by kernel_rfl,rfl,rfl⟩
abbrev xW:List Nat:=[0,2,3,4,5,6,7,8]
def cH (F:Nat) (t1:Int):Option ((List UInt8)):=
 (iS F (IntKind.wrap .i64 (Int.tdiv (min (max t1 0) 253402300799) 86400))).bind fun (r2,r3,r4)=>
 (sub ([84,104,117,70,114,105,83,97,116,83,117,110,77,111,110,84,117,101,87,101,100]:List UInt8) (IntKind.wrap .i64 (3*(Int.tmod (IntKind.wrap .i64 (Int.tdiv (min (max t1 0) 253402300799) 86400)) 7))) (IntKind.wrap .i64 ((IntKind.wrap .i64 (3*(Int.tmod (IntKind.wrap .i64 (Int.tdiv (min (max t1 0) 253402300799) 86400)) 7)))+3))).bind fun x5=>
 (cat x5 ([44,32]:List UInt8)).bind fun x6=>
 (sub ((74::97::110::70::101::98::77::97::114::65::112::114::77::97::121::74::117::110::74::117::108::65::117::103::83::101::112::79::99::116::78::111::118::68::101::99::[]):List UInt8) (IntKind.wrap .i64 (3*r3)) (IntKind.wrap .i64 ((IntKind.wrap .i64 (3*r3))+3))).bind fun x7=>
 (dN r4).bind fun r8=>
 (cat x6 r8).bind fun x9=>
 (cat x9 ([32]:List UInt8)).bind fun pz=>
 (cat pz x7).bind fun mQ=>
 (cat mQ ([32]:List UInt8)).bind fun xX=>
 (iT r2).bind fun tX=>
 (cat xX tX).bind fun xY=>
 (cat xY ([32]:List UInt8)).bind fun xJ=>
 (dN (IntKind.wrap .i64 (Int.tdiv (Int.tmod (min (max t1 0) 253402300799) 86400) 3600))).bind fun r16=>
 (cat xJ r16).bind fun tY=>
 (cat tY ([58]:List UInt8)).bind fun xZ=>
 (dN (Int.tmod (IntKind.wrap .i64 (Int.tdiv (Int.tmod (min (max t1 0) 253402300799) 86400) 60)) 60)).bind fun R7=>
 (cat xZ R7).bind fun As=>
 (cat As ([58]:List UInt8)).bind fun qC=>
 (dN (Int.tmod (Int.tmod (min (max t1 0) 253402300799) 86400) 60)).bind fun R8=>
 (cat qC R8).bind fun AA=>
 (cat AA ([32,43,48,48,48,48]:List UInt8)).bind fun vb=>some vb
theorem n9 {F:Nat} {t1:Int} {H0:AH} {aJ:List UInt8} (h:cH F t1=some aJ):
 av Tryd.prog 15 [(.int .i64 t1)] H0 fun v H'=>v=(.str aJ)∧H'=H0:=by
 refine dP xV xW fun hcl K0 aN=> ?_
 rw [cH.eq_1] at h
 have hy1:dv .i64 (min (max t1 0) 253402300799) 86400=some (IntKind.wrap .i64 (Int.tdiv (min (max t1 0) 253402300799) 86400)):=rfl
 have bn:rm .i64 (min (max t1 0) 253402300799) 86400=some (Int.tmod (min (max t1 0) 253402300799) 86400):=rfl
 refine bh (aX hy1 bn) ?_
 obtain ⟨⟨r2,r3,r4⟩,bt,h⟩:=au h
 dsimp only at h
 refine bG ay (u7 bt) ?_
 refine aC ?_
 have bw:rm .i64 (IntKind.wrap .i64 (Int.tdiv (min (max t1 0) 253402300799) 86400)) 7=some (Int.tmod (IntKind.wrap .i64 (Int.tdiv (min (max t1 0) 253402300799) 86400)) 7):=rfl
 obtain ⟨x5,bH,h⟩:=au h
 obtain ⟨x6,cM,h⟩:=au h
 obtain ⟨x7,dJ,h⟩:=au h
 have ec:dv .i64 (Int.tmod (min (max t1 0) 253402300799) 86400) 3600=some (IntKind.wrap .i64 (Int.tdiv (Int.tmod (min (max t1 0) 253402300799) 86400) 3600)):=rfl
 have lg:dv .i64 (Int.tmod (min (max t1 0) 253402300799) 86400) 60=some (IntKind.wrap .i64 (Int.tdiv (Int.tmod (min (max t1 0) 253402300799) 86400) 60)):=rfl
 have fR:rm .i64 (IntKind.wrap .i64 (Int.tdiv (Int.tmod (min (max t1 0) 253402300799) 86400) 60)) 60=some (Int.tmod (IntKind.wrap .i64 (Int.tdiv (Int.tmod (min (max t1 0) 253402300799) 86400) 60)) 60):=rfl
 have gR:rm .i64 (Int.tmod (min (max t1 0) 253402300799) 86400) 60=some (Int.tmod (Int.tmod (min (max t1 0) 253402300799) 86400) 60):=rfl
 refine bh (aX bw (aX bH (aX cM (aX dJ (aX ec (aX lg (aX fR gR))))))) ?_
 obtain ⟨r8,fk,h⟩:=au h
 refine bG ay (eC fk) ?_
 refine aC ?_
 obtain ⟨x9,mV,h⟩:=au h
 obtain ⟨pz,pL,h⟩:=au h
 obtain ⟨mQ,tP,h⟩:=au h
 obtain ⟨xX,tQ,h⟩:=au h
 refine bh (aX mV (aX pL (aX tP tQ))) ?_
 obtain ⟨tX,pM,h⟩:=au h
 refine bG ay (u9 pM) ?_
 refine aC ?_
 obtain ⟨xY,rI,h⟩:=au h
 obtain ⟨xJ,pN,h⟩:=au h
 refine bh (aX rI pN) ?_
 obtain ⟨r16,tR,h⟩:=au h
 refine bG ay (eC tR) ?_
 refine aC ?_
 obtain ⟨tY,mU,h⟩:=au h
 obtain ⟨xZ,tO,h⟩:=au h
 refine bh (aX mU tO) ?_
 obtain ⟨R7,tS,h⟩:=au h
 refine bG ay (eC tS) ?_
 refine aC ?_
 obtain ⟨As,tT,h⟩:=au h
 obtain ⟨qC,tU,h⟩:=au h
 refine bh (aX tT tU) ?_
 obtain ⟨R8,tV,h⟩:=au h
 refine bG ay (eC tV) ?_
 refine aC ?_
 obtain ⟨AA,Au,h⟩:=au h
 obtain ⟨vb,J7,h⟩:=au h
 refine bh (aX Au J7) ?_
 obtain rfl:=aD h
 exact aN _ _ _ bT (aH hcl (bO bR (.str vb)) bS bJ ⟨rfl,rfl⟩)
abbrev jE:aq:=(.rg ((ax 16 1)::(ai 17 (.len (.t 16)))::(ai 18 (.bin .eql (.t 17) (.c (.int .i64 2))))::(ax 19 18)::(aF 20 (.mv (.t 1)) 19 true)::(aF 21 (.iD 2 (.t 20) (.c (.int .i64 0))) 19 true)::(aF 22 (.oh (.t 21) 1) 19 true)::(aF 23 (.ld (.t 22) none) 19 true)::(aF 24 (.bin .eql (.t 23) (.c (.str [32,49,13,10,32,109,111,114,101]))) 19 true)::(ai 25 (.pick (.t 19) (.t 24) (.c (.bool false))))::(ax 26 25)::(aF 27 (.mv (.t 2)) 26 true)::(aF 28 (.fC .bs (.t 27)) 26 true)::(aF 29 (.bin .eql (.t 28) (.c (.str [98,111,100,121,13,10]))) 26 true)::(ai 30 (.pick (.t 26) (.t 29) (.c (.bool false))))::(ax 31 30)::(aF 32 (.mv (.t 3)) 31 true)::(aF 33 (.bin .eql (.t 32) (.c (.str [50]))) 31 true)::(ai 34 (.pick (.t 31) (.t 33) (.c (.bool false))))::(ax 35 34)::(aF 36 (.mv (.t 4)) 35 true)::(aF 37 (.bin .eql (.t 36) (.c (.int .i64 1))) 35 true)::(ai 38 (.pick (.t 35) (.t 37) (.c (.bool false))))::(ax 39 38)::(aF 40 (.call (.c (.fn 15 [])) [(.c (.int .i64 951782400))]) 39 true)::(aF 41 (.bin .eql (.t 40) (.c (.str (84::117::101::44::32::50::57::32::70::101::98::32::50::48::48::48::32::48::48::58::48::48::58::48::48::32::43::48::48::48::48::[])))) 39 true)::(ai 42 (.pick (.t 39) (.t 41) (.c (.bool false))))::(ax 43 42)::(aF 44 (.call (.c (.fn 25 [])) [(.c (.str [88,45,121]))]) 43 true)::(ai 45 (.pick (.t 43) (.t 44) (.c (.bool false))))::(ax 46 45)::(aF 47 (.call (.c (.fn 25 [])) [(.c (.str [97,32,98]))]) 46 true)::(aF 48 (.un .not (.t 47)) 46 true)::(ai 49 (.pick (.t 46) (.t 48) (.c (.bool false))))::(aQ 0 49)::[]))
abbrev tZ:aq:=(.seq (.rg [(ai 0 (.bg (.c (.bool false))))]) (.seq (.rg [(ai 7 (.lit 6 [65,58,32,49,13,10,32,109,111,114,101,13,10,66,58,50,13,10,13,10,98,111,100,121])),(ai 8 (.call (.c (.fn 18 [])) [(.t 7)])),(ax 5 8),(ai 9 (.ext (.t 5) 0)),(ai 10 (.ext (.t 5) 1)),(aQ 1 9),(aQ 2 10)]) (.seq (.rg [(ax 12 1),(ai 13 (.call (.c (.fn 19 [])) [(.t 12),(.c (.str [98]))])),(ax 11 13),(ai 14 (.ext (.t 11) 0)),(ai 15 (.ext (.t 11) 1)),(aQ 3 14),(aQ 4 15)]) (.seq (.sem (erase jE)) .ret))))
theorem ua:bB Tryd.prog 14 50 [(.tmp 0)] (erase tZ):=⟨Tryd.f14,_,rfl,by decide,rfl,by kernel_rfl,rfl,rfl⟩
abbrev mX:List Nat:=[0,1,2,3,4]
def gH (F:Nat) (r1:List aB) (r2:List UInt8) (r3:List UInt8) (r4:Int):Option (Bool):=
 (if (decide ((r1.length:Int)=2)) then
  (idx r1 0).bind fun x5=>
  (if (decide (x5.value=([32,49,13,10,32,109,111,114,101]:List UInt8))) then
   (if (decide (r2=([98,111,100,121,13,10]:List UInt8))) then
    (if (decide (r3=([50]:List UInt8))) then
     (if (decide (r4=1)) then
      (cH F 951782400).bind fun r6=>
      (if (decide (r6=((84::117::101::44::32::50::57::32::70::101::98::32::50::48::48::48::32::48::48::58::48::48::58::48::48::32::43::48::48::48::48::[]):List UInt8))) then
       (fc F ([88,45,121]:List UInt8)).bind fun r7=>
       (if r7 then
        (fc F ([97,32,98]:List UInt8)).bind fun r8=>some (!r8)
       else
        some false)
      else
       some false)
     else
      some false)
    else
     some false)
   else
    some false)
  else
   some false)
 else
  some false)
def ic (F:Nat):Option (Bool):=
 (ei F ([65,58,32,49,13,10,32,109,111,114,101,13,10,66,58,50,13,10,13,10,98,111,100,121]:List UInt8)).bind fun (r1,r2)=>
 (iC F r1 ([98]:List UInt8)).bind fun (r3,r4)=>(gH F r1 r2 r3 r4).bind fun t10=>
 some t10
theorem oB {F:Nat} {r1:List aB} {r2:List UInt8} {r3:List UInt8} {r4:Int} {H:AH} {K:Exit→Env→AH→Prop} {t9:Bool}
 (h:gH F r1 r2 r3 r4=some t9)
 (kn:K .normal [(0,(.bool t9))] H):
 AX Tryd.prog mX 50 H.length (erase jE) K [(0,(.bool false)),(1,(.sl .n 2 (ml aE r1))),(2,(.sl .n 1 (ml b8 r2))),(3,(.str r3)),(4,(.int .i64 r4))] H:=by
 refine e9 fun K' hK=> ?_
 rw [gH.eq_1] at h
 refine aC ?_
 refine cX h (fun bt h=> ?_) fun bt h=> ?_
 · obtain ⟨x5,bw,h⟩:=au h
   refine bh (aX bt bw) ?_
   refine cX h (fun bH h=> ?_) fun bH h=> ?_
   · refine bh bH ?_
     refine cX h (fun cM h=> ?_) fun cM h=> ?_
     · refine bh cM ?_
       refine cX h (fun dJ h=> ?_) fun dJ h=> ?_
       · refine bh dJ ?_
         refine cX h (fun ec h=> ?_) fun ec h=> ?_
         · refine bh ec ?_
           obtain ⟨r6,lg,h⟩:=au h
           refine bG ay (n9 lg) ?_
           refine aC ?_
           refine cX h (fun fR h=> ?_) fun fR h=> ?_
           · refine bh fR ?_
             obtain ⟨r7,gR,h⟩:=au h
             refine bG ay (jT gR) ?_
             refine aC ?_
             refine cX h (fun fk h=> ?_) fun fk h=> ?_
             · refine bh fk ?_
               obtain ⟨r8,mV,h⟩:=au h
               refine bG ay (jT mV) ?_
               refine aC ?_
               obtain rfl:=aD h
               exact hK _ _ _ _ _ aU ay kn
             · refine bh fk ?_
               obtain rfl:=aD h
               exact hK _ _ _ _ _ aU ay kn
           · refine bh fR ?_
             obtain rfl:=aD h
             exact hK _ _ _ _ _ aU ay kn
         · refine bh ec ?_
           obtain rfl:=aD h
           exact hK _ _ _ _ _ aU ay kn
       · refine bh dJ ?_
         obtain rfl:=aD h
         exact hK _ _ _ _ _ aU ay kn
     · refine bh cM ?_
       obtain rfl:=aD h
       exact hK _ _ _ _ _ aU ay kn
   · refine bh bH ?_
     obtain rfl:=aD h
     exact hK _ _ _ _ _ aU ay kn
 · refine bh bt ?_
   obtain rfl:=aD h
   exact hK _ _ _ _ _ aU ay kn
theorem rW {F:Nat} {H0:AH} {aJ:Bool} (h:ic F=some aJ):
 av Tryd.prog 14 [] H0 fun v H'=>v=(.bool aJ)∧H'=H0:=by
 refine dP ua mX fun hcl K0 aN=> ?_
 rw [ic.eq_1] at h
 refine aC ?_
 obtain ⟨⟨r1,r2⟩,hy1,h⟩:=au h
 dsimp only at h
 refine bG ay (iQ hy1) ?_
 refine aC ?_
 obtain ⟨⟨r3,r4⟩,bn,h⟩:=au h
 dsimp only at h
 refine bG ay (pS bn) ?_
 refine aC ?_
 obtain ⟨t10,pL,h⟩:=au h
 refine cy ay (oB pL ?_)
 refine aC ?_
 obtain rfl:=aD h
 exact aN _ _ _ bT (aH hcl (bO bR (.bool t10)) bS bJ ⟨rfl,rfl⟩)
abbrev ya:aq:=(.seq (.rg [(ai 1 (.box (.t 0))),(ai 2 (.bg (.c (.bool false))))]) (.seq (.rg [(ai 3 (.ld (.t 1) (some 2))),(ai 4 (.build [(.str []),(.str [])] [])),(ai 5 (.seq [.s, .s] false (.t 3) (.t 4))),(aQ 2 5)]) .ret))
theorem yb:bB Tryd.prog 85 6 [(.tmp 2)] (erase ya):=⟨Tryd.f85,_,rfl,by decide,rfl,by kernel_rfl,rfl,rfl⟩
abbrev yc:List Nat:=[0,1,2]
def iU (a1:bQ):Option (Bool):=
 some (decide (a1.bL=([]:List UInt8))&&decide (a1.domain=([]:List UInt8)))
theorem oa {a1:bQ} {H0:AH} {aJ:Bool} (h:iU a1=some aJ):
 av Tryd.prog 85 [(.agg [(.str a1.bL),(.str a1.domain)])] H0 fun v H'=>v=(.bool aJ)∧H'=H0:=by
 refine uS yb yc [] (F0:=fun _=>True) trivial fun hcl K0 aN H hfr hs=> ?_
 have hle:=hfr.le
 rw [iU.eq_1] at h
 refine bk ?_
 obtain rfl:=aD h
 exact aN _ _ _ bT (bW (Fr.app hfr) hcl (bO bR (.bool (decide (a1.bL=([]:List UInt8))&&decide (a1.domain=([]:List UInt8))))) bS bJ ⟨rfl,rfl⟩)
abbrev iV:aq:=(.rg [(ax 3 0),(ai 4 (.bin .geq (.t 3) (.c (b8 32)))),(ax 5 4),(aF 6 (.mv (.t 0)) 5 true),(aF 7 (.bin .leq (.t 6) (.c (b8 126))) 5 true),(ai 8 (.pick (.t 5) (.t 7) (.c (.bool false)))),(aQ 2 8)])
abbrev rX:aq:=(.seq (.rg [(ai 2 (.bg (.c (.bool false))))]) (.seq (.sem (erase iV)) .ret))
theorem rY:bB Tryd.prog 83 9 [(.tmp 2)] (erase rX):=⟨Tryd.f83,_,rfl,by decide,rfl,by kernel_rfl,rfl,rfl⟩
abbrev lS:List Nat:=[0,2]
def jW (c1:UInt8):Option (Bool):=
 some ((decide (32≤c1))&&(decide (c1≤126)))
theorem nU {c1:UInt8} {H:AH} {K:Exit→Env→AH→Prop}
 (kn:K .normal [(2,(.bool ((decide (32≤c1))&&(decide (c1≤126)))))] H):
 AX Tryd.prog lS 9 H.length (erase iV) K [(0,(b8 c1)),(2,(.bool false))] H:=by
 refine e9 fun K' hK=> ?_
 refine aC ?_
 refine tJ (fun hy1=> ?_) fun hy1=> ?_
 · refine bh hy1 ?_
   exact hK _ _ _ _ _ (iN hy1) ay kn
 · refine bh hy1 ?_
   exact hK _ _ _ _ _ (iN hy1) ay kn
theorem qI {c1:UInt8} {H0:AH} {aJ:Bool} (h:jW c1=some aJ):
 av Tryd.prog 83 [(b8 c1)] H0 fun v H'=>v=(.bool aJ)∧H'=H0:=by
 refine dP rY lS fun hcl K0 aN=> ?_
 rw [jW.eq_1] at h
 refine aC ?_
 refine cy ay (nU (c1:=c1) ?_)
 refine aC ?_
 obtain rfl:=aD h
 exact aN _ _ _ bT (aH hcl (bO bR (.bool ((decide (32≤c1))&&(decide (c1≤126))))) bS bJ ⟨rfl,rfl⟩)
abbrev gS:aq:=(.seq (.rg [(ai 9 (.bin .lss (.t 8) (.t 7)))]) (.seq (.cond (.t 9) .skip (.exit 0)) (.seq (.blk 1 (.seq (.rg [(ax 10 8),(aQ 5 10)]) (.seq (.rg [(ax 11 1),(ax 12 0),(ax 13 5),(ai 14 (.ixs (.t 12) (.t 13))),(ai 15 (.call (.t 11) [(.t 14)])),(ai 16 (.un .not (.t 15)))]) (.cond (.t 16) (.seq (.rg [(ai 4 (.bg (.c (.bool false))))]) .ret) .skip)))) (.rg [(ai 17 (.bin .add (.t 8) (.c (.int .i64 1)))),(ax 8 17)]))))
abbrev rZ:aq:=(.seq (.rg [(ai 4 (.bg (.c (.bool false))))]) (.seq (.seq (.rg [(ax 6 0),(ai 7 (.lens (.t 6))),(ai 8 (.mv (.c (.int .i64 0))))]) (.blk 0 (.loop (erase gS)))) (.seq (.rg [(ai 4 (.bg (.c (.bool true))))]) .ret)))
theorem sg:bB Tryd.prog 82 18 [(.tmp 4)] (erase rZ):=⟨Tryd.f82,_,rfl,by decide,rfl,by kernel_rfl,rfl,rfl⟩
abbrev lT:List Nat:=[0,1,4,5,7,8,9,16]
def gj (s1:List UInt8):(Bool×Int)→Option (St Bool Unit (Bool×Int))
 |(t2,t3)=>
  (if (decide (t3<(s1.length:Int))) then
   (idx s1 t3).bind fun x4=>
   (jW x4).bind fun r5=>
   (if (!r5) then
    some (.ret false)
   else
    some (.cQ (t2,(IntKind.wrap .i64 (t3+1)))))
  else
   some (.eI ()))
def jX (F:Nat) (s1:List UInt8):Option (Bool):=
 ((iter (gj s1) F (false,0)).bind fun o8=>
 match o8 with
 | .inr ()=>
   some true
 | .inl r7=>
   some r7)
theorem nV {F:Nat} {t3:Int} {s1:List UInt8} {t2:Bool} {H:AH} {K:Exit→Env→AH→Prop} {o:(Bool)⊕(Unit)}
 (h:iter (gj s1) F (t2,t3)=some o)
 (fJ:∀o':Unit,o= .inr o'→K (.exit 0) [] H)
 (kr:∀o':Bool,o= .inl o'→K .ret [(4,(.bool o'))] H):
 AX Tryd.prog lT 18 H.length (.loop (erase gS)) K [(0,(.str s1)),(1,(.fn 83 [])),(4,(.bool t2)),(7,(.int .i64 (s1.length:Int))),(8,(.int .i64 t3))] H:=by
 refine k8 (fun s e H1=>match s with|(t2,t3)=>e=[(0,(.str s1)),(1,(.fn 83 [])),(4,(.bool t2)),(7,(.int .i64 (s1.length:Int))),(8,(.int .i64 t3))]∧H1=H) h ⟨rfl,rfl⟩ ?_
 rintro K' ⟨t2,t3⟩ st e H ⟨rfl,rfl⟩ h hN hB hR hX
 rw [gj.eq_1] at h
 refine aC ?_
 refine cB h (fun hy1 h=> ?_) fun hy1 h=> ?_
 · obtain ⟨x4,bn,h⟩:=au h
   refine bh bn ?_
   obtain ⟨r5,bt,h⟩:=au h
   refine bG ay (qI bt) ?_
   refine aC ?_
   refine cB h (fun bw h=> ?_) fun bw h=> ?_
   · refine aC ?_
     obtain rfl:=aD h
     exact hX _ _ _ _ _ eN aU ay (kr _ (hR _ rfl))
   · refine aC ?_
     obtain rfl:=aD h
     exact hN _ rfl _ _ _ _ aU ay ⟨rfl,rfl⟩
 · refine aC ?_
   obtain rfl:=aD h
   exact hX _ _ _ _ _ eN WE.nil ay (fJ _ (hB _ rfl))
theorem qJ {F:Nat} {s1:List UInt8} {H0:AH} {aJ:Bool} (h:jX F s1=some aJ):
 av Tryd.prog 82 [(.str s1),(.fn 83 [])] H0 fun v H'=>v=(.bool aJ)∧H'=H0:=by
 refine dP sg lT fun hcl K0 aN=> ?_
 rw [jX.eq_1] at h
 refine aC ?_
 obtain ⟨o8,bH,h⟩:=au h
 refine cy ay (nV bH ?_ ?_)
 · rintro ⟨⟩ rfl
   try dsimp only at h
   refine aC ?_
   obtain rfl:=aD h
   exact aN _ _ _ bT (aH hcl (bO bR (.bool true)) bS bJ ⟨rfl,rfl⟩)
 · rintro r7 rfl
   try dsimp only at h
   refine aC ?_
   obtain rfl:=aD h
   exact aN _ _ _ bT (aH hcl (bO bR (.bool r7)) bS bJ ⟨rfl,rfl⟩)
abbrev kL:aq:=(.rg [(ax 3 0),(ai 4 (.bin .neq (.t 3) (.c (.str [])))),(ax 5 4),(aF 6 (.mv (.t 0)) 5 true),(aF 7 (.lens (.t 6)) 5 true),(aF 8 (.bin .leq (.t 7) (.c (.int .i64 64))) 5 true),(ai 9 (.pick (.t 5) (.t 8) (.c (.bool false)))),(ax 10 9),(aF 11 (.mv (.t 0)) 10 true),(aF 12 (.call (.c (.fn 82 [])) [(.t 11),(.c (.fn 83 []))]) 10 true),(ai 13 (.pick (.t 10) (.t 12) (.c (.bool false)))),(aQ 2 13)])
abbrev ve:aq:=(.seq (.rg [(ai 2 (.bg (.c (.bool false))))]) (.seq (.sem (erase kL)) .ret))
theorem vf:bB Tryd.prog 39 14 [(.tmp 2)] (erase ve):=⟨Tryd.f39,_,rfl,by decide,rfl,by kernel_rfl,rfl,rfl⟩
abbrev ob:List Nat:=[0,2]
def iW (F:Nat) (s1:List UInt8):Option (Bool):=
 (if (!decide (s1=([]:List UInt8))) then
  (if (decide ((s1.length:Int)≤64)) then
   (jX F s1).bind fun r2=>some r2
  else
   some false)
 else
  some false)
def mY (F:Nat) (s1:List UInt8):Option (Bool):=
 (iW F s1).bind fun t4=>
 some t4
theorem pX {F:Nat} {s1:List UInt8} {H:AH} {K:Exit→Env→AH→Prop} {t3:Bool}
 (h:iW F s1=some t3)
 (kn:K .normal [(2,(.bool t3))] H):
 AX Tryd.prog ob 14 H.length (erase kL) K [(0,(.str s1)),(2,(.bool false))] H:=by
 refine e9 fun K' hK=> ?_
 rw [iW.eq_1] at h
 refine aC ?_
 refine cX h (fun hy1 h=> ?_) fun hy1 h=> ?_
 · refine bh hy1 ?_
   refine cX h (fun bn h=> ?_) fun bn h=> ?_
   · refine bh bn ?_
     obtain ⟨r2,bt,h⟩:=au h
     refine bG ay (qJ bt) ?_
     refine aC ?_
     obtain rfl:=aD h
     exact hK _ _ _ _ _ aU ay kn
   · refine bh bn ?_
     obtain rfl:=aD h
     exact hK _ _ _ _ _ aU ay kn
 · refine bh hy1 ?_
   obtain rfl:=aD h
   exact hK _ _ _ _ _ aU ay kn
theorem uc {F:Nat} {s1:List UInt8} {H0:AH} {aJ:Bool} (h:mY F s1=some aJ):
 av Tryd.prog 39 [(.str s1)] H0 fun v H'=>v=(.bool aJ)∧H'=H0:=by
 refine dP vf ob fun hcl K0 aN=> ?_
 rw [mY.eq_1] at h
 refine aC ?_
 obtain ⟨t4,bw,h⟩:=au h
 refine cy ay (pX bw ?_)
 refine aC ?_
 obtain rfl:=aD h
 exact aN _ _ _ bT (aH hcl (bO bR (.bool t4)) bS bJ ⟨rfl,rfl⟩)
abbrev jF:aq:=(.rg [(ax 10 4),(ai 11 (.iq false (.t 10) (.c (.v .nilIface)))),(ax 12 11),(aF 13 (.mv (.t 3)) 12 true),(aF 14 (.bin .geq (.t 13) (.c (.int .i64 0))) 12 true),(ai 15 (.pick (.t 12) (.t 14) (.c (.bool false)))),(ax 16 15),(aF 17 (.mv (.t 3)) 16 true),(aF 18 (.bin .leq (.t 17) (.c (.int .i64 255))) 16 true),(ai 19 (.pick (.t 16) (.t 18) (.c (.bool false)))),(ax 20 19),(aF 21 (.mv (.t 3)) 20 true),(aF 22 (.call (.c (.fn 91 [])) [(.t 21)]) 20 true),(aF 23 (.mv (.t 0)) 20 true),(aF 24 (.bin .eql (.t 22) (.t 23)) 20 true),(ai 25 (.pick (.t 20) (.t 24) (.c (.bool false)))),(aQ 2 25)])
abbrev ud:aq:=(.seq (.rg [(ai 2 (.bg (.c (.bool false))))]) (.seq (.rg [(ax 6 0),(ai 7 (.call (.c (.fn 116 [])) [(.t 6)])),(ax 5 7),(ai 8 (.ext (.t 5) 0)),(ai 9 (.ext (.t 5) 1)),(aQ 3 8),(aQ 4 9)]) (.seq (.sem (erase jF)) .ret)))
theorem ue:bB Tryd.prog 106 26 [(.tmp 2)] (erase ud):=⟨Tryd.f106,_,rfl,by decide,rfl,by kernel_rfl,rfl,rfl⟩
abbrev mZ:List Nat:=[0,2,3,4]
def gI (r3:Bool) (r2:Int) (s1:List UInt8):Option (Bool):=
 (if (!r3) then
  (if (decide (0≤r2)) then
   (if (decide (r2≤255)) then
    (strconv_Itoa r2).bind fun r4=>some (decide (r4=s1))
   else
    some false)
  else
   some false)
 else
  some false)
def lq (s1:List UInt8):Option (Bool):=
 (strconv_Atoi s1).bind fun (r2,r3)=>(gI r3 r2 s1).bind fun t6=>
 some t6
theorem oC {r3:Bool} {r2:Int} {s1:List UInt8} {H:AH} {K:Exit→Env→AH→Prop} {t5:Bool}
 (h:gI r3 r2 s1=some t5)
 (kn:K .normal [(2,(.bool t5))] H):
 AX Tryd.prog mZ 26 H.length (erase jF) K [(0,(.str s1)),(2,(.bool false)),(3,(.int .i64 r2)),(4,(b6 r3))] H:=by
 refine e9 fun K' hK=> ?_
 rw [gI.eq_1] at h
 refine aC ?_
 refine cX h (fun bn h=> ?_) fun bn h=> ?_
 · refine bh bn ?_
   refine cX h (fun bt h=> ?_) fun bt h=> ?_
   · refine bh bt ?_
     refine cX h (fun bw h=> ?_) fun bw h=> ?_
     · refine bh bw ?_
       obtain ⟨r4,bH,h⟩:=au h
       refine bG ay (gb (i1:=r2) bH) ?_
       refine aC ?_
       obtain rfl:=aD h
       exact hK _ _ _ _ _ aU ay kn
     · refine bh bw ?_
       obtain rfl:=aD h
       exact hK _ _ _ _ _ aU ay kn
   · refine bh bt ?_
     obtain rfl:=aD h
     exact hK _ _ _ _ _ aU ay kn
 · refine bh bn ?_
   obtain rfl:=aD h
   exact hK _ _ _ _ _ aU ay kn
theorem si {s1:List UInt8} {H0:AH} {aJ:Bool} (h:lq s1=some aJ):
 av Tryd.prog 106 [(.str s1)] H0 fun v H'=>v=(.bool aJ)∧H'=H0:=by
 refine dP ue mZ fun hcl K0 aN=> ?_
 rw [lq.eq_1] at h
 refine aC ?_
 obtain ⟨⟨r2,r3⟩,hy1,h⟩:=au h
 dsimp only at h
 refine bG ay (strconv_Atoi_ok (s1:=s1) hy1) ?_
 refine aC ?_
 obtain ⟨t6,cM,h⟩:=au h
 refine cy ay (oC cM ?_)
 refine aC ?_
 obtain rfl:=aD h
 exact aN _ _ _ bT (aH hcl (bO bR (.bool t6)) bS bJ ⟨rfl,rfl⟩)
abbrev qK:aq:=(.seq (.rg [(ai 2 (.bg (.c (.bool false))))]) (.seq (.rg [(ax 3 0),(ai 4 (.call (.c (.fn 106 [])) [(.t 3)])),(ai 5 (.un .not (.t 4))),(aQ 2 5)]) .ret))
theorem qL:bB Tryd.prog 105 6 [(.tmp 2)] (erase qK):=⟨Tryd.f105,_,rfl,by decide,rfl,by kernel_rfl,rfl,rfl⟩
abbrev qM:List Nat:=[0,2]
def iX (x1:List UInt8):Option (Bool):=
 (lq x1).bind fun r2=>some (!r2)
theorem pY {x1:List UInt8} {H0:AH} {aJ:Bool} (h:iX x1=some aJ):
 av Tryd.prog 105 [(.str x1)] H0 fun v H'=>v=(.bool aJ)∧H'=H0:=by
 refine dP qL qM fun hcl K0 aN=> ?_
 rw [iX.eq_1] at h
 refine aC ?_
 obtain ⟨r2,hy1,h⟩:=au h
 refine bG ay (si hy1) ?_
 refine aC ?_
 obtain rfl:=aD h
 exact aN _ _ _ bT (aH hcl (bO bR (.bool (!r2))) bS bJ ⟨rfl,rfl⟩)
abbrev eF:aq:=(.seq (.rg [(ai 9 (.bin .lss (.t 8) (.t 7)))]) (.seq (.cond (.t 9) .skip (.exit 0)) (.seq (.blk 1 (.seq (.rg [(ax 10 8),(aQ 5 10)]) (.seq (.rg [(ax 11 1),(ax 12 0),(ax 13 5),(ai 14 (.iD 1 (.t 12) (.t 13))),(ai 15 (.ld (.t 14) none)),(ai 16 (.call (.t 11) [(.t 15)]))]) (.cond (.t 16) (.seq (.rg [(ax 17 5),(aQ 4 17)]) .ret) .skip)))) (.rg [(ai 18 (.bin .add (.t 8) (.c (.int .i64 1)))),(ax 8 18)]))))
abbrev l7:aq:=(.seq (.rg [(ai 4 (.bg (.c (.int .i64 0))))]) (.seq (.seq (.rg [(ax 6 0),(ai 7 (.len (.t 6))),(ai 8 (.mv (.c (.int .i64 0))))]) (.blk 0 (.loop (erase eF)))) (.seq (.rg [(ai 4 (.bg (.c (.int .i64 (-1)))))]) .ret)))
theorem l8:bB Tryd.prog 109 19 [(.tmp 4)] (erase l7):=⟨Tryd.f109,_,rfl,by decide,rfl,by kernel_rfl,rfl,rfl⟩
abbrev fS:List Nat:=[0,1,4,5,7,8,9,16]
def dD (s1:List (List UInt8)):(Int×Int)→Option (St Int Unit (Int×Int))
 |(t2,t3)=>
  (if (decide (t3<(s1.length:Int))) then
   (idx s1 t3).bind fun x4=>
   (iX x4).bind fun r5=>
   (if r5 then
    some (.ret t3)
   else
    some (.cQ (t2,(IntKind.wrap .i64 (t3+1)))))
  else
   some (.eI ()))
def eJ (F:Nat) (s1:List (List UInt8)):Option (Int):=
 ((iter (dD s1) F (0,0)).bind fun o8=>
 match o8 with
 | .inr ()=>
   some (-1)
 | .inl r7=>
   some r7)
theorem jq {F:Nat} {t3:Int} {s1:List (List UInt8)} {t2:Int} {H:AH} {K:Exit→Env→AH→Prop} {o:(Int)⊕(Unit)}
 (h:iter (dD s1) F (t2,t3)=some o)
 (fJ:∀o':Unit,o= .inr o'→K (.exit 0) [] H)
 (kr:∀o':Int,o= .inl o'→K .ret [(4,(.int .i64 o'))] H):
 AX Tryd.prog fS 19 H.length (.loop (erase eF)) K [(0,(.sl .n 1 (ml AV.str s1))),(1,(.fn 105 [])),(4,(.int .i64 t2)),(7,(.int .i64 (s1.length:Int))),(8,(.int .i64 t3))] H:=by
 refine k8 (fun s e H1=>match s with|(t2,t3)=>e=[(0,(.sl .n 1 (ml AV.str s1))),(1,(.fn 105 [])),(4,(.int .i64 t2)),(7,(.int .i64 (s1.length:Int))),(8,(.int .i64 t3))]∧H1=H) h ⟨rfl,rfl⟩ ?_
 rintro K' ⟨t2,t3⟩ st e H ⟨rfl,rfl⟩ h hN hB hR hX
 rw [dD.eq_1] at h
 refine aC ?_
 refine cB h (fun hy1 h=> ?_) fun hy1 h=> ?_
 · obtain ⟨x4,bn,h⟩:=au h
   refine bh bn ?_
   obtain ⟨r5,bt,h⟩:=au h
   refine bG ay (pY bt) ?_
   refine aC ?_
   refine cB h (fun bw h=> ?_) fun bw h=> ?_
   · refine aC ?_
     obtain rfl:=aD h
     exact hX _ _ _ _ _ eN aU ay (kr _ (hR _ rfl))
   · refine aC ?_
     obtain rfl:=aD h
     exact hN _ rfl _ _ _ _ aU ay ⟨rfl,rfl⟩
 · refine aC ?_
   obtain rfl:=aD h
   exact hX _ _ _ _ _ eN WE.nil ay (fJ _ (hB _ rfl))
theorem lu {F:Nat} {s1:List (List UInt8)} {H0:AH} {aJ:Int} (h:eJ F s1=some aJ):
 av Tryd.prog 109 [(.sl .n 1 (ml AV.str s1)),(.fn 105 [])] H0 fun v H'=>v=(.int .i64 aJ)∧H'=H0:=by
 refine dP l8 fS fun hcl K0 aN=> ?_
 rw [eJ.eq_1] at h
 refine aC ?_
 obtain ⟨o8,bH,h⟩:=au h
 refine cy ay (jq bH ?_ ?_)
 · rintro ⟨⟩ rfl
   try dsimp only at h
   refine aC ?_
   obtain rfl:=aD h
   exact aN _ _ _ bT (aH hcl (bO bR (.int .i64 (-1))) bS bJ ⟨rfl,rfl⟩)
 · rintro r7 rfl
   try dsimp only at h
   refine aC ?_
   obtain rfl:=aD h
   exact aN _ _ _ bT (aH hcl (bO bR (.int .i64 r7)) bS bJ ⟨rfl,rfl⟩)
abbrev jY:aq:=(.seq (.rg [(ai 4 (.bg (.c (.bool false))))]) (.seq (.rg [(ax 5 0),(ax 6 1),(ai 7 (.call (.c (.fn 109 [])) [(.t 5),(.t 6)])),(ai 8 (.bin .geq (.t 7) (.c (.int .i64 0)))),(aQ 4 8)]) .ret))
theorem jZ:bB Tryd.prog 78 9 [(.tmp 4)] (erase jY):=⟨Tryd.f78,_,rfl,by decide,rfl,by kernel_rfl,rfl,rfl⟩
abbrev j0:List Nat:=[0,1,4]
def dF (F:Nat) (s1:List (List UInt8)):Option (Bool):=
 (eJ F s1).bind fun r2=>some (decide (0≤r2))
theorem jr {F:Nat} {s1:List (List UInt8)} {H0:AH} {aJ:Bool} (h:dF F s1=some aJ):
 av Tryd.prog 78 [(.sl .n 1 (ml AV.str s1)),(.fn 105 [])] H0 fun v H'=>v=(.bool aJ)∧H'=H0:=by
 refine dP jZ j0 fun hcl K0 aN=> ?_
 rw [dF.eq_1] at h
 refine aC ?_
 obtain ⟨r2,hy1,h⟩:=au h
 refine bG ay (lu hy1) ?_
 refine aC ?_
 obtain rfl:=aD h
 exact aN _ _ _ bT (aH hcl (bO bR (.bool (decide (0≤r2)))) bS bJ ⟨rfl,rfl⟩)
abbrev jG:aq:=(.rg [(ax 3 0),(ai 4 (.bin .or (.t 3) (.c (b8 32)))),(ai 5 (.bin .geq (.t 4) (.c (b8 97)))),(ax 6 5),(aF 7 (.mv (.t 0)) 6 true),(aF 8 (.bin .or (.t 7) (.c (b8 32))) 6 true),(aF 9 (.bin .leq (.t 8) (.c (b8 122))) 6 true),(ai 10 (.pick (.t 6) (.t 9) (.c (.bool false)))),(ax 11 10),(aF 12 (.mv (.t 0)) 11 false),(aF 13 (.bin .geq (.t 12) (.c (b8 48))) 11 false),(aF 14 (.mv (.t 13)) 11 false),(aF 15 (.mv (.t 0)) 14 true),(aF 16 (.bin .leq (.t 15) (.c (b8 57))) 14 true),(aF 17 (.pick (.t 14) (.t 16) (.c (.bool false))) 11 false),(ai 18 (.pick (.t 11) (.c (.bool true)) (.t 17))),(aQ 2 18)])
abbrev uf:aq:=(.seq (.rg [(ai 2 (.bg (.c (.bool false))))]) (.seq (.sem (erase jG)) .ret))
theorem ug:bB Tryd.prog 100 19 [(.tmp 2)] (erase uf):=⟨Tryd.f100,_,rfl,by decide,rfl,by kernel_rfl,rfl,rfl⟩
abbrev nc:List Nat:=[0,2]
def ie (c1:UInt8):Option (Bool):=
 some (((decide (97≤(c1 ||| 32)))&&(decide ((c1 ||| 32)≤122)))||((decide (48≤c1))&&(decide (c1≤57))))
theorem oD {c1:UInt8} {H:AH} {K:Exit→Env→AH→Prop}
 (kn:K .normal [(2,(.bool (((decide (97≤(c1 ||| 32)))&&(decide ((c1 ||| 32)≤122)))||((decide (48≤c1))&&(decide (c1≤57))))))] H):
 AX Tryd.prog nc 19 H.length (erase jG) K [(0,(b8 c1)),(2,(.bool false))] H:=by
 refine e9 fun K' hK=> ?_
 refine aC ?_
 refine tJ (fun hy1=> ?_) fun hy1=> ?_
 · refine bh hy1 ?_
   refine tJ (fun bn=> ?_) fun bn=> ?_
   · refine bh bn ?_
     exact hK _ _ _ _ _ (iN (aX hy1 bn)) ay kn
   · refine bh bn ?_
     refine tJ (fun bt=> ?_) fun bt=> ?_
     · refine bh bt ?_
       exact hK _ _ _ _ _ (iN (aX hy1 (aX bn bt))) ay kn
     · refine bh bt ?_
       exact hK _ _ _ _ _ (iN (aX hy1 (aX bn bt))) ay kn
 · refine bh hy1 ?_
   refine tJ (fun bw=> ?_) fun bw=> ?_
   · refine bh bw ?_
     exact hK _ _ _ _ _ (iN (aX hy1 bw)) ay kn
   · refine bh bw ?_
     exact hK _ _ _ _ _ (iN (aX hy1 bw)) ay kn
theorem lU {c1:UInt8} {H0:AH} {aJ:Bool} (h:ie c1=some aJ):
 av Tryd.prog 100 [(b8 c1)] H0 fun v H'=>v=(.bool aJ)∧H'=H0:=by
 refine dP ug nc fun hcl K0 aN=> ?_
 rw [ie.eq_1] at h
 refine aC ?_
 refine cy ay (oD (c1:=c1) ?_)
 refine aC ?_
 obtain rfl:=aD h
 exact aN _ _ _ bT (aH hcl (bO bR (.bool (((decide (97≤(c1 ||| 32)))&&(decide ((c1 ||| 32)≤122)))||((decide (48≤c1))&&(decide (c1≤57)))))) bS bJ ⟨rfl,rfl⟩)
abbrev iY:aq:=(.rg [(ax 3 0),(ai 4 (.call (.c (.fn 100 [])) [(.t 3)])),(ax 5 4),(aF 6 (.mv (.t 0)) 5 false),(aF 7 (.bin .eql (.t 6) (.c (b8 45))) 5 false),(ai 8 (.pick (.t 5) (.c (.bool true)) (.t 7))),(aQ 2 8)])
abbrev sj:aq:=(.seq (.rg [(ai 2 (.bg (.c (.bool false))))]) (.seq (.sem (erase iY)) .ret))
theorem sn:bB Tryd.prog 117 9 [(.tmp 2)] (erase sj):=⟨Tryd.f117,_,rfl,by decide,rfl,by kernel_rfl,rfl,rfl⟩
abbrev lV:List Nat:=[0,2]
def gl (c1:UInt8):Option (Bool):=
 (ie c1).bind fun r2=>(if r2 then
  some true
 else
  some (decide (c1=45)))
def j3 (c1:UInt8):Option (Bool):=
 (gl c1).bind fun t4=>
 some t4
theorem nW {c1:UInt8} {H:AH} {K:Exit→Env→AH→Prop} {t3:Bool}
 (h:gl c1=some t3)
 (kn:K .normal [(2,(.bool t3))] H):
 AX Tryd.prog lV 9 H.length (erase iY) K [(0,(b8 c1)),(2,(.bool false))] H:=by
 refine e9 fun K' hK=> ?_
 rw [gl.eq_1] at h
 refine aC ?_
 obtain ⟨r2,hy1,h⟩:=au h
 refine bG ay (lU hy1) ?_
 refine aC ?_
 refine cX h (fun bn h=> ?_) fun bn h=> ?_
 · refine bh bn ?_
   obtain rfl:=aD h
   exact hK _ _ _ _ _ aU ay kn
 · refine bh bn ?_
   obtain rfl:=aD h
   exact hK _ _ _ _ _ aU ay kn
theorem qN {c1:UInt8} {H0:AH} {aJ:Bool} (h:j3 c1=some aJ):
 av Tryd.prog 117 [(b8 c1)] H0 fun v H'=>v=(.bool aJ)∧H'=H0:=by
 refine dP sn lV fun hcl K0 aN=> ?_
 rw [j3.eq_1] at h
 refine aC ?_
 obtain ⟨t4,bt,h⟩:=au h
 refine cy ay (nW bt ?_)
 refine aC ?_
 obtain rfl:=aD h
 exact aN _ _ _ bT (aH hcl (bO bR (.bool t4)) bS bJ ⟨rfl,rfl⟩)
abbrev gA:aq:=(.seq (.rg [(ai 9 (.bin .lss (.t 8) (.t 7)))]) (.seq (.cond (.t 9) .skip (.exit 0)) (.seq (.blk 1 (.seq (.rg [(ax 10 8),(aQ 5 10)]) (.seq (.rg [(ax 11 1),(ax 12 0),(ax 13 5),(ai 14 (.ixs (.t 12) (.t 13))),(ai 15 (.call (.t 11) [(.t 14)])),(ai 16 (.un .not (.t 15)))]) (.cond (.t 16) (.seq (.rg [(ai 4 (.bg (.c (.bool false))))]) .ret) .skip)))) (.rg [(ai 17 (.bin .add (.t 8) (.c (.int .i64 1)))),(ax 8 17)]))))
abbrev qO:aq:=(.seq (.rg [(ai 4 (.bg (.c (.bool false))))]) (.seq (.seq (.rg [(ax 6 0),(ai 7 (.lens (.t 6))),(ai 8 (.mv (.c (.int .i64 0))))]) (.blk 0 (.loop (erase gA)))) (.seq (.rg [(ai 4 (.bg (.c (.bool true))))]) .ret)))
theorem qP:bB Tryd.prog 82 18 [(.tmp 4)] (erase qO):=⟨Tryd.f82,_,rfl,by decide,rfl,by kernel_rfl,rfl,rfl⟩
abbrev kM:List Nat:=[0,1,4,5,7,8,9,16]
def fK (s1:List UInt8):(Bool×Int)→Option (St Bool Unit (Bool×Int))
 |(t2,t3)=>
  (if (decide (t3<(s1.length:Int))) then
   (idx s1 t3).bind fun x4=>
   (j3 x4).bind fun r5=>
   (if (!r5) then
    some (.ret false)
   else
    some (.cQ (t2,(IntKind.wrap .i64 (t3+1)))))
  else
   some (.eI ()))
def iZ (F:Nat) (s1:List UInt8):Option (Bool):=
 ((iter (fK s1) F (false,0)).bind fun o8=>
 match o8 with
 | .inr ()=>
   some true
 | .inl r7=>
   some r7)
theorem ng {F:Nat} {t3:Int} {s1:List UInt8} {t2:Bool} {H:AH} {K:Exit→Env→AH→Prop} {o:(Bool)⊕(Unit)}
 (h:iter (fK s1) F (t2,t3)=some o)
 (fJ:∀o':Unit,o= .inr o'→K (.exit 0) [] H)
 (kr:∀o':Bool,o= .inl o'→K .ret [(4,(.bool o'))] H):
 AX Tryd.prog kM 18 H.length (.loop (erase gA)) K [(0,(.str s1)),(1,(.fn 117 [])),(4,(.bool t2)),(7,(.int .i64 (s1.length:Int))),(8,(.int .i64 t3))] H:=by
 refine k8 (fun s e H1=>match s with|(t2,t3)=>e=[(0,(.str s1)),(1,(.fn 117 [])),(4,(.bool t2)),(7,(.int .i64 (s1.length:Int))),(8,(.int .i64 t3))]∧H1=H) h ⟨rfl,rfl⟩ ?_
 rintro K' ⟨t2,t3⟩ st e H ⟨rfl,rfl⟩ h hN hB hR hX
 rw [fK.eq_1] at h
 refine aC ?_
 refine cB h (fun hy1 h=> ?_) fun hy1 h=> ?_
 · obtain ⟨x4,bn,h⟩:=au h
   refine bh bn ?_
   obtain ⟨r5,bt,h⟩:=au h
   refine bG ay (qN bt) ?_
   refine aC ?_
   refine cB h (fun bw h=> ?_) fun bw h=> ?_
   · refine aC ?_
     obtain rfl:=aD h
     exact hX _ _ _ _ _ eN aU ay (kr _ (hR _ rfl))
   · refine aC ?_
     obtain rfl:=aD h
     exact hN _ rfl _ _ _ _ aU ay ⟨rfl,rfl⟩
 · refine aC ?_
   obtain rfl:=aD h
   exact hX _ _ _ _ _ eN WE.nil ay (fJ _ (hB _ rfl))
theorem pZ {F:Nat} {s1:List UInt8} {H0:AH} {aJ:Bool} (h:iZ F s1=some aJ):
 av Tryd.prog 82 [(.str s1),(.fn 117 [])] H0 fun v H'=>v=(.bool aJ)∧H'=H0:=by
 refine dP qP kM fun hcl K0 aN=> ?_
 rw [iZ.eq_1] at h
 refine aC ?_
 obtain ⟨o8,bH,h⟩:=au h
 refine cy ay (ng bH ?_ ?_)
 · rintro ⟨⟩ rfl
   try dsimp only at h
   refine aC ?_
   obtain rfl:=aD h
   exact aN _ _ _ bT (aH hcl (bO bR (.bool true)) bS bJ ⟨rfl,rfl⟩)
 · rintro r7 rfl
   try dsimp only at h
   refine aC ?_
   obtain rfl:=aD h
   exact aN _ _ _ bT (aH hcl (bO bR (.bool r7)) bS bJ ⟨rfl,rfl⟩)
abbrev kN:aq:=(.rg [(ax 3 0),(ai 4 (.bin .neq (.t 3) (.c (.str [])))),(ax 5 4),(aF 6 (.mv (.t 0)) 5 true),(aF 7 (.ixs (.t 6) (.c (.int .i64 0))) 5 true),(aF 8 (.bin .neq (.t 7) (.c (b8 45))) 5 true),(ai 9 (.pick (.t 5) (.t 8) (.c (.bool false)))),(ax 10 9),(aF 11 (.mv (.t 0)) 10 true),(aF 12 (.mv (.t 0)) 10 true),(aF 13 (.lens (.t 12)) 10 true),(aF 14 (.bin .sub (.t 13) (.c (.int .i64 1))) 10 true),(aF 15 (.ixs (.t 11) (.t 14)) 10 true),(aF 16 (.bin .neq (.t 15) (.c (b8 45))) 10 true),(ai 17 (.pick (.t 10) (.t 16) (.c (.bool false)))),(ax 18 17),(aF 19 (.mv (.t 0)) 18 true),(aF 20 (.call (.c (.fn 82 [])) [(.t 19),(.c (.fn 117 []))]) 18 true),(ai 21 (.pick (.t 18) (.t 20) (.c (.bool false)))),(aQ 2 21)])
abbrev vg:aq:=(.seq (.rg [(ai 2 (.bg (.c (.bool false))))]) (.seq (.sem (erase kN)) .ret))
theorem vh:bB Tryd.prog 108 22 [(.tmp 2)] (erase vg):=⟨Tryd.f108,_,rfl,by decide,rfl,by kernel_rfl,rfl,rfl⟩
abbrev oc:List Nat:=[0,2]
def ja (F:Nat) (s1:List UInt8):Option (Bool):=
 (if (!decide (s1=([]:List UInt8))) then
  (idx s1 0).bind fun x2=>
  (if (!decide (x2=45)) then
   (idx s1 (IntKind.wrap .i64 ((s1.length:Int) - 1))).bind fun x3=>
   (if (!decide (x3=45)) then
    (iZ F s1).bind fun r4=>some r4
   else
    some false)
  else
   some false)
 else
  some false)
def nh (F:Nat) (s1:List UInt8):Option (Bool):=
 (ja F s1).bind fun t6=>
 some t6
theorem p6 {F:Nat} {s1:List UInt8} {H:AH} {K:Exit→Env→AH→Prop} {t5:Bool}
 (h:ja F s1=some t5)
 (kn:K .normal [(2,(.bool t5))] H):
 AX Tryd.prog oc 22 H.length (erase kN) K [(0,(.str s1)),(2,(.bool false))] H:=by
 refine e9 fun K' hK=> ?_
 rw [ja.eq_1] at h
 refine aC ?_
 refine cX h (fun hy1 h=> ?_) fun hy1 h=> ?_
 · obtain ⟨x2,bn,h⟩:=au h
   refine bh (aX hy1 bn) ?_
   refine cX h (fun bt h=> ?_) fun bt h=> ?_
   · obtain ⟨x3,bw,h⟩:=au h
     refine bh (aX bt bw) ?_
     refine cX h (fun bH h=> ?_) fun bH h=> ?_
     · refine bh bH ?_
       obtain ⟨r4,cM,h⟩:=au h
       refine bG ay (pZ cM) ?_
       refine aC ?_
       obtain rfl:=aD h
       exact hK _ _ _ _ _ aU ay kn
     · refine bh bH ?_
       obtain rfl:=aD h
       exact hK _ _ _ _ _ aU ay kn
   · refine bh bt ?_
     obtain rfl:=aD h
     exact hK _ _ _ _ _ aU ay kn
 · refine bh hy1 ?_
   obtain rfl:=aD h
   exact hK _ _ _ _ _ aU ay kn
theorem uh {F:Nat} {s1:List UInt8} {H0:AH} {aJ:Bool} (h:nh F s1=some aJ):
 av Tryd.prog 108 [(.str s1)] H0 fun v H'=>v=(.bool aJ)∧H'=H0:=by
 refine dP vh oc fun hcl K0 aN=> ?_
 rw [nh.eq_1] at h
 refine aC ?_
 obtain ⟨t6,dJ,h⟩:=au h
 refine cy ay (p6 dJ ?_)
 refine aC ?_
 obtain rfl:=aD h
 exact aN _ _ _ bT (aH hcl (bO bR (.bool t6)) bS bJ ⟨rfl,rfl⟩)
abbrev qQ:aq:=(.seq (.rg [(ai 2 (.bg (.c (.bool false))))]) (.seq (.rg [(ax 3 0),(ai 4 (.call (.c (.fn 108 [])) [(.t 3)])),(ai 5 (.un .not (.t 4))),(aQ 2 5)]) .ret))
theorem qR:bB Tryd.prog 107 6 [(.tmp 2)] (erase qQ):=⟨Tryd.f107,_,rfl,by decide,rfl,by kernel_rfl,rfl,rfl⟩
abbrev qS:List Nat:=[0,2]
def jb (F:Nat) (x1:List UInt8):Option (Bool):=
 (nh F x1).bind fun r2=>some (!r2)
theorem p7 {F:Nat} {x1:List UInt8} {H0:AH} {aJ:Bool} (h:jb F x1=some aJ):
 av Tryd.prog 107 [(.str x1)] H0 fun v H'=>v=(.bool aJ)∧H'=H0:=by
 refine dP qR qS fun hcl K0 aN=> ?_
 rw [jb.eq_1] at h
 refine aC ?_
 obtain ⟨r2,hy1,h⟩:=au h
 refine bG ay (uh hy1) ?_
 refine aC ?_
 obtain rfl:=aD h
 exact aN _ _ _ bT (aH hcl (bO bR (.bool (!r2))) bS bJ ⟨rfl,rfl⟩)
abbrev ek:aq:=(.seq (.rg [(ai 9 (.bin .lss (.t 8) (.t 7)))]) (.seq (.cond (.t 9) .skip (.exit 0)) (.seq (.blk 1 (.seq (.rg [(ax 10 8),(aQ 5 10)]) (.seq (.rg [(ax 11 1),(ax 12 0),(ax 13 5),(ai 14 (.iD 1 (.t 12) (.t 13))),(ai 15 (.ld (.t 14) none)),(ai 16 (.call (.t 11) [(.t 15)]))]) (.cond (.t 16) (.seq (.rg [(ax 17 5),(aQ 4 17)]) .ret) .skip)))) (.rg [(ai 18 (.bin .add (.t 8) (.c (.int .i64 1)))),(ax 8 18)]))))
abbrev lz:aq:=(.seq (.rg [(ai 4 (.bg (.c (.int .i64 0))))]) (.seq (.seq (.rg [(ax 6 0),(ai 7 (.len (.t 6))),(ai 8 (.mv (.c (.int .i64 0))))]) (.blk 0 (.loop (erase ek)))) (.seq (.rg [(ai 4 (.bg (.c (.int .i64 (-1)))))]) .ret)))
theorem lA:bB Tryd.prog 109 19 [(.tmp 4)] (erase lz):=⟨Tryd.f109,_,rfl,by decide,rfl,by kernel_rfl,rfl,rfl⟩
abbrev fL:List Nat:=[0,1,4,5,7,8,9,16]
def di (F:Nat) (s1:List (List UInt8)):(Int×Int)→Option (St Int Unit (Int×Int))
 |(t2,t3)=>
  (if (decide (t3<(s1.length:Int))) then
   (idx s1 t3).bind fun x4=>
   (jb F x4).bind fun r5=>
   (if r5 then
    some (.ret t3)
   else
    some (.cQ (t2,(IntKind.wrap .i64 (t3+1)))))
  else
   some (.eI ()))
def eo (F:Nat) (s1:List (List UInt8)):Option (Int):=
 ((iter (di F s1) F (0,0)).bind fun o8=>
 match o8 with
 | .inr ()=>
   some (-1)
 | .inl r7=>
   some r7)
theorem jc {F:Nat} {t3:Int} {s1:List (List UInt8)} {t2:Int} {H:AH} {K:Exit→Env→AH→Prop} {o:(Int)⊕(Unit)}
 (h:iter (di F s1) F (t2,t3)=some o)
 (fJ:∀o':Unit,o= .inr o'→K (.exit 0) [] H)
 (kr:∀o':Int,o= .inl o'→K .ret [(4,(.int .i64 o'))] H):
 AX Tryd.prog fL 19 H.length (.loop (erase ek)) K [(0,(.sl .n 1 (ml AV.str s1))),(1,(.fn 107 [])),(4,(.int .i64 t2)),(7,(.int .i64 (s1.length:Int))),(8,(.int .i64 t3))] H:=by
 refine k8 (fun s e H1=>match s with|(t2,t3)=>e=[(0,(.sl .n 1 (ml AV.str s1))),(1,(.fn 107 [])),(4,(.int .i64 t2)),(7,(.int .i64 (s1.length:Int))),(8,(.int .i64 t3))]∧H1=H) h ⟨rfl,rfl⟩ ?_
 rintro K' ⟨t2,t3⟩ st e H ⟨rfl,rfl⟩ h hN hB hR hX
 rw [di.eq_1] at h
 refine aC ?_
 refine cB h (fun hy1 h=> ?_) fun hy1 h=> ?_
 · obtain ⟨x4,bn,h⟩:=au h
   refine bh bn ?_
   obtain ⟨r5,bt,h⟩:=au h
   refine bG ay (p7 bt) ?_
   refine aC ?_
   refine cB h (fun bw h=> ?_) fun bw h=> ?_
   · refine aC ?_
     obtain rfl:=aD h
     exact hX _ _ _ _ _ eN aU ay (kr _ (hR _ rfl))
   · refine aC ?_
     obtain rfl:=aD h
     exact hN _ rfl _ _ _ _ aU ay ⟨rfl,rfl⟩
 · refine aC ?_
   obtain rfl:=aD h
   exact hX _ _ _ _ _ eN WE.nil ay (fJ _ (hB _ rfl))
theorem kO {F:Nat} {s1:List (List UInt8)} {H0:AH} {aJ:Int} (h:eo F s1=some aJ):
 av Tryd.prog 109 [(.sl .n 1 (ml AV.str s1)),(.fn 107 [])] H0 fun v H'=>v=(.int .i64 aJ)∧H'=H0:=by
 refine dP lA fL fun hcl K0 aN=> ?_
 rw [eo.eq_1] at h
 refine aC ?_
 obtain ⟨o8,bH,h⟩:=au h
 refine cy ay (jc bH ?_ ?_)
 · rintro ⟨⟩ rfl
   try dsimp only at h
   refine aC ?_
   obtain rfl:=aD h
   exact aN _ _ _ bT (aH hcl (bO bR (.int .i64 (-1))) bS bJ ⟨rfl,rfl⟩)
 · rintro r7 rfl
   try dsimp only at h
   refine aC ?_
   obtain rfl:=aD h
   exact aN _ _ _ bT (aH hcl (bO bR (.int .i64 r7)) bS bJ ⟨rfl,rfl⟩)
abbrev js:aq:=(.seq (.rg [(ai 4 (.bg (.c (.bool false))))]) (.seq (.rg [(ax 5 0),(ax 6 1),(ai 7 (.call (.c (.fn 109 [])) [(.t 5),(.t 6)])),(ai 8 (.bin .geq (.t 7) (.c (.int .i64 0)))),(aQ 4 8)]) .ret))
theorem jt:bB Tryd.prog 78 9 [(.tmp 4)] (erase js):=⟨Tryd.f78,_,rfl,by decide,rfl,by kernel_rfl,rfl,rfl⟩
abbrev ju:List Nat:=[0,1,4]
def dj (F:Nat) (s1:List (List UInt8)):Option (Bool):=
 (eo F s1).bind fun r2=>some (decide (0≤r2))
theorem jd {F:Nat} {s1:List (List UInt8)} {H0:AH} {aJ:Bool} (h:dj F s1=some aJ):
 av Tryd.prog 78 [(.sl .n 1 (ml AV.str s1)),(.fn 107 [])] H0 fun v H'=>v=(.bool aJ)∧H'=H0:=by
 refine dP jt ju fun hcl K0 aN=> ?_
 rw [dj.eq_1] at h
 refine aC ?_
 obtain ⟨r2,hy1,h⟩:=au h
 refine bG ay (kO hy1) ?_
 refine aC ?_
 obtain rfl:=aD h
 exact aN _ _ _ bT (aH hcl (bO bR (.bool (decide (0≤r2)))) bS bJ ⟨rfl,rfl⟩)
abbrev jH:aq:=(.rg [(ax 4 0),(ai 5 (.lens (.t 4))),(ai 6 (.bin .gtr (.t 5) (.c (.int .i64 1)))),(ax 7 6),(aF 8 (.mv (.t 0)) 7 true),(aF 9 (.ixs (.t 8) (.c (.int .i64 0))) 7 true),(aF 10 (.bin .eql (.t 9) (.c (b8 91))) 7 true),(ai 11 (.pick (.t 7) (.t 10) (.c (.bool false)))),(ax 12 11),(aF 13 (.mv (.t 0)) 12 true),(aF 14 (.mv (.t 0)) 12 true),(aF 15 (.lens (.t 14)) 12 true),(aF 16 (.bin .sub (.t 15) (.c (.int .i64 1))) 12 true),(aF 17 (.ixs (.t 13) (.t 16)) 12 true),(aF 18 (.bin .eql (.t 17) (.c (b8 93))) 12 true),(ai 19 (.pick (.t 12) (.t 18) (.c (.bool false))))])
abbrev jI:aq:=(.rg [(ax 26 3),(ai 27 (.len (.t 26))),(ai 28 (.bin .eql (.t 27) (.c (.int .i64 4)))),(ax 29 28),(aF 30 (.mv (.t 3)) 29 true),(aF 31 (.call (.c (.fn 78 [])) [(.t 30),(.c (.fn 105 []))]) 29 true),(aF 32 (.un .not (.t 31)) 29 true),(ai 33 (.pick (.t 29) (.t 32) (.c (.bool false)))),(aQ 2 33)])
abbrev uj:aq:=(.seq (.rg [(ai 2 (.bg (.c (.bool false))))]) (.seq (.seq (.sem (erase jH)) (.cond (.t 19) (.seq (.rg [(ax 20 0),(ax 21 0),(ai 22 (.lens (.t 21))),(ai 23 (.bin .sub (.t 22) (.c (.int .i64 1)))),(ai 24 (.AM (.t 20) (some (.c (.int .i64 1))) (some (.t 23)))),(ai 25 (.call (.c (.fn 79 [])) [(.t 24),(.c (.str [46]))])),(aQ 3 25)]) (.seq (.sem (erase jI)) .ret)) .skip)) (.seq (.rg [(ax 34 0),(ai 35 (.call (.c (.fn 79 [])) [(.t 34),(.c (.str [46]))])),(ai 36 (.call (.c (.fn 78 [])) [(.t 35),(.c (.fn 107 []))])),(ai 37 (.un .not (.t 36))),(aQ 2 37)]) .ret)))
theorem uk:bB Tryd.prog 77 38 [(.tmp 2)] (erase uj):=⟨Tryd.f77,_,rfl,by decide,rfl,by kernel_rfl,rfl,rfl⟩
abbrev je:List Nat:=[0,2,3,19]
def gJ (s1:List UInt8):Option (Bool):=
 (if (decide (1<(s1.length:Int))) then
  (idx s1 0).bind fun x2=>
  (if (decide (x2=91)) then
   (idx s1 (IntKind.wrap .i64 ((s1.length:Int) - 1))).bind fun x3=>some (decide (x3=93))
  else
   some false)
 else
  some false)
def gK (F:Nat) (r7:List (List UInt8)):Option (Bool):=
 (if (decide ((r7.length:Int)=4)) then
  (dF F r7).bind fun r8=>some (!r8)
 else
  some false)
def lB (F:Nat) (s1:List UInt8):Option (Bool):=
 (gJ s1).bind fun t5=>
 (if t5 then
  (sub s1 1 (IntKind.wrap .i64 ((s1.length:Int) - 1))).bind fun x6=>
  (strings_Split x6 ([46]:List UInt8)).bind fun r7=>(gK F r7).bind fun t10=>
  some t10
 else
  (strings_Split s1 ([46]:List UInt8)).bind fun nT=>(dj F nT).bind fun nS=>some (!nS))
theorem oE {s1:List UInt8} {H:AH} {K:Exit→Env→AH→Prop} {t4:Bool}
 (h:gJ s1=some t4)
 (kn:K .normal [(0,(.str s1)),(19,(.bool t4))] H):
 AX Tryd.prog je 38 H.length (erase jH) K [(0,(.str s1))] H:=by
 refine e9 fun K' hK=> ?_
 rw [gJ.eq_1] at h
 refine aC ?_
 refine cX h (fun hy1 h=> ?_) fun hy1 h=> ?_
 · obtain ⟨x2,bn,h⟩:=au h
   refine bh (aX hy1 bn) ?_
   refine cX h (fun bt h=> ?_) fun bt h=> ?_
   · obtain ⟨x3,bw,h⟩:=au h
     refine bh (aX bt bw) ?_
     obtain rfl:=aD h
     exact hK _ _ _ _ _ aU ay kn
   · refine bh bt ?_
     obtain rfl:=aD h
     exact hK _ _ _ _ _ aU ay kn
 · refine bh hy1 ?_
   obtain rfl:=aD h
   exact hK _ _ _ _ _ aU ay kn
theorem oF {F:Nat} {r7:List (List UInt8)} {H:AH} {K:Exit→Env→AH→Prop} {t9:Bool}
 (h:gK F r7=some t9)
 (kn:K .normal [(2,(.bool t9))] H):
 AX Tryd.prog je 38 H.length (erase jI) K [(3,(.sl .n 1 (ml AV.str r7)))] H:=by
 refine e9 fun K' hK=> ?_
 rw [gK.eq_1] at h
 refine aC ?_
 refine cX h (fun lg h=> ?_) fun lg h=> ?_
 · refine bh lg ?_
   obtain ⟨r8,fR,h⟩:=au h
   refine bG ay (jr fR) ?_
   refine aC ?_
   obtain rfl:=aD h
   exact hK _ _ _ _ _ aU ay kn
 · refine bh lg ?_
   obtain rfl:=aD h
   exact hK _ _ _ _ _ aU ay kn
theorem so {F:Nat} {s1:List UInt8} {H0:AH} {aJ:Bool} (h:lB F s1=some aJ):
 av Tryd.prog 77 [(.str s1)] H0 fun v H'=>v=(.bool aJ)∧H'=H0:=by
 refine dP uk je fun hcl K0 aN=> ?_
 rw [lB.eq_1] at h
 refine aC ?_
 obtain ⟨t5,bH,h⟩:=au h
 refine cy ay (oE bH ?_)
 refine aC ?_
 refine cB h (fun cM h=> ?_) fun cM h=> ?_
 · obtain ⟨x6,dJ,h⟩:=au h
   refine bh dJ ?_
   obtain ⟨r7,ec,h⟩:=au h
   refine bG ay (dR (s1:=x6) (s2:=([46]:List UInt8)) ec) ?_
   refine aC ?_
   obtain ⟨t10,gR,h⟩:=au h
   refine cy ay (oF gR ?_)
   refine aC ?_
   obtain rfl:=aD h
   exact aN _ _ _ bT (aH hcl (bO bR (.bool t10)) bS bJ ⟨rfl,rfl⟩)
 · refine aC ?_
   obtain ⟨nT,fk,h⟩:=au h
   refine bG ay (dR (s1:=s1) (s2:=([46]:List UInt8)) fk) ?_
   refine aC ?_
   obtain ⟨nS,mV,h⟩:=au h
   refine bG ay (jd mV) ?_
   refine aC ?_
   obtain rfl:=aD h
   exact aN _ _ _ bT (aH hcl (bO bR (.bool (!nS))) bS bJ ⟨rfl,rfl⟩)
abbrev qT:aq:=(.seq (.rg [(ai 2 (.bg (.c (.bool false))))]) (.seq (.rg [(ax 3 0),(ai 4 (.lens (.t 3))),(ai 5 (.bin .gtr (.t 4) (.c (.int .i64 63)))),(aQ 2 5)]) .ret))
theorem qU:bB Tryd.prog 76 6 [(.tmp 2)] (erase qT):=⟨Tryd.f76,_,rfl,by decide,rfl,by kernel_rfl,rfl,rfl⟩
abbrev qV:List Nat:=[0,2]
def jf (x1:List UInt8):Option (Bool):=
 some (decide (63<(x1.length:Int)))
theorem p8 {x1:List UInt8} {H0:AH} {aJ:Bool} (h:jf x1=some aJ):
 av Tryd.prog 76 [(.str x1)] H0 fun v H'=>v=(.bool aJ)∧H'=H0:=by
 refine dP qU qV fun hcl K0 aN=> ?_
 rw [jf.eq_1] at h
 refine aC ?_
 obtain rfl:=aD h
 exact aN _ _ _ bT (aH hcl (bO bR (.bool (decide (63<(x1.length:Int))))) bS bJ ⟨rfl,rfl⟩)
abbrev dS:aq:=(.seq (.rg [(ai 9 (.bin .lss (.t 8) (.t 7)))]) (.seq (.cond (.t 9) .skip (.exit 0)) (.seq (.blk 1 (.seq (.rg [(ax 10 8),(aQ 5 10)]) (.seq (.rg [(ax 11 1),(ax 12 0),(ax 13 5),(ai 14 (.iD 1 (.t 12) (.t 13))),(ai 15 (.ld (.t 14) none)),(ai 16 (.call (.t 11) [(.t 15)]))]) (.cond (.t 16) (.seq (.rg [(ax 17 5),(aQ 4 17)]) .ret) .skip)))) (.rg [(ai 18 (.bin .add (.t 8) (.c (.int .i64 1)))),(ax 8 18)]))))
abbrev kP:aq:=(.seq (.rg [(ai 4 (.bg (.c (.int .i64 0))))]) (.seq (.seq (.rg [(ax 6 0),(ai 7 (.len (.t 6))),(ai 8 (.mv (.c (.int .i64 0))))]) (.blk 0 (.loop (erase dS)))) (.seq (.rg [(ai 4 (.bg (.c (.int .i64 (-1)))))]) .ret)))
theorem kQ:bB Tryd.prog 109 19 [(.tmp 4)] (erase kP):=⟨Tryd.f109,_,rfl,by decide,rfl,by kernel_rfl,rfl,rfl⟩
abbrev fo:List Nat:=[0,1,4,5,7,8,9,16]
def cV (s1:List (List UInt8)):(Int×Int)→Option (St Int Unit (Int×Int))
 |(t2,t3)=>
  (if (decide (t3<(s1.length:Int))) then
   (idx s1 t3).bind fun x4=>
   (jf x4).bind fun r5=>
   (if r5 then
    some (.ret t3)
   else
    some (.cQ (t2,(IntKind.wrap .i64 (t3+1)))))
  else
   some (.eI ()))
def dQ (F:Nat) (s1:List (List UInt8)):Option (Int):=
 ((iter (cV s1) F (0,0)).bind fun o8=>
 match o8 with
 | .inr ()=>
   some (-1)
 | .inl r7=>
   some r7)
theorem ig {F:Nat} {t3:Int} {s1:List (List UInt8)} {t2:Int} {H:AH} {K:Exit→Env→AH→Prop} {o:(Int)⊕(Unit)}
 (h:iter (cV s1) F (t2,t3)=some o)
 (fJ:∀o':Unit,o= .inr o'→K (.exit 0) [] H)
 (kr:∀o':Int,o= .inl o'→K .ret [(4,(.int .i64 o'))] H):
 AX Tryd.prog fo 19 H.length (.loop (erase dS)) K [(0,(.sl .n 1 (ml AV.str s1))),(1,(.fn 76 [])),(4,(.int .i64 t2)),(7,(.int .i64 (s1.length:Int))),(8,(.int .i64 t3))] H:=by
 refine k8 (fun s e H1=>match s with|(t2,t3)=>e=[(0,(.sl .n 1 (ml AV.str s1))),(1,(.fn 76 [])),(4,(.int .i64 t2)),(7,(.int .i64 (s1.length:Int))),(8,(.int .i64 t3))]∧H1=H) h ⟨rfl,rfl⟩ ?_
 rintro K' ⟨t2,t3⟩ st e H ⟨rfl,rfl⟩ h hN hB hR hX
 rw [cV.eq_1] at h
 refine aC ?_
 refine cB h (fun hy1 h=> ?_) fun hy1 h=> ?_
 · obtain ⟨x4,bn,h⟩:=au h
   refine bh bn ?_
   obtain ⟨r5,bt,h⟩:=au h
   refine bG ay (p8 bt) ?_
   refine aC ?_
   refine cB h (fun bw h=> ?_) fun bw h=> ?_
   · refine aC ?_
     obtain rfl:=aD h
     exact hX _ _ _ _ _ eN aU ay (kr _ (hR _ rfl))
   · refine aC ?_
     obtain rfl:=aD h
     exact hN _ rfl _ _ _ _ aU ay ⟨rfl,rfl⟩
 · refine aC ?_
   obtain rfl:=aD h
   exact hX _ _ _ _ _ eN WE.nil ay (fJ _ (hB _ rfl))
theorem j4 {F:Nat} {s1:List (List UInt8)} {H0:AH} {aJ:Int} (h:dQ F s1=some aJ):
 av Tryd.prog 109 [(.sl .n 1 (ml AV.str s1)),(.fn 76 [])] H0 fun v H'=>v=(.int .i64 aJ)∧H'=H0:=by
 refine dP kQ fo fun hcl K0 aN=> ?_
 rw [dQ.eq_1] at h
 refine aC ?_
 obtain ⟨o8,bH,h⟩:=au h
 refine cy ay (ig bH ?_ ?_)
 · rintro ⟨⟩ rfl
   try dsimp only at h
   refine aC ?_
   obtain rfl:=aD h
   exact aN _ _ _ bT (aH hcl (bO bR (.int .i64 (-1))) bS bJ ⟨rfl,rfl⟩)
 · rintro r7 rfl
   try dsimp only at h
   refine aC ?_
   obtain rfl:=aD h
   exact aN _ _ _ bT (aH hcl (bO bR (.int .i64 r7)) bS bJ ⟨rfl,rfl⟩)
abbrev jg:aq:=(.seq (.rg [(ai 4 (.bg (.c (.bool false))))]) (.seq (.rg [(ax 5 0),(ax 6 1),(ai 7 (.call (.c (.fn 109 [])) [(.t 5),(.t 6)])),(ai 8 (.bin .geq (.t 7) (.c (.int .i64 0)))),(aQ 4 8)]) .ret))
theorem jh:bB Tryd.prog 78 9 [(.tmp 4)] (erase jg):=⟨Tryd.f78,_,rfl,by decide,rfl,by kernel_rfl,rfl,rfl⟩
abbrev ji:List Nat:=[0,1,4]
def cW (F:Nat) (s1:List (List UInt8)):Option (Bool):=
 (dQ F s1).bind fun r2=>some (decide (0≤r2))
theorem ij {F:Nat} {s1:List (List UInt8)} {H0:AH} {aJ:Bool} (h:cW F s1=some aJ):
 av Tryd.prog 78 [(.sl .n 1 (ml AV.str s1)),(.fn 76 [])] H0 fun v H'=>v=(.bool aJ)∧H'=H0:=by
 refine dP jh ji fun hcl K0 aN=> ?_
 rw [cW.eq_1] at h
 refine aC ?_
 obtain ⟨r2,hy1,h⟩:=au h
 refine bG ay (j4 hy1) ?_
 refine aC ?_
 obtain rfl:=aD h
 exact aN _ _ _ bT (aH hcl (bO bR (.bool (decide (0≤r2)))) bS bJ ⟨rfl,rfl⟩)
abbrev jJ:aq:=(.rg [(ax 4 0),(ai 5 (.lens (.t 4))),(ai 6 (.bin .leq (.t 5) (.c (.int .i64 255)))),(ax 7 6),(aF 8 (.mv (.t 0)) 7 true),(aF 9 (.call (.c (.fn 77 [])) [(.t 8)]) 7 true),(ai 10 (.pick (.t 7) (.t 9) (.c (.bool false)))),(ax 11 10),(aF 12 (.mv (.t 0)) 11 true),(aF 13 (.call (.c (.fn 79 [])) [(.t 12),(.c (.str [46]))]) 11 true),(aF 14 (.mv (.t 3)) 11 true),(aF 15 (.call (.c (.fn 78 [])) [(.t 13),(.t 14)]) 11 true),(aF 16 (.un .not (.t 15)) 11 true),(ai 17 (.pick (.t 11) (.t 16) (.c (.bool false)))),(aQ 2 17)])
abbrev um:aq:=(.seq (.rg [(ai 2 (.bg (.c (.bool false))))]) (.seq (.rg [(ai 3 (.bg (.c (.fn 76 []))))]) (.seq (.sem (erase jJ)) .ret)))
theorem uo:bB Tryd.prog 37 18 [(.tmp 2)] (erase um):=⟨Tryd.f37,_,rfl,by decide,rfl,by kernel_rfl,rfl,rfl⟩
abbrev ni:List Nat:=[0,2,3]
def gL (F:Nat) (s1:List UInt8):Option (Bool):=
 (if (decide ((s1.length:Int)≤255)) then
  (lB F s1).bind fun r2=>
  (if r2 then
   (strings_Split s1 ([46]:List UInt8)).bind fun r3=>(cW F r3).bind fun r4=>some (!r4)
  else
   some false)
 else
  some false)
def lC (F:Nat) (s1:List UInt8):Option (Bool):=
 (gL F s1).bind fun t6=>
 some t6
theorem oG {F:Nat} {s1:List UInt8} {H:AH} {K:Exit→Env→AH→Prop} {t5:Bool}
 (h:gL F s1=some t5)
 (kn:K .normal [(2,(.bool t5))] H):
 AX Tryd.prog ni 18 H.length (erase jJ) K [(0,(.str s1)),(2,(.bool false)),(3,(.fn 76 []))] H:=by
 refine e9 fun K' hK=> ?_
 rw [gL.eq_1] at h
 refine aC ?_
 refine cX h (fun hy1 h=> ?_) fun hy1 h=> ?_
 · refine bh hy1 ?_
   obtain ⟨r2,bn,h⟩:=au h
   refine bG ay (so bn) ?_
   refine aC ?_
   refine cX h (fun bt h=> ?_) fun bt h=> ?_
   · refine bh bt ?_
     obtain ⟨r3,bw,h⟩:=au h
     refine bG ay (dR (s1:=s1) (s2:=([46]:List UInt8)) bw) ?_
     refine aC ?_
     obtain ⟨r4,bH,h⟩:=au h
     refine bG ay (ij bH) ?_
     refine aC ?_
     obtain rfl:=aD h
     exact hK _ _ _ _ _ aU ay kn
   · refine bh bt ?_
     obtain rfl:=aD h
     exact hK _ _ _ _ _ aU ay kn
 · refine bh hy1 ?_
   obtain rfl:=aD h
   exact hK _ _ _ _ _ aU ay kn
theorem sr {F:Nat} {s1:List UInt8} {H0:AH} {aJ:Bool} (h:lC F s1=some aJ):
 av Tryd.prog 37 [(.str s1)] H0 fun v H'=>v=(.bool aJ)∧H'=H0:=by
 refine dP uo ni fun hcl K0 aN=> ?_
 rw [lC.eq_1] at h
 refine aC ?_
 obtain ⟨t6,cM,h⟩:=au h
 refine cy ay (oG cM ?_)
 refine aC ?_
 obtain rfl:=aD h
 exact aN _ _ _ bT (aH hcl (bO bR (.bool t6)) bS bJ ⟨rfl,rfl⟩)
abbrev lW:aq:=(.rg [(ax 3 0),(ai 4 (.call (.c (.fn 100 [])) [(.t 3)])),(ax 5 4),(aF 6 (.mv (.t 0)) 5 false),(aF 7 (.call (.c (.fn 114 [])) [(.c (.str [33,35,36,37,38,39,42,43,45,47,61,63,94,95,96,123,124,125,126])),(.t 6)]) 5 false),(aF 8 (.bin .geq (.t 7) (.c (.int .i64 0))) 5 false),(ai 9 (.pick (.t 5) (.c (.bool true)) (.t 8))),(aQ 2 9)])
abbrev yd:aq:=(.seq (.rg [(ai 2 (.bg (.c (.bool false))))]) (.seq (.sem (erase lW)) .ret))
theorem ye:bB Tryd.prog 98 10 [(.tmp 2)] (erase yd):=⟨Tryd.f98,_,rfl,by decide,rfl,by kernel_rfl,rfl,rfl⟩
abbrev p9:List Nat:=[0,2]
def j6 (c1:UInt8):Option (Bool):=
 (ie c1).bind fun r2=>
 (if r2 then
  some true
 else
  (strings_IndexByte ([33,35,36,37,38,39,42,43,45,47,61,63,94,95,96,123,124,125,126]:List UInt8) c1).bind fun r3=>some (decide (0≤r3)))
def oH (c1:UInt8):Option (Bool):=
 (j6 c1).bind fun t5=>
 some t5
theorem qW {c1:UInt8} {H:AH} {K:Exit→Env→AH→Prop} {t4:Bool}
 (h:j6 c1=some t4)
 (kn:K .normal [(2,(.bool t4))] H):
 AX Tryd.prog p9 10 H.length (erase lW) K [(0,(b8 c1)),(2,(.bool false))] H:=by
 refine e9 fun K' hK=> ?_
 rw [j6.eq_1] at h
 refine aC ?_
 obtain ⟨r2,hy1,h⟩:=au h
 refine bG ay (lU hy1) ?_
 refine aC ?_
 refine cX h (fun bn h=> ?_) fun bn h=> ?_
 · refine bh bn ?_
   obtain rfl:=aD h
   exact hK _ _ _ _ _ aU ay kn
 · refine bh bn ?_
   obtain ⟨r3,bt,h⟩:=au h
   refine bG ay (l6 (s1:=([33,35,36,37,38,39,42,43,45,47,61,63,94,95,96,123,124,125,126]:List UInt8)) (c2:=c1) bt) ?_
   refine aC ?_
   obtain rfl:=aD h
   exact hK _ _ _ _ _ aU ay kn
theorem vi {c1:UInt8} {H0:AH} {aJ:Bool} (h:oH c1=some aJ):
 av Tryd.prog 98 [(b8 c1)] H0 fun v H'=>v=(.bool aJ)∧H'=H0:=by
 refine dP ye p9 fun hcl K0 aN=> ?_
 rw [oH.eq_1] at h
 refine aC ?_
 obtain ⟨t5,bw,h⟩:=au h
 refine cy ay (qW bw ?_)
 refine aC ?_
 obtain rfl:=aD h
 exact aN _ _ _ bT (aH hcl (bO bR (.bool t5)) bS bJ ⟨rfl,rfl⟩)
abbrev fT:aq:=(.seq (.rg [(ai 9 (.bin .lss (.t 8) (.t 7)))]) (.seq (.cond (.t 9) .skip (.exit 0)) (.seq (.blk 1 (.seq (.rg [(ax 10 8),(aQ 5 10)]) (.seq (.rg [(ax 11 1),(ax 12 0),(ax 13 5),(ai 14 (.ixs (.t 12) (.t 13))),(ai 15 (.call (.t 11) [(.t 14)])),(ai 16 (.un .not (.t 15)))]) (.cond (.t 16) (.seq (.rg [(ai 4 (.bg (.c (.bool false))))]) .ret) .skip)))) (.rg [(ai 17 (.bin .add (.t 8) (.c (.int .i64 1)))),(ax 8 17)]))))
abbrev qa:aq:=(.seq (.rg [(ai 4 (.bg (.c (.bool false))))]) (.seq (.seq (.rg [(ax 6 0),(ai 7 (.lens (.t 6))),(ai 8 (.mv (.c (.int .i64 0))))]) (.blk 0 (.loop (erase fT)))) (.seq (.rg [(ai 4 (.bg (.c (.bool true))))]) .ret)))
theorem qb:bB Tryd.prog 82 18 [(.tmp 4)] (erase qa):=⟨Tryd.f82,_,rfl,by decide,rfl,by kernel_rfl,rfl,rfl⟩
abbrev jK:List Nat:=[0,1,4,5,7,8,9,16]
def fe (s1:List UInt8):(Bool×Int)→Option (St Bool Unit (Bool×Int))
 |(t2,t3)=>
  (if (decide (t3<(s1.length:Int))) then
   (idx s1 t3).bind fun x4=>
   (oH x4).bind fun r5=>
   (if (!r5) then
    some (.ret false)
   else
    some (.cQ (t2,(IntKind.wrap .i64 (t3+1)))))
  else
   some (.eI ()))
def gM (F:Nat) (s1:List UInt8):Option (Bool):=
 ((iter (fe s1) F (false,0)).bind fun o8=>
 match o8 with
 | .inr ()=>
   some true
 | .inl r7=>
   some r7)
theorem l9 {F:Nat} {t3:Int} {s1:List UInt8} {t2:Bool} {H:AH} {K:Exit→Env→AH→Prop} {o:(Bool)⊕(Unit)}
 (h:iter (fe s1) F (t2,t3)=some o)
 (fJ:∀o':Unit,o= .inr o'→K (.exit 0) [] H)
 (kr:∀o':Bool,o= .inl o'→K .ret [(4,(.bool o'))] H):
 AX Tryd.prog jK 18 H.length (.loop (erase fT)) K [(0,(.str s1)),(1,(.fn 98 [])),(4,(.bool t2)),(7,(.int .i64 (s1.length:Int))),(8,(.int .i64 t3))] H:=by
 refine k8 (fun s e H1=>match s with|(t2,t3)=>e=[(0,(.str s1)),(1,(.fn 98 [])),(4,(.bool t2)),(7,(.int .i64 (s1.length:Int))),(8,(.int .i64 t3))]∧H1=H) h ⟨rfl,rfl⟩ ?_
 rintro K' ⟨t2,t3⟩ st e H ⟨rfl,rfl⟩ h hN hB hR hX
 rw [fe.eq_1] at h
 refine aC ?_
 refine cB h (fun hy1 h=> ?_) fun hy1 h=> ?_
 · obtain ⟨x4,bn,h⟩:=au h
   refine bh bn ?_
   obtain ⟨r5,bt,h⟩:=au h
   refine bG ay (vi bt) ?_
   refine aC ?_
   refine cB h (fun bw h=> ?_) fun bw h=> ?_
   · refine aC ?_
     obtain rfl:=aD h
     exact hX _ _ _ _ _ eN aU ay (kr _ (hR _ rfl))
   · refine aC ?_
     obtain rfl:=aD h
     exact hN _ rfl _ _ _ _ aU ay ⟨rfl,rfl⟩
 · refine aC ?_
   obtain rfl:=aD h
   exact hX _ _ _ _ _ eN WE.nil ay (fJ _ (hB _ rfl))
theorem oI {F:Nat} {s1:List UInt8} {H0:AH} {aJ:Bool} (h:gM F s1=some aJ):
 av Tryd.prog 82 [(.str s1),(.fn 98 [])] H0 fun v H'=>v=(.bool aJ)∧H'=H0:=by
 refine dP qb jK fun hcl K0 aN=> ?_
 rw [gM.eq_1] at h
 refine aC ?_
 obtain ⟨o8,bH,h⟩:=au h
 refine cy ay (l9 bH ?_ ?_)
 · rintro ⟨⟩ rfl
   try dsimp only at h
   refine aC ?_
   obtain rfl:=aD h
   exact aN _ _ _ bT (aH hcl (bO bR (.bool true)) bS bJ ⟨rfl,rfl⟩)
 · rintro r7 rfl
   try dsimp only at h
   refine aC ?_
   obtain rfl:=aD h
   exact aN _ _ _ bT (aH hcl (bO bR (.bool r7)) bS bJ ⟨rfl,rfl⟩)
abbrev jj:aq:=(.rg [(ax 3 0),(ai 4 (.bin .eql (.t 3) (.c (.str [])))),(ax 5 4),(aF 6 (.mv (.t 0)) 5 false),(aF 7 (.call (.c (.fn 82 [])) [(.t 6),(.c (.fn 98 []))]) 5 false),(aF 8 (.un .not (.t 7)) 5 false),(ai 9 (.pick (.t 5) (.c (.bool true)) (.t 8))),(aQ 2 9)])
abbrev su:aq:=(.seq (.rg [(ai 2 (.bg (.c (.bool false))))]) (.seq (.sem (erase jj)) .ret))
theorem sw:bB Tryd.prog 115 10 [(.tmp 2)] (erase su):=⟨Tryd.f115,_,rfl,by decide,rfl,by kernel_rfl,rfl,rfl⟩
abbrev lZ:List Nat:=[0,2]
def gm (F:Nat) (x1:List UInt8):Option (Bool):=
 (if (decide (x1=([]:List UInt8))) then
  some true
 else
  (gM F x1).bind fun r2=>some (!r2))
def j8 (F:Nat) (x1:List UInt8):Option (Bool):=
 (gm F x1).bind fun t4=>
 some t4
theorem nX {F:Nat} {x1:List UInt8} {H:AH} {K:Exit→Env→AH→Prop} {t3:Bool}
 (h:gm F x1=some t3)
 (kn:K .normal [(2,(.bool t3))] H):
 AX Tryd.prog lZ 10 H.length (erase jj) K [(0,(.str x1)),(2,(.bool false))] H:=by
 refine e9 fun K' hK=> ?_
 rw [gm.eq_1] at h
 refine aC ?_
 refine cX h (fun hy1 h=> ?_) fun hy1 h=> ?_
 · refine bh hy1 ?_
   obtain rfl:=aD h
   exact hK _ _ _ _ _ aU ay kn
 · refine bh hy1 ?_
   obtain ⟨r2,bn,h⟩:=au h
   refine bG ay (oI bn) ?_
   refine aC ?_
   obtain rfl:=aD h
   exact hK _ _ _ _ _ aU ay kn
theorem qX {F:Nat} {x1:List UInt8} {H0:AH} {aJ:Bool} (h:j8 F x1=some aJ):
 av Tryd.prog 115 [(.str x1)] H0 fun v H'=>v=(.bool aJ)∧H'=H0:=by
 refine dP sw lZ fun hcl K0 aN=> ?_
 rw [j8.eq_1] at h
 refine aC ?_
 obtain ⟨t4,bt,h⟩:=au h
 refine cy ay (nX bt ?_)
 refine aC ?_
 obtain rfl:=aD h
 exact aN _ _ _ bT (aH hcl (bO bR (.bool t4)) bS bJ ⟨rfl,rfl⟩)
abbrev dK:aq:=(.seq (.rg [(ai 9 (.bin .lss (.t 8) (.t 7)))]) (.seq (.cond (.t 9) .skip (.exit 0)) (.seq (.blk 1 (.seq (.rg [(ax 10 8),(aQ 5 10)]) (.seq (.rg [(ax 11 1),(ax 12 0),(ax 13 5),(ai 14 (.iD 1 (.t 12) (.t 13))),(ai 15 (.ld (.t 14) none)),(ai 16 (.call (.t 11) [(.t 15)]))]) (.cond (.t 16) (.seq (.rg [(ax 17 5),(aQ 4 17)]) .ret) .skip)))) (.rg [(ai 18 (.bin .add (.t 8) (.c (.int .i64 1)))),(ax 8 18)]))))
abbrev j9:aq:=(.seq (.rg [(ai 4 (.bg (.c (.int .i64 0))))]) (.seq (.seq (.rg [(ax 6 0),(ai 7 (.len (.t 6))),(ai 8 (.mv (.c (.int .i64 0))))]) (.blk 0 (.loop (erase dK)))) (.seq (.rg [(ai 4 (.bg (.c (.int .i64 (-1)))))]) .ret)))
theorem ke:bB Tryd.prog 109 19 [(.tmp 4)] (erase j9):=⟨Tryd.f109,_,rfl,by decide,rfl,by kernel_rfl,rfl,rfl⟩
abbrev eU:List Nat:=[0,1,4,5,7,8,9,16]
def cO (F:Nat) (s1:List (List UInt8)):(Int×Int)→Option (St Int Unit (Int×Int))
 |(t2,t3)=>
  (if (decide (t3<(s1.length:Int))) then
   (idx s1 t3).bind fun x4=>
   (j8 F x4).bind fun r5=>
   (if r5 then
    some (.ret t3)
   else
    some (.cQ (t2,(IntKind.wrap .i64 (t3+1)))))
  else
   some (.eI ()))
def dG (F:Nat) (s1:List (List UInt8)):Option (Int):=
 ((iter (cO F s1) F (0,0)).bind fun o8=>
 match o8 with
 | .inr ()=>
   some (-1)
 | .inl r7=>
   some r7)
theorem gN {F:Nat} {t3:Int} {s1:List (List UInt8)} {t2:Int} {H:AH} {K:Exit→Env→AH→Prop} {o:(Int)⊕(Unit)}
 (h:iter (cO F s1) F (t2,t3)=some o)
 (fJ:∀o':Unit,o= .inr o'→K (.exit 0) [] H)
 (kr:∀o':Int,o= .inl o'→K .ret [(4,(.int .i64 o'))] H):
 AX Tryd.prog eU 19 H.length (.loop (erase dK)) K [(0,(.sl .n 1 (ml AV.str s1))),(1,(.fn 115 [])),(4,(.int .i64 t2)),(7,(.int .i64 (s1.length:Int))),(8,(.int .i64 t3))] H:=by
 refine k8 (fun s e H1=>match s with|(t2,t3)=>e=[(0,(.sl .n 1 (ml AV.str s1))),(1,(.fn 115 [])),(4,(.int .i64 t2)),(7,(.int .i64 (s1.length:Int))),(8,(.int .i64 t3))]∧H1=H) h ⟨rfl,rfl⟩ ?_
 rintro K' ⟨t2,t3⟩ st e H ⟨rfl,rfl⟩ h hN hB hR hX
 rw [cO.eq_1] at h
 refine aC ?_
 refine cB h (fun hy1 h=> ?_) fun hy1 h=> ?_
 · obtain ⟨x4,bn,h⟩:=au h
   refine bh bn ?_
   obtain ⟨r5,bt,h⟩:=au h
   refine bG ay (qX bt) ?_
   refine aC ?_
   refine cB h (fun bw h=> ?_) fun bw h=> ?_
   · refine aC ?_
     obtain rfl:=aD h
     exact hX _ _ _ _ _ eN aU ay (kr _ (hR _ rfl))
   · refine aC ?_
     obtain rfl:=aD h
     exact hN _ rfl _ _ _ _ aU ay ⟨rfl,rfl⟩
 · refine aC ?_
   obtain rfl:=aD h
   exact hX _ _ _ _ _ eN WE.nil ay (fJ _ (hB _ rfl))
theorem jv {F:Nat} {s1:List (List UInt8)} {H0:AH} {aJ:Int} (h:dG F s1=some aJ):
 av Tryd.prog 109 [(.sl .n 1 (ml AV.str s1)),(.fn 115 [])] H0 fun v H'=>v=(.int .i64 aJ)∧H'=H0:=by
 refine dP ke eU fun hcl K0 aN=> ?_
 rw [dG.eq_1] at h
 refine aC ?_
 obtain ⟨o8,bH,h⟩:=au h
 refine cy ay (gN bH ?_ ?_)
 · rintro ⟨⟩ rfl
   try dsimp only at h
   refine aC ?_
   obtain rfl:=aD h
   exact aN _ _ _ bT (aH hcl (bO bR (.int .i64 (-1))) bS bJ ⟨rfl,rfl⟩)
 · rintro r7 rfl
   try dsimp only at h
   refine aC ?_
   obtain rfl:=aD h
   exact aN _ _ _ bT (aH hcl (bO bR (.int .i64 r7)) bS bJ ⟨rfl,rfl⟩)
abbrev iu:aq:=(.seq (.rg [(ai 4 (.bg (.c (.bool false))))]) (.seq (.rg [(ax 5 0),(ax 6 1),(ai 7 (.call (.c (.fn 109 [])) [(.t 5),(.t 6)])),(ai 8 (.bin .geq (.t 7) (.c (.int .i64 0)))),(aQ 4 8)]) .ret))
theorem iw:bB Tryd.prog 78 9 [(.tmp 4)] (erase iu):=⟨Tryd.f78,_,rfl,by decide,rfl,by kernel_rfl,rfl,rfl⟩
abbrev iy:List Nat:=[0,1,4]
def cP (F:Nat) (s1:List (List UInt8)):Option (Bool):=
 (dG F s1).bind fun r2=>some (decide (0≤r2))
theorem gO {F:Nat} {s1:List (List UInt8)} {H0:AH} {aJ:Bool} (h:cP F s1=some aJ):
 av Tryd.prog 78 [(.sl .n 1 (ml AV.str s1)),(.fn 115 [])] H0 fun v H'=>v=(.bool aJ)∧H'=H0:=by
 refine dP iw iy fun hcl K0 aN=> ?_
 rw [cP.eq_1] at h
 refine aC ?_
 obtain ⟨r2,hy1,h⟩:=au h
 refine bG ay (jv hy1) ?_
 refine aC ?_
 obtain rfl:=aD h
 exact aN _ _ _ bT (aH hcl (bO bR (.bool (decide (0≤r2)))) bS bJ ⟨rfl,rfl⟩)
abbrev vj:aq:=(.seq (.rg [(ai 2 (.bg (.c (.bool false))))]) (.seq (.rg [(ax 3 0),(ai 4 (.call (.c (.fn 79 [])) [(.t 3),(.c (.str [46]))])),(ai 5 (.call (.c (.fn 78 [])) [(.t 4),(.c (.fn 115 []))])),(ai 6 (.un .not (.t 5))),(aQ 2 6)]) .ret))
theorem vk:bB Tryd.prog 99 7 [(.tmp 2)] (erase vj):=⟨Tryd.f99,_,rfl,by decide,rfl,by kernel_rfl,rfl,rfl⟩
abbrev vl:List Nat:=[0,2]
def nj (F:Nat) (s1:List UInt8):Option (Bool):=
 (strings_Split s1 ([46]:List UInt8)).bind fun r2=>(cP F r2).bind fun r3=>some (!r3)
theorem uq {F:Nat} {s1:List UInt8} {H0:AH} {aJ:Bool} (h:nj F s1=some aJ):
 av Tryd.prog 99 [(.str s1)] H0 fun v H'=>v=(.bool aJ)∧H'=H0:=by
 refine dP vk vl fun hcl K0 aN=> ?_
 rw [nj.eq_1] at h
 refine aC ?_
 obtain ⟨r2,hy1,h⟩:=au h
 refine bG ay (dR (s1:=s1) (s2:=([46]:List UInt8)) hy1) ?_
 refine aC ?_
 obtain ⟨r3,bn,h⟩:=au h
 refine bG ay (gO bn) ?_
 refine aC ?_
 obtain rfl:=aD h
 exact aN _ _ _ bT (aH hcl (bO bR (.bool (!r3))) bS bJ ⟨rfl,rfl⟩)
abbrev l5:aq:=(.rg [(ax 17 3),(ax 18 5),(ai 19 (.ixs (.t 17) (.t 18))),(ai 20 (.bin .eql (.t 19) (.c (b8 34)))),(ax 21 20),(aF 22 (.mv (.t 3)) 21 false),(aF 23 (.mv (.t 5)) 21 false),(aF 24 (.ixs (.t 22) (.t 23)) 21 false),(aF 25 (.bin .eql (.t 24) (.c (b8 92))) 21 false),(ai 26 (.pick (.t 21) (.c (.bool true)) (.t 25)))])
abbrev kR:aq:=(.seq (.rg [(ai 15 (.bin .lss (.t 14) (.t 13)))]) (.seq (.cond (.t 15) .skip (.exit 0)) (.seq (.blk 1 (.seq (.rg [(ax 16 14),(aQ 5 16)]) (.seq (.seq (.sem (erase l5)) (.cond (.t 26) (.rg [(ax 27 4),(ai 28 (.qg 1 [(.c (b8 92))])),(ai 29 (.app 1 1 (.t 27) (.t 28))),(aQ 4 29)]) .skip)) (.rg [(ax 30 4),(ax 31 3),(ax 32 5),(ai 33 (.ixs (.t 31) (.t 32))),(ai 34 (.qg 1 [(.t 33)])),(ai 35 (.app 1 1 (.t 30) (.t 34))),(aQ 4 35)])))) (.rg [(ai 36 (.bin .add (.t 14) (.c (.int .i64 1)))),(ax 14 36)]))))
abbrev yf:aq:=(.seq (.rg [(ai 1 (.box (.t 0))),(ai 2 (.bg (.c (.str []))))]) (.seq (.rg [(ai 6 (.oh (.t 1) 0)),(ai 7 (.ld (.t 6) none)),(aQ 3 7)]) (.seq (.seq (.rg [(ax 8 3),(ai 9 (.call (.c (.fn 99 [])) [(.t 8)])),(ai 10 (.un .not (.t 9)))]) (.cond (.t 10) (.seq (.rg [(ai 11 (.qg 1 [(.c (b8 34))])),(aQ 4 11)]) (.seq (.seq (.rg [(ax 12 3),(ai 13 (.lens (.t 12))),(ai 14 (.mv (.c (.int .i64 0))))]) (.blk 0 (.loop (erase kR)))) (.rg [(ax 37 4),(ai 38 (.qg 1 [(.c (b8 34))])),(ai 39 (.app 1 1 (.t 37) (.t 38))),(ai 40 (.fC .bs (.t 39))),(aQ 3 40)]))) .skip)) (.seq (.rg [(ax 41 3),(ai 42 (.bin .add (.c (.str [60])) (.t 41))),(ai 43 (.bin .add (.t 42) (.c (.str [64])))),(ai 44 (.oh (.t 1) 1)),(ai 45 (.ld (.t 44) none)),(ai 46 (.bin .add (.t 43) (.t 45))),(ai 47 (.bin .add (.t 46) (.c (.str [62])))),(aQ 2 47)]) .ret))))
theorem yg:bB Tryd.prog 86 48 [(.tmp 2)] (erase yf):=⟨Tryd.f86,_,rfl,by decide,rfl,by kernel_rfl,rfl,rfl⟩
abbrev lD:List Nat:=[0,1,2,3,4,5,10,13,14,15,26]
def kf (a1:bQ) (t5:Int):Option (Bool):=
 (idx a1.bL t5).bind fun x7=>
 (if (decide (x7=34)) then
  some true
 else
  some (decide (x7=92)))
def kg (a1:bQ):((List UInt8)×Int)→Option (St (List UInt8) (List UInt8) ((List UInt8)×Int))
 |(b4,t5)=>
  (if (decide (t5<(a1.bL.length:Int))) then
   (kf a1 t5).bind fun t9=>
   (if t9 then
    (dn 1 b4 ([92]:List UInt8)).bind fun pz=>
    (idx a1.bL t5).bind fun mQ=>
    (dn 1 pz ([mQ]:List UInt8)).bind fun xX=>some (.cQ (xX,(IntKind.wrap .i64 (t5+1))))
   else
    (idx a1.bL t5).bind fun Px=>
    (dn 1 b4 ([Px]:List UInt8)).bind fun xY=>some (.cQ (xY,(IntKind.wrap .i64 (t5+1)))))
  else
   some (.eI b4))
def lE (F:Nat) (a1:bQ):Option ((List UInt8)):=
 (nj F a1.bL).bind fun r2=>
 (if (!r2) then
  ((iter (kg a1) F (([34]:List UInt8),0)).bind fun R9=>
  match R9 with
  | .inr Py=>
    (dn 1 Py ([34]:List UInt8)).bind fun tY=>
    (cat ([60]:List UInt8) tY).bind fun xZ=>
    (cat xZ ([64]:List UInt8)).bind fun uZ=>
    (cat uZ a1.domain).bind fun As=>(cat As ([62]:List UInt8)).bind fun qC=>some qC
  | .inl _=>none)
 else
  (cat ([60]:List UInt8) a1.bL).bind fun AA=>
  (cat AA ([64]:List UInt8)).bind fun vb=>
  (cat vb a1.domain).bind fun GP=>(cat GP ([62]:List UInt8)).bind fun Pz=>some Pz)
theorem qY {a1:bQ} {t5:Int} {q6:Nat} {b4:List UInt8} {H0 H:AH} (hfr:Fr H0 H0.length [] H) (aA:H[q6]? =some [(.str a1.bL),(.str a1.domain)]) (hi0:H0.length≤q6) {K:Exit→Env→AH→Prop} {t8:Bool}
 (h:kf a1 t5=some t8)
 (kn:∀H':AH,Fr H0 H0.length [] H'→H'[q6]? =some [(.str a1.bL),(.str a1.domain)]→K .normal [(1,(.ptr q6 0)),(3,(.str a1.bL)),(4,(.sl .own 1 (ml b8 b4))),(5,(.int .i64 t5)),(13,(.int .i64 (a1.bL.length:Int))),(14,(.int .i64 t5)),(26,(.bool t8))] H'):
 AX Tryd.prog lD 48 H0.length (erase l5) K [(1,(.ptr q6 0)),(3,(.str a1.bL)),(4,(.sl .own 1 (ml b8 b4))),(5,(.int .i64 t5)),(13,(.int .i64 (a1.bL.length:Int))),(14,(.int .i64 t5))] H:=by
 refine e9 fun K' hK=> ?_
 have hle:=hfr.le
 have iR:=lI aA
 rw [kf.eq_1] at h
 obtain ⟨x7,bw,h⟩:=au h
 refine bN (aX bw aA) ?_
 refine cX h (fun bH h=> ?_) fun bH h=> ?_
 · refine bN (aX bH aA) ?_
   obtain rfl:=aD h
   exact hK _ _ _ _ _ aU ay (kn _ hfr (aA.trans rfl))
 · refine bN (aX bH (aX bw aA)) ?_
   obtain rfl:=aD h
   exact hK _ _ _ _ _ aU ay (kn _ hfr (aA.trans rfl))
theorem qZ {F:Nat} {t5:Int} {a1:bQ} {b4:List UInt8} {q3:Nat} {H0 H:AH} (hfr:Fr H0 H0.length [] H) (aA:H[q3]? =some [(.str a1.bL),(.str a1.domain)]) (hi0:H0.length≤q3) {K:Exit→Env→AH→Prop} {o:((List UInt8))⊕((List UInt8))}
 (h:iter (kg a1) F (b4,t5)=some o)
 (fJ:∀o':(List UInt8),o= .inr o'→∀H':AH,Fr H0 H0.length [] H'→H'[q3]? =some [(.str a1.bL),(.str a1.domain)]→K (.exit 0) [(1,(.ptr q3 0)),(4,(.sl .own 1 (ml b8 o')))] H'):
 AX Tryd.prog lD 48 H0.length (.loop (erase kR)) K [(1,(.ptr q3 0)),(3,(.str a1.bL)),(4,(.sl .own 1 (ml b8 b4))),(13,(.int .i64 (a1.bL.length:Int))),(14,(.int .i64 t5))] H:=by
 refine k8 (fun s e H1=>match s with|(b4,t5)=>e=[(1,(.ptr q3 0)),(3,(.str a1.bL)),(4,(.sl .own 1 (ml b8 b4))),(13,(.int .i64 (a1.bL.length:Int))),(14,(.int .i64 t5))]∧Fr H0 H0.length [] H1∧H1[q3]? =some [(.str a1.bL),(.str a1.domain)]) h ⟨rfl,hfr,aA⟩ ?_
 rintro K' ⟨b4,t5⟩ st e H ⟨rfl,hfr,aA⟩ h hN hB hR hX
 have hle:=hfr.le
 have iR:=lI aA
 rw [kg.eq_1] at h
 refine bN aA ?_
 refine cB h (fun bt h=> ?_) fun bt h=> ?_
 · refine bN aA ?_
   obtain ⟨t9,cM,h⟩:=au h
   refine cy ay (qY (b4:=b4) (q6:=q3) hfr (aA.trans rfl) GJ cM ?_)
   intro H hfr aA
   have hle:=hfr.le
   have iR:=lI aA
   refine bN aA ?_
   refine cB h (fun dJ h=> ?_) fun dJ h=> ?_
   · obtain ⟨pz,ec,h⟩:=au h
     have lg:dn 1 (ml b8 b4) [(b8 92)]=some (ml b8 pz):=k5 (f:=b8) ec
     obtain ⟨mQ,fR,h⟩:=au h
     obtain ⟨xX,gR,h⟩:=au h
     have fk:dn 1 (ml b8 pz) [(b8 mQ)]=some (ml b8 xX):=k5 (f:=b8) gR
     refine bN (aX lg (aX fR (aX fk aA))) ?_
     obtain rfl:=aD h
     exact hN _ rfl _ _ _ _ aU ay ⟨rfl,hfr,(aA.trans rfl)⟩
   · obtain ⟨Px,mV,h⟩:=au h
     obtain ⟨xY,pL,h⟩:=au h
     have tP:dn 1 (ml b8 b4) [(b8 Px)]=some (ml b8 xY):=k5 (f:=b8) pL
     refine bN (aX mV (aX tP aA)) ?_
     obtain rfl:=aD h
     exact hN _ rfl _ _ _ _ aU ay ⟨rfl,hfr,(aA.trans rfl)⟩
 · refine bN aA ?_
   obtain rfl:=aD h
   exact hX _ _ _ _ _ eN aU ay (fJ _ (hB _ rfl) _ hfr (aA.trans rfl))
theorem od {F:Nat} {a1:bQ} {H0:AH} {aJ:List UInt8} (h:lE F a1=some aJ):
 av Tryd.prog 86 [(.agg [(.str a1.bL),(.str a1.domain)])] H0 fun v H'=>v=(.str aJ)∧H'=H0:=by
 refine uS yg lD [] (F0:=fun _=>True) trivial fun hcl K0 aN H hfr hs=> ?_
 have hle:=hfr.le
 rw [lE.eq_1] at h
 refine bk ?_
 obtain ⟨r2,hy1,h⟩:=au h
 refine bG ay (uq hy1) ?_
 refine bk ?_
 refine cB h (fun bn h=> ?_) fun bn h=> ?_
 · refine bk ?_
   obtain ⟨q3,C9⟩:∃q:Nat,H.length=q:=⟨_,rfl⟩
   try rw [C9]
   obtain ⟨R9,tQ,h⟩:=au h
   refine cy ay (qZ (q3:=q3) (Fr.app hfr) Pu GJ tQ ?_)
   · rintro Py rfl H hfr aA
     try dsimp only at h aA
     have hle:=hfr.le
     have iR:=lI aA
     refine bk ?_
     obtain ⟨tY,pM,h⟩:=au h
     have rI:dn 1 (ml b8 Py) [(b8 34)]=some (ml b8 tY):=k5 (f:=b8) pM
     obtain ⟨xZ,pN,h⟩:=au h
     obtain ⟨uZ,tR,h⟩:=au h
     obtain ⟨As,mU,h⟩:=au h
     obtain ⟨qC,tO,h⟩:=au h
     refine bN (aX rI (aX pN (aX tR (aX mU (aX tO aA))))) ?_
     obtain rfl:=aD h
     exact aN _ _ _ bT (bW hfr hcl (bO bR (.str qC)) bS bJ ⟨rfl,rfl⟩)
 · obtain ⟨AA,tS,h⟩:=au h
   obtain ⟨vb,tT,h⟩:=au h
   obtain ⟨GP,tU,h⟩:=au h
   obtain ⟨Pz,tV,h⟩:=au h
   refine bN (aX tS (aX tT (aX tU tV))) ?_
   obtain rfl:=aD h
   exact aN _ _ _ bT (bW (Fr.app hfr) hcl (bO bR (.str Pz)) bS bJ ⟨rfl,rfl⟩)
abbrev kS:aq:=(.rg [(ai 3 (.ld (.t 1) (some 2))),(ai 4 (.call (.c (.fn 85 [])) [(.t 3)])),(ax 5 4),(aF 6 (.oh (.t 1) 0) 5 false),(aF 7 (.ld (.t 6) none) 5 false),(aF 8 (.call (.c (.fn 39 [])) [(.t 7)]) 5 false),(aF 9 (.mv (.t 8)) 5 false),(aF 10 (.oh (.t 1) 1) 9 true),(aF 11 (.ld (.t 10) none) 9 true),(aF 12 (.call (.c (.fn 37 [])) [(.t 11)]) 9 true),(aF 13 (.pick (.t 9) (.t 12) (.c (.bool false))) 5 false),(aF 14 (.mv (.t 13)) 5 false),(aF 15 (.ld (.t 1) (some 2)) 14 true),(aF 16 (.call (.c (.fn 86 [])) [(.t 15)]) 14 true),(aF 17 (.lens (.t 16)) 14 true),(aF 18 (.bin .leq (.t 17) (.c (.int .i64 256))) 14 true),(aF 19 (.pick (.t 14) (.t 18) (.c (.bool false))) 5 false),(ai 20 (.pick (.t 5) (.c (.bool true)) (.t 19))),(aQ 2 20)])
abbrev vm:aq:=(.seq (.rg [(ai 1 (.box (.t 0))),(ai 2 (.bg (.c (.bool false))))]) (.seq (.sem (erase kS)) .ret))
theorem vn:bB Tryd.prog 49 21 [(.tmp 2)] (erase vm):=⟨Tryd.f49,_,rfl,by decide,rfl,by kernel_rfl,rfl,rfl⟩
abbrev oe:List Nat:=[0,1,2]
def jk (F:Nat) (a1:bQ):Option (Bool):=
 (iU a1).bind fun r3=>
 (if r3 then
  some true
 else
  (mY F a1.bL).bind fun r4=>
  (if r4 then
   (lC F a1.domain).bind fun r5=>
   (if r5 then
    (lE F a1).bind fun r6=>some (decide ((r6.length:Int)≤256))
   else
    some false)
  else
   some false))
def nk (F:Nat) (a1:bQ):Option (Bool):=
 (jk F a1).bind fun t8=>
 some t8
theorem qc {F:Nat} {a1:bQ} {q2:Nat} {H0 H:AH} (hfr:Fr H0 H0.length [] H) (aA:H[q2]? =some [(.str a1.bL),(.str a1.domain)]) (hi0:H0.length≤q2) {K:Exit→Env→AH→Prop} {t7:Bool}
 (h:jk F a1=some t7)
 (kn:∀H':AH,Fr H0 H0.length [] H'→H'[q2]? =some [(.str a1.bL),(.str a1.domain)]→K .normal [(2,(.bool t7))] H'):
 AX Tryd.prog oe 21 H0.length (erase kS) K [(1,(.ptr q2 0)),(2,(.bool false))] H:=by
 refine e9 fun K' hK=> ?_
 have hle:=hfr.le
 have iR:=lI aA
 rw [jk.eq_1] at h
 refine bN aA ?_
 obtain ⟨r3,hy1,h⟩:=au h
 refine bG ay (oa hy1) ?_
 refine bN aA ?_
 refine cX h (fun bn h=> ?_) fun bn h=> ?_
 · refine bN (aX bn aA) ?_
   obtain rfl:=aD h
   exact hK _ _ _ _ _ aU ay (kn _ hfr (aA.trans rfl))
 · refine bN (aX bn aA) ?_
   obtain ⟨r4,bt,h⟩:=au h
   refine bG ay (uc bt) ?_
   refine bN aA ?_
   refine cX h (fun bw h=> ?_) fun bw h=> ?_
   · refine bN (aX bw aA) ?_
     obtain ⟨r5,bH,h⟩:=au h
     refine bG ay (sr bH) ?_
     refine bN aA ?_
     refine cX h (fun cM h=> ?_) fun cM h=> ?_
     · refine bN (aX cM aA) ?_
       obtain ⟨r6,dJ,h⟩:=au h
       refine bG ay (od dJ) ?_
       refine bN aA ?_
       obtain rfl:=aD h
       exact hK _ _ _ _ _ aU ay (kn _ hfr (aA.trans rfl))
     · refine bN (aX cM aA) ?_
       obtain rfl:=aD h
       exact hK _ _ _ _ _ aU ay (kn _ hfr (aA.trans rfl))
   · refine bN (aX bw aA) ?_
     obtain rfl:=aD h
     exact hK _ _ _ _ _ aU ay (kn _ hfr (aA.trans rfl))
theorem ur {F:Nat} {a1:bQ} {H0:AH} {aJ:Bool} (h:nk F a1=some aJ):
 av Tryd.prog 49 [(.agg [(.str a1.bL),(.str a1.domain)])] H0 fun v H'=>v=(.bool aJ)∧H'=H0:=by
 refine uS vn oe [] (F0:=fun _=>True) trivial fun hcl K0 aN H hfr hs=> ?_
 have hle:=hfr.le
 rw [nk.eq_1] at h
 refine bk ?_
 obtain ⟨q2,C7⟩:∃q:Nat,H.length=q:=⟨_,rfl⟩
 try rw [C7]
 obtain ⟨t8,ec,h⟩:=au h
 refine cy ay (qc (q2:=q2) (Fr.app hfr) Pu GJ ec ?_)
 intro H hfr aA
 have hle:=hfr.le
 have iR:=lI aA
 refine bN aA ?_
 obtain rfl:=aD h
 exact aN _ _ _ bT (bW hfr hcl (bO bR (.bool t8)) bS bJ ⟨rfl,rfl⟩)
abbrev vo:aq:=(.seq (.rg [(ai 1 (.box (.t 0))),(ai 2 (.bg (.c (.str []))))]) (.seq (.blk 0 (.seq (.rg [(ai 4 (.ld (.t 1) (some 2))),(ai 5 (.call (.c (.fn 85 [])) [(.t 4)])),(aQ 3 5)]) (.cond (.t 3) (.seq (.rg [(ai 2 (.bg (.c (.str [60,62]))))]) .ret) (.seq (.rg [(ai 7 (.ld (.t 1) (some 2))),(ai 8 (.call (.c (.fn 49 [])) [(.t 7)])),(ai 9 (.un .not (.t 8))),(aQ 6 9)]) (.cond (.t 6) (.seq (.rg [(ai 2 (.bg (.c (.str []))))]) .ret) .skip))))) (.seq (.rg [(ai 10 (.ld (.t 1) (some 2))),(ai 11 (.call (.c (.fn 86 [])) [(.t 10)])),(aQ 2 11)]) .ret)))
theorem vp:bB Tryd.prog 45 12 [(.tmp 2)] (erase vo):=⟨Tryd.f45,_,rfl,by decide,rfl,by kernel_rfl,rfl,rfl⟩
abbrev vq:List Nat:=[0,1,2,3,6]
def fq (F:Nat) (a1:bQ):Option ((List UInt8)):=
 (iU a1).bind fun r2=>
 (if r2 then
  some ([60,62]:List UInt8)
 else
  (nk F a1).bind fun r3=>
  (if (!r3) then
   some ([]:List UInt8)
  else
   (lE F a1).bind fun r4=>some r4))
theorem uu {F:Nat} {a1:bQ} {H0:AH} {aJ:List UInt8} (h:fq F a1=some aJ):
 av Tryd.prog 45 [(.agg [(.str a1.bL),(.str a1.domain)])] H0 fun v H'=>v=(.str aJ)∧H'=H0:=by
 refine uS vp vq [] (F0:=fun _=>True) trivial fun hcl K0 aN H hfr hs=> ?_
 have hle:=hfr.le
 rw [fq.eq_1] at h
 refine bk ?_
 obtain ⟨r2,hy1,h⟩:=au h
 refine bG ay (oa hy1) ?_
 refine bk ?_
 refine cB h (fun bn h=> ?_) fun bn h=> ?_
 · refine bk ?_
   obtain rfl:=aD h
   exact aN _ _ _ bT (bW (Fr.app hfr) hcl (bO bR (.str ([60,62]:List UInt8))) bS bJ ⟨rfl,rfl⟩)
 · refine bk ?_
   obtain ⟨r3,bt,h⟩:=au h
   refine bG ay (ur bt) ?_
   refine bk ?_
   refine cB h (fun bw h=> ?_) fun bw h=> ?_
   · refine bk ?_
     obtain rfl:=aD h
     exact aN _ _ _ bT (bW (Fr.app hfr) hcl (bO bR (.str ([]:List UInt8))) bS bJ ⟨rfl,rfl⟩)
   · refine bk ?_
     obtain ⟨r4,bH,h⟩:=au h
     refine bG ay (od bH) ?_
     refine bk ?_
     obtain rfl:=aD h
     exact aN _ _ _ bT (bW (Fr.app hfr) hcl (bO bR (.str r4)) bS bJ ⟨rfl,rfl⟩)
abbrev q8:aq:=(.seq (.rg [(ai 9 (.box (.t 4))),(ai 10 (.alloc [(.str []),(.str [])]))]) (.seq (.rg [(ax 11 0),(ai 12 (.bin .add (.c (.str [32,102,114,111,109,32])) (.t 11))),(ai 13 (.bin .add (.t 12) (.c (.str [32,98,121,32])))),(ax 14 1),(ai 15 (.bin .add (.t 13) (.t 14))),(ai 16 (.bin .add (.t 15) (.c (.str [32,119,105,116,104,32,83,77,84,80,32,105,100,32])))),(ax 17 2),(ai 18 (.bin .add (.t 16) (.t 17))),(ai 19 (.bin .add (.t 18) (.c (.str [13,10])))),(ai 20 (.bin .add (.t 19) (.c (.str [9,102,111,114,32])))),(ai 21 (.ld (.t 9) (some 2))),(ai 22 (.call (.c (.fn 45 [])) [(.t 21)])),(ai 23 (.bin .add (.t 20) (.t 22))),(ai 24 (.bin .add (.t 23) (.c (.str [59,32])))),(ax 25 3),(ai 26 (.call (.c (.fn 15 [])) [(.t 25)])),(ai 27 (.bin .add (.t 24) (.t 26))),(ai 28 (.build [(.str []),(.str [])] [(0,(1,(.c (.str [82,101,99,101,105,118,101,100])))),(1,(1,(.t 27)))])),(C3 (.st (.t 10) (.t 28) 2))]) .ret))
theorem q9:bB Tryd.prog 53 29 [(.cell 10 34)] (erase q8):=⟨Tryd.f53,_,rfl,by decide,rfl,by kernel_rfl,rfl,rfl⟩
abbrev ri:List Nat:=[0,1,2,3,4,9,10]
def eu (F:Nat) (yh:List UInt8) (Mu:List UInt8) (cC:List UInt8) (t4:Int) (J8:bQ):Option (aB):=
 (cat ([32,102,114,111,109,32]:List UInt8) yh).bind fun x6=>
 (cat x6 ([32,98,121,32]:List UInt8)).bind fun x7=>
 (cat x7 Mu).bind fun x8=>
 (cat x8 ([32,119,105,116,104,32,83,77,84,80,32,105,100,32]:List UInt8)).bind fun x9=>
 (cat x9 cC).bind fun pz=>
 (cat pz ([13,10]:List UInt8)).bind fun mQ=>
 (cat mQ ([9,102,111,114,32]:List UInt8)).bind fun xX=>
 (fq F J8).bind fun tX=>
 (cat xX tX).bind fun xY=>
 (cat xY ([59,32]:List UInt8)).bind fun xJ=>
 (cH F t4).bind fun r16=>
 (cat xJ r16).bind fun tY=>
 some (aB.mk ([82,101,99,101,105,118,101,100]:List UInt8) tY)
theorem qd {F:Nat} {yh:List UInt8} {Mu:List UInt8} {cC:List UInt8} {t4:Int} {J8:bQ} {H0:AH} {aJ:aB} (h:eu F yh Mu cC t4 J8=some aJ):
 av Tryd.prog 53 [(.str yh),(.str Mu),(.str cC),(.int .i64 t4),(.agg [(.str J8.bL),(.str J8.domain)])] H0 fun v H'=>v=(.agg [(.str aJ.name),(.str aJ.value)])∧H'=H0:=by
 refine uS q9 ri [] (F0:=fun _=>True) trivial fun hcl K0 aN H hfr hs=> ?_
 have hle:=hfr.le
 rw [eu.eq_1] at h
 obtain ⟨x6,hy1,h⟩:=au h
 obtain ⟨x7,bn,h⟩:=au h
 obtain ⟨x8,bt,h⟩:=au h
 obtain ⟨x9,bw,h⟩:=au h
 obtain ⟨pz,bH,h⟩:=au h
 obtain ⟨mQ,cM,h⟩:=au h
 obtain ⟨xX,dJ,h⟩:=au h
 refine bN (aX hy1 (aX bn (aX bt (aX bw (aX bH (aX cM dJ)))))) ?_
 obtain ⟨tX,ec,h⟩:=au h
 refine bG ay (uu ec) ?_
 refine bk ?_
 obtain ⟨xY,lg,h⟩:=au h
 obtain ⟨xJ,fR,h⟩:=au h
 refine bN (aX lg fR) ?_
 obtain ⟨r16,gR,h⟩:=au h
 refine bG ay (n9 gR) ?_
 refine bk ?_
 obtain ⟨tY,fk,h⟩:=au h
 refine bN fk ?_
 obtain rfl:=aD h
 exact aN _ _ _ bT (bW (Aq (H.length+1) (Fr.app (Fr.app hfr))) hcl (Bk (cs:=[(.str ([82,101,99,101,105,118,101,100]:List UInt8)),(.str tY)]) (v:=(.agg [(.str ([82,101,99,101,105,118,101,100]:List UInt8)),(.str tY)])) (by kernel_rfl) (n:=(some 2)) (by kernel_rfl) rfl Mo (by simp [zb,za,jQ,bz,AV.flat,LY,Bn,AV.aS,Tg.sh]) bR) bS bJ ⟨rfl,rfl⟩)
abbrev yj:aq:=(.seq (.rg [(ai 2 (.bg (.c (.int .i64 0))))]) (.seq (.rg [(ax 6 0),(ai 7 (.call (.c (.fn 19 [])) [(.t 6),(.c (.str [82,101,99,101,105,118,101,100]))])),(ax 5 7),(ai 8 (.ext (.t 5) 0)),(ai 9 (.ext (.t 5) 1)),(aQ 3 8),(aQ 4 9)]) (.seq (.rg [(ax 10 4),(aQ 2 10)]) .ret)))
theorem yl:bB Tryd.prog 23 11 [(.tmp 2)] (erase yj):=⟨Tryd.f23,_,rfl,by decide,rfl,by kernel_rfl,rfl,rfl⟩
abbrev ym:List Nat:=[0,2,4]
def jl (F:Nat) (l1:List aB):Option (Int):=
 (iC F l1 ([82,101,99,101,105,118,101,100]:List UInt8)).bind fun (r2,r3)=>some r3
theorem og {F:Nat} {l1:List aB} {H0:AH} {aJ:Int} (h:jl F l1=some aJ):
 av Tryd.prog 23 [(.sl .n 2 (ml aE l1))] H0 fun v H'=>v=(.int .i64 aJ)∧H'=H0:=by
 refine dP yl ym fun hcl K0 aN=> ?_
 rw [jl.eq_1] at h
 refine aC ?_
 obtain ⟨⟨r2,r3⟩,hy1,h⟩:=au h
 dsimp only at h
 refine bG ay (pS hy1) ?_
 refine aC ?_
 obtain rfl:=aD h
 exact aN _ _ _ bT (aH hcl (bO bR (.int .i64 r3)) bS bJ ⟨rfl,rfl⟩)
end Go.Proofs.ct
end
section
namespace Go.Am
open Go
theorem wr {n:Int} (h1: -9223372036854775808≤n) (h2:n≤9223372036854775807):IntKind.wrap .i64 n=n:=by
 simp only [IntKind.wrap,IntKind.bits,IntKind.signed,Bool.true_and,decide_eq_true_eq,Int.reducePow,Nat.reduceSub,ge_iff_le]
 split<;>omega
theorem AB {α:Type} (l:List α) (n:Nat):idx l (n:Int)=l[n]? :=by simp [idx]
theorem gB {α:Type} {l:List α} {n:Nat} {x:α} (h:l[n]? =some x):idx l (n:Int)=some x:=by rw [AB,h]
theorem Mv {α:Type} {l:List α} {n:Nat} (h:n<l.length):idx l (n:Int)=some l[n]:=by rw [AB,List.getElem?_eq_getElem h]
theorem S3 {α:Type} {l:List α} {i:Int} (h0:0≤i) (h1:i<l.length):∃x,idx l i=some x∧l[i.toNat]? =some x:=by
 obtain ⟨n,rfl⟩:=Int.eq_ofNat_of_zero_le h0
 have hn:n<l.length:=by omega
 exact ⟨l[n],Mv hn,by simp [List.getElem?_eq_getElem hn]⟩
theorem sG {α:Type} {l:List α} {i j:Nat} (h:i≤j) (h2:j≤l.length):sub l (i:Int) (j:Int)=some ((l.take j).drop i):=by
 unfold sub;rw [if_pos (by omega)];simp
theorem uv {α:Type} {l:List α} {i:Nat} (h:i≤l.length):sub l (i:Int) (l.length:Int)=some (l.drop i):=by
 rw [sG h (Nat.le_refl _),List.take_length]
theorem Mw {α:Type} {l:List α} {j:Nat} (h:j≤l.length):sub l 0 (j:Int)=some (l.take j):=by
 have:=sG (l:=l) (i:=0) (Nat.zero_le j) h
 simpa using this
theorem Sa {α:Type} {l:List α} {i:Int} (h0:0≤i) (h:i≤l.length):sub l i (l.length:Int)=some (l.drop i.toNat):=by
 obtain ⟨n,rfl⟩:=Int.eq_ofNat_of_zero_le h0
 rw [uv (by omega)];simp
theorem sub_one {α:Type} {l:List α} {c:α} {r:List α} (h:l=c::r):sub l 1 (l.length:Int)=some r:=by
 have:=uv (l:=l) (i:=1) (by rw [h];simp)
 rw [h] at this ⊢;simpa using this
theorem nr {α:Type} {b:Nat} {xs ys:List α} (h:xs.length+ys.length≤1000000000) (hb:b≤1000):dn b xs ys=some (xs++ys):=by
 unfold dn
 rw [if_pos]
 refine ⟨?_,by omega⟩
 calc (xs.length+ys.length)*b≤1000000000*1000:=Nat.mul_le_mul h hb
  _≤_:=by omega
theorem bM {l m:List UInt8} (h:l.length+m.length≤1000000000):cat l m=some (l++m):=by
 unfold cat;rw [if_pos (by omega)]
theorem cD {ρ τ σ:Type} {body:σ→Option (St ρ τ σ)} {F:Nat} {s s':σ} (h:body s=some (.cQ s')):iter body (F+1) s=iter body F s':=by simp only [iter,h]
theorem dO {ρ τ σ:Type} {body:σ→Option (St ρ τ σ)} {F:Nat} {s:σ} {t:τ} (h:body s=some (.eI t)):iter body (F+1) s=some (.inr t):=by simp only [iter,h]
theorem kT {ρ τ σ:Type} {body:σ→Option (St ρ τ σ)} {F:Nat} {s:σ} {r:ρ} (h:body s=some (.ret r)):iter body (F+1) s=some (.inl r):=by simp only [iter,h]
theorem P0 {ρ τ σ:Type} {body:σ→Option (St ρ τ σ)} (I:σ→Prop) (m:σ→Nat) (post:ρ⊕τ→Prop)
 (step:∀s,I s→(∃r,body s=some (.ret r)∧post (.inl r))∨(∃t,body s=some (.eI t)∧post (.inr t))∨∃s',body s=some (.cQ s')∧I s'∧m s'<m s):
 ∀(F:Nat) (s:σ),I s→m s<F→∃o,iter body F s=some o∧post o:=by
 intro F
 induction F with
 |zero=>intro s _ h;omega
 |succ F ih=>
  intro s hI hm
  rcases step s hI with ⟨r,h,hp⟩|⟨t,h,hp⟩|⟨s',h,Uv,hlt⟩
  · exact ⟨_,kT h,hp⟩
  · exact ⟨_,dO h,hp⟩
  · obtain ⟨o,ho,hp⟩:=ih s' Uv (by omega)
    exact ⟨o,by rw [cD h];exact ho,hp⟩
theorem drop_cons {α:Type} {l r:List α} {i:Nat} {c:α} (h:l.drop i=c::r):i<l.length∧l[i]? =some c∧l.drop (i+1)=r:=by
 have hlt:i<l.length:=by
  rcases Nat.lt_or_ge i l.length with h1|h1
  · exact h1
  · rw [List.drop_eq_nil_of_le h1] at h;cases h
 rw [List.drop_eq_getElem_cons hlt] at h
 injection h with h1 h2
 exact ⟨hlt,by rw [List.getElem?_eq_getElem hlt,h1],h2⟩
theorem Mx {α:Type} {l:List α} {i:Nat} (h:l.drop i=[]):l.length≤i:=List.drop_eq_nil_iff.1 h
theorem gq {n F:Nat} (h:n<F):∃G,F=G+1:=⟨F - 1,by omega⟩
end Go.Am
end
section
set_option maxRecDepth 100000
namespace Go.Proofs.ct
open Go Go.Am Go.Proofs
theorem My {p:UInt8→Bool} (h:(List.range 256).all (fun n=>p (UInt8.ofNat n))=true) (c:UInt8):p c=true:=by
 have:=List.all_eq_true.1 h c.toNat (by simpa using c.toNat_lt)
 simpa using this
theorem scan {α ρ τ σ:Type} {s:List α} {body:σ→Option (St ρ τ σ)} {mk:Nat→σ} {p:α→Bool} {rr:Nat→ρ} {tt:τ}
 (h1:∀i x,s[i]? =some x→p x=true→body (mk i)=some (.cQ (mk (i+1)))) (h2:∀i x,s[i]? =some x→p x=false→body (mk i)=some (.ret (rr i)))
 (h3:body (mk s.length)=some (.eI tt)) {F:Nat} (hF:s.length<F):
 (s.all p=true→iter body F (mk 0)=some (.inr tt))∧(s.all p=false→∃j,iter body F (mk 0)=some (.inl (rr j))):=by
 suffices h:∀(r:List α) (i F:Nat),s.drop i=r→i+r.length=s.length→r.length<F→
  (r.all p=true→iter body F (mk i)=some (.inr tt))∧(r.all p=false→∃j,iter body F (mk i)=some (.inl (rr j))) from h s 0 F rfl (by simp) hF
 intro r
 induction r with
 |nil=>
  intro i F hd hl hF
  obtain ⟨G,rfl⟩:=gq hF
  have:i=s.length:=by simpa using hl
  subst this
  exact ⟨fun _=>dO h3,fun h=>by simp at h⟩
 |cons x r ih=>
  intro i F hd hl hF
  obtain ⟨G,rfl⟩:=gq hF
  obtain ⟨hi,hx,hr⟩:=drop_cons hd
  simp only [List.length_cons] at hl hF
  cases hp:p x with
  |true=>
   rw [cD (h1 i x hx hp)]
   simp only [List.all_cons,hp,Bool.true_and]
   exact ih (i+1) G hr (by omega) (by omega)
  |false=>
   rw [kT (h2 i x hx hp)]
   simp only [List.all_cons,hp,Bool.false_and]
   exact ⟨fun h=>by simp at h,fun _=>⟨i,rfl⟩⟩
theorem wi {n:Nat} (h:n≤1000000000):IntKind.wrap .i64 ((n:Int)+1)=((n+1:Nat):Int):=by rw [wr (by omega) (by omega)];simp
def low (c:UInt8):UInt8:=if (decide (65≤c)&&decide (c≤90))=true then c+32 else c
def Bf (s:List UInt8) (i:Nat):List UInt8:=(s.map low).take i++s.drop i
theorem sH {s:List UInt8} {i:Nat} (hi:i≤s.length) (j:Nat):(Bf s i)[j]? =if j<i then (s.map low)[j]? else s[j]? :=by
 unfold Bf
 have hl:((s.map low).take i).length=i:=by simp;omega
 by_cases h:j<i
 · rw [if_pos h,List.getElem?_append_left (by omega),List.getElem?_take_of_lt h]
 · rw [if_neg h,List.getElem?_append_right (by omega),hl,List.getElem?_drop]
   congr 1;omega
theorem yo {s:List UInt8} {i:Nat} (hi:i≤s.length):(Bf s i).length=s.length:=by
 unfold Bf;simp;omega
theorem DZ {s:List UInt8} {i:Nat} (hi:i<s.length) {c:UInt8} (hc:s[i]? =some c):(Bf s i).set i (low c)=Bf s (i+1):=by
 apply List.ext_getElem?
 intro j
 rw [List.getElem?_set,sH (by omega),sH (by omega),yo (by omega)]
 by_cases h:i=j
 · subst h
   rw [if_pos rfl,if_pos hi,if_pos (by omega),List.getElem?_map,hc];rfl
 · rw [if_neg h]
   by_cases h2:j<i
   · rw [if_pos h2,if_pos (by omega)]
   · rw [if_neg h2,if_neg (by omega)]
theorem Mz (s:List UInt8):Bf s s.length=s.map low:=by
 unfold Bf;rw [List.drop_length,List.append_nil,List.take_of_length_le (by simp)]
theorem MA (c:UInt8) (h:(decide (65≤c)&&decide (c≤90))=true):c ||| 32=low c:=by
 have:=My (p:=fun c=> !(decide (65≤c)&&decide (c≤90))||(c ||| 32==low c)) (by kernel_rfl) c
 rw [h] at this
 simpa using this
theorem D0 {n i:Nat} (h:i<n):ox n (i:Int)=some i:=by unfold ox;rw [if_pos (by omega)];simp
theorem J9 {xs:List UInt8} {j:Nat} {c:UInt8} (h:j<xs.length):Ai xs j c=some (xs.set j c):=by unfold Ai;rw [if_pos h]
theorem MB {s:List UInt8} {i:Nat} {c:UInt8} (hi:i<s.length) (hc:s[i]? =some c) (h:¬(decide (65≤c)&&decide (c≤90))=true):Bf s i=Bf s (i+1):=by
 rw [←DZ hi hc]
 have hl:low c=c:=by unfold low;rw [if_neg h]
 rw [hl]
 apply List.ext_getElem?
 intro j
 rw [List.getElem?_set,sH (by omega),yo (by omega)]
 by_cases h:i=j
 · subst h;rw [if_pos rfl,if_pos hi,if_neg (by omega),hc]
 · rw [if_neg h]
theorem Ka {s:List UInt8} {F:Nat} (hs:s.length≤2100) (hF:s.length<F):fm F s=some (s.map low):=by
 have Da:∀(m i G:Nat),i+m=s.length→m<G→iter (cG s) G ((i:Int),Bf s i)=some (.inr (s.map low)):=by
  intro m
  induction m with
  |zero=>
   intro i G hi hG
   obtain ⟨G,rfl⟩:=gq hG
   have:i=s.length:=by omega
   subst this
   rw [←Mz s]
   exact dO (by simp only [cG];rw [if_neg (by simp)])
  |succ m ih=>
   intro i G hi hG
   obtain ⟨G,rfl⟩:=gq (show 0<G by omega)
   have hil:i<s.length:=by omega
   have hc:s[i]? =some s[i]:=List.getElem?_eq_getElem hil
   have hst:cG s ((i:Int),Bf s i)=some (.cQ (((i+1:Nat):Int),Bf s (i+1))):=by
    simp only [cG]
    rw [if_pos (by simpa using hil),D0 hil,Option.bind_some,sH (by omega),if_neg (by omega),hc,Option.bind_some,wi (by omega)]
    by_cases h:(decide (65≤s[i])&&decide (s[i]≤90))=true
    · rw [if_pos h,J9 (by rw [yo (by omega)];exact hil),MA _ h,DZ hil hc];rfl
    · rw [if_neg h,MB hil hc h]
   rw [cD hst]
   exact ih (i+1) G (by omega) (by omega)
 unfold fm
 rw [show ((0:Int),s)=(((0:Nat):Int),Bf s 0) by simp [Bf],Da s.length 0 F (by omega) hF]
 simp only [Option.bind_some]
 rw [Mw (j:=s.length) (by simp),List.take_of_length_le (by simp)]
 rfl
def cg (sep:List UInt8):List UInt8→Option (List UInt8×List UInt8)
 |[]=>none
 |c::r=>if sep.isPrefixOf (c::r) then some ([],(c::r).drop sep.length) else (cg sep r).map fun p=>(c::p.1,p.2)
theorem GQ {sep:List UInt8} (hs:sep≠[]):∀s:List UInt8,(cg sep s=none∧Lib.index s sep= -1)∨∃i:Nat,Lib.index s sep=(i:Int)∧cg sep s=some (s.take i,s.drop (i+sep.length)):=by
 intro s
 induction s with
 |nil=>left;exact ⟨rfl,by unfold Lib.index;cases sep with|nil=>exact absurd rfl hs|cons=>rfl⟩
 |cons c r ih=>
  unfold Lib.index cg
  by_cases hp:sep.isPrefixOf (c::r)=true
  · right;exact ⟨0,by rw [if_pos hp];rfl,by rw [if_pos hp];simp⟩
  · rw [if_neg hp,if_neg hp]
    rcases ih with ⟨h1,h2⟩|⟨i,h1,h2⟩
    · left;rw [h1,h2];simp
    · right
      refine ⟨i+1, ?_, ?_⟩
      · rw [h1,if_neg (by simp<;>omega)];simp
      · rw [h2];simp [List.take_succ_cons,Nat.add_right_comm]
theorem MC {sep:List UInt8} (hs:sep≠[]) (s:List UInt8):Lib.cut s sep=match cg sep s with|some (a,b)=>(a,b,true)|none=>(s,[],false):=by
 unfold Lib.cut
 rcases GQ hs s with ⟨h1,h2⟩|⟨i,h1,h2⟩
 · rw [h1,h2,if_neg (by omega)]
 · rw [h2,h1,if_pos (by omega)];simp
theorem D1 {s sep:List UInt8} (hs:sep≠[]) (hl:s.length≤1000000000):strings_Cut s sep=some (match cg sep s with|some (a,b)=>(a,b,true)|none=>(s,[],false)):=by
 unfold strings_Cut
 rw [if_pos (by omega),MC hs]
theorem uw {sep:List UInt8}:∀ {s a b:List UInt8},cg sep s=some (a,b)→s=a++sep++b:=by
 intro s
 induction s with
 |nil=>intro a b h;cases h
 |cons c r ih=>
  intro a b h
  unfold cg at h
  split at h
  · rename_i hp
    injection h with h;injection h with h1 h2;subst h1;subst h2
    obtain ⟨t,ht⟩:=List.isPrefixOf_iff_prefix.1 hp
    rw [←ht];simp
  · rw [Option.map_eq_some_iff] at h
    obtain ⟨⟨a',b'⟩,h1,h2⟩:=h
    injection h2 with h2 h3;subst h2;subst h3
    rw [ih h1];simp
abbrev nl:List UInt8:=[13,10]
def Ends (w:List UInt8):Prop:=w=[]∨∃u,w=u++nl
theorem AD:∀ {w:List UInt8},Ends w→w≠[]→∃a b,cg nl w=some (a,b)∧w=a++nl++b∧Ends b:=by
 intro w
 induction w with
 |nil=>intro _ h;exact absurd rfl h
 |cons c r ih=>
  intro he _
  obtain ⟨u,hu⟩:=he.resolve_left (by simp)
  unfold cg
  by_cases hp:nl.isPrefixOf (c::r)=true
  · rw [if_pos hp]
    obtain ⟨t,ht⟩:=List.isPrefixOf_iff_prefix.1 hp
    refine ⟨[],t,by rw [←ht];simp,by rw [←ht];simp, ?_⟩
    rw [←ht] at hu
    rcases u with _|⟨x,u⟩
    · left;simpa using hu
    · rcases u with _|⟨y,u⟩
      · simp at hu
      · right
        simp only [List.cons_append,List.nil_append,List.cons.injEq] at hu
        exact ⟨u,hu.2.2⟩
  · rw [if_neg hp]
    cases u with
    |nil=>rw [hu] at hp;exact absurd rfl hp
    |cons x u=>
     simp only [List.cons_append,List.cons.injEq] at hu
     obtain ⟨rfl,hr⟩:=hu
     obtain ⟨a,b,h1,h2,h3⟩:=ih (.inr ⟨u,hr⟩) (by rw [hr];simp)
     exact ⟨c::a,b,by rw [h1];rfl,by rw [h2];simp,h3⟩
def whole (b:List UInt8):List UInt8:=if b=[]∨nl.isSuffixOf b=true then b else b++nl
theorem rK (b:List UInt8):Ends (whole b):=by
 unfold whole
 split
 · rename_i h
   rcases h with h|h
   · exact .inl h
   · obtain ⟨u,hu⟩:=List.isSuffixOf_iff_suffix.1 h
     exact .inr ⟨u,hu.symm⟩
 · exact .inr ⟨b,rfl⟩
theorem oJ (b:List UInt8):(whole b).length≤b.length+2:=by unfold whole;split<;>simp
theorem jL {b:List UInt8} (h:2≤b.length):(b.drop (b.length - 2)=nl)↔nl.isSuffixOf b=true:=by
 rw [List.isSuffixOf_iff_suffix]
 constructor
 · intro h1;exact ⟨b.take (b.length - 2),by rw [←h1,List.take_append_drop]⟩
 · rintro ⟨u,rfl⟩;simp
theorem not_suffix {b:List UInt8} (h:b.length<2):nl.isSuffixOf b=false:=by
 rw [Bool.eq_false_iff]
 intro h1
 obtain ⟨u,rfl⟩:=List.isSuffixOf_iff_suffix.1 h1
 simp at h;omega
theorem MD {b:List UInt8} (hb:b.length≤20000):de b nl=some (nl.isSuffixOf b):=by
 unfold de cZ
 by_cases h:2≤b.length
 · rw [if_pos (by simp;omega)]
   have e:IntKind.wrap .i64 ((b.length:Int) - ((nl:List UInt8).length:Int))=((b.length - 2:Nat):Int):=by rw [wr (by simp;omega) (by simp;omega)];simp;omega
   rw [e,uv (by omega)]
   simp only [Option.bind_some,gZ]
   congr 1
   by_cases h2:b.drop (b.length - 2)=nl
   · rw [(jL h).1 h2];simpa using h2
   · have:nl.isSuffixOf b=false:=by rw [Bool.eq_false_iff];exact fun h3=>h2 ((jL h).2 h3)
     rw [this];simpa using h2
 · rw [if_neg (by simp;omega),not_suffix (by omega)];rfl
theorem PA {b:List UInt8} {G:Nat} (hb:b.length≤20000):iter (bp [b,nl]) (G+3) (0,0)=some (.inr ((b.length:Int)+2)):=by
 have s1:bp [b,nl] (0,0)=some (.cQ ((b.length:Int),1)):=by
  simp only [bp]
  rw [if_pos (by simp),show idx [b,nl] 0=some b by simp [idx]]
  simp only [Option.bind_some]
  rw [wr (by omega) (by omega),if_neg (by simp<;>omega)]
  simp [wr]
 have s2:bp [b,nl] ((b.length:Int),1)=some (.cQ ((b.length:Int)+2,2)):=by
  simp only [bp]
  rw [if_pos (by simp),show idx [b,nl] 1=some nl by simp [idx]]
  simp only [Option.bind_some]
  rw [wr (by simp;omega) (by simp;omega),if_neg (by simp<;>omega)]
  simp [wr]
 have s3:bp [b,nl] ((b.length:Int)+2,2)=some (.eI ((b.length:Int)+2)):=by
  simp only [bp];rw [if_neg (by simp)]
 rw [cD s1,cD s2,dO s3]
theorem PB {b:List UInt8} {G:Nat} (hb:b.length≤20000):iter (br [b,nl]) (G+3) ([],0)=some (.inr (b++nl)):=by
 have s1:br [b,nl] ([],0)=some (.cQ (b,1)):=by
  simp only [br]
  rw [if_pos (by simp),show idx [b,nl] 0=some b by simp [idx]]
  simp only [Option.bind_some]
  rw [nr (by simp;omega) (by omega)]
  simp [wr]
 have s2:br [b,nl] (b,1)=some (.cQ (b++nl,2)):=by
  simp only [br]
  rw [if_pos (by simp),show idx [b,nl] 1=some nl by simp [idx]]
  simp only [Option.bind_some]
  rw [nr (by simp;omega) (by omega)]
  simp [wr]
 have s3:br [b,nl] (b++nl,2)=some (.eI (b++nl)):=by
  simp only [br];rw [if_neg (by simp)]
 rw [cD s1,cD s2,dO s3]
theorem Kb {b:List UInt8} (hb:b.length≤20000):eO b=some (decide (b=[]∨nl.isSuffixOf b=true)):=by
 unfold eO
 cases b with
 |nil=>rfl
 |cons c r=>
  rw [if_neg (by simp<;>omega),MD hb]
  rw [Option.bind_some,Option.some.injEq,Bool.eq_iff_iff]
  simp
theorem Kc {n:Int} (h0:0≤n) (h1:n≤1000000000):eB n=some []:=by
 unfold eB
 rw [if_neg (by omega),if_pos (by omega)]
theorem Kd {b:List UInt8} {F:Nat} (h1:iter (bp [b,nl]) F (0,0)=some (.inr ((b.length:Int)+2))) (h2:iter (br [b,nl]) F ([],0)=some (.inr (b++nl)))
 (h3:eB ((b.length:Int)+2)=some []):dZ F [b,nl]=some (b++nl):=by
 unfold dZ
 rw [h1]
 simp only [Option.bind_some]
 rw [h3]
 simp only [Option.bind_some]
 rw [h2]
 simp only [Option.bind_some]
theorem Ke {b:List UInt8} {F:Nat} (hb:b.length≤20000) (hF:3≤F):iP F b=some (whole b):=by
 have hp:=Kb hb
 unfold iP whole
 rw [hp]
 simp only [Option.bind_some,decide_eq_true_eq]
 by_cases h:b=[]∨nl.isSuffixOf b=true
 · rw [if_pos h,if_pos h]
   unfold jS
   rw [nr (by simp;omega) (by omega)];simp
 · rw [if_neg h,if_neg h]
   obtain ⟨G,rfl⟩:∃G,F=G+3:=⟨F - 3,by omega⟩
   rw [Kd (PA hb) (PB hb) (Kc (by omega) (by omega))]
   simp only [Option.bind_some]
end Go.Proofs.ct
end
section
set_option maxRecDepth 100000
namespace Go.Proofs.ct
open Go Go.Am Go.Proofs
def good (c:UInt8):Bool:= !(decide (c<33)||decide (126<c)||decide (c=58))
def AE (s:List UInt8):Bool:= !decide (s=[])&&decide (s.length≤76)&&s.all good
theorem ME {s:List UInt8} {F:Nat} (hs:s.length≤20000) (hF:s.length<F):fc F s=some (AE s):=by
 have hp:∀(i:Nat) (x:UInt8),s[i]? =some x→eP s (i:Int)=some (!good x):=by
  intro i x hx
  unfold eP
  rw [gB hx]
  simp only [Option.bind_some,good]
  by_cases h1:x<33
  · simp [h1]
  · by_cases h2:126<x
    · simp [h1,h2]
    · simp [h1,h2]
 have hh:=scan (s:=s) (body:=cT s) (mk:=fun i=>(i:Int)) (p:=good) (rr:=fun _=>false) (tt:=()) ?_ ?_ ?_ hF
 · unfold fc AE
   cases ha:s.all good with
   |true=>
    have:=hh.1 ha
    rw [show ((0:Nat):Int)=0 from rfl] at this
    rw [this]
    simp only [Bool.and_true]
    by_cases h0:s=[]
    · simp [h0]
    · simp only [h0,decide_false,Bool.not_false,Bool.true_and]
      rw [show decide ((s.length:Int)≤76)=decide (s.length≤76) from by rw [decide_eq_decide];omega]
      simp [h0]
   |false=>
    obtain ⟨j,hj⟩:=hh.2 ha
    rw [show ((0:Nat):Int)=0 from rfl] at hj
    rw [hj]
    simp
 · intro i x hx hg
   have hi:i<s.length:=(List.getElem?_eq_some_iff.1 hx).1
   simp only [cT]
   rw [if_pos (by simpa using hi),hp i x hx,hg]
   simp only [Option.bind_some,Bool.not_true,Bool.false_eq_true,if_false]
   rw [wi (by omega)]
 · intro i x hx hg
   have hi:i<s.length:=(List.getElem?_eq_some_iff.1 hx).1
   simp only [cT]
   rw [if_pos (by simpa using hi),hp i x hx,hg]
   simp
 · simp only [cT]
   rw [if_neg (by simp)]
def kj (name:List UInt8) (p:List UInt8×Nat) (f:aB):List UInt8×Nat:=
 if f.name.map low=name.map low then (if p.2=0 then f.value else p.1,p.2+1) else p
def rL (l:List aB) (name:List UInt8):List UInt8×Nat:=l.foldl (kj name) ([],0)
theorem Kf {l:List aB} {name:List UInt8} {F:Nat} (hl:l.length≤20000) (hn:name.length≤2100) (hf:∀f∈l,f.name.length≤2100) (hF:2200<F) (Uw:l.length<F):
 iC F l name=some ((rL l name).1,((rL l name).2:Int)):=by
 have Da:∀(r:List aB) (i G:Nat) (o:List UInt8) (n:Nat),l.drop i=r→i+r.length=l.length→r.length<G→n≤i→
  iter (dB F l name) G (o,(n:Int),(i:Int))=some (.inr ((r.foldl (kj name) (o,n)).1,((r.foldl (kj name) (o,n)).2:Int))):=by
  intro r
  induction r with
  |nil=>
   intro i G o n hd hi hG hni
   obtain ⟨G,rfl⟩:=gq hG
   have:i=l.length:=by simpa using hi
   subst this
   exact dO (by simp only [dB];rw [if_neg (by simp)];rfl)
  |cons f r ih=>
   intro i G o n hd hi hG hni
   obtain ⟨G,rfl⟩:=gq (show 0<G by omega)
   obtain ⟨hil,hx,hr⟩:=drop_cons hd
   simp only [List.length_cons] at hi hG
   have hfl:f.name.length≤2100:=hf f (List.mem_of_getElem? hx)
   have hst:dB F l name (o,(n:Int),(i:Int))=some (.cQ ((kj name (o,n) f).1,((kj name (o,n) f).2:Int),((i+1:Nat):Int))):=by
    simp only [dB]
    rw [if_pos (by simpa using hil),gB hx]
    simp only [Option.bind_some]
    rw [Ka hfl (by omega),Ka hn (by omega)]
    simp only [Option.bind_some]
    rw [wi (n:=i) (by omega),wi (n:=n) (by omega)]
    unfold kj
    by_cases h:f.name.map low=name.map low
    · rw [if_neg (by simp [h]),if_pos h]
      by_cases h0:n=0
      · subst h0;simp
      · rw [if_neg (by simp;omega),if_neg h0]
    · rw [if_pos (by simpa using h),if_neg h]
   rw [cD hst]
   have:=ih (i+1) G (kj name (o,n) f).1 (kj name (o,n) f).2 hr (by omega) (by omega) (by unfold kj;split<;>simp<;>omega)
   rw [this]
   rfl
 unfold iC rL
 have:=Da l 0 F [] 0 rfl (by simp) Uw (Nat.le_refl _)
 rw [show ((0:Nat):Int)=0 from rfl] at this
 rw [this]
 rfl
def nt (s:List UInt8):Option aB:=match cg [58] s with
 |some (a,b)=>if AE a then some ⟨a,b⟩ else none
 |none=>none
def eK (s:List aB) (x:List UInt8):Bool:=decide (0<s.length)&&(x.head?==some 32||x.head?==some 9)
def ext (s:List aB) (x:List UInt8):List aB:=match s[s.length - 1]? with
 |some f=>s.set (s.length - 1) (aB.mk f.name (f.value++(nl++x)))
 |none=>s
def ff:Nat→List UInt8→List aB→List aB×List UInt8
 |0,_,s=>(s,[])
 |n+1,rest,s=>match cg nl rest with
  |none=>(s,[])
  |some (x,more)=>if eK s x then ff n more (ext s x) else match nt x with
   |some f=>ff n more (s++[f])
   |none=>if x=[] then (s,more) else (s,rest)
def Sb:(List aB×List UInt8)⊕List aB→List aB×List UInt8
 | .inl p=>p
 | .inr s=>(s,[])
theorem MF (s:List aB) (x:List UInt8):ef s x=some (eK s x):=by
 unfold ef eK
 by_cases h:0<s.length
 · rw [if_pos (by simpa using h)]
   cases x with
   |nil=>simp
   |cons c r=>
    rw [if_pos (by simp),show idx (c::r) 0=some c by simp [idx]]
    simp only [Option.bind_some,List.head?_cons]
    by_cases h1:c=32
    · simp [h1,h]
    · simp only [h,h1,decide_true,Bool.true_and,if_false]
      by_cases h2:c=9
      · simp [h2]
      · simp [h1,h2]
 · rw [if_neg (by simpa using h)];simp [h]
def Bd (rest:List UInt8) (s:List aB):Prop:=rest.length+s.length≤20000∧∀f∈s,f.value.length+rest.length≤20000∧f.name.length≤76
theorem Bd.ext {x more rest:List UInt8} {s:List aB} (h:Bd rest s) (hr:rest=x++nl++more):Bd more (ext s x):=by
 obtain ⟨h1,h2⟩:=h
 have hl:rest.length=x.length+2+more.length:=by rw [hr];simp [nl];omega
 unfold ct.ext
 split
 · rename_i f hf
   refine ⟨by simp;omega,fun g hg=> ?_⟩
   rcases List.mem_or_eq_of_mem_set hg with hg|rfl
   · have:=h2 g hg;omega
   · have:=h2 f (List.mem_of_getElem? hf)
     simp;omega
 · exact ⟨by omega,fun g hg=>by have:=h2 g hg;omega⟩
theorem Bd.app {x more rest:List UInt8} {s:List aB} {f:aB} (h:Bd rest s) (hr:rest=x++nl++more) (hf:nt x=some f):Bd more (s++[f]):=by
 obtain ⟨h1,h2⟩:=h
 have hl:rest.length=x.length+2+more.length:=by rw [hr];simp [nl];omega
 unfold nt at hf
 split at hf
 · rename_i a b hc
   split at hf
   · rename_i hn
     injection hf with hf;subst hf
     have hx:=uw hc
     have hxl:x.length=a.length+1+b.length:=by rw [hx];simp [nl];omega
     refine ⟨by simp;omega,fun g hg=> ?_⟩
     rcases List.mem_append.1 hg with hg|hg
     · have:=h2 g hg;omega
     · simp at hg;subst hg
       unfold AE at hn
       simp at hn
       simp;omega
   · cases hf
 · cases hf
theorem Kg {F:Nat} (hF:20001<F):∀(n:Nat) (rest:List UInt8) (s:List aB) (G:Nat),rest.length<n→n≤G→Ends rest→Bd rest s→
 ∃o,iter (cF F) G (rest,s)=some o∧Sb o=ff n rest s:=by
 intro n
 induction n with
 |zero=>intro rest s G h;omega
 |succ n ih=>
  intro rest s G hn hG he hb
  obtain ⟨G,rfl⟩:=gq (show 0<G by omega)
  by_cases hr:rest=[]
  · subst hr
    exact ⟨.inr s,dO (by simp only [cF];rw [if_neg (by simp)]),rfl⟩
  · obtain ⟨x,more,hc,hx,hm⟩:=AD he hr
    have hl:rest.length=x.length+2+more.length:=by rw [hx];simp [nl];omega
    have wg:=hb.1
    have hbody:cF F (rest,s)=(if eK s x then some (.cQ (more,ext s x)) else match nt x with
     |some f=>some (.cQ (more,s++[f]))
     |none=>if x=[] then some (.ret (s,more)) else some (.ret (s,rest))):=by
     simp only [cF]
     rw [if_pos (by simpa using hr),D1 (by simp) (by omega),hc]
     simp only [Option.bind_some]
     rw [D1 (by simp) (by omega)]
     simp only [Option.bind_some,MF]
     by_cases h1:eK s x=true
     · rw [if_pos h1,if_pos h1]
       have hs0:0<s.length:=by unfold eK at h1;simp at h1;exact h1.1
       obtain ⟨f,hf⟩:∃f,s[s.length - 1]? =some f:=⟨_,List.getElem?_eq_getElem (by omega)⟩
       have VJ:=hb.2 f (List.mem_of_getElem? hf)
       have e:IntKind.wrap .i64 ((s.length:Int) - 1)=((s.length - 1:Nat):Int):=by rw [wr (by omega) (by omega)];omega
       rw [e,D0 (by omega)]
       simp only [Option.bind_some]
       rw [hf]
       simp only [Option.bind_some]
       rw [bM (by simp;omega)]
       simp only [Option.bind_some]
       rw [bM (by simp;omega)]
       simp only [Option.bind_some,ct.ext,hf]
     · rw [if_neg h1,if_neg h1]
       unfold nt
       cases h2:cg [58] x with
       |none=>
        simp only [eg,Bool.false_eq_true,if_false,Option.bind_some,decide_eq_true_eq]
       |some p=>
        obtain ⟨a,b⟩:=p
        have hx2:=uw h2
        have hxl:x.length=a.length+1+b.length:=by rw [hx2];simp;omega
        simp only [eg,if_true]
        rw [ME (by omega) (by omega)]
        simp only [Option.bind_some]
        by_cases h3:AE a=true
        · rw [if_pos h3,if_pos h3,nr (by simp;omega) (by omega)];rfl
        · rw [if_neg h3,if_neg h3]
          simp only [decide_eq_true_eq]
    have Sc:ff (n+1) rest s=(if eK s x then ff n more (ext s x) else match nt x with
     |some f=>ff n more (s++[f])
     |none=>if x=[] then (s,more) else (s,rest)):=by
     simp only [ff,hc]
    rw [Sc]
    by_cases h1:eK s x=true
    · rw [if_pos h1] at hbody ⊢
      rw [cD hbody]
      exact ih more _ G (by omega) (by omega) hm (hb.ext hx)
    · rw [if_neg h1] at hbody ⊢
      cases h2:nt x with
      |some f=>
       rw [h2] at hbody
       simp only at hbody ⊢
       rw [cD hbody]
       exact ih more _ G (by omega) (by omega) hm (hb.app hx h2)
      |none=>
       rw [h2] at hbody
       simp only at hbody ⊢
       by_cases h3:x=[]
       · rw [if_pos h3] at hbody ⊢
         exact ⟨_,kT hbody,rfl⟩
       · rw [if_neg h3] at hbody ⊢
         exact ⟨_,kT hbody,rfl⟩
def jm (b:List UInt8):List aB×List UInt8:=ff ((whole b).length+1) (whole b) []
theorem AF {b:List UInt8} {F:Nat} (hb:b.length≤19000) (hF:20001<F):ei F b=some (jm b):=by
 have hw:=oJ b
 obtain ⟨o,h1,h2⟩:=Kg hF ((whole b).length+1) (whole b) [] F (by omega) (by omega) (rK b) ⟨by simp;omega,by simp⟩
 unfold ei jm
 rw [Ke (by omega) (by omega)]
 simp only [Option.bind_some]
 rw [h1, ←h2]
 cases o with
 |inl p=>rfl
 |inr s=>rfl
end Go.Proofs.ct
end
section
namespace Go.Am
open Go
def nu {α A ρ:Type} (step:A→α→Except ρ A):A→List α→Except ρ A
 |a,[]=> .ok a
 |a,x::r=>match step a x with
  | .ok a'=>nu step a' r
  | .error e=> .error e
theorem lp {α ρ τ σ A:Type} {s:List α} {body:σ→Option (St ρ τ σ)} {mk:A→Nat→σ} {step:A→α→Except ρ A} {tt:A→τ} (I:A→Nat→Prop)
 (h1:∀a i x,s[i]? =some x→I a i→match step a x with
  | .ok a'=>body (mk a i)=some (.cQ (mk a' (i+1)))∧I a' (i+1)
  | .error r=>body (mk a i)=some (.ret r))
 (h3:∀a,I a s.length→body (mk a s.length)=some (.eI (tt a))) {F:Nat} {a:A} (hF:s.length<F) (h0:I a 0):
 iter body F (mk a 0)=some (match nu step a s with| .ok a'=> .inr (tt a')| .error r=> .inl r)∧∀a',nu step a s= .ok a'→I a' s.length:=by
 suffices h:∀(r:List α) (i F:Nat) (a:A),s.drop i=r→i+r.length=s.length→r.length<F→I a i→
  iter body F (mk a i)=some (match nu step a r with| .ok a'=> .inr (tt a')| .error r=> .inl r)∧∀a',nu step a r= .ok a'→I a' s.length from h s 0 F a rfl (by simp) hF h0
 intro r
 induction r with
 |nil=>
  intro i F a hd hl hF h0
  obtain ⟨G,rfl⟩:=gq hF
  have:i=s.length:=by simpa using hl
  subst this
  exact ⟨dO (h3 a h0),fun a' h=>by cases h;exact h0⟩
 |cons x r ih=>
  intro i F a hd hl hF h0
  obtain ⟨G,rfl⟩:=gq hF
  obtain ⟨hi,hx,hr⟩:=drop_cons hd
  simp only [List.length_cons] at hl hF
  have:=h1 a i x hx h0
  simp only [nu]
  cases hs:step a x with
  |ok a'=>
   rw [hs] at this
   rw [cD this.1]
   exact ih (i+1) G a' hr (by omega) (by omega) this.2
  |error e=>
   rw [hs] at this
   rw [kT this]
   exact ⟨rfl,fun a' h=>by cases h⟩
theorem lpo {α ρ τ σ A:Type} {s:List α} {body:σ→Option (St ρ τ σ)} {mk:A→Nat→σ} {step:A→α→A} {tt:A→τ} (I:A→Nat→Prop)
 (h1:∀a i x,s[i]? =some x→I a i→body (mk a i)=some (.cQ (mk (step a x) (i+1)))∧I (step a x) (i+1))
 (h3:∀a,I a s.length→body (mk a s.length)=some (.eI (tt a))) {F:Nat} {a:A} (hF:s.length<F) (h0:I a 0):
 iter body F (mk a 0)=some (.inr (tt (s.foldl step a)))∧I (s.foldl step a) s.length:=by
 have key:∀(r:List α) (a:A),nu (ρ:=ρ) (fun a x=> .ok (step a x)) a r= .ok (r.foldl step a):=by
  intro r
  induction r with
  |nil=>intro a;rfl
  |cons x r ih=>intro a;simp only [nu,List.foldl_cons];exact ih _
 have:=lp (s:=s) (body:=body) (mk:=mk) (step:=fun a x=> .ok (step a x)) (tt:=tt) I (fun a i x hx h=>h1 a i x hx h) h3 hF h0
 rw [key] at this
 exact ⟨this.1,this.2 _ rfl⟩
theorem Vd {a b:Int} (h0:0≤a) (h1:a≤4000000000000000000) (h2:0≤b) (h3:b≤4000000000000000000):IntKind.wrap .i64 (a+b)=a+b:=wr (by omega) (by omega)
theorem Kh {n:Nat} (h:n≤1000000000):IntKind.wrap .i64 ((n:Int)+1)=((n+1:Nat):Int):=by rw [wr (by omega) (by omega)];simp
end Go.Am
end
section
set_option maxRecDepth 100000
namespace Go.Proofs.ct
open Go Go.Am Go.Proofs
theorem AG {more:List UInt8}:∀ {x:List UInt8},(∀c∈x,c≠13)→cg nl (x++(nl++more))=some (x,more):=by
 intro x
 induction x with
 |nil=>intro _;rfl
 |cons c r ih=>
  intro h
  rw [List.cons_append,cg]
  rw [if_neg,ih fun d hd=>h d (List.mem_cons_of_mem _ hd)]
  · rfl
  · have:=h c (by simp)
    simp [List.isPrefixOf,Ne.symm this]
theorem GR {more:List UInt8}:∀ {x:List UInt8},(∀c∈x,c≠58)→cg [58] (x++([58]++more))=some (x,more):=by
 intro x
 induction x with
 |nil=>intro _;rfl
 |cons c r ih=>
  intro h
  rw [List.cons_append,cg]
  rw [if_neg,ih fun d hd=>h d (List.mem_cons_of_mem _ hd)]
  · rfl
  · have:=h c (by simp)
    simp [List.isPrefixOf,Ne.symm this]
theorem Sd {c:UInt8} (h:good c=true):c≠13∧c≠58∧c≠32∧c≠9∧c≠10:=by
 refine ⟨?_, ?_, ?_, ?_, ?_⟩<;>(rintro rfl;revert h;decide)
theorem Db {y body:List UInt8}:whole (y++(nl++body))=y++(nl++whole body):=by
 by_cases hb:body=[]
 · subst hb
   have e:whole ([]:List UInt8)=[]:=by simp [whole]
   rw [e]
   unfold whole
   rw [if_pos]
   right
   exact List.isSuffixOf_iff_suffix.2 ⟨y,by simp⟩
 · have key:nl.isSuffixOf (y++(nl++body))=nl.isSuffixOf body:=by
    by_cases h2:2≤body.length
    · rw [Bool.eq_iff_iff, ←jL h2, ←jL (by simp;omega)]
      have:(y++(nl++body)).drop ((y++(nl++body)).length - 2)=body.drop (body.length - 2):=by
       rw [←List.append_assoc,List.drop_append,List.drop_eq_nil_of_le (by simp;omega)]
       simp only [List.nil_append]
       congr 1
       simp;omega
      rw [this]
    · obtain ⟨c,rfl⟩:∃c,body=[c]:=by
       cases body with
       |nil=>exact absurd rfl hb
       |cons c r=>cases r with
        |nil=>exact ⟨c,rfl⟩
        |cons d r=>simp at h2
      rw [not_suffix (b:=[c]) (by simp),Bool.eq_false_iff]
      intro h
      obtain ⟨u,hu⟩:=List.isSuffixOf_iff_suffix.1 h
      have h3:=congrArg List.reverse hu
      simp at h3
   unfold whole
   rw [key]
   by_cases h:nl.isSuffixOf body=true
   · rw [if_pos (.inr h),if_pos (.inr h)]
   · rw [if_neg (by simp [h]),if_neg (by simp [h,hb])];simp
end Go.Proofs.ct
end
