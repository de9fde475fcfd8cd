import Derived.Test.YtfnnmecilcnloaaGreatDoorM2
import Derived.Shelf.Strconv.Itoa3
import Derived.Shelf.Spec.SlicesGrow
import Derived.Shelf.SlGeneric
import Derived.Test.YtfnnmecilcnloaaGreatDoorProg
import Derived.Shelf.Small.Strs
import Derived.Shelf.Utf8.RuneCount
import Derived.Shelf.Strconv.Atoi
import Derived.Shelf.Strconv.Itoa0
import Derived.Shelf.Strconv.Itoa1
import Derived.Shelf.LaysM
import Derived.Shelf.Strconv.Itoa2
import Derived.Shelf.Strconv.AtoiErrFast
import Derived.Shelf.Strconv.ParseIntEmpty
import Derived.Shelf.Strconv.AtoiFail
import Derived.Shelf.Strconv.Clone
import Derived.Shelf.Strconv.SyntaxError
import Derived.Shelf.LaysC
import Derived.Shelf.Strconv.ToError
import Derived.Shelf.Strconv.Lower
import Derived.Shelf.Strconv.ParseUint10
import Derived.Shelf.Strconv.ParseUint10Empty
import Derived.Shelf.Strconv.ParseUint10Any
import Derived.Shelf.Strconv.ParseInt10
import Derived.Shelf.Strconv.AtoiLong
import Derived.Shelf.Strconv.AtoiInnerAll
import Derived.Shelf.Strconv.RangeError
import Derived.Shelf.Strconv.ToErrorRange
import Derived.Shelf.Strconv.AtoiAll
import Derived.Shelf.Strconv.ErrVarAll
import Derived.Shelf.Strings.Search1
import Derived.Shelf.Strings.Search2
import Derived.Shelf.Strings.Search3
import Derived.Shelf.Strings.Cut
import Derived.Shelf.Strings.Count
import Derived.Shelf.Strings.Shaped
import Derived.Shelf.Strings.Split
import Derived.Shelf.Strings.SplitShaped
import Derived.Shelf.Unicode.Decode
import Derived.Shelf.Strings.RuneCount
import Derived.Shelf.Strings.Explode
import Derived.Shelf.Unicode.DecodeSlow
import Derived.Shelf.Unicode.DecodeAny
import Derived.Shelf.Bytes.Small
import Derived.Lib.Split
set_option linter.unusedSimpArgs false
set_option linter.unusedVariables false
set_option linter.unusedSectionVars false
set_option linter.defProp false
section
namespace Go.Am
open Go
variable [Tabs]
def EK (k:Nat) (xs:List AV):Prop:=∀(i:Nat) (a:AV),xs[i]? =some a→a.cells.length=k∧bK a.cells=true∧eE a.cells=true∧bU a.cells=true
theorem EK.ml {α:Type} {f:α→AV} {k:Nat} (h:∀x,(f x).cells.length=k∧bK (f x).cells=true∧eE (f x).cells=true∧bU (f x).cells=true) (l:List α):EK k (ml f l):=by
 intro i a hi
 simp only [Am.ml,List.getElem?_map,Option.map_eq_some_iff] at hi
 obtain ⟨x, -,rfl⟩:=hi
 exact h x
def fla (xs:List AV):List AV:=(xs.map fun a=>a.cells.map AV.s1).flatten
theorem jU (a:AV) (xs:List AV):fla (a::xs)=a.cells.map AV.s1++fla xs:=rfl
theorem FB (xs ys:List AV):fla (xs++ys)=fla xs++fla ys:=by simp [fla]
theorem EK.tail {k:Nat} {a:AV} {xs:List AV} (h:EK k (a::xs)):EK k xs:=fun i b hb=>h (i+1) b (by simpa using hb)
theorem kf {k:Nat}:∀ {xs:List AV},EK k xs→(fla xs).length=xs.length*k:=by
 intro xs
 induction xs with
 |nil=>intro _;simp [fla]
 |cons a r ih=>intro h;rw [jU,List.length_append,List.length_map,ih h.tail,(h 0 a rfl).1,List.length_cons,Nat.succ_mul];omega
theorem FC {k:Nat}:∀ {xs:List AV},EK k xs→∀(i j:Nat) (a:AV),xs[i]? =some a→j<k→(fla xs)[i*k+j]? =(a.cells.map AV.s1)[j]? :=by
 intro xs
 induction xs with
 |nil=>intro _ i j a h;simp at h
 |cons y r ih=>
  intro h i j a hi hj
  have hy:=(h 0 y rfl).1
  rw [jU]
  cases i with
  |zero=>
   simp at hi;subst hi
   rw [List.getElem?_append_left (by simp;omega)];simp
  |succ i=>
   rw [List.getElem?_append_right (by simp only [List.length_map,hy,Nat.succ_mul];omega)]
   rw [show (i+1)*k+j - (y.cells.map AV.s1).length=i*k+j by simp only [List.length_map,hy,Nat.succ_mul];omega]
   exact ih h.tail i j a (by simpa using hi) hj
theorem PX {k:Nat}:∀ {xs:List AV},EK k xs→∀(i j:Nat) (a a' w:AV),xs[i]? =some a→j<k→a'.cells.map AV.s1=(a.cells.map AV.s1).set j w→fla (xs.set i a')=(fla xs).set (i*k+j) w:=by
 intro xs
 induction xs with
 |nil=>intro _ i j a a' w h;simp at h
 |cons y r ih=>
  intro h i j a a' w hi hj hw
  have hy:=(h 0 y rfl).1
  cases i with
  |zero=>
   simp at hi;subst hi
   rw [List.set_cons_zero,jU,jU,hw,List.set_append_left _ _ (by simp;omega)];simp
  |succ i=>
   rw [List.set_cons_succ,jU,jU,ih h.tail i j a a' w (by simpa using hi) hj hw,List.set_append_right _ _ (by simp only [List.length_map,hy,Nat.succ_mul];omega)]
   rw [show (i+1)*k+j - (y.cells.map AV.s1).length=i*k+j by simp only [List.length_map,hy,Nat.succ_mul];omega]
theorem V9 (a:AV):a.s1.s1=a.s1:=by cases a<;>rfl
theorem SZ (xs:List AV):(fla xs).map AV.s1=fla xs:=by
 unfold fla
 rw [List.map_flatten,List.map_map]
 congr 1
 apply List.map_congr_left
 intro a _
 simp [List.map_map,Function.comp_def,V9]
theorem zu {k:Nat}:∀ {xs:List AV},EK k xs→∀(q:Nat) (a:AV),(fla xs)[q]? =some a→a.flat=true∧a.np=true∧a.fW=true:=by
 intro xs
 induction xs with
 |nil=>intro _ q a h;simp [fla] at h
 |cons y r ih=>
  intro h q a hq
  rw [jU] at hq
  by_cases hlt:q<(y.cells.map AV.s1).length
  · rw [List.getElem?_append_left hlt,List.getElem?_map,Option.map_eq_some_iff] at hq
    obtain ⟨z,hz,rfl⟩:=hq
    have h1:=gD (h 0 y rfl).2.2.2 hz
    have h2:=pP (h 0 y rfl).2.2.1 hz
    have h3:z.fW=true:=by
     have:=(h 0 y rfl).2.1
     generalize y.cells=l at this hz
     clear hlt
     induction l generalizing q with
     |nil=>simp at hz
     |cons b l ihl=>
      simp only [bK,Bool.and_eq_true] at this
      cases q with
      |zero=>simp at hz;subst hz;exact this.1
      |succ q=>exact ihl q this.2 (by simpa using hz)
    cases z<;>simp_all [AV.s1,AV.flat,AV.np,AV.fW]
  · rw [List.getElem?_append_right (by omega)] at hq
    exact ih h.tail _ a hq
theorem FD {l:List AV} (h:∀(q:Nat) (a:AV),l[q]? =some a→a.flat=true):bU l=true:=by
 induction l with
 |nil=>rfl
 |cons a r ih=>simp only [bU,Bool.and_eq_true];exact ⟨h 0 a rfl,ih fun q b hb=>h (q+1) b (by simpa using hb)⟩
theorem jm (k:Nat) (xs:List AV) (c:Nat):gC k xs c=fla xs++List.replicate ((c - xs.length)*k) .un:=rfl
theorem uF {k c:Nat} {xs:List AV} (h:EK k xs) (hc:xs.length≤c):(gC k xs c).length=c*k:=by
 rw [jm,List.length_append,kf h,List.length_replicate, ←Nat.add_mul];congr 1;omega
theorem wg {k c:Nat} {xs:List AV} (h:EK k xs):(gC k xs c).take (xs.length*k)=fla xs:=by
 rw [jm,List.take_append_of_le_length (by rw [kf h];exact Nat.le_refl _),List.take_of_length_le (by rw [kf h];exact Nat.le_refl _)]
theorem PY {k c i j:Nat} {xs:List AV} {a:AV} (h:EK k xs) (hi:xs[i]? =some a) (hj:j<k):(gC k xs c)[i*k+j]? =(a.cells.map AV.s1)[j]? :=by
 have hlt:i<xs.length:=(List.getElem?_eq_some_iff.1 hi).1
 have:(i+1)*k≤xs.length*k:=Nat.mul_le_mul_right _ hlt
 rw [Nat.succ_mul] at this
 rw [jm,List.getElem?_append_left (by rw [kf h];omega),FC h i j a hi hj]
theorem MD {k c i j:Nat} {xs:List AV} {a a' w:AV} (h:EK k xs) (hi:xs[i]? =some a) (hj:j<k) (hw:a'.cells.map AV.s1=(a.cells.map AV.s1).set j w):
 over (gC k xs c) (i*k+j) [w]=some (gC k (xs.set i a') c):=by
 have hlt:i<xs.length:=(List.getElem?_eq_some_iff.1 hi).1
 have hm:(i+1)*k≤xs.length*k:=Nat.mul_le_mul_right _ hlt
 rw [Nat.succ_mul] at hm
 have hl:=kf h
 unfold over
 rw [if_pos (by rw [jm,List.length_append,hl,List.length_singleton];omega)]
 congr 1
 rw [jm k (xs.set i a'),List.length_set,PX h i j a a' w hi hj hw,jm]
 rw [←List.set_append_left _ _ (by rw [hl];omega)]
 rw [List.set_eq_take_append_cons_drop,if_pos (by rw [List.length_append,hl];omega)]
 simp
def GF (k n0 q:Nat) (xs:List AV) (c:Nat) (ah:AH):Prop:=
 (c=0∧xs=[])∨(n0≤q∧0<c∧xs.length≤c∧ah[q]? =some (gC k xs c))
theorem GF.lt {k n0 q c:Nat} {xs:List AV} {ah:AH} (h:GF k n0 q xs c ah) (hc:0<c):q<ah.length∧n0≤q:=by
 rcases h with ⟨h, -⟩|⟨h1, -, -,h2⟩
 · omega
 · exact ⟨(List.getElem?_eq_some_iff.1 h2).1,h1⟩
theorem GF.nil {k n0 q:Nat} {ah:AH}:GF k n0 q [] 0 ah:= .inl ⟨rfl,rfl⟩
theorem GF.at {k n0 q c i:Nat} {xs:List AV} {ah:AH} {a:AV} (h:GF k n0 q xs c ah) (hi:xs[i]? =some a):n0≤q∧ah[q]? =some (gC k xs c):=by
 rcases h with ⟨-,rfl⟩|⟨h1, -, -,h2⟩
 · simp at hi
 · exact ⟨h1,h2⟩
theorem GF.of {k n0 q c:Nat} {xs:List AV} {ah ax:AH} (h:GF k n0 q xs c ah) (he:q<ah.length→n0≤q→ax[q]? =ah[q]?):GF k n0 q xs c ax:=by
 rcases h with h|⟨h1,h2,h3,h4⟩
 · exact .inl h
 · exact .inr ⟨h1,h2,h3,by rw [he (List.getElem?_eq_some_iff.1 h4).1 h1];exact h4⟩
theorem GF.set {k n0 q c i:Nat} {xs:List AV} {ah:AH} {a a':AV} (h:GF k n0 q xs c ah) (hi:xs[i]? =some a):GF k n0 q (xs.set i a') c (ah.set q (gC k (xs.set i a') c)):=by
 rcases h with ⟨-,rfl⟩|⟨h1,h2,h3,h4⟩
 · simp at hi
 · exact .inr ⟨h1,h2,by simpa using h3,List.getElem?_set_self (List.getElem?_eq_some_iff.1 h4).1⟩
section
variable {P:Program} {L:List Nat} {N n0:Nat} {e:Env} {ah:AH} {t:List It} {Q:Exit→Env→AH→Prop} {r:List aF} {d:Option Nat} {g:Option (Nat×Bool)}
theorem PZ {α:Type} {f:α→AV} {k b q c n1:Nat} {x y:Ar} {tg:Tg} {X Y Z:List α} {ys:List AV} (hf:∀x,(f x).cells.length=k∧bK (f x).cells=true∧eE (f x).cells=true∧bU (f x).cells=true)
 (uv:0<k) (hx:ev e x= .bM q k X.length c) (hy:ev e y= .sl tg k ys) (hys:ys=ml f Y) (hY:Y≠[]) (hz:cF b X Y=some Z) (hG:GF k n1 q (ml f X) c ah) (hn:n1≤ah.length)
 (hK:∀q' c' ax,GF k n1 q' (ml f Z) c' ax→(∀s,s<ah.length→s<n1∨(0<c→s≠q)→ax[s]? =ah[s]?)→ah.length≤ax.length→(q'=q∨ah.length≤q')→
  U P L N n0 (.ops r::t) Q .normal (ay L e d (.bM q' k Z.length c')) ax):
 UG P L N n0 ⟨d, .jh k b x y,g⟩ r t Q e ah (some true):=by
 subst hys
 obtain ⟨hc,hZ⟩:=GY hz
 injection hZ with hZ
 subst hZ
 have eX:=EK.ml hf X
 have eY:=EK.ml hf Y
 have eXY:EK k (ml f (X++Y)):=EK.ml hf _
 have hap:ml f (X++Y)=ml f X++ml f Y:=by simp [ml]
 have lX:(ml f X).length=X.length:=by simp [ml]
 have lY:(ml f Y).length=Y.length:=by simp [ml]
 have hyp:0<Y.length:=List.length_pos_iff.2 hY
 show lG L d k b x y e ah fun e ah=>U P L N n0 (.ops r::t) Q .normal e ah
 unfold lG
 rw [hx,hy]
 refine ⟨rfl,rfl,by simpa [ml] using hY,by rw [lY];exact hc.1,by rw [lY];exact hc.2, ?_⟩
 have YN:(X++Y).length=X.length+Y.length:=List.length_append
 rcases hG with ⟨rfl,hX⟩|⟨h1,h2,h3,h4⟩
 · have hX:X=[]:=by simpa [ml] using hX
   subst hX
   refine .inl ⟨rfl,rfl,fun c' bL=> ?_⟩
   rw [lY] at bL ⊢
   have:=hK ah.length c' (ah++[gC k (ml f Y) c']) (.inr ⟨hn,by omega,by simpa [ml] using bL,by simp⟩) (fun s hs _=>List.getElem?_append_left hs) (by simp) (.inr (Nat.le_refl _))
   simpa using this
 · rw [lX] at h3
   have hlt:=(List.getElem?_eq_some_iff.1 h4).1
   refine .inr ⟨_,h4,fun h0=> ?_,uF eX (by rw [lX];exact h3),h3, ?_,fun hr=> ?_,fun hr c' bL=> ?_⟩
   · have:=uF eX (c:=c) (by rw [lX];exact h3)
     rw [h0] at this
     have h5:=Nat.mul_pos h2 uv
     simp at this
     omega
   · rw [←lX,wg eX];exact FD fun q a hq=>(zu eX q a hq).1
   · rw [lY] at hr ⊢
     have e1:(gC k (ml f X) c).take (X.length*k)++((ml f Y).map fun a=>a.cells.map AV.s1).flatten++(gC k (ml f X) c).drop ((X.length+Y.length)*k)=gC k (ml f (X++Y)) c:=by
      have t1:=wg (c:=c) eX
      rw [lX] at t1
      rw [t1,jm k (ml f (X++Y)),hap,FB]
      show fla (ml f X)++fla (ml f Y)++_=_
      congr 1
      rw [jm,List.drop_append,List.drop_of_length_le (by rw [kf eX,lX];exact Nat.mul_le_mul_right _ (by omega)),List.nil_append,List.drop_replicate]
      congr 1
      rw [kf eX,List.length_append,lX,lY, ←Nat.sub_mul, ←Nat.sub_mul]
      congr 1
      omega
     rw [e1]
     have:=hK q c (ah.set q (gC k (ml f (X++Y)) c)) (.inr ⟨h1,h2,by simpa [ml] using hr,List.getElem?_set_self hlt⟩) (fun s hs hq=>List.getElem?_set_ne (hq.elim (fun h=>by omega) (fun h=>Ne.symm (h h2)))) (by simp) (.inl rfl)
     rw [YN] at this
     exact this
   · rw [lY] at bL hr ⊢
     have e1:((gC k (ml f X) c).take (X.length*k)).map AV.s1++gC k (ml f Y) (c' - X.length)=gC k (ml f (X++Y)) c':=by
      have t1:=wg (c:=c) eX
      rw [lX] at t1
      rw [t1,SZ,jm,jm,hap,FB,List.append_assoc]
      congr 3
      rw [List.length_append,lX,lY];congr 1;omega
     rw [e1]
     have:=hK ah.length c' (ah++[gC k (ml f (X++Y)) c']) (.inr ⟨hn,by omega,by simpa [ml] using bL,by simp⟩) (fun s hs _=>List.getElem?_append_left hs) (by simp) (.inr (Nat.le_refl _))
     rw [YN] at this
     exact this
theorem Wa {q k n c:Nat}:JR L e ah d (.bM q k n c)=some (ay L e d (.int .i64 n),ah):=rfl
theorem YO {q k n c:Nat} {ki:IntKind} {i:Int}:uE L e ah d k (.bM q k n c) (.int ki i)=(so n i).map fun j=>(ay L e d (.ptr q (j*k)),ah):=by
 simp only [uE,so,and_true]
 split<;>simp
theorem Wb {k m s p:Nat} {ki:IntKind} {i:Int}:EA L e ah d k m (.ptr s p) (.int ki i)=(so m i).map fun j=>(ay L e d (.ptr s (p+j*k)),ah):=by
 simp only [EA,so]
 split<;>simp
theorem Wc {k m p:Nat} {a:AV} {ki:IntKind} {i:Int}:EA L e ah d k m (.ep a p) (.int ki i)=(so m i).map fun j=>(ay L e d (.ep a (p+j*k)),ah):=by
 simp only [EA,so]
 split<;>simp
theorem Wd {k:Nat}:EB L e ah d k (.sl .ex k [])=some (ay L e d (.bM 0 k 0 0),ah):=by simp [EB]
theorem We {s k n c j:Nat}:EB L e ah d j (.bM s k n c)=some (ay L e d (.bM s k n c),ah):=rfl
theorem Wf {u k j:Nat} {xs:List AV}:EB L e ah d j (.sl (.fr (.tmp u)) k xs)=JH L e ah d u k xs (Am.get e u):=rfl
theorem S0 {u k:Nat} {xs zs:List AV}:JH L e ah d u k xs (.sl .own k zs)=some (ay L (put e u (.sl .n k zs)) d (.sl .own k xs),ah):=by simp [JH]
end
theorem Wx.aa9 {s k n m c:Nat} (h:n=m):Wx (.bM s k n c) (.bM s k m c):=by subst h;exact .same (by simp)
theorem Wx.bM {s k n c:Nat}:Wx (.bM s k n c) (.bM s k n c):= .same (by simp)
def WG:=And.intro @Wf<|And.intro @S0<|And.intro @Sk<|And.intro @Sl<|And.intro @Sm<|And.intro @Sn<|And.intro @So<|And.intro @Sp<|And.intro @Sq<|And.intro @Sr<|And.intro @Ss<|And.intro @Su<|And.intro @Sv<|And.intro @Sw<|And.intro @Sx<|And.intro @Sy<|And.intro @Sz<|And.intro @SA<|And.intro @OF<|And.intro @OG<|And.intro @OH<|And.intro @OI<|And.intro @Wa<|And.intro @YO<|And.intro @Wb<|And.intro @Wc<|And.intro @Wd<|And.intro @We<|And.intro @U3<|And.intro @U4<|And.intro @Nat.add_zero<|And.intro @Nat.zero_add @Nat.mul_one
section
variable {P:Program} {L:List Nat} {N n0:Nat} {F:Nat→Prop} {γ:List Nat} {C:Nat→List Value} {e e':Env} {ah:AH} {ts:Array Value} {w:World} {Q K:Exit→Env→AH→Prop}
theorem VR.one' {x:AV} {u:Value} (hx:VR C γ x u) (hk:x.fW=true):u.oneCell'=true:=by
 cases hx<;>first|rfl|cases hk|skip
 rename_i hs
 cases u<;>first|rfl|cases hs
theorem SR.FE (h:SR L N F γ C e ah ts w) {s k n1 c:Nat} {xs:List AV} (hkp:0<k) (hk:EK k xs) (hG:GF k n1 s xs c ah)
 (he:∀t,get e' t=get e t∨(get e t= .bM s k xs.length c∧get e' t= .sl .n k xs)):∃C',SR L N F γ C' e' (if c=0 then ah else ah.set s []) ts w∧Ext F C w C' w:=by
 rcases hG with ⟨rfl,rfl⟩|⟨-,hc0,hcl,hs⟩
 · refine ⟨C, ?_,Ext.refl ..⟩
   rw [if_pos rfl]
   have hbk:∀p b,blk γ e' ah ts w p b→blk γ e ah ts w p b:=by
    intro p b hp
    cases p with
    |tmp t=>
     simp only [blk] at hp ⊢
     rcases he t with h1|⟨h1,h2⟩
     · rwa [h1] at hp
     · rw [h2] at hp;simp [bz] at hp
    |obj s=>exact hp
    |cell s i=>exact hp
   refine ⟨h.mem,h.sz,fun t=> ?_,fun p q b hp hq=>h.cX p q b (hbk p b hp) (hbk q b hq),fun p b hp=>h.nf p b (hbk p b hp),h.je,fun t l k' xs' ht=> ?_⟩
   · rcases he t with h1|⟨h1,h2⟩
     · rw [h1];exact h.env t
     · rw [h2]
       have hv:=(h.env t).1
       rw [h1] at hv
       obtain ⟨a,hv, -⟩:=hv.qE
       rw [hv]
       exact ⟨.n7 ..,by simp [TC]⟩
   · rcases he t with h1|⟨h1,h2⟩
     · rw [h1] at ht
       have hf:=h.fr t l k' xs' ht
       cases l with
       |tmp u=>
        refine ⟨hf.1,fun hu=>hf.2 ?_⟩
        rcases he u with g1|⟨g1,g2⟩
        · rwa [g1] at hu
        · rw [g2] at hu;cases hu
       |cell s' o=>exact hf
     · rw [h2] at ht;cases ht
 rw [if_neg (by omega)]
 have hlt:s<γ.length:=by rw [h.mem.len];exact (List.getElem?_eq_some_iff.1 hs).1
 obtain ⟨b,hb⟩:∃b,γ[s]? =some b:=⟨_,List.getElem?_eq_getElem hlt⟩
 obtain ⟨vs,ty,hh,hsz,hcell⟩:=h.mem.obj s b _ hs hb
 have uy:blk γ e ah ts w (.obj s) b:=hb
 have uv:gC k xs c≠[]:=by
  intro h0
  have:=uF (c:=c) hk hcl
  rw [h0] at this
  have h5:=Nat.mul_pos hc0 hkp
  simp at this
  omega
 have Ee:=h.mem.qc s b _ hs uv hb
 refine ⟨fun x=>if x=b then vs.toList.take (xs.length*k) else C x, ?_⟩
 generalize tq:(fun x=>if x=b then vs.toList.take (xs.length*k) else C x)=C'
 have c0:C' b=vs.toList.take (xs.length*k):=by rw [←tq];simp
 have c1:∀x,x≠b→C' x=C x:=fun x hx=>by rw [←tq];simp [hx]
 have hgl:=uF (c:=c) hk hcl
 have hmul:xs.length*k≤c*k:=Nat.mul_le_mul_right _ hcl
 have hvl:(C' b).length=xs.length*k:=by rw [c0,List.length_take,show vs.toList.length=vs.size from Array.length_toList];omega
 have hpre:∀x,C x <+: C' x:=by
  intro x
  by_cases hx:x=b
  · subst hx;rw [Ee];exact List.nil_prefix
  · rw [c1 x hx];exact List.prefix_refl _
 have iU:∀(s':Nat),s'≠s→(ah.set s [])[s']? =ah[s']? :=fun s' hn=>List.getElem?_set_ne (Ne.symm hn)
 have fY:(ah.set s [])[s]? =some []:=List.getElem?_set_self (by rw [←h.mem.len];exact hlt)
 have tr:∀(s':Nat),γ[s']? =some b→s'=s:=fun s' hs'=>by
  have:=h.cX (.obj s') (.obj s) b hs' hb;injection this
 have hbk:∀p x,blk γ e' (ah.set s []) ts w p x→blk γ e ah ts w p x:=by
  intro p x hp
  cases p with
  |obj s'=>exact hp
  |cell s' i=>
   obtain ⟨ds,a,b0,h1,h2,h3,h4⟩:=hp
   by_cases hn:s'=s
   · subst hn;rw [fY] at h1;injection h1 with h1;subst h1;simp at h2
   · rw [iU s' hn] at h1;exact ⟨ds,a,b0,h1,h2,h3,h4⟩
  |tmp t=>
   simp only [blk] at hp ⊢
   rcases he t with h1|⟨h1,h2⟩
   · rwa [h1] at hp
   · rw [h2] at hp;simp [bz] at hp
 have lJ:∀(a:AV) (v:Value),TC w C a v→(∀x,bz a v=some x→x≠b)→TC w C' a v:=fun a v ht hn=>ht.mono fun x hx=>⟨rfl,c1 x (hn x hx)⟩
 refine ⟨⟨⟨by simp [h.mem.len],fun s' x ds h1 h2=> ?_,fun x hx=> ?_,fun s' x ds h1 h0 h2=> ?_,fun s' x ds us ty' fr h1 h2 h3=> ?_⟩,h.sz,fun t=> ?_,fun p q x hp hq=>h.cX p q x (hbk p x hp) (hbk q x hq),fun p x hp=>h.nf p x (hbk p x hp),h.je,fun t l k xs ht=> ?_⟩,
  ⟨hpre,fun x hx=>⟨rfl,c1 x (fun e=>h.nf _ _ uy (e▸hx))⟩,Nat.le_refl _,rfl,rfl,rfl⟩⟩
 · by_cases hn:s'=s
   · subst hn
     rw [fY] at h1;injection h1 with h1;subst h1
     rw [hb] at h2;injection h2 with h2;subst h2
     exact ⟨vs,ty,hh,by simp,by simp⟩
   · rw [iU s' hn] at h1
     obtain ⟨us,ty',g1,g2,g3⟩:=h.mem.obj s' x ds h1 h2
     refine ⟨us,ty',g1,g2,fun i a hi=>⟨(g3 i a hi).1.mono hpre _ (fun _ _ h=>h),lJ _ _ (g3 i a hi).2 fun y hy e=> ?_⟩⟩
     subst e
     obtain ⟨v,hv, -, -⟩:=cellAt h.mem h1 hi h2
     have GG:v=us.getD i undef:=by
      have hlt:i<us.size:=Nat.lt_of_lt_of_le (List.getElem?_eq_some_iff.1 hi).1 g2
      rw [cD g1,Array.getElem?_eq_getElem hlt] at hv
      simp [Array.getD_eq_getD_getElem?,Array.getElem?_eq_getElem hlt,Option.some.inj hv]
     have:blk γ e ah ts w (.cell s' i) y:=⟨ds,a,x,h1,hi,h2,by rw [hv,GG];exact hy⟩
     have:=h.cX _ _ _ this uy
     cases this
 · by_cases PW:x=b
   · subst PW;exact ⟨vs,ty.1,ty.2,hh,by rw [c0];exact List.take_prefix _ _⟩
   · rw [c1 x PW] at hx ⊢;exact h.mem.qF x hx
 · have hn:s'≠s:=by
    rintro rfl
    rw [fY] at h1;injection h1 with h1;exact h0 h1.symm
   rw [iU s' hn] at h1
   rw [c1 x (fun e=>hn (tr s' (e▸h2)))]
   exact h.mem.qc s' x ds h1 h0 h2
 · by_cases hn:s'=s
   · subst hn
     rw [fY] at h1;injection h1 with h1;subst h1
     intro i hi;simp at hi
   · rw [iU s' hn] at h1
     exact h.mem.yO s' x ds us ty' fr h1 h2 h3
 · rcases he t with h1|⟨h1,h2⟩
   · rw [h1]
     refine ⟨(h.env t).1.mono hpre _ (fun _ _ h=>h),lJ _ _ (h.env t).2 fun y hy e=> ?_⟩
     subst e
     have:=h.cX (.tmp t) (.obj s) y hy uy
     cases this
   · have hv:=(h.env t).1
     rw [h1] at hv
     obtain ⟨ad,hv,hnc,hcase⟩:=hv.qE
     have hcase:ad=some ⟨b,0,none⟩:=by
      rcases hcase with ⟨-,h0⟩|⟨b',hb',e⟩
      · omega
      · rw [hb] at hb';injection hb' with hb';subst hb';exact e
     subst hcase
     rw [h2,hv]
     have hval:∀q,q<xs.length*k→(C' b).getD q undef=vs.getD q undef:=by
      intro q hq
      rw [c0]
      simp [List.getD_eq_getElem?_getD,Array.getD_eq_getD_getElem?,List.getElem?_take_of_lt hq]
     have k5:∀q a,(fla xs)[q]? =some a→VR C γ a (vs.getD q undef):=by
      intro q a hq
      refine (hcell q a ?_).1
      rw [jm,List.getElem?_append_left (List.getElem?_eq_some_iff.1 hq).1];exact hq
     have hfl:=kf hk
     refine ⟨.sl _ _ _ _ _ _ _ _ rfl hnc (fun i a hi=>(hk i a hi).1) (by omega) (fun q _ hq=> ?_) (fun i a hi j y hj=> ?_),by simp [TC]⟩
     · rw [Nat.zero_add] at hq
       rw [hval q hq]
       have NL:(fla xs)[q]? =some ((fla xs)[q]'(by omega)):=List.getElem?_eq_getElem (by omega)
       have h3:=k5 q _ NL
       have h4:=(zu hk q _ NL).2.2
       exact VR.one' h3 h4
     · have hlt':i<xs.length:=(List.getElem?_eq_some_iff.1 hi).1
       have Nh:j<k:=by rw [←(hk i a hi).1];exact (List.getElem?_eq_some_iff.1 hj).1
       have hm:(i+1)*k≤xs.length*k:=Nat.mul_le_mul_right _ hlt'
       rw [Nat.succ_mul] at hm
       rw [Nat.zero_add,hval _ (by omega)]
       have hg:=FC hk i j a hi Nh
       rw [List.getElem?_map,hj] at hg
       have h3:=k5 _ _ hg
       have hnp:=pP (hk i a hi).2.2.1 hj
       have h4:VR C [] y.s1 (vs.getD (i*k+j) undef):=h3.np (zu hk _ _ hg).2.1
       have h5:VR C' [] y.s1 (vs.getD (i*k+j) undef):=h4.mono hpre [] (fun _ _ h=>h)
       cases y with
       |sl t k xs=>exact h5.gV _
       |_=>exact h5
 · rcases he t with h1|⟨h1,h2⟩
   · have hf:=h.fr t l k xs (by rw [←h1];exact ht)
     cases l with
     |tmp u=>
      refine ⟨hf.1,fun hu=>hf.2 ?_⟩
      rcases he u with g1|⟨g1,g2⟩
      · rwa [g1] at hu
      · rw [g2] at hu;cases hu
     |cell s' o=>
      intro ds a x g1 g2 g3 g4
      by_cases hn:s'=s
      · subst hn;rw [fY] at g1;injection g1 with g1;subst g1;simp at g2
      · rw [iU s' hn] at g1;exact hf ds a x g1 g2 g3 g4
   · rw [h2] at ht;cases ht
end
end Go.Am
namespace Go.Am
open Go
variable [Tabs]
section
variable {P:Program} {L:List Nat} {N n0:Nat} {e e':Env} {ah:AH} {K:Exit→Env→AH→Prop}
inductive FG (s k c:Nat) (xs:List AV):Env→Env→Prop
 |nil:FG s k c xs [] []
 |same (i:Nat) (a:AV) (r r':Env):FG s k c xs r r'→FG s k c xs ((i,a)::r) ((i,a)::r')
 |lay (i n:Nat) (r r':Env):n=xs.length→FG s k c xs r r'→FG s k c xs ((i, .bM s k n c)::r) ((i, .sl .n k xs)::r')
theorem FG.get {s k c:Nat} {xs:List AV} {e e':Env} (h:FG s k c xs e e') (t:Nat):Am.get e' t=Am.get e t∨(Am.get e t= .bM s k xs.length c∧Am.get e' t= .sl .n k xs):=by
 induction h with
 |nil=>exact .inl rfl
 |same i a r r' _ ih=>
  simp only [Am.get]
  by_cases hi:i=t
  · simp [hi]
  · simpa [hi] using ih
 |lay i n r r' hn _ ih=>
  simp only [Am.get]
  by_cases hi:i=t
  · exact .inr ⟨by simp [hi,hn],by simp [hi]⟩
  · simpa [hi] using ih
theorem AX.FE {c0:au} {s k n1 c:Nat} {xs:List AV} (hkp:0<k) (hk:EK k xs) (hG:GF k n1 s xs c ah) (he:FG s k c xs e e')
 (h:∀H',(∀s',s'<n1∨(0<c→s'≠s)→H'[s']? =ah[s']?)→H'.length=ah.length→AX P L N n0 c0 K e' H'):AX P L N n0 c0 K e ah:=by
 intro c' bL F γ C ts w jk hn
 obtain ⟨C',h1,h2⟩:=jk.FE hkp hk hG he.get
 have hsame:∀s',s'<n1∨(0<c→s'≠s)→(if c=0 then ah else ah.set s [])[s']? =ah[s']? :=by
  intro s' hs'
  rcases hG with ⟨rfl, -⟩|⟨g1,g2, -, -⟩
  · rw [if_pos rfl]
  · rw [if_neg (by omega),List.getElem?_set_ne]
    rcases hs' with h|h
    · omega
    · exact Ne.symm (h g2)
 refine wp_mono (h _ hsame (by split<;>simp) c' bL F γ C' ts w h1 hn) ?_
 rintro x a w' ⟨q1,q2,e2,oD,γ2,C2,q3,q4,q5,q6⟩
 exact ⟨q1,q2,e2,oD,γ2,C2,q3,q4,q5,h2.trans q6⟩
end
end Go.Am
namespace Go.Am
open Go
variable [Tabs]
def EF {α:Type} (k:Nat) (f:α→AV):Prop:=∀x,(f x).cells.length=k∧bK (f x).cells=true∧eE (f x).cells=true∧bU (f x).cells=true
section
variable {α:Type} {f:α→AV} {k c j o n q:Nat} {X:List α} {x x':α} {w:AV} {ah:AH}
theorem rX (h:X[j]? =some x):(ml f X)[j]? =some (f x):=by simp [ml,h]
theorem JU:(ml f X).set j (f x')=ml f (X.set j x'):=by simp [ml,List.map_set]
theorem BL (he:EF k f) (h:X[j]? =some x) (ho:o<k):(gC k (ml f X) c)[j*k+o]? =((f x).cells.map AV.s1)[o]? :=PY (EK.ml he X) (rX h) ho
theorem Wg (he:EF k f) (h:X[j]? =some x) (ho:0<k):(gC k (ml f X) c)[j*k]? =((f x).cells.map AV.s1)[0]? :=BL (o:=0) he h ho
theorem zw (he:EF k f) (h:X[j]? =some x) (ho:o<k) (hw:(f x').cells.map AV.s1=((f x).cells.map AV.s1).set o w):over (gC k (ml f X) c) (j*k+o) [w]=some (gC k (ml f (X.set j x')) c):=by
 rw [MD (EK.ml he X) (rX h) ho hw,JU]
theorem T0 (he:EF k f) (h:X[j]? =some x) (ho:0<k) (hw:(f x').cells.map AV.s1=((f x).cells.map AV.s1).set 0 w):over (gC k (ml f X) c) (j*k) [w]=some (gC k (ml f (X.set j x')) c):=zw (o:=0) he h ho hw
theorem GF.YP (h:GF k n q (ml f X) c ah) (hj:X[j]? =some x):GF k n q (ml f (X.set j x')) c (ah.set q (gC k (ml f (X.set j x')) c)):=by
 have:=h.set (a':=f x') (rX hj)
 rwa [JU] at this
theorem GF.YQ (h:GF k n q (ml f X) c ah) (hj:X[j]? =some x):ah[q]? =some (gC k (ml f X) c):=(h.at (rX hj)).2
theorem GF.geM (h:GF k n q (ml f X) c ah) (hj:X[j]? =some x):n≤q:=(h.at (rX hj)).1
end
theorem Fr.grow {H0 H H':AH} {S:List Nat} {n q c:Nat} (h:Fr H0 n S H) (hs:∀s,s<H.length→s<n∨(0<c→s≠q)→H'[s]? =H[s]?) (hl:H.length≤H'.length):Fr H0 n S H':=
 ⟨Nat.le_trans h.le hl,fun j hj zq=>(hs j (Nat.lt_of_lt_of_le hj h.le) (.inl hj)).trans (h.eq j hj zq)⟩
theorem Fr.lay {H0 H H':AH} {S:List Nat} {n q c:Nat} (h:Fr H0 n S H) (hs:∀s,s<n∨(0<c→s≠q)→H'[s]? =H[s]?) (hl:H'.length=H.length):Fr H0 n S H':=
 ⟨by rw [hl];exact h.le,fun j hj zq=>(hs j (.inl hj)).trans (h.eq j hj zq)⟩
end Go.Am
end
section
namespace Go.Am
open Go
variable [Tabs]
theorem YR {e:Env} {n:Nat}:ev e (.t n)=Am.get e n:=rfl
theorem YS {e:Env} {a:AV}:ev e (.c a)=a:=rfl
theorem P0 {e:Env} {n:Int}:bI e n none= .int .i64 n:=rfl
theorem P1 {e:Env} {n:Int} {x:Ar}:bI e n (some x)=ev e x:=rfl
def WU:=And.intro @UB<|And.intro @RU<|And.intro @UD<|And.intro @RV<|And.intro @UE<|And.intro @UH<|And.intro @XU<|And.intro @RW<|And.intro @UI<|And.intro @RX<|And.intro @RY<|And.intro @N4<|And.intro @N5<|And.intro @N6<|And.intro @KC<|And.intro @KD<|And.intro @GS<|And.intro @UJ<|And.intro @N7<|And.intro @KE<|And.intro @N8<|And.intro @KF<|And.intro @UL<|And.intro @R4<|And.intro @R5<|And.intro @KG<|And.intro @R6<|And.intro @XZ<|And.intro @UP<|And.intro @R7<|And.intro @N9<|And.intro @UQ<|And.intro @Oa<|And.intro @UR<|And.intro @Vd<|And.intro @UT<|And.intro @UU<|And.intro @JT<|And.intro @X0<|And.intro @PS<|And.intro @TZ<|And.intro @UW<|And.intro @X1<|And.intro @X2<|And.intro @UY<|And.intro @X3<|And.intro @UZ<|And.intro @U0<|And.intro @U1<|And.intro @U2<|And.intro @Sb<|And.intro @U5<|And.intro @U6<|And.intro @PR<|And.intro @PN<|And.intro @JS<|And.intro @U9<|And.intro @Sc<|@Sd
def WV:=And.intro @YR<|And.intro @YS<|And.intro @JK<|And.intro @JL<|And.intro @Sf<|And.intro @Sg<|And.intro @On<|And.intro @Sh<|And.intro @Oo<|And.intro @Si<|And.intro @Oq<|And.intro @P0<|And.intro @P1<|And.intro @Ot<|And.intro @Ou<|And.intro @Ve<|And.intro @Vf<|And.intro @Ov<|And.intro @Ox<|And.intro @TS<|And.intro @Oy<|And.intro @Oz<|And.intro @OA<|And.intro @OB<|And.intro @OC<|And.intro @OD<|And.intro @OE<|And.intro @Vg<|And.intro @Vh<|And.intro @Vi<|And.intro @Vj<|And.intro @Vk<|And.intro @Vl<|And.intro @Ya<|And.intro @Vm<|And.intro @Vn<|And.intro @Vo<|And.intro @Vp<|And.intro @Vq<|And.intro @Vr<|And.intro @Vs<|And.intro @Vt<|And.intro @Yb<|And.intro @Yc<|And.intro @Yd<|And.intro @Ye<|And.intro @Vu<|And.intro @Vv<|And.intro @Vw<|And.intro @Vx<|And.intro @Vy<|And.intro @Vz<|And.intro @Yf<|And.intro @Yg<|And.intro @Yh<|And.intro @VA<|And.intro @VB<|And.intro @VC<|And.intro @G0<|And.intro @Ct<|And.intro @xy<|And.intro @Q_i<|And.intro @Q_s<|And.intro @Q_b<|And.intro @Q_n<|And.intro @Yj<|And.intro @Yk<|And.intro @Yl<|And.intro @Ym<|And.intro @JP<|And.intro @VD<|And.intro @VE<|And.intro @VF<|And.intro @JJ<|And.intro @Cp<|And.intro @EH<|And.intro @rW<|And.intro @VG<|And.intro @sO<|And.intro @sP<|And.intro @U7<|And.intro @U8<|And.intro @zg<|@zh
theorem AX.P2 {P:Program} {L:List Nat} {N n0:Nat} {K:Exit→Env→AH→Prop} {e:Env} {ah:AH} {m c:au} (hm:erase m=c) (ho:mK N c=true) (h:U P L N n0 [.code m] K .normal e ah):AX P L N n0 c K e ah:=by
 subst hm
 exact fun c' bL=>lC c' m _ e ah bL ho h
theorem Wx.Wh {a b:Bool} (h:a=b):Wx (.bool a) (.bool b):=by subst h;exact Wx.bool
theorem Wx.YT {k:IntKind} {a b:Int} (h:a=b):Wx (.int k a) (.int k b):=by subst h;exact Wx.int
theorem Wx.abb {a b:List UInt8} (h:a=b):Wx (.str a) (.str b):=by subst h;exact Wx.str
theorem eU.abd {ah:AH} {q:Nat} {cs:List AV} (hq:ah[q]? =some cs):eU ah (ah.set q cs):=by
 rw [KK hq];exact eU.refl _
theorem Da {α:Type} {f:α→AV} {xs:List α} {i:Int} {x:α} (h:idx xs i=some x):idx (ml f xs) i=some (f x):=by rw [JJ,h];rfl
theorem P3 {α:Type} {f:α→AV} {xs ys:List α} {i j:Int} (h:sub xs i j=some ys):sub (ml f xs) i j=some (ml f ys):=by rw [Cp,h];rfl
theorem aaw {α:Type} {f:α→AV} {xs ys:List α} {i j m:Int} (h:xA xs i j m=some ys):xA (ml f xs) i j m=some (ml f ys):=by rw [EH,h];rfl
end Go.Am
namespace Go.Am
open Go
variable [Tabs]
section
variable {P:Program} {L:List Nat} {N n0:Nat} {e:Env} {ah:AH} {t:List It} {Q:Exit→Env→AH→Prop} {r:List aF}
theorem YU {a b:au} {B:Bool} (h:B=true) (hk:U P L N n0 (.code a::t) Q .normal e ah):UC P L N n0 a b t Q e ah (.bool B):=by subst h;exact hk
theorem YV {a b:au} {B:Bool} (h:B=false) (hk:U P L N n0 (.code b::t) Q .normal e ah):UC P L N n0 a b t Q e ah (.bool B):=by subst h;exact hk
theorem aaU {o:aF} {B want:Bool} (h:B=want) (hk:UG P L N n0 o r t Q e ah (some true)):UG P L N n0 o r t Q e ah (some (B==want)):=by subst h;simpa using hk
theorem P4 {o:aF} {B want:Bool} (h:B= !want) (hk:U P L N n0 (.ops r::t) Q .normal (lO e o.d) ah):UG P L N n0 o r t Q e ah (some (B==want)):=by
 subst h;cases want<;>exact hk
theorem aaV {o:aF} {B:Bool} (h:B=false) (hk:U P L N n0 (.ops r::t) Q .normal (lO e o.d) ah):UG P L N n0 o r t Q e ah (some (B==true)):=P4 h hk
theorem aaW {o:aF} {B:Bool} (h:B=true) (hk:U P L N n0 (.ops r::t) Q .normal (lO e o.d) ah):UG P L N n0 o r t Q e ah (some (B==false)):=P4 h hk
end
theorem aax (B:Bool):B=true∨B=false:=by cases B<;>simp
theorem bq1:(true==true)=true:=rfl
theorem bq2:(true==false)=false:=rfl
theorem bq3:(false==true)=false:=rfl
theorem bq4:(false==false)=true:=rfl
def WB:=And.intro @bq1<|And.intro @bq2<|And.intro @bq3<|And.intro @bq4<|And.intro @Bool.and_true<|And.intro @Bool.true_and<|And.intro @Bool.and_false<|And.intro @Bool.false_and<|And.intro @Bool.or_true<|And.intro @Bool.true_or<|And.intro @Bool.or_false<|And.intro @Bool.false_or<|And.intro @Bool.not_true<|And.intro @Bool.not_false<|And.intro @decide_true<|And.intro @decide_false<|And.intro @and_true<|And.intro @true_and<|And.intro @and_self<|And.intro @and_false<|And.intro @false_and<|And.intro @Nat.zero_add<|And.intro @Nat.add_zero<|And.intro @Nat.succ_ne_zero<|And.intro @Nat.lt_irrefl<|And.intro @Bool.false_eq_true<|And.intro @List.contains_cons.{0}<|And.intro @List.contains_nil.{0}<|And.intro @List.take_succ_cons.{0}<|And.intro @List.take_zero.{0}<|And.intro @List.drop_succ_cons.{0}<|And.intro @List.drop_zero.{0}<|And.intro @List.length_cons.{0}<|And.intro @List.length_nil.{0}<|And.intro @List.getElem?_cons_zero.{0}<|And.intro @List.getElem?_cons_succ.{0}<|And.intro @List.getElem?_nil.{0}<|And.intro @List.cons_append.{0}<|And.intro @List.nil_append.{0}<|And.intro @List.append_nil.{0}<|And.intro @List.all_cons.{0}<|And.intro @List.all_nil.{0}<|And.intro @List.set_cons_zero.{0}<|And.intro @List.set_cons_succ.{0}<|And.intro @List.isEmpty_cons.{0}<|And.intro @List.isEmpty_nil.{0}<|And.intro @List.map_cons.{0,0}<|And.intro @List.map_nil.{0,0}<|And.intro @Option.map_some.{0,0}<|And.intro @Option.map_none.{0,0}<|@Option.bind_some.{0,0}
end Go.Am
namespace Go.Am
open Go
variable [Tabs]
section
variable {P:Program} {e':Env} {H0 H':AH} {rs:List ResultVar} {vs:List AV} {r':AV} {R:AV→AH→Prop}
theorem aH (hcl:jL H0.length H0) (hr:eT P e' H0 rs=some vs) (hc:Cl H0.length (fin vs)) (hw:Wx (fin vs) r') (hR:R r' H0):qW P H0 rs R e' H0:=
 ⟨vs,r',H0,hr,hw,hR, .inl ⟨hc,by rw [List.take_length];exact hcl,Nat.le_refl _,by rw [List.take_length];exact eU.refl _⟩⟩
theorem bR (hf:Fr H0 H0.length [] H') (hcl:jL H0.length H0) (hr:eT P e' H' rs=some vs) (hc:Cl H0.length (fin vs)) (hw:Wx (fin vs) r') (hR:R r' H0):qW P H0 rs R e' H':=
 ⟨vs,r',H0,hr,hw,hR, .inl ⟨hc,by rw [hf.TW];exact hcl,hf.le,by rw [hf.TW];exact eU.refl _⟩⟩
theorem YW (hr:eT P e' H' rs=some vs) (hw:Wx (fin vs) r') {ax:AH} (hh:eU H' ax) (hR:R r' ax):qW P H0 rs R e' H':=
 ⟨vs,r',ax,hr,hw,hR, .inr hh⟩
theorem YX {s:Nat} {c c':List AV} (hf:Fr H0 H0.length [s] H') (hcl:jL H0.length H0) (hr:eT P e' H' rs=some vs) (hc:Cl H0.length (fin vs)) (hw:Wx (fin vs) r')
 (hs:H'[s]? =some c) (hl:s<H0.length) (P5:∀a∈c,Cl H0.length a) (Wi:qV c c') (hR:R r' (H0.set s c')):qW P H0 rs R e' H':=by
 refine ⟨vs,r',H0.set s c',hr,hw,hR, .inl ⟨hc,by rw [hf.TX hs hl];exact hcl.set P5,hf.le, ?_⟩⟩
 rw [hf.TX hs hl]
 have:=eU.set (ah:=H0.set s c) (q:=s) (cs':=c') (h_eq hl) Wi
 rwa [List.set_set] at this
theorem eU.trans {a b c:AH} (h1:eU a b) (h2:∀(s:Nat) (cs':List AV),c[s]? =some cs'→∃cs,b[s]? =some cs∧(cs'=cs∨(qV cs cs'∧a[s]? =some cs))) (hl:c.length=b.length):eU a c:=by
 refine ⟨by rw [hl,h1.1],fun s cs' hs=> ?_⟩
 obtain ⟨cs,hb,rfl|⟨hw,ha⟩⟩:=h2 s cs' hs
 · exact h1.2 s _ hb
 · exact ⟨cs,ha, .inr hw⟩
theorem eU.YY {ah:AH} {q q2:Nat} {cs cs' ds ds':List AV} (hne:q≠q2) (hq:ah[q]? =some cs) (hc:qV cs cs') (AJ:ah[q2]? =some ds) (hd:qV ds ds'):eU ah ((ah.set q cs').set q2 ds'):=by
 refine eU.trans (eU.set hq hc) (fun s es hs=> ?_) (by simp)
 rw [List.getElem?_set] at hs
 split at hs
 · rename_i h;subst h
   split at hs
   · injection hs with hs;subst hs
     exact ⟨ds,by rw [List.getElem?_set_ne hne];exact AJ, .inr ⟨hd,AJ⟩⟩
   · cases hs
 · exact ⟨es,hs, .inl rfl⟩
theorem YZ {s s2:Nat} {c c' d d':List AV} (hf:Fr H0 H0.length [s,s2] H') (hcl:jL H0.length H0) (hr:eT P e' H' rs=some vs) (hc:Cl H0.length (fin vs)) (hw:Wx (fin vs) r')
 (hs:H'[s]? =some c) (hl:s<H0.length) (P5:∀a∈c,Cl H0.length a) (Wi:qV c c') (hs2:H'[s2]? =some d) (vU:s2<H0.length) (Y0:∀a∈d,Cl H0.length a) (Y1:qV d d') (hne:s≠s2)
 (hR:R r' ((H0.set s c').set s2 d')):qW P H0 rs R e' H':=by
 refine ⟨vs,r',(H0.set s c').set s2 d',hr,hw,hR, .inl ⟨hc,by rw [hf.TY hs hs2 hl vU hne];exact (hcl.set P5).set Y0,hf.le, ?_⟩⟩
 rw [hf.TY hs hs2 hl vU hne]
 have:=eU.YY (ah:=(H0.set s c).set s2 d) (q:=s) (q2:=s2) (cs:=c) (cs':=c') (ds:=d) (ds':=d') hne (by rw [List.getElem?_set_ne (Ne.symm hne)];exact h_eq hl) Wi (h_eq (by simpa using vU)) Y1
 have e1:(((H0.set s c).set s2 d).set s c').set s2 d'=(H0.set s c').set s2 d':=by
  rw [List.set_comm d c' (Ne.symm hne),List.set_set,List.set_set]
 rwa [e1] at this
end
theorem Fr.trans {ah H H':AH} {n0:Nat} {S S2:List Nat} (h:Fr ah n0 S H) (h2:Fr H H.length S2 H') (hs:∀s∈S2,s∈S∨n0≤s):Fr ah n0 S H':=by
 have h3:=h.le
 refine ⟨Nat.le_trans h.le h2.le,fun j hj zq=> ?_⟩
 rw [h2.eq j (by omega),h.eq j hj zq]
 intro hm
 rcases hs j hm with h4|h4
 · exact zq h4
 · omega
end Go.Am
namespace Go.Am
open Go
variable [Tabs]
theorem T3 {P:Program} {L:List Nat} {N n0:Nat} {e:Env} {ah:AH} {t:List It} {Q:Exit→Env→AH→Prop} {r:List aF} {d:Option Nat} {f:Nat} {zq zq':List AV} {bB HE:AH} {V:AV}
 (h:az P f zq' bB fun v H'=>v=V∧H'=HE) (hw:WL zq zq') (hh:eU ah bB) (hk:U P L N n0 (.ops r::t) Q .normal (ay L (qR e) d V.df) HE):UK P L N n0 f zq d r t Q e ah:=by
 refine TR h hw hh ?_
 rintro _ _ ⟨rfl,rfl⟩
 exact hk
end Go.Am
namespace Go.Am
open Go
variable [Tabs]
def WW:=And.intro WG<|And.intro WM<|And.intro WU<|And.intro WV<|And.intro WB<|And.intro WA0<|And.intro WA1<|And.intro WA2<|And.intro WA3<|And.intro WA4<|And.intro WA5 WA6
def WH:=And.intro @h_eq<|And.intro @TV<|And.intro @OK @JQ
theorem tg1:Tg.sh .ex= .ex:=rfl
theorem Sj:Tg.sh .own= .n:=rfl
theorem tg3:Tg.sh .n= .n:=rfl
end Go.Am
end
section
namespace Go.Am
open Go
variable [Tabs]
theorem SR.JV {L:List Nat} {N:Nat} {F:Nat→Prop} {γ:List Nat} {C:Nat→List Value} {e:Env} {ah:AH} {ts:Array Value} {w:World} (h:SR L N F γ C e ah ts w) {r:AV} {v:Value} (hv:VR C γ r v) (ht:TC w C r v)
 (ho:r.bt=false) (hf:∀l k xs,r≠ .sl (.fr l) k xs):SR [] 1 F γ C [(0,r)] ah #[v] w:=by
 have hbk:∀p b,blk γ [(0,r)] ah #[v] w p b→blk γ e ah ts w p b∧∀t,p≠ .tmp t:=by
  intro p b hp
  cases p with
  |obj s=>exact ⟨hp,by simp⟩
  |cell s i=>exact ⟨hp,by simp⟩
  |tmp t=>
   simp only [blk,get] at hp
   split at hp
   · rename_i h0;subst h0;rw [fK _ ho] at hp;cases hp
   · simp [bz] at hp
 refine ⟨h.mem,rfl,fun t=> ?_,fun p q b hp hq=>h.cX p q b (hbk p b hp).1 (hbk q b hq).1,fun p b hp=>h.nf p b (hbk p b hp).1,h.je,fun t l k xs htl=> ?_⟩
 · by_cases h0:0=t
   · subst h0;simp only [get,if_true];exact ⟨hv,ht⟩
   · simp only [get,if_neg h0];exact ⟨.un ..,by generalize (#[v]:Array Value).getD t undef=u;cases u<;>trivial⟩
 · simp only [get] at htl
   split at htl
   · exact absurd htl (hf l k xs)
   · cases htl
theorem az.S1 {P:Program} {f:Nat} {args:List AV} {ah:AH} {l:List UInt8} (hc:gF P f=true)
 (h:∀(F:Nat→Prop) (C:Nat→List Value) (γ:List Nat) (w:World) (vs:Array Value),FL F w→vs.size=args.length→(∀(i:Nat) (a:AV),args[i]? =some a→VR C γ a (vs.getD i undef))→
  Calls P f vs w fun en w'=>en= .returned (.string ⟨l.toArray⟩)∧(∀b,b<w.heap.size→w'.heap[b]? =w.heap[b]?)∧w.heap.size≤w'.heap.size∧jj w w'):
 az P f args ah fun r ax=>r= .str l∧ax=ah:=by
 refine ⟨hc,fun F γ C w vs hs=> ?_⟩
 refine (h F C γ w vs hs.je hs.sz fun i a hi=> ?_).mono ?_
 · have:=(hs.env i).1
   rw [c6] at this
   simpa [hi] using this
 · rintro en w' ⟨rfl,h1,h2,h3⟩
   have hg:=hs.grow (C':=C) h1 h2 (fun _ _=>rfl) (fun b hb hne=>by
    exfalso
    obtain ⟨vs',ty,fr,hh, -⟩:=hs.mem.qF b hne
    have:b<w.heap.size:=by
     rcases Nat.lt_or_ge b w.heap.size with h4|h4
     · exact h4
     · rw [Array.getElem?_eq_none h4] at hh;cases hh
    omega) h3
   exact ⟨.str l, .string ⟨l.toArray⟩,ah,γ,C,rfl,⟨rfl,rfl⟩,List.prefix_refl _,hg.1.JV (.str ..) (by simp [TC]) rfl (by simp),hg.2⟩
theorem az.P6 {P:Program} {f:Nat} {args:List AV} {ah:AH} {r:AV} (ho:r.bt=false) (hf:∀l k xs,r≠ .sl (.fr l) k xs) (hc:gF P f=true)
 (h:∀(F:Nat→Prop) (C:Nat→List Value) (γ:List Nat) (w:World) (vs:Array Value),FL F w→vs.size=args.length→(∀(i:Nat) (a:AV),args[i]? =some a→VR C γ a (vs.getD i undef))→
  Calls P f vs w fun en w'=>∃v,en= .returned v∧VR C γ r v∧TC w' C r v∧(∀b,b<w.heap.size→w'.heap[b]? =w.heap[b]?)∧w.heap.size≤w'.heap.size∧jj w w'):
 az P f args ah fun r' ax=>r'=r∧ax=ah:=by
 refine ⟨hc,fun F γ C w vs hs=> ?_⟩
 refine (h F C γ w vs hs.je hs.sz fun i a hi=> ?_).mono ?_
 · have:=(hs.env i).1
   rw [c6] at this
   simpa [hi] using this
 · rintro en w' ⟨v,rfl,hv,ht,h1,h2,h3⟩
   have hg:=hs.grow (C':=C) h1 h2 (fun _ _=>rfl) (fun b hb hne=>by
    exfalso
    obtain ⟨vs',ty,fr,hh, -⟩:=hs.mem.qF b hne
    have:b<w.heap.size:=by
     rcases Nat.lt_or_ge b w.heap.size with h4|h4
     · exact h4
     · rw [Array.getElem?_eq_none h4] at hh;cases hh
    omega) h3
   exact ⟨r,v,ah,γ,C,rfl,⟨rfl,rfl⟩,List.prefix_refl _,hg.1.JV hv ht ho hf,hg.2⟩
theorem az.P7 {P:Program} {f:Nat} {args:List AV} {ah:AH} {ps:List (List UInt8)} (hc:gF P f=true)
 (h:∀(F:Nat→Prop) (C:Nat→List Value) (γ:List Nat) (w:World) (vs:Array Value),FL F w→vs.size=args.length→(∀(i:Nat) (a:AV),args[i]? =some a→VR C γ a (vs.getD i undef))→
  Calls P f vs w fun en w'=>∃t fr,en= .returned (.slice (some ⟨w.heap.size,0,none⟩) ps.length ps.length)∧w'=w.alloc (.cells (ps.map fun l=>Value.string ⟨l.toArray⟩).toArray t fr)∧fr.2≤fr.1):
 az P f args ah fun r' ax=>r'= .sl .n 1 (ml .str ps)∧ax=ah:=by
 refine ⟨hc,fun F γ C w vs hs=> ?_⟩
 refine (h F C γ w vs hs.je hs.sz fun i a hi=> ?_).mono ?_
 · have:=(hs.env i).1
   rw [c6] at this
   simpa [hi] using this
 · rintro en w' ⟨t,fr,rfl,rfl,hfr⟩
   obtain ⟨C', -,he,hg,hv⟩:=qO (w':=w.alloc (.cells (ps.map fun l=>Value.string ⟨l.toArray⟩).toArray t fr)) (ds:=[]) hs (d:=none) (by simp) (cs:=(ps.map fun l=>Value.string ⟨l.toArray⟩).toArray) (t:=t) (fr:=fr)
    (xK:=ps.map fun l=>Value.string ⟨l.toArray⟩) (xs:=ml .str ps) (k:=1) (n:=ps.length) (c:=ps.length)
    (fun b hb=>by show (w.heap.push _)[b]? =_;rw [Array.getElem?_push_lt hb,Array.getElem?_eq_getElem hb]) (by show (w.heap.push _).size=_;simp) (by show (w.heap.push _)[w.heap.size]? =_;simp)
    (by simp) (by simp only [List.mem_map];rintro v ⟨l, -,rfl⟩;rfl) (by simp) (by simp [ml]) (Nat.le_refl _) (by simp) (by intro i _;omega)
    (by intro i a hi;simp only [ml,List.getElem?_map,Option.map_eq_some_iff] at hi;obtain ⟨l, -,rfl⟩:=hi;rfl)
    (by
     intro i a hi j y hj
     simp only [ml,List.getElem?_map,Option.map_eq_some_iff] at hi
     obtain ⟨l,hl,rfl⟩:=hi
     cases j with
     |succ j=>simp [AV.cells] at hj
     |zero=>
      simp only [AV.cells,List.getElem?_cons_zero,Option.some.injEq] at hj
      subst hj
      simp only [Nat.mul_one,Nat.add_zero,List.getD_eq_getElem?_getD,List.getElem?_map,hl,Option.map_some,Option.getD_some]
      exact .str ..)
   exact ⟨.sl .n 1 (ml .str ps),_,ah,γ,C',rfl,⟨rfl,rfl⟩,List.prefix_refl _,hg.JV (hv.gV _) (by simp [TC]) rfl (by simp),he⟩
theorem FF {P:Program} {f:Nat} {ah:AH} (n:Int) (hc:gF P f=true) (htab:∀F w,FL F w→Lib.TabIs P w "internal/strconv.uint64pow10" .u64 Lib.pow10Tab)
 (Y2:∀w,Lib.TabIs P w "internal/strconv.uint64pow10" .u64 Lib.pow10Tab→Calls P f #[.int .i64 n] w fun e w'=>e= .returned (.string ⟨(Lib.itoa n).toArray⟩)∧∃k os,w'=Go.Sort.grow (w.drewN k) os):
 az P f [.int .i64 n] ah fun r ax=>r= .str (Lib.itoa n)∧ax=ah:=by
 refine az.S1 hc fun F C γ w vs hF hl hv=> ?_
 have h0:=(hv 0 _ rfl).cr
 have hvs:vs= #[.int .i64 n]:=by
  apply Array.ext
  · simpa using hl
  · intro i h1 h2
    simp at h2;subst h2
    simpa [Array.getD_eq_getD_getElem?,Array.getElem?_eq_getElem h1] using h0
 subst hvs
 refine (Y2 w (htab F w hF)).mono ?_
 rintro e w' ⟨rfl,k,os,rfl⟩
 refine ⟨rfl,fun b hb=> ?_, ?_,rfl,rfl,rfl⟩
 · show (w.heap++os)[b]? =_
   rw [Array.getElem?_append_left hb]
 · show w.heap.size≤(w.heap++os).size
   simp
theorem ME {P:Program} {w:World} {F:Nat→Prop} {name:String} {k:IntKind} {zs:List Int} {g:Nat} (hF:FL F w) (hm:(g,fun cs=>cs=(zs.map fun z=>Value.int k z).toArray)∈Tabs.l) (hg:P.globalNamed name=some g):Lib.TabIs P w name k zs:=by
 obtain ⟨-,cs,ty,fr,h,hcs⟩:=hF.Ea _ hm
 simp only at h hcs
 subst hcs
 unfold Lib.TabIs World.var?
 rw [hg]
 simp [h]
end Go.Am
end
section
namespace Go.Am
open Go
variable [Tabs]
def AV.uG:AV→Bool
 | .int _ _| .bool _| .str _| .v _=>true
 |_=>false
def Db:List AV→Bool
 |[]=>true
 |a::r=>a.uG&&Db r
def AV.Dc:AV→Bool
 | .agg cs=>Db cs
 |a=>a.uG
def yF:List AV→Bool
 |[]=>true
 |a::r=>a.Dc&&yF r
def AV.AR:AV→Bool
 | .aW cs=>yF cs
 |a=>a.Dc
theorem pS {l:List AV} (h:Db l=true) {i:Nat} {a:AV} (hi:l[i]? =some a):a.uG=true:=by
 induction l generalizing i with
 |nil=>simp at hi
 |cons b r ih=>
  simp only [Db,Bool.and_eq_true] at h
  cases i with
  |zero=>simp at hi;subst hi;exact h.1
  |succ i=>exact ih h.2 (by simpa using hi)
theorem xB {l:List AV} (h:yF l=true) {i:Nat} {a:AV} (hi:l[i]? =some a):a.Dc=true:=by
 induction l generalizing i with
 |nil=>simp at hi
 |cons b r ih=>
  simp only [yF,Bool.and_eq_true] at h
  cases i with
  |zero=>simp at hi;subst hi;exact h.1
  |succ i=>exact ih h.2 (by simpa using hi)
theorem VR.uG {C C':Nat→List Value} {γ γ':List Nat} {a:AV} {v:Value} (h:VR C γ a v) (hs:a.uG=true):VR C' γ' a v:=by
 cases h with
 |v _ _ hv=>exact .v _ _ hv
 |int=>exact .int ..
 |bool=>exact .bool ..
 |str=>exact .str ..
 |_=>cases hs
theorem VR.Dc {C C':Nat→List Value} {γ γ':List Nat} {a:AV} {v:Value} (h:VR C γ a v) (hs:a.Dc=true):VR C' γ' a v:=by
 cases h with
 |agg _ cs vs h1 h2=>exact .agg _ _ _ h1 fun i a hi=>(h2 i a hi).uG (pS hs hi)
 |v _ _ hv=>exact .v _ _ hv
 |int=>exact .int ..
 |bool=>exact .bool ..
 |str=>exact .str ..
 |_=>cases hs
theorem VR.AR {C C':Nat→List Value} {γ γ':List Nat} {a:AV} {v:Value} (h:VR C γ a v) (hs:a.AR=true):VR C' γ' a v:=by
 cases h with
 |aW _ cs vs h1 h2=>exact .aW _ _ _ h1 fun i a hi=>(h2 i a hi).Dc (xB hs hi)
 |agg _ cs vs h1 h2=>exact .agg _ _ _ h1 fun i a hi=>(h2 i a hi).uG (pS hs hi)
 |v _ _ hv=>exact .v _ _ hv
 |int=>exact .int ..
 |bool=>exact .bool ..
 |str=>exact .str ..
 |_=>cases hs
theorem jd.uG {a:AV} (hs:a.uG=true) (v:Value):jd a v:=by
 cases a<;>first|(cases hs;done)|(cases v<;>trivial)
theorem B6.Dc {a:AV} (hs:a.Dc=true) (v:Value):B6 a v:=by
 cases a with
 |agg cs=>cases v<;>first|trivial|exact fun i a hi=>jd.uG (pS hs hi) _
 |_=>first|(cases hs;done)|(cases v<;>trivial)
theorem TC.AR {w:World} {C:Nat→List Value} {a:AV} (hs:a.AR=true) (v:Value):TC w C a v:=by
 cases a with
 |aW cs=>cases v<;>first|trivial|exact fun i a hi=>B6.Dc (xB hs hi) _
 |agg cs=>cases v<;>first|trivial|exact fun i a hi=>jd.uG (pS hs hi) _
 |_=>first|(cases hs;done)|(cases v<;>trivial)
theorem P8 {a:AV} (hs:a.AR=true):a.bt=false:=by
 cases a<;>first|rfl|cases hs
theorem S3 {a:AV} (hs:a.AR=true) (l:Loc) (k:Nat) (xs:List AV):a≠ .sl (.fr l) k xs:=by
 rintro rfl;cases hs
inductive iQ (ah:AH):AV→AV→Prop
 |same (a):a.uG=true→iQ ah a a
 |ep (a p):iQ ah (.ep a p) (.ep a p)
 |sl (t k xs):iQ ah (.sl t k xs) (.sl .n k xs)
 |ptr (s o:Nat) (cs cs':List AV):ah[s]? =some cs→cs'.length=cs.length→(∀(i:Nat) (a a':AV),cs[i]? =some a→cs'[i]? =some a'→iQ ah a a')→iQ ah (.ptr s o) (.ep (.agg cs') o)
inductive PE (ah:AH):AV→AV→Prop
 |one (a a'):iQ ah a a'→PE ah a a'
 |fn (f:Nat) (cs:List AV):PE ah (.fn f []) (.fn f [])
 |agg (cs cs':List AV):cs'.length=cs.length→(∀(i:Nat) (a a':AV),cs[i]? =some a→cs'[i]? =some a'→iQ ah a a')→PE ah (.agg cs) (.agg cs')
def zx (w:World) (b:Nat):List Value:=match w.heap[b]? with|some (.cells vs _ _)=>vs.toList|_=>[]
open Classical in
noncomputable def Cx (w:World) (γ:List Nat) (C:Nat→List Value):Nat→List Value:=fun b=>if b∈γ then zx w b else C b
section
variable {L:List Nat} {N:Nat} {F:Nat→Prop} {γ:List Nat} {C:Nat→List Value} {e:Env} {ah:AH} {ts:Array Value} {w:World}
theorem JW (h:Mem γ C ah w) (b:Nat):C b <+: Cx w γ C b:=by
 unfold Cx
 split
 · rename_i hb
   by_cases hne:C b=[]
   · rw [hne];exact List.nil_prefix
   · obtain ⟨vs,ty,fr,hh,hp⟩:=h.qF b hne
     unfold zx;rw [hh];exact hp
 · exact List.prefix_refl _
theorem JX {s b:Nat} {vs:Array Value} {ty:TypeId} {fr:Nat×Nat} (hs:γ[s]? =some b) (hb:w.heap[b]? =some (.cells vs ty fr)):Cx w γ C b=vs.toList:=by
 unfold Cx zx
 rw [if_pos (List.mem_of_getElem? hs),hb]
theorem VR.S4 {C:Nat→List Value} {γ:List Nat} {t:Tg} {k:Nat} {xs:List AV} {v:Value} (h:VR C γ (.sl t k xs) v) (γ':List Nat):VR C γ' (.sl .n k xs) v:=by
 cases h with
 |n7=>exact .n7 ..
 |sl _ _ _ _ b o n c hn hc hk hl ho hx=>exact .sl _ _ _ _ _ _ _ _ hn hc hk hl ho hx
theorem iQ.vr (hm:Mem γ C ah w) {a a':AV} (hp:iQ ah a a'):∀ {v:Value},VR C γ a v→VR (Cx w γ C) [] a' v:=by
 induction hp with
 |same a hs=>intro v h;exact h.uG hs
 |ep a p=>
  intro v h
  have h':=h.np rfl
  exact h'.mono (JW hm) [] (fun _ _ h=>h)
 |sl t k xs=>
  intro v h
  exact (h.S4 []).mono (JW hm) [] (fun _ _ h=>h)
 |ptr s o cs cs' hs hl hc ih=>
  intro v h
  obtain ⟨b,hb,rfl⟩:=h.fX
  obtain ⟨vs,ty,hh,hsz,hcell⟩:=hm.obj s b cs hs hb
  have hx:Cx w γ C b=vs.toList:=JX hb hh
  suffices hS:VR (Cx w γ C) [] (.ep (.agg cs') o) (.pointer (some ⟨b,0+o,none⟩)) by rwa [Nat.zero_add] at hS
  refine VR.ep [] (.agg cs') o b 0 (by rw [hx];simpa [AV.cells,hl] using hsz) fun j a' hj=> ?_
  simp only [AV.cells] at hj
  have hlt:j<cs.length:=by rw [←hl];exact (List.getElem?_eq_some_iff.1 hj).1
  have h0:cs[j]? =some cs[j]:=List.getElem?_eq_getElem hlt
  have:=ih j _ _ h0 hj (hcell j _ h0).1
  rw [hx,Nat.zero_add]
  have e1:vs.toList.getD j undef=vs.getD j undef:=by simp [List.getD_eq_getElem?_getD,Array.getD_eq_getD_getElem?]
  rw [e1];exact this
theorem iQ.flat {a a':AV} (hp:iQ ah a a') (v:Value):jd a' v∧a'.plain=true:=by
 cases hp with
 |same _ hs=>exact ⟨jd.uG hs v,by cases a<;>first|rfl|cases hs⟩
 |ep=>exact ⟨by cases v<;>trivial,rfl⟩
 |sl=>exact ⟨B7 ..,rfl⟩
 |ptr=>exact ⟨by cases v<;>trivial,rfl⟩
theorem PE.vr (hm:Mem γ C ah w) {a a':AV} (hp:PE ah a a') {v:Value} (h:VR C γ a v):VR (Cx w γ C) [] a' v:=by
 cases hp with
 |one _ _ h1=>exact h1.vr hm h
 |fn f cs=>
  obtain ⟨vs,rfl,h1,h2⟩:=h.B3
  exact .fn _ _ _ _ h1 (by simp)
 |agg cs cs' hl hc=>
  obtain ⟨vs,rfl,h1,h2⟩:=h.ke
  refine .agg _ _ _ (by omega) fun i a' hi=> ?_
  have hlt:i<cs.length:=by rw [←hl];exact (List.getElem?_eq_some_iff.1 hi).1
  have h0:cs[i]? =some cs[i]:=List.getElem?_eq_getElem hlt
  exact (hc i _ _ h0 hi).vr hm (h2 i _ h0)
theorem PE.tc {a a':AV} (hp:PE ah a a') {C':Nat→List Value} (v:Value):TC w C' a' v∧a'.plain=true:=by
 cases hp with
 |one _ _ h1=>
  cases h1 with
  |same _ hs=>exact ⟨by cases a<;>first|(cases hs;done)|(cases v<;>trivial),by cases a<;>first|rfl|cases hs⟩
  |ep=>exact ⟨by cases v<;>trivial,rfl⟩
  |sl=>exact ⟨by cases v<;>trivial,rfl⟩
  |ptr=>exact ⟨by cases v<;>trivial,rfl⟩
 |fn=>exact ⟨by cases v<;>trivial,rfl⟩
 |agg cs cs' hl hc=>
  refine ⟨?_,rfl⟩
  cases v with
  |agg vs=>
   intro i a' hi
   have hlt:i<cs.length:=by rw [←hl];exact (List.getElem?_eq_some_iff.1 hi).1
   exact ((hc i _ _ (List.getElem?_eq_getElem hlt) hi).flat _).1
  |_=>trivial
def xN (ah:AH):List AV→List AV→Prop
 |[],[]=>True
 |a::r,a'::r'=>PE ah a a'∧xN ah r r'
 |_,_=>False
theorem xN.len:∀ {xs ys:List AV},xN ah xs ys→ys.length=xs.length:=by
 intro xs
 induction xs with
 |nil=>intro ys h;cases ys with|nil=>rfl|cons=>exact h.elim
 |cons a r ih=>intro ys h;cases ys with|nil=>exact h.elim|cons a' r'=>simp [ih h.2]
theorem xN.get:∀ {xs ys:List AV},xN ah xs ys→∀(i:Nat) (a a':AV),xs[i]? =some a→ys[i]? =some a'→PE ah a a':=by
 intro xs
 induction xs with
 |nil=>intro ys _ i a a' h;simp at h
 |cons a r ih=>
  intro ys h i b b' h1 h2
  cases ys with
  |nil=>exact h.elim
  |cons a' r'=>
   rcases i with _|i
   · simp at h1 h2;subst h1;subst h2;exact h.1
   · exact ih h.2 i b b' (by simpa using h1) (by simpa using h2)
def kV (ah:AH):List AV→List AV→Prop
 |[],[]=>True
 |a::r,a'::r'=>iQ ah a a'∧kV ah r r'
 |_,_=>False
theorem kV.len:∀ {xs ys:List AV},kV ah xs ys→ys.length=xs.length:=by
 intro xs
 induction xs with
 |nil=>intro ys h;cases ys with|nil=>rfl|cons=>exact h.elim
 |cons a r ih=>intro ys h;cases ys with|nil=>exact h.elim|cons a' r'=>simp [ih h.2]
theorem kV.get:∀ {xs ys:List AV},kV ah xs ys→∀(i:Nat) (a a':AV),xs[i]? =some a→ys[i]? =some a'→iQ ah a a':=by
 intro xs
 induction xs with
 |nil=>intro ys _ i a a' h;simp at h
 |cons a r ih=>
  intro ys h i b b' h1 h2
  cases ys with
  |nil=>exact h.elim
  |cons a' r'=>
   rcases i with _|i
   · simp at h1 h2;subst h1;subst h2;exact h.1
   · exact ih h.2 i b b' (by simpa using h1) (by simpa using h2)
theorem xN.nil:xN ah [] []:=trivial
theorem xN.cons {a a':AV} {r r':List AV} (h:PE ah a a') (hr:xN ah r r'):xN ah (a::r) (a'::r'):=⟨h,hr⟩
theorem kV.nil:kV ah [] []:=trivial
theorem kV.cons {a a':AV} {r r':List AV} (h:iQ ah a a') (hr:kV ah r r'):kV ah (a::r) (a'::r'):=⟨h,hr⟩
theorem iQ.int {k:IntKind} {i:Int}:iQ ah (.int k i) (.int k i):= .same _ rfl
theorem iQ.b8 {c:UInt8}:iQ ah (Am.b8 c) (Am.b8 c):= .same _ rfl
theorem iQ.bool {b:Bool}:iQ ah (.bool b) (.bool b):= .same _ rfl
theorem iQ.str {l:List UInt8}:iQ ah (.str l) (.str l):= .same _ rfl
theorem iQ.v {x:Value}:iQ ah (.v x) (.v x):= .same _ rfl
theorem iQ.abe {s o:Nat} {cs cs':List AV} (hs:ah[s]? =some cs) (h:kV ah cs cs'):iQ ah (.ptr s o) (.ep (.agg cs') o):= .ptr _ _ _ _ hs h.len h.get
theorem PE.abf {cs cs':List AV} (h:kV ah cs cs'):PE ah (.agg cs) (.agg cs'):= .agg _ _ h.len h.get
theorem az.ofE {P:Program} {f:Nat} {args args':List AV} {R:AV→Prop} (h:az P f args' [] fun r ax=>R r∧ax=[]) (hp:xN ah args args') (hs:∀r,R r→r.AR=true):
 az P f args ah fun r ax=>R r∧ax=ah:=by
 refine ⟨h.1,fun F γ C w vs jk=> ?_⟩
 have Kv:∀(l:List AV) (t:Nat),get (dJ 0 l) t=(l[t]?).getD .un:=fun l t=>by rw [c6];simp
 have JY:∀t,VR (Cx w γ C) [] (get (dJ 0 args') t) (vs.getD t undef)∧TC w (Cx w γ C) (get (dJ 0 args') t) (vs.getD t undef)∧(get (dJ 0 args') t).plain=true:=by
  intro t
  rw [Kv]
  cases ht:args'[t]? with
  |none=>exact ⟨.un ..,by cases vs.getD t undef<;>trivial,rfl⟩
  |some a'=>
   have hlt:t<args.length:=by rw [←hp.len];exact (List.getElem?_eq_some_iff.1 ht).1
   have h0:args[t]? =some args[t]:=List.getElem?_eq_getElem hlt
   have h1:=(jk.env t).1
   rw [Kv,h0] at h1
   have Y3:=hp.get t _ _ h0 ht
   exact ⟨Y3.vr jk.mem h1,Y3.tc _⟩
 have hnb:∀p b,¬blk [] (dJ 0 args') [] vs w p b:=by
  intro p b hb
  cases p with
  |obj s=>simp [blk] at hb
  |cell s i=>obtain ⟨cs,a,b0,h1, -⟩:=hb;simp at h1
  |tmp t=>simp only [blk] at hb;rw [fK _ (fm (JY t).2.2)] at hb;cases hb
 have hs0:SR [] args'.length (fun b=>b<w.heap.size) [] (Cx w γ C) (dJ 0 args') [] vs w:=by
  refine ⟨⟨rfl,fun s b cs h1=>by simp at h1,fun b hne=> ?_,fun s b cs h1=>by simp at h1,fun s b cs us ty fr h1=>by simp at h1⟩,by rw [jk.sz,hp.len],fun t=>⟨(JY t).1,(JY t).2.1⟩,fun p q b h1=>absurd h1 (hnb p b),fun p b h1=>absurd h1 (hnb p b),
   ⟨fun b hb=>hb,fun e he=>⟨jk.je.lt _ (jk.je.Ea e he).1,(jk.je.Ea e he).2⟩⟩,fun t l k xs ht=>absurd ht (rT (JY t).2.2 l k xs)⟩
  by_cases hb:b∈γ
  · obtain ⟨s,hsb⟩:=List.getElem?_of_mem hb
    have hlt:s<ah.length:=by rw [←jk.mem.len];exact (List.getElem?_eq_some_iff.1 hsb).1
    obtain ⟨xs,ty,hh, -⟩:=jk.mem.obj s b _ (List.getElem?_eq_getElem hlt) hsb
    exact ⟨xs,ty.1,ty.2,hh,by rw [JX hsb hh];exact List.prefix_refl _⟩
  · have:Cx w γ C b=C b:=by unfold Cx;rw [if_neg hb]
    rw [this] at hne ⊢
    exact jk.mem.qF b hne
 refine (h.2 _ [] (Cx w γ C) w vs hs0).mono ?_
 rintro en w' ⟨r,v,ax,γ',Uf,rfl,⟨hR,rfl⟩,hγ,Y4,hx⟩
 have hold:∀b,b<w.heap.size→w'.heap[b]? =w.heap[b]? :=fun b hb=>(hx.keep b hb).1
 have hg:=jk.grow (w':=w') (C':=C) hold hx.size (fun _ _=>rfl) (fun b hb hne=>by
  exfalso
  obtain ⟨vs',ty,fr,hh, -⟩:=jk.mem.qF b hne
  exact absurd (qK hh) (by omega)) hx.out
 have hv:=(Y4.env 0).1
 simp only [get,if_true] at hv
 have hsc:=hs r hR
 exact ⟨r,v,ah,γ,C,rfl,⟨hR,rfl⟩,List.prefix_refl _,hg.1.JV (hv.AR hsc) (TC.AR hsc _) (P8 hsc) (S3 hsc),hg.2⟩
end
end Go.Am
end
section
set_option maxRecDepth 100000
namespace Go.Am
open Go
open Nat renaming reduceEqDiff→nA,reduceLT→nB,reduceLeDiff→nC,reduceAdd→nD,reduceSub→nE,reduceMul→nF,reduceBEq→nG
variable [Tabs]
theorem Wj {P:Program} {L:List Nat} {N n0:Nat} {e:Env} {ah:AH} {t:List It} {Q:Exit→Env→AH→Prop} {r:List aF} {d:Option Nat} {g:Option (Nat×Bool)} {n:Bool} {x:Ar} {tg:Tg} {k:Nat} {xs:List AV}
 (hx:ev e x= .sl tg k xs) (h1:xs=[]→∀b,U P L N n0 (.ops r::t) Q .normal (ay L e d (.bool b)) ah) (h2:xs≠[]→U P L N n0 (.ops r::t) Q .normal (ay L e d (.bool n)) ah):
 UG P L N n0 ⟨d, .nq n x,g⟩ r t Q e ah (some true):=by
 show yK L d n x e ah _
 unfold yK
 rw [hx]
 exact ⟨h1,h2⟩
def uH (k b:Nat):au:= .seq (.rg [⟨some 2, .aT (.c (.sl .ex k [])),none⟩]) (.seq (.seq (.rg [⟨some 3, .mv (.t 0),none⟩,⟨some 4, .nq false (.t 3),none⟩]) (.cond (.t 4) (.seq (.rg [⟨some 2, .aT (.c (.sl .ex k [])),none⟩]) .ret) .skip))
 (.seq (.rg [⟨some 5, .j9 k [],none⟩,⟨some 6, .mv (.t 0),none⟩,⟨some 7, .app k b (.t 5) (.t 6),none⟩,⟨some 2, .aT (.t 7),none⟩]) .ret))
theorem Dd {P:Program} {f k b:Nat} {xs ys:List AV} {H0:AH} (hF:bw P f 8 [.tmp 2] (uH k b)) (hz:cF b [] xs=some ys):az P f [.sl .n k xs] H0 fun v H'=>v= .sl .own k ys∧H'=H0:=by
 refine az.Vb hF (m:=uH k b) rfl [0,2,4] rfl (by simp) fun hcl K0 aN=> ?_
 refine AX.P2 (m:=uH k b) rfl rfl ?_
 have hys:ys=xs:=by unfold cF at hz;split at hz<;>simp_all
 subst hys
 simp only [WW, ↓reduceIte,nA,nB,nC,nD,nE,nF,nG,reduceCtorEq,uH]
 have step:U P [0,2,4] 8 H0.length [.code .skip, .code (.seq (.rg [⟨some 5, .j9 k [],none⟩,⟨some 6, .mv (.t 0),none⟩,⟨some 7, .app k b (.t 5) (.t 6),none⟩,⟨some 2, .aT (.t 7),none⟩]) .ret)] K0 .normal
  [(0, .sl .n k ys),(2, .sl .ex k []),(4, .bool false)] H0:=by
  simp only [WW, ↓reduceIte,nA,nB,nC,nD,nE,nF,nG,reduceCtorEq,hz,List.all_nil,List.map_nil]
  refine aN _ _ _ (.inr rfl) ?_
  exact aH hcl (rV (a:= .sl .own k ys) rfl rfl we) (by simp [fin,AV.df]) Wx.oo (r':= .sl .own k ys) ⟨rfl,rfl⟩
 refine Wj (by rfl) (fun h0 b=> ?_) (fun h0=> ?_)
 · subst h0
   simp only [WW, ↓reduceIte,nA,nB,nC,nD,nE,nF,nG,reduceCtorEq]
   cases b
   · refine YV rfl ?_
     exact step
   · refine YU rfl ?_
     simp only [WW, ↓reduceIte,nA,nB,nC,nD,nE,nF,nG,reduceCtorEq]
     refine aN _ _ _ (.inr rfl) ?_
     exact aH hcl (rV (a:= .sl .ex k []) rfl rfl we) (by simp [fin,AV.df]) (Wx.own ..) (r':= .sl .own k []) ⟨rfl,rfl⟩
 · simp only [WW, ↓reduceIte,nA,nB,nC,nD,nE,nF,nG,reduceCtorEq,hz,List.all_nil,List.map_nil]
   refine aN _ _ _ (.inr rfl) ?_
   exact aH hcl (rV (a:= .sl .own k ys) rfl rfl we) (by simp [fin,AV.df]) Wx.oo (r':= .sl .own k ys) ⟨rfl,rfl⟩
end Go.Am
namespace Go.Am
open Go
variable [Tabs]
theorem SR.T4 {L:List Nat} {N:Nat} {F:Nat→Prop} {γ:List Nat} {C:Nat→List Value} {e:Env} {ah:AH} {ts:Array Value} {w:World} (h:SR L N F γ C e ah ts w) {r:AV} {v:Value} (hr:Am.get e 0=r) (hv:ts.getD 0 undef=v)
 (hf:∀l k xs,r≠ .sl (.fr l) k xs):SR [] 1 F γ C [(0,r)] ah #[v] w:=by
 subst hr;subst hv
 have hbk:∀p b,blk γ [(0,Am.get e 0)] ah #[ts.getD 0 undef] w p b→blk γ e ah ts w p b:=by
  intro p b hp
  cases p with
  |obj s=>exact hp
  |cell s i=>exact hp
  |tmp t=>
   simp only [blk,Am.get] at hp ⊢
   split at hp
   · rename_i h0;subst h0;exact hp
   · simp [bz] at hp
 refine ⟨h.mem,rfl,fun t=> ?_,fun p q b hp hq=>h.cX p q b (hbk p b hp) (hbk q b hq),fun p b hp=>h.nf p b (hbk p b hp),h.je,fun t l k xs htl=> ?_⟩
 · by_cases h0:0=t
   · subst h0;simp only [Am.get,if_true];exact h.env 0
   · simp only [Am.get,if_neg h0];exact ⟨.un ..,by generalize (#[ts.getD 0 undef]:Array Value).getD t undef=u;cases u<;>trivial⟩
 · simp only [Am.get] at htl
   split at htl
   · exact absurd htl (hf l k xs)
   · cases htl
theorem FH {P:Program} {f:Nat} {n:Int} {H0:AH} {el:TypeId} {z:Value} (hc:gF P f=true) (hz:z.cells.size=1) (h0:0≤n)
 (hroom:∀(base:Option Addr) (w:World),n=0→Calls P f #[.slice base 0 0, .int .i64 n] w fun e w'=>e= .returned (.slice base 0 0)∧w'=w)
 (hgrow:∀(base:Option Addr) (w:World),0<n→Calls P f #[.slice base 0 0, .int .i64 n] w fun e w'=>e= .returned (.slice (some ⟨w.heap.size,0,none⟩) 0 (grownCap w n.toNat 0 el))∧
  w'=w.drew.alloc (.cells ((#[]:Array Value)++Builtin.zeroCells z.cells n.toNat++Builtin.zeroCells z.cells (grownCap w n.toNat 0 el - n.toNat)) el)):
 az P f [.sl .ex 1 [], .int .i64 n] H0 fun v H'=>v= .sl .own 1 []∧H'=H0:=by
 refine ⟨hc,fun F γ C w vs hs=> ?_⟩
 have h1:=hs.env 0
 have h2:=(hs.env 1).1
 rw [c6] at h1 h2
 simp only [Nat.zero_le,if_true,Nat.sub_zero,List.getElem?_cons_zero,Option.getD_some] at h1
 simp only [Nat.zero_le,if_true,Nat.sub_zero,List.getElem?_cons_succ,List.getElem?_cons_zero,Option.getD_some] at h2
 obtain ⟨a,c,e1, -⟩:=h1.1.dK
 rw [e1] at h1
 have hc0:c=0:=h1.2
 subst hc0
 have e2:=h2.cr
 have hvs:vs= #[.slice a 0 0, .int .i64 n]:=by
  have hsz:vs.size=2:=hs.sz
  apply Array.ext
  · simpa using hsz
  · intro i g1 g2
    have:i=0∨i=1:=by omega
    rcases this with rfl|rfl
    · simpa [Array.getD_eq_getD_getElem?,Array.getElem?_eq_getElem g1] using e1
    · simpa [Array.getD_eq_getD_getElem?,Array.getElem?_eq_getElem g1] using e2
 by_cases hn:n=0
 · rw [hvs]
   refine (hroom a w hn).mono ?_
   rintro en w' ⟨rfl,rfl⟩
   have hw:SR [] 2 F γ C (Am.put (dJ 0 [.sl .ex 1 [], .int .i64 n]) 0 (.sl .own 1 [])) H0 vs w':=by
    refine hs.wx ⟨fun t=> ?_,eU.refl _⟩
    rw [dI]
    split
    · rename_i ht;subst ht
      rw [c6]
      exact Wx.own _ _
    · refine Wx.same fun l k xs=> ?_
      rw [c6]
      match t with
      |0=>simp
      |1=>simp
      |t+2=>simp
   exact ⟨.sl .own 1 [],_,H0,γ,C,rfl,⟨rfl,rfl⟩,List.prefix_refl _,hw.T4 (by rw [dI];simp) (by rw [hvs];rfl) (by simp),Ext.refl ..⟩
 · have hpos:0<n:=by omega
   rw [hvs]
   refine (hgrow a w hpos).mono ?_
   rintro en w' ⟨rfl,rfl⟩
   generalize hcap:grownCap w n.toNat 0 el=cap
   have hge:n.toNat≤cap:=by rw [←hcap];exact grownCap_ge w _ _ _
   generalize hrow:(#[]:Array Value)++Builtin.zeroCells z.cells n.toNat++Builtin.zeroCells z.cells (cap - n.toNat)=row
   have hrl:row.size=cap:=by
    rw [←hrow];simp only [Array.size_append,size_zeroCells,hz];simp;omega
   obtain ⟨q1,q2,q3⟩:=heap_alloc w.drew (.cells row el)
   obtain ⟨C',g1,g2, -, -⟩:=qO (ds:=[]) (w':=w.drew.alloc (.cells row el)) (d:=some 0) (xK:=[]) (xs:=[]) (k:=1) (n:=0) (c:=cap)
    hs (by intro x hx;injection hx with hx;subst hx;simp) q2 q3 q1 (by simp) (by simp) (by simp) rfl (Nat.zero_le _) (by omega) (fun q hq=>by simp) (by simp) (by simp)
   refine ⟨.sl .own 1 [],_,H0,γ,C',rfl,⟨rfl,rfl⟩,List.prefix_refl _,g1.T4 ?_ ?_ (by simp),g2⟩
   · simp [Am.ay,dI,AV.bt,AV.df]
   · rw [hvs];rfl
end Go.Am
end
section
set_option maxRecDepth 100000
namespace Go.Am
open Go
open Nat renaming reduceEqDiff→nA,reduceLT→nB,reduceLeDiff→nC,reduceAdd→nD,reduceSub→nE,reduceMul→nF,reduceBEq→nG
variable [Tabs]
theorem wh {p:Prop} (h:p:=by first|assumption|omega|(simp only [sO,sP]<;>omega)):p:=h
section
variable {H T:AH} {q s:Nat} {c c':List AV}
theorem P9 (h:q<H.length:=by first|assumption|omega|(simp only [sO,sP]<;>omega)) (hc:c=c':=by rfl):(H.set q c)[q]? =some c':=hc▸h_eq h
theorem Y5 {r:Option (List AV)} (hx:H[q]? =r) (h:s≠q:=by first|assumption|omega|(simp only [sO,sP]<;>omega)):(H.set s c)[q]? =r:=(TV h).trans hx
theorem zAZ {r:Option (List AV)} (hx:H[q]? =r) (h:q<H.length:=by first|assumption|omega|(simp only [sO,sP]<;>omega)):(H++T)[q]? =r:=(OK h).trans hx
theorem IV (h:q=H.length:=by first|assumption|omega|(simp only [sO,sP]<;>omega)) (hc:c=c':=by rfl):(H++[c])[q]? =some c':=hc▸JQ h
theorem wj {ah:AH} {n0:Nat} {S:List Nat} (s:Nat) (h:Fr ah n0 S H) (hs:s∈S∨n0≤s:=by first|exact .inr (by first|assumption|omega|(simp only [sO,sP]<;>omega))|exact .inl (by simp)):Fr ah n0 S (H.set s c):=Fr.set h hs
end
theorem aq {H:AH}:eU H H:=eU.refl _
theorem aA {g g':Prop} (k:g') (h:g=g':=by
 first|(conv=>lhs;simp only [WW, ↓reduceIte,nA,nB,nC,nD,nE,nF,nG,reduceCtorEq])|rfl):g:=h▸k
theorem aM {p g g':Prop} (f:p) (k:g') (h:p→g=g':=by
 intro f;first|(conv=>lhs;simp only [WW, ↓reduceIte,nA,nB,nC,nD,nE,nF,nG,reduceCtorEq,f])|rfl):g:=h f▸k
theorem bG {g g':Prop} (k:g') (h:g=g':=by
 first|(conv=>lhs;simp (disch:=first|assumption|omega|(simp only [sO,sP]<;>omega)|fail) only [WW,WH, ↓reduceIte,nA,nB,nC,nD,nE,nF,nG,reduceCtorEq])|rfl):g:=h▸k
theorem aZ {p g g':Prop} (f:p) (k:g') (h:p→g=g':=by
 intro f;first|(conv=>lhs;simp (disch:=first|assumption|omega|(simp only [sO,sP]<;>omega)|fail) only [WW,WH, ↓reduceIte,nA,nB,nC,nD,nE,nF,nG,reduceCtorEq,f])|rfl):g:=h f▸k
structure GZ (p:Prop):Prop where
 out:p
section
variable {P:Program} {L:List Nat} {N n0:Nat} {e:Env} {ah:AH} {t:List It} {Q:Exit→Env→AH→Prop} {r:List aF}
theorem cw {β:Type} {x y:Option β} {z:β} {o:aF} {B want:Bool} (h:(if B=true then x else y)=some z) (k1:B=true→x=some z→GZ (UG P L N n0 o r t Q e ah (some (true==want))))
 (k2:B=false→y=some z→GZ (UG P L N n0 o r t Q e ah (some (false==want)))):GZ (UG P L N n0 o r t Q e ah (some (B==want))):=by
 cases B
 · exact k2 rfl h
 · exact k1 rfl h
theorem mM {o:aF} {B want:Bool} (k1:B=true→GZ (UG P L N n0 o r t Q e ah (some (true==want))))
 (k2:B=false→GZ (UG P L N n0 o r t Q e ah (some (false==want)))):GZ (UG P L N n0 o r t Q e ah (some (B==want))):=by
 cases B
 · exact k2 rfl
 · exact k1 rfl
theorem bZ {β:Type} {x y:Option β} {z:β} {a b:au} {B:Bool} (h:(if B=true then x else y)=some z) (k1:B=true→x=some z→GZ (U P L N n0 (.code a::t) Q .normal e ah))
 (k2:B=false→y=some z→GZ (U P L N n0 (.code b::t) Q .normal e ah)):GZ (UC P L N n0 a b t Q e ah (.bool B)):=by
 cases B
 · exact k2 rfl h
 · exact k1 rfl h
end
def AV.Y6:AV→Bool
 | .sl (.fr _) _ _=>false
 |_=>true
theorem Wx.Wl {a:AV} (h:a.Y6=true):Wx a a:= .same fun l k xs e=>by subst e;cases h
theorem Wx.gsZ {s k n n' c:Nat} (h:n=n'):Wx (.bM s k n c) (.bM s k n' c):=by subst h;exact Wx.Wl rfl
theorem Y7 {cs cs':List AV} (h:gH cs cs':=by repeat (first|exact gH.nil|apply gH.same|apply gH.n)):gH cs cs':=h
theorem wBZ {cs cs':List AV} (h:k6 cs cs':=by repeat (first|exact k6.nil|apply k6.same|apply k6.n|refine k6.agg Y7 ?_)):k6 cs cs':=h
theorem bu {a a':AV} (h:Wx a a':=by
 first|exact Wx.Wl rfl|exact Wx.n|exact Wx.own .. |exact Wx.un _|exact Wx.agg Y7|exact Wx.err|exact Wx.gsZ (by simp)|exact Wx.X9 wBZ):Wx a a':=h
theorem aL {e e1:Env} (h:WE e e1:=by
 repeat (refine WE.cons bu ?_)
 exact WE.nil):WE e e1:=h
theorem dL {p:Prop} {e e1:Env} (f:p) (h:p→WE e e1:=by
 intro f
 repeat (refine WE.cons (by first|exact bu|exact Wx.Wh (by simp only [f,WB])|exact Wx.YT (by simp only [f,WB])|exact Wx.epE (by simp only [f])) ?_)
 exact WE.nil):WE e e1:=h f
theorem wlZ {a a':List AV} (h:WL a a':=by
 repeat (refine WL.cons bu ?_)
 exact WL.nil):WL a a':=h
theorem wcZ {a a':List AV} (h:qV a a':=by
 repeat (refine qV.cons bu ?_)
 exact qV.nil):qV a a':=h
theorem ez {x:Exit} (h:x≠ .normal:=by simp):x≠ .normal:=h
section
variable {P:Program} {L:List Nat} {N n0:Nat} {e:Env} {ah:AH} {t:List It} {Q:Exit→Env→AH→Prop} {r:List aF} {d:Option Nat} {f:Nat}
theorem bx {zs zs':List AV} {bB HE:AH} {V:AV} (hh:eU ah bB) (h:az P f zs' bB fun v H'=>v=V∧H'=HE) (hk:GZ (U P L N n0 (.ops r::t) Q .normal (ay L (qR e) d V.df) HE))
 (hw:WL zs zs':=by
 repeat (refine WL.cons bu ?_)
 exact WL.nil):GZ (UK P L N n0 f zs d r t Q e ah):=⟨T3 h hw hh hk.out⟩
theorem uXZ {zs zs':List AV} {bB:AH} {R:AV→AH→Prop} (hh:eU ah bB) (h:az P f zs' bB R) (hk:∀v ax,R v ax→GZ (U P L N n0 (.ops r::t) Q .normal (ay L (qR e) d v.df) ax))
 (hw:WL zs zs':=by
 repeat (refine WL.cons bu ?_)
 exact WL.nil):GZ (UK P L N n0 f zs d r t Q e ah):=⟨TR h hw hh fun v ax hR=>(hk v ax hR).out⟩
theorem ueZ {zs zs':List AV} {V:AV} (h:az P f zs' [] fun v H'=>v=V∧H'=[]) (hp:xN ah zs zs') (hk:GZ (U P L N n0 (.ops r::t) Q .normal (ay L (qR e) d V.df) ah)) (hs:V.AR=true:=by rfl) (hw:WL zs zs:=by
 repeat (refine WL.cons (Wx.Wl rfl) ?_)
 exact WL.nil):GZ (UK P L N n0 f zs d r t Q e ah):=
 ⟨T3 (az.ofE h hp (by rintro _ rfl;exact hs)) hw (eU.refl _) hk.out⟩
theorem pZZ {cs cs':List AV} (h:kV ah cs cs':=by
 repeat (first|exact kV.nil|refine kV.cons (by first|exact iQ.int|exact iQ.b8|exact iQ.bool|exact iQ.str|exact iQ.v|exact .sl _ _ _|exact .ep _ _) ?_)):kV ah cs cs':=h
theorem MF {c:au} (h:AX P L N n0 c (fun x e ah=>GZ (U P L N n0 t Q x e ah)) e ah):GZ (UX P L N n0 c t Q e ah):=⟨Va (AX.mono h fun _ _ _ h=>h.out)⟩
theorem Qa {c:au} (h:GZ (UX P L N n0 c t Q e ah)):AX P L N n0 c (fun x e ah=>GZ (U P L N n0 t Q x e ah)) e ah:=AX.mono h.out fun _ _ _ h=>⟨h⟩
theorem bS {c:au} {e1:Env} {bB:AH} (hh:eU ah bB) (h:AX P L N n0 c (fun x e ah=>GZ (U P L N n0 t Q x e ah)) e1 bB) (he:WE e e1:=by
 repeat (refine WE.cons bu ?_)
 exact WE.nil):GZ (UX P L N n0 c t Q e ah):=MF (AX.weak he hh h)
theorem gaZ {α:Type} {f:α→AV} {k b q c n1:Nat} {x y:Ar} {tg:Tg} {X Y Z:List α} {ys:List AV} {g:Option (Nat×Bool)} (hf:∀x,(f x).cells.length=k∧bK (f x).cells=true∧eE (f x).cells=true∧bU (f x).cells=true)
 (uv:0<k) (hx:ev e x= .bM q k X.length c) (hy:ev e y= .sl tg k ys) (hys:ys=ml f Y) (hY:Y≠[]) (hz:cF b X Y=some Z) (hG:GF k n1 q (ml f X) c ah) (hn:n1≤ah.length)
 (hK:∀q' c' ax,GF k n1 q' (ml f Z) c' ax→(∀s,s<ah.length→s<n1∨(0<c→s≠q)→ax[s]? =ah[s]?)→ah.length≤ax.length→(q'=q∨ah.length≤q')→
  GZ (U P L N n0 (.ops r::t) Q .normal (ay L e d (.bM q' k Z.length c')) ax)):
 GZ (UG P L N n0 ⟨d, .jh k b x y,g⟩ r t Q e ah (some true)):=⟨PZ hf uv hx hy hys hY hz hG hn fun q' c' ax h1 h2 h3 h4=>(hK q' c' ax h1 h2 h3 h4).out⟩
end
theorem aC {α:Type} {a b:α} (h:some a=some b):a=b:=Option.some.inj h
theorem JZ {α β:Type} {a b:α} {c d:β} (h:some (a,c)=some (b,d)):a=b∧c=d:=Prod.mk.inj (Option.some.inj h)
theorem T5 {α β γ:Type} {a b:α} {c d:β} {e f:γ} (h:some (a,c,e)=some (b,d,f)):a=b∧c=d∧e=f:=by
 obtain ⟨h1,h2⟩:=JZ h;exact ⟨h1,Prod.mk.inj h2⟩
theorem Y8 {α β γ δ:Type} {a b:α} {c d:β} {e f:γ} {g i:δ} (h:some (a,c,e,g)=some (b,d,f,i)):a=b∧c=d∧e=f∧g=i:=by
 obtain ⟨h1,h2,h3⟩:=T5 h;exact ⟨h1,h2,Prod.mk.inj h3⟩
theorem Y9 {α β γ δ ε:Type} {a b:α} {c d:β} {e f:γ} {g i:δ} {j k:ε} (h:some (a,c,e,g,j)=some (b,d,f,i,k)):a=b∧c=d∧e=f∧g=i∧j=k:=by
 obtain ⟨h1,h2,h3,h4⟩:=Y8 h;exact ⟨h1,h2,h3,Prod.mk.inj h4⟩
theorem abg {α β γ δ ε ζ:Type} {a b:α} {c d:β} {e f:γ} {g i:δ} {j k:ε} {l m:ζ} (h:some (a,c,e,g,j,l)=some (b,d,f,i,k,m)):a=b∧c=d∧e=f∧g=i∧j=k∧l=m:=by
 obtain ⟨h1,h2,h3,h4,h5⟩:=Y9 h;exact ⟨h1,h2,h3,h4,Prod.mk.inj h5⟩
theorem bC {P:Program} {e:Env} {ah:AH}:eT P e ah []=some []:=rfl
theorem bA {P:Program} {e:Env} {ah:AH} {t:Nat} {rs:List ResultVar} {vs:List AV} (hr:eT P e ah rs=some vs) (a:AV) (h:Am.get e t=a:=by rfl) (ht:a.dm=false:=by rfl):eT P e ah (.tmp t::rs)=some (a::vs):=rV h ht hr
theorem bD {n:Nat} {a:AV} (h:Cl n a:=by first|(simp [fin,TU,TT,Cu,JP];done)|(simp [fin,AV.df,AV.sh,AV.bn,TU,TT,Cu,JP];done)):Cl n a:=h
theorem zcZ {n:Nat} {c:List AV} (h:∀a∈c,Cl n a:=by simp [JP];try omega):∀a∈c,Cl n a:=h
theorem aK {p q:Prop} (a:p) (b:q):p∧q:=⟨a,b⟩
theorem bE:Exit.ret= .normal∨Exit.ret= .ret:= .inr rfl
theorem xlZ:Exit.normal= .normal∨Exit.normal= .ret:= .inl rfl
theorem sr {P:Program} {N f:Nat} {rs:List ResultVar} {m:au} (hF:bw P f N rs (erase m)) (L:List Nat) {args:List AV} {R:AV→AH→Prop} {H0:AH} (S:List Nat)
 (h:jL H0.length H0→∀K0:Exit→Env→AH→Prop,(∀x e' H,x= .normal∨x= .ret→qW P H0 rs R e' H→GZ (K0 x e' H))→
  ∀H,H=H0→Fr H0 H0.length S H→GZ (U P L N H0.length [.code m] K0 .normal (dJ 0 args) H)) (ho:mK N (erase m)=true:=by kernel_rfl) (hN:args.length≤N:=by simp):az P f args H0 R:=by
 refine az.Vb hF (m:=m) rfl L ho hN fun hcl K0 aN=> ?_
 refine AX.P2 (m:=m) rfl ho ?_
 exact (h hcl K0 (fun x e' H h1 h2=>⟨aN x e' H h1 h2⟩) H0 rfl (Fr.refl H0 S)).out
theorem dz {P:Program} {N f:Nat} {rs:List ResultVar} {m:au} (hF:bw P f N rs (erase m)) (L:List Nat) {args:List AV} {R:AV→AH→Prop} {H0:AH}
 (h:jL H0.length H0→∀K0:Exit→Env→AH→Prop,(∀x e' H,x= .normal∨x= .ret→qW P H0 rs R e' H→GZ (K0 x e' H))→
  GZ (U P L N H0.length [.code m] K0 .normal (dJ 0 args) H0)) (ho:mK N (erase m)=true:=by kernel_rfl) (hN:args.length≤N:=by simp):az P f args H0 R:=by
 refine az.Vb hF (m:=m) rfl L ho hN fun hcl K0 aN=> ?_
 exact AX.P2 (m:=m) rfl ho (h hcl K0 (fun x e' H h1 h2=>⟨aN x e' H h1 h2⟩)).out
theorem cG {P:Program} {L:List Nat} {N n0:Nat} {e:Env} {ah:AH} {K:Exit→Env→AH→Prop} {m:au}
 (h:∀K':Exit→Env→AH→Prop,(∀x e ah e1 bB,WE e e1→eU ah bB→K x e1 bB→GZ (K' x e ah))→GZ (U P L N n0 [.code m] K' .normal e ah)) (ho:mK N (erase m)=true:=by kernel_rfl):AX P L N n0 (erase m) K e ah:=
 AX.go rfl ho fun K' hK=>(h K' fun x e ah e1 bB h1 h2 h3=>⟨hK x e ah e1 bB h1 h2 h3⟩).out
theorem jM {P:Program} {L:List Nat} {N n0:Nat} {e:Env} {ah:AH} {K:Exit→Env→AH→Prop} {m:au} {ρ τ σ:Type} {body:σ→Option (St ρ τ σ)} (J:σ→Env→AH→Prop) {F:Nat} {s0:σ} {o:ρ⊕τ} (hit:Am.iter body F s0=some o) (h0:J s0 e ah)
 (round:∀(K':Exit→Env→AH→Prop) s st e ah,J s e ah→body s=some st→
 (∀s',st= .cu s'→∀e' ax e1 bB,WE e' e1→eU ax bB→J s' e1 bB→GZ (K' .normal e' ax))→
 (∀t,st= .dU t→o= .inr t)→(∀r,st= .ret r→o= .inl r)→
 (∀x e' ax e1 bB,x≠ .normal→WE e' e1→eU ax bB→K x e1 bB→GZ (K' x e' ax))→GZ (U P L N n0 [.code m] K' .normal e ah)) (ho:mK N (erase m)=true:=by kernel_rfl):AX P L N n0 (.loop (erase m)) K e ah:=
 AX.iter rfl ho J hit h0 fun K' s st e ah h1 h2 h3 h4 h5 h6=>(round K' s st e ah h1 h2 (fun s' h e' ax e1 bB g1 g2 g3=>⟨h3 s' h e' ax e1 bB g1 g2 g3⟩) h4 h5 fun x e' ax e1 bB hx g1 g2 g3=>⟨h6 x e' ax e1 bB hx g1 g2 g3⟩).out
abbrev ai (d:Nat) (p:eA):aF:=⟨some d,p,none⟩
abbrev aB (d:Nat) (p:eA) (g:Nat) (w:Bool):aF:=⟨some d,p,some (g,w)⟩
abbrev De (p:eA):aF:=⟨none,p,none⟩
abbrev av (d x:Nat):aF:=⟨some d, .mv (.t x),none⟩
abbrev aP (d x:Nat):aF:=⟨some d, .aT (.t x),none⟩
end Go.Am
end
section
namespace Go.Proofs
open Go.Shelf
def Tryz.ni:Go.Shelf.Ren:=⟨fun|4=>40|n=>n,fun|22=>24|25=>5|3=>3|4=>4|9=>9|20=>20|0=>0|n=>n,fun|n=>n⟩
theorem Tryz.J0:Go.Proofs.Lays8.n4 Tryz.prog Tryz.ni:= {
 mixed:=by kernel_rfl
 f4:=⟨Tryz.f40.name,by decide,Tryz.func40.trans (congrArg some (by kernel_rfl))⟩
 t0:=Tryz.underlying0
 a0:=Tryz.isAgg0
 z0:=Tryz.sizeOf0
 v0:=Tryz.zeroValue0
 t3:=Tryz.underlying3
 a3:=Tryz.isAgg3
 z3:=Tryz.sizeOf3
 v3:=Tryz.zeroValue3
 t4:=Tryz.underlying4
 a4:=Tryz.isAgg4
 z4:=Tryz.sizeOf4
 v4:=Tryz.zeroValue4
 t9:=Tryz.underlying9
 a9:=Tryz.isAgg9
 z9:=Tryz.sizeOf9
 v9:=Tryz.zeroValue9
 t20:=Tryz.underlying20
 a20:=Tryz.isAgg20
 z20:=Tryz.sizeOf20
 v20:=Tryz.zeroValue20
 t22:=Tryz.underlying24
 a22:=Tryz.isAgg24
 z22:=Tryz.sizeOf24
 v22:=Tryz.zeroValue24}
end Go.Proofs
end
section
namespace Go.Proofs
open Go.Shelf
def Tryz.Df:Go.Shelf.Ren:=⟨fun|137=>73|217=>62|266=>80|n=>n,fun|9=>9|5=>5|3=>3|n=>n,fun|n=>n⟩
theorem Tryz.Qb:Go.Proofs.Lays.n137 Tryz.prog Tryz.Df:= {
 mixed:=by kernel_rfl
 f137:=Tryz.func73.trans (congrArg some (by kernel_rfl))
 f217:=Tryz.func62.trans (congrArg some (by kernel_rfl))
 f266:=Tryz.func80.trans (congrArg some (by kernel_rfl))
 t3:=Tryz.underlying3
 a3:=Tryz.isAgg3
 z3:=Tryz.sizeOf3
 v3:=Tryz.zeroValue3
 t5:=Tryz.underlying5
 a5:=Tryz.isAgg5
 z5:=Tryz.sizeOf5
 v5:=Tryz.zeroValue5
 t9:=Tryz.underlying9
 a9:=Tryz.isAgg9
 z9:=Tryz.sizeOf9
 v9:=Tryz.zeroValue9}
open Go.RowKit in
theorem Tryz.strings_IndexByte (s:ByteArray) (c:Int) (w:World):
 Calls Tryz.prog 73 #[.string s, .int .u8 c] w fun e w'=>e= .returned (.int .i64 (Lib.indexByte s.data.toList c.toNat.toUInt8))∧w'=w:=Any.strings_IndexByte Tryz.Qb s c w
def Tryz.AS:Go.Shelf.Ren:=⟨fun|171=>36|243=>47|246=>61|283=>76|284=>77|285=>78|286=>79|129=>88|317=>87|318=>89|319=>90|320=>91|337=>97|338=>98|n=>n,fun|3=>3|9=>9|2=>2|4=>4|171=>70|0=>0|53=>71|37=>24|5=>5|173=>74|212=>85|51=>76|20=>20|213=>86|46=>67|232=>99|233=>100|n=>n,fun|17=>1|18=>2|19=>3|n=>n⟩
theorem Tryz.MG:Go.Proofs.LaysM.n171 Tryz.prog Tryz.AS:= {
 mixed:=by kernel_rfl
 f129:=Tryz.func88.trans (congrArg some (by kernel_rfl))
 f171:=Tryz.func36.trans (congrArg some (by kernel_rfl))
 f243:=Tryz.func47.trans (congrArg some (by kernel_rfl))
 f246:=Tryz.func61.trans (congrArg some (by kernel_rfl))
 f283:=Tryz.func76.trans (congrArg some (by kernel_rfl))
 f284:=Tryz.func77.trans (congrArg some (by kernel_rfl))
 f285:=Tryz.func78.trans (congrArg some (by kernel_rfl))
 f286:=Tryz.func79.trans (congrArg some (by kernel_rfl))
 f317:=Tryz.func87.trans (congrArg some (by kernel_rfl))
 f318:=Tryz.func89.trans (congrArg some (by kernel_rfl))
 f319:=Tryz.func90.trans (congrArg some (by kernel_rfl))
 f320:=Tryz.func91.trans (congrArg some (by kernel_rfl))
 f337:=Tryz.func97.trans (congrArg some (by kernel_rfl))
 f338:=Tryz.func98.trans (congrArg some (by kernel_rfl))
 t0:=Tryz.underlying0
 a0:=Tryz.isAgg0
 z0:=Tryz.sizeOf0
 v0:=Tryz.zeroValue0
 t2:=Tryz.underlying2
 a2:=Tryz.isAgg2
 z2:=Tryz.sizeOf2
 v2:=Tryz.zeroValue2
 t3:=Tryz.underlying3
 a3:=Tryz.isAgg3
 z3:=Tryz.sizeOf3
 v3:=Tryz.zeroValue3
 t4:=Tryz.underlying4
 a4:=Tryz.isAgg4
 z4:=Tryz.sizeOf4
 v4:=Tryz.zeroValue4
 t5:=Tryz.underlying5
 a5:=Tryz.isAgg5
 z5:=Tryz.sizeOf5
 v5:=Tryz.zeroValue5
 t9:=Tryz.underlying9
 a9:=Tryz.isAgg9
 z9:=Tryz.sizeOf9
 v9:=Tryz.zeroValue9
 t20:=Tryz.underlying20
 a20:=Tryz.isAgg20
 z20:=Tryz.sizeOf20
 v20:=Tryz.zeroValue20
 t37:=Tryz.underlying24
 a37:=Tryz.isAgg24
 z37:=Tryz.sizeOf24
 v37:=Tryz.zeroValue24
 t46:=Tryz.underlying67
 a46:=Tryz.isAgg67
 z46:=Tryz.sizeOf67
 v46:=Tryz.zeroValue67
 t51:=Tryz.underlying76
 a51:=Tryz.isAgg76
 z51:=Tryz.sizeOf76
 v51:=Tryz.zeroValue76
 t53:=Tryz.underlying71
 a53:=Tryz.isAgg71
 z53:=Tryz.sizeOf71
 v53:=Tryz.zeroValue71
 t171:=Tryz.underlying70
 a171:=Tryz.isAgg70
 z171:=Tryz.sizeOf70
 v171:=Tryz.zeroValue70
 t173:=Tryz.underlying74
 a173:=Tryz.isAgg74
 z173:=Tryz.sizeOf74
 v173:=Tryz.zeroValue74
 t212:=Tryz.underlying85
 a212:=Tryz.isAgg85
 z212:=Tryz.sizeOf85
 v212:=Tryz.zeroValue85
 t213:=Tryz.underlying86
 a213:=Tryz.isAgg86
 z213:=Tryz.sizeOf86
 t232:=Tryz.underlying99
 a232:=Tryz.isAgg99
 z232:=Tryz.sizeOf99
 v232:=Tryz.zeroValue99
 t233:=Tryz.underlying100
 a233:=Tryz.isAgg100
 z233:=Tryz.sizeOf100
 v233:=Tryz.zeroValue100
 g17:=by kernel_rfl
 g18:=by kernel_rfl
 g19:=by kernel_rfl
 i0:=by kernel_rfl
 i2:=by kernel_rfl
 i3:=by kernel_rfl
 i4:=by kernel_rfl
 i5:=by kernel_rfl
 i9:=by kernel_rfl
 i20:=by kernel_rfl
 i37:=by kernel_rfl
 i46:=by kernel_rfl
 i51:=by kernel_rfl
 i53:=by kernel_rfl
 i171:=by kernel_rfl
 i173:=by kernel_rfl
 i212:=by kernel_rfl
 i232:=by kernel_rfl
 i233:=by kernel_rfl
 m17:=by kernel_rfl
 m18:=by kernel_rfl
 m19:=by kernel_rfl}
open Go.RowKit Go.Sort Go.Lib in
theorem Tryz.strconv_Itoa (n:Int) (h0: -9223372036854775808≤n) (h1:n≤9223372036854775807) (w:World) (htab:Lib.TabIs Tryz.prog w "internal/strconv.uint64pow10" .u64 Lib.pow10Tab):
 Calls Tryz.prog 36 #[.int .i64 n] w fun e w'=>e= .returned (.string ⟨(Lib.itoa n).toArray⟩)∧∃k os,w'=grow (w.drewN k) os:=Any.strconv_Itoa Tryz.MG n h0 h1 w htab
def Tryz.AT:Go.Shelf.Ren:=⟨fun|172=>82|244=>92|245=>93|247=>99|279=>100|280=>101|281=>102|282=>103|287=>105|316=>106|171=>36|205=>107|321=>108|322=>109|243=>47|246=>61|283=>76|284=>77|285=>78|286=>79|129=>88|317=>87|318=>89|319=>90|320=>91|337=>97|338=>98|n=>n,fun|9=>9|3=>3|75=>80|76=>81|4=>4|5=>5|167=>93|37=>24|0=>0|85=>94|2=>2|168=>96|53=>71|175=>101|46=>67|210=>104|127=>111|145=>114|143=>112|21=>21|171=>70|173=>74|212=>85|51=>76|20=>20|213=>86|232=>99|233=>100|80=>115|n=>n,fun|15=>4|16=>5|17=>1|18=>2|19=>3|n=>n⟩
theorem Tryz.wm:Go.Proofs.LaysC.n172 Tryz.prog Tryz.AT:= {
 mixed:=by kernel_rfl
 f129:=Tryz.func88.trans (congrArg some (by kernel_rfl))
 f171:=Tryz.func36.trans (congrArg some (by kernel_rfl))
 f172:=Tryz.func82.trans (congrArg some (by kernel_rfl))
 f205:=Tryz.func107.trans (congrArg some (by kernel_rfl))
 f243:=Tryz.func47.trans (congrArg some (by kernel_rfl))
 f244:=Tryz.func92.trans (congrArg some (by kernel_rfl))
 f245:=Tryz.func93.trans (congrArg some (by kernel_rfl))
 f246:=Tryz.func61.trans (congrArg some (by kernel_rfl))
 f247:=Tryz.func99.trans (congrArg some (by kernel_rfl))
 f279:=Tryz.func100.trans (congrArg some (by kernel_rfl))
 f280:=Tryz.func101.trans (congrArg some (by kernel_rfl))
 f281:=Tryz.func102.trans (congrArg some (by kernel_rfl))
 f282:=Tryz.func103.trans (congrArg some (by kernel_rfl))
 f283:=Tryz.func76.trans (congrArg some (by kernel_rfl))
 f284:=Tryz.func77.trans (congrArg some (by kernel_rfl))
 f285:=Tryz.func78.trans (congrArg some (by kernel_rfl))
 f286:=Tryz.func79.trans (congrArg some (by kernel_rfl))
 f287:=Tryz.func105.trans (congrArg some (by kernel_rfl))
 f316:=Tryz.func106.trans (congrArg some (by kernel_rfl))
 f317:=Tryz.func87.trans (congrArg some (by kernel_rfl))
 f318:=Tryz.func89.trans (congrArg some (by kernel_rfl))
 f319:=Tryz.func90.trans (congrArg some (by kernel_rfl))
 f320:=Tryz.func91.trans (congrArg some (by kernel_rfl))
 f321:=Tryz.func108.trans (congrArg some (by kernel_rfl))
 f322:=Tryz.func109.trans (congrArg some (by kernel_rfl))
 f337:=Tryz.func97.trans (congrArg some (by kernel_rfl))
 f338:=Tryz.func98.trans (congrArg some (by kernel_rfl))
 t0:=Tryz.underlying0
 a0:=Tryz.isAgg0
 z0:=Tryz.sizeOf0
 v0:=Tryz.zeroValue0
 t2:=Tryz.underlying2
 a2:=Tryz.isAgg2
 z2:=Tryz.sizeOf2
 v2:=Tryz.zeroValue2
 t3:=Tryz.underlying3
 a3:=Tryz.isAgg3
 z3:=Tryz.sizeOf3
 v3:=Tryz.zeroValue3
 t4:=Tryz.underlying4
 a4:=Tryz.isAgg4
 z4:=Tryz.sizeOf4
 v4:=Tryz.zeroValue4
 t5:=Tryz.underlying5
 a5:=Tryz.isAgg5
 z5:=Tryz.sizeOf5
 v5:=Tryz.zeroValue5
 t9:=Tryz.underlying9
 a9:=Tryz.isAgg9
 z9:=Tryz.sizeOf9
 v9:=Tryz.zeroValue9
 t20:=Tryz.underlying20
 a20:=Tryz.isAgg20
 z20:=Tryz.sizeOf20
 v20:=Tryz.zeroValue20
 t21:=Tryz.underlying21
 a21:=Tryz.isAgg21
 z21:=Tryz.sizeOf21
 v21:=Tryz.zeroValue21
 t37:=Tryz.underlying24
 a37:=Tryz.isAgg24
 z37:=Tryz.sizeOf24
 v37:=Tryz.zeroValue24
 t46:=Tryz.underlying67
 a46:=Tryz.isAgg67
 z46:=Tryz.sizeOf67
 v46:=Tryz.zeroValue67
 t51:=Tryz.underlying76
 a51:=Tryz.isAgg76
 z51:=Tryz.sizeOf76
 v51:=Tryz.zeroValue76
 t53:=Tryz.underlying71
 a53:=Tryz.isAgg71
 z53:=Tryz.sizeOf71
 v53:=Tryz.zeroValue71
 t75:=Tryz.underlying80
 a75:=Tryz.isAgg80
 z75:=Tryz.sizeOf80
 v75:=Tryz.zeroValue80
 t76:=Tryz.underlying81
 a76:=Tryz.isAgg81
 z76:=Tryz.sizeOf81
 v76:=Tryz.zeroValue81
 t85:=Tryz.underlying94
 a85:=Tryz.isAgg94
 z85:=Tryz.sizeOf94
 v85:=Tryz.zeroValue94
 t127:=Tryz.underlying111
 a127:=Tryz.isAgg111
 z127:=Tryz.sizeOf111
 v127:=Tryz.zeroValue111
 t143:=Tryz.underlying112
 a143:=Tryz.isAgg112
 z143:=Tryz.sizeOf112
 v143:=Tryz.zeroValue112
 t145:=Tryz.underlying114
 a145:=Tryz.isAgg114
 z145:=Tryz.sizeOf114
 v145:=Tryz.zeroValue114
 t167:=Tryz.underlying93
 a167:=Tryz.isAgg93
 z167:=Tryz.sizeOf93
 v167:=Tryz.zeroValue93
 t168:=Tryz.underlying96
 a168:=Tryz.isAgg96
 z168:=Tryz.sizeOf96
 v168:=Tryz.zeroValue96
 t171:=Tryz.underlying70
 a171:=Tryz.isAgg70
 z171:=Tryz.sizeOf70
 v171:=Tryz.zeroValue70
 t173:=Tryz.underlying74
 a173:=Tryz.isAgg74
 z173:=Tryz.sizeOf74
 v173:=Tryz.zeroValue74
 t175:=Tryz.underlying101
 a175:=Tryz.isAgg101
 z175:=Tryz.sizeOf101
 v175:=Tryz.zeroValue101
 t210:=Tryz.underlying104
 a210:=Tryz.isAgg104
 z210:=Tryz.sizeOf104
 v210:=Tryz.zeroValue104
 t212:=Tryz.underlying85
 a212:=Tryz.isAgg85
 z212:=Tryz.sizeOf85
 v212:=Tryz.zeroValue85
 t213:=Tryz.underlying86
 a213:=Tryz.isAgg86
 z213:=Tryz.sizeOf86
 t232:=Tryz.underlying99
 a232:=Tryz.isAgg99
 z232:=Tryz.sizeOf99
 v232:=Tryz.zeroValue99
 t233:=Tryz.underlying100
 a233:=Tryz.isAgg100
 z233:=Tryz.sizeOf100
 v233:=Tryz.zeroValue100
 g15:=by kernel_rfl
 g16:=by kernel_rfl
 g17:=by kernel_rfl
 g18:=by kernel_rfl
 g19:=by kernel_rfl
 t80:=Tryz.underlying115
 a80:=Tryz.isAgg115
 z80:=Tryz.sizeOf115
 v80:=Tryz.zeroValue115
 i0:=by kernel_rfl
 i2:=by kernel_rfl
 i3:=by kernel_rfl
 i4:=by kernel_rfl
 i5:=by kernel_rfl
 i9:=by kernel_rfl
 i20:=by kernel_rfl
 i21:=by kernel_rfl
 i37:=by kernel_rfl
 i46:=by kernel_rfl
 i51:=by kernel_rfl
 i53:=by kernel_rfl
 i75:=by kernel_rfl
 i76:=by kernel_rfl
 i80:=by kernel_rfl
 i85:=by kernel_rfl
 i127:=by kernel_rfl
 i143:=by kernel_rfl
 i145:=by kernel_rfl
 i167:=by kernel_rfl
 i168:=by kernel_rfl
 i171:=by kernel_rfl
 i173:=by kernel_rfl
 i175:=by kernel_rfl
 i210:=by kernel_rfl
 i212:=by kernel_rfl
 i232:=by kernel_rfl
 i233:=by kernel_rfl
 m15:=by kernel_rfl
 m16:=by kernel_rfl
 m17:=by kernel_rfl
 m18:=by kernel_rfl
 m19:=by kernel_rfl
 c0:=by kernel_rfl
 c2:=by kernel_rfl
 c3:=by kernel_rfl
 c4:=by kernel_rfl
 c5:=by kernel_rfl
 c9:=by kernel_rfl
 c20:=by kernel_rfl
 c21:=by kernel_rfl
 c37:=by kernel_rfl
 c46:=by kernel_rfl
 c51:=by kernel_rfl
 c53:=by kernel_rfl
 c75:=by kernel_rfl
 c76:=by kernel_rfl
 c80:=by kernel_rfl
 c85:=by kernel_rfl
 c127:=by kernel_rfl
 c143:=by kernel_rfl
 c145:=by kernel_rfl
 c167:=by kernel_rfl
 c168:=by kernel_rfl
 c171:=by kernel_rfl
 c173:=by kernel_rfl
 c175:=by kernel_rfl
 c210:=by kernel_rfl
 c212:=by kernel_rfl
 c213:=by kernel_rfl
 c232:=by kernel_rfl
 c233:=by kernel_rfl}
open Go.RowKit in
theorem Tryz.strconv_Atoi_ok (s:ByteArray) (hmax:s.size≤9223372036854775806) (v:Int) (h:Lib.atoiAll s.data.toList= .ok v) (w:World):
 Calls Tryz.prog 82 #[.string s] w fun e w'=>e= .returned (.tuple #[.int .i64 v, .nilIface])∧(w'=w∨∃t,w'=Lib.bytesWorld w 5 t):=Any.strconv_Atoi_ok Tryz.wm s hmax v h w
open Go.RowKit in
theorem Tryz.strconv_Atoi_syntax (s:ByteArray) (hlim:s.size≤281474976710656) (h:Lib.atoiAll s.data.toList=Go.Lib.NumEnd.syntax) (ev:Value) (w:World) (hv:w.cell? ⟨4,0,none⟩=some ev) (hev:ev= .nilIface∨∃te pe,ev= .iface te pe):
 Calls Tryz.prog 82 #[.string s] w fun e w'=>∃N,e= .returned (.tuple #[.int .i64 (0), .iface 96 (.pointer (some ⟨N,0,none⟩))])∧w.heap.size≤N∧w'.heap[N]? =some (.cells #[.string ⟨#[65,116,111,105]⟩, .string s,ev] 104 (0,0))∧Below w.heap.size w w':=Any.strconv_Atoi_syntax Tryz.wm s hlim h ev w hv hev
open Go.RowKit in
theorem Tryz.strconv_Atoi_range (s:ByteArray) (hlim:s.size≤281474976710656) (h:Lib.atoiAll s.data.toList= .range) (ev:Value) (w:World) (hv:w.cell? ⟨5,0,none⟩=some ev) (hev:ev= .nilIface∨∃te pe,ev= .iface te pe):
 Calls Tryz.prog 82 #[.string s] w fun e w'=>∃N,e= .returned (.tuple #[.int .i64 (Lib.atoiSat s.data.toList), .iface 96 (.pointer (some ⟨N,0,none⟩))])∧w.heap.size≤N∧w'.heap[N]? =some (.cells #[.string ⟨#[65,116,111,105]⟩, .string s,ev] 104 (0,0))∧Below w.heap.size w w':=Any.strconv_Atoi_range Tryz.wm s hlim h ev w hv hev
def Tryz.Dg:Go.Shelf.Ren:=⟨fun|145=>25|220=>39|219=>49|217=>62|225=>63|224=>64|267=>65|266=>80|314=>81|n=>n,fun|9=>9|4=>4|59=>49|3=>3|5=>5|46=>67|146=>77|51=>76|n=>n,fun|1=>0|n=>n⟩
theorem Tryz.Qc:Go.Proofs.Lays.n145 Tryz.prog Tryz.Dg:= {
 mixed:=by kernel_rfl
 f145:=Tryz.func25.trans (congrArg some (by kernel_rfl))
 f217:=Tryz.func62.trans (congrArg some (by kernel_rfl))
 f219:=Tryz.func49.trans (congrArg some (by kernel_rfl))
 f220:=Tryz.func39.trans (congrArg some (by kernel_rfl))
 f224:=Tryz.func64.trans (congrArg some (by kernel_rfl))
 f225:=Tryz.func63.trans (congrArg some (by kernel_rfl))
 f266:=Tryz.func80.trans (congrArg some (by kernel_rfl))
 f267:=Tryz.func65.trans (congrArg some (by kernel_rfl))
 f314:=Tryz.func81.trans (congrArg some (by kernel_rfl))
 t3:=Tryz.underlying3
 a3:=Tryz.isAgg3
 z3:=Tryz.sizeOf3
 v3:=Tryz.zeroValue3
 t4:=Tryz.underlying4
 a4:=Tryz.isAgg4
 z4:=Tryz.sizeOf4
 v4:=Tryz.zeroValue4
 t5:=Tryz.underlying5
 a5:=Tryz.isAgg5
 z5:=Tryz.sizeOf5
 v5:=Tryz.zeroValue5
 t9:=Tryz.underlying9
 a9:=Tryz.isAgg9
 z9:=Tryz.sizeOf9
 v9:=Tryz.zeroValue9
 t46:=Tryz.underlying67
 a46:=Tryz.isAgg67
 z46:=Tryz.sizeOf67
 v46:=Tryz.zeroValue67
 t51:=Tryz.underlying76
 a51:=Tryz.isAgg76
 z51:=Tryz.sizeOf76
 v51:=Tryz.zeroValue76
 t59:=Tryz.underlying49
 a59:=Tryz.isAgg49
 z59:=Tryz.sizeOf49
 v59:=Tryz.zeroValue49
 t146:=Tryz.underlying77
 a146:=Tryz.isAgg77
 z146:=Tryz.sizeOf77
 v146:=Tryz.zeroValue77
 g1:=by kernel_rfl}
open Go.RowKit Go.Lib in
theorem Tryz.strings_Cut (s sep:ByteArray) (m:Int) (w:World) (hs:s.size<4294967281) (hm:w.cell? ⟨0,0,none⟩=some (.int .i64 m)):
 Calls Tryz.prog 25 #[.string s, .string sep] w fun e w'=>e= .returned (.tuple #[.string ⟨(Lib.cut s.data.toList sep.data.toList).1.toArray⟩, .string ⟨(Lib.cut s.data.toList sep.data.toList).2.1.toArray⟩, .bool (Lib.cut s.data.toList sep.data.toList).2.2])∧∃n,w'=w.drewN n:=Any.strings_Cut Tryz.Qc s sep m w hs hm
def Tryz.Dh:Go.Shelf.Ren:=⟨fun|146=>55|221=>71|268=>84|138=>85|143=>86|195=>94|197=>95|218=>96|219=>49|260=>104|217=>62|225=>63|224=>64|267=>65|266=>80|314=>81|n=>n,fun|9=>9|31=>33|3=>3|4=>4|0=>0|105=>90|21=>21|5=>5|46=>67|119=>106|139=>109|138=>108|146=>77|51=>76|n=>n,fun|1=>0|3=>6|4=>7|n=>n⟩
theorem Tryz.Qd:Go.Proofs.Lays.n146 Tryz.prog Tryz.Dh:= {
 mixed:=by kernel_rfl
 f138:=Tryz.func85.trans (congrArg some (by kernel_rfl))
 f143:=Tryz.func86.trans (congrArg some (by kernel_rfl))
 f146:=Tryz.func55.trans (congrArg some (by kernel_rfl))
 f195:=Tryz.func94.trans (congrArg some (by kernel_rfl))
 f197:=Tryz.func95.trans (congrArg some (by kernel_rfl))
 f217:=Tryz.func62.trans (congrArg some (by kernel_rfl))
 f218:=Tryz.func96.trans (congrArg some (by kernel_rfl))
 f219:=Tryz.func49.trans (congrArg some (by kernel_rfl))
 f221:=Tryz.func71.trans (congrArg some (by kernel_rfl))
 f224:=Tryz.func64.trans (congrArg some (by kernel_rfl))
 f225:=Tryz.func63.trans (congrArg some (by kernel_rfl))
 f260:=Tryz.func104.trans (congrArg some (by kernel_rfl))
 f266:=Tryz.func80.trans (congrArg some (by kernel_rfl))
 f267:=Tryz.func65.trans (congrArg some (by kernel_rfl))
 f268:=Tryz.func84.trans (congrArg some (by kernel_rfl))
 f314:=Tryz.func81.trans (congrArg some (by kernel_rfl))
 t0:=Tryz.underlying0
 a0:=Tryz.isAgg0
 z0:=Tryz.sizeOf0
 v0:=Tryz.zeroValue0
 t3:=Tryz.underlying3
 a3:=Tryz.isAgg3
 z3:=Tryz.sizeOf3
 v3:=Tryz.zeroValue3
 t4:=Tryz.underlying4
 a4:=Tryz.isAgg4
 z4:=Tryz.sizeOf4
 v4:=Tryz.zeroValue4
 t5:=Tryz.underlying5
 a5:=Tryz.isAgg5
 z5:=Tryz.sizeOf5
 v5:=Tryz.zeroValue5
 t9:=Tryz.underlying9
 a9:=Tryz.isAgg9
 z9:=Tryz.sizeOf9
 v9:=Tryz.zeroValue9
 t21:=Tryz.underlying21
 a21:=Tryz.isAgg21
 z21:=Tryz.sizeOf21
 v21:=Tryz.zeroValue21
 t31:=Tryz.underlying33
 a31:=Tryz.isAgg33
 z31:=Tryz.sizeOf33
 v31:=Tryz.zeroValue33
 t46:=Tryz.underlying67
 a46:=Tryz.isAgg67
 z46:=Tryz.sizeOf67
 v46:=Tryz.zeroValue67
 t51:=Tryz.underlying76
 a51:=Tryz.isAgg76
 z51:=Tryz.sizeOf76
 v51:=Tryz.zeroValue76
 t105:=Tryz.underlying90
 a105:=Tryz.isAgg90
 z105:=Tryz.sizeOf90
 v105:=Tryz.zeroValue90
 t119:=Tryz.underlying106
 a119:=Tryz.isAgg106
 z119:=Tryz.sizeOf106
 t138:=Tryz.underlying108
 a138:=Tryz.isAgg108
 z138:=Tryz.sizeOf108
 v138:=Tryz.zeroValue108
 t139:=Tryz.underlying109
 a139:=Tryz.isAgg109
 z139:=Tryz.sizeOf109
 v139:=Tryz.zeroValue109
 t146:=Tryz.underlying77
 a146:=Tryz.isAgg77
 z146:=Tryz.sizeOf77
 v146:=Tryz.zeroValue77
 g1:=by kernel_rfl
 g3:=by kernel_rfl
 g4:=by kernel_rfl}
open Go.RowKit Go.Lib in
theorem Tryz.strings_Split (s sep:ByteArray) (m:Int) (w:World) (hs:s.size<4294967281) (hm:w.cell? ⟨0,0,none⟩=some (.int .i64 m)) (h1:1≤sep.size):
 Calls Tryz.prog 55 #[.string s, .string sep] w fun e w'=>
  e= .returned (.slice (some ⟨w.heap.size,0,none⟩) (Lib.countB s sep+1) (Lib.countB s sep+1))∧w'=w.alloc (.cells ((Lib.splitB sep 0 (Lib.countB s sep) s).map Value.string).toArray 9):=Any.strings_Split Tryz.Qd (by kernel_rfl) s sep m w hs hm h1
end Go.Proofs
end
section
set_option maxRecDepth 100000
namespace Go.Proofs.bX
open Go Go.Am Go.Proofs
def zy (cs:Array Value):Prop:=∃ev,cs= #[ev]∧(ev= .nilIface∨∃te pe,ev= .iface te pe)
instance rY:Tabs:=⟨[(0,fun cs=>∃m,cs= #[.int .i64 m]),(1,fun cs=>cs=(Lib.pow10Tab.map fun z=>Value.int .u64 z).toArray),(4,zy),(5,zy)]⟩
theorem Xg {F:Nat→Prop} {w:World} (hF:FL F w) {g:Nat} {p:Array Value→Prop} (hm:(g,p)∈Tabs.l) {v:Value} (hp:∀cs,p cs→cs[0]? =some v∨True):∃cs ty fr,w.heap[g]? =some (.cells cs ty fr)∧p cs:=(hF.Ea _ hm).2
theorem cell_of {w:World} {g:Nat} {v:Value} {ty:TypeId} {fr:Nat×Nat} (h:w.heap[g]? =some (.cells #[v] ty fr)):w.cell? ⟨g,0,none⟩=some v:=by
 simp [World.cell?,h]
theorem BM {F:Nat→Prop} {w:World} (hF:FL F w):∃m,w.cell? ⟨0,0,none⟩=some (.int .i64 m):=by
 obtain ⟨-,cs,ty,fr,h,m,rfl⟩:=hF.Ea (0,fun cs=>∃m,cs= #[.int .i64 m]) (by simp [Tabs.l,rY])
 exact ⟨m,cell_of h⟩
theorem BN {F:Nat→Prop} {w:World} (hF:FL F w) {g:Nat} (hm:(g,zy)∈Tabs.l):∃ev,w.cell? ⟨g,0,none⟩=some ev∧(ev= .nilIface∨∃te pe,ev= .iface te pe):=by
 obtain ⟨-,cs,ty,fr,h,ev,rfl,he⟩:=hF.Ea _ hm
 exact ⟨ev,cell_of h,he⟩
theorem args1 {γ:List Nat} {C:Nat→List Value} {vs:Array Value} {a:AV} {v:Value} (hl:vs.size=[a].length) (h:vs.getD 0 undef=v):vs= #[v]:=by
 apply Array.ext
 · simpa using hl
 · intro i h1 h2
   simp at h2;subst h2
   simpa [Array.getD_eq_getD_getElem?,Array.getElem?_eq_getElem h1] using h
theorem args2 {vs:Array Value} {a b:AV} {v u:Value} (hl:vs.size=[a,b].length) (h:vs.getD 0 undef=v) (h':vs.getD 1 undef=u):vs= #[v,u]:=by
 apply Array.ext
 · simpa using hl
 · intro i h1 h2
   have:i=0∨i=1:=by simp at h2;omega
   rcases this with rfl|rfl
   · simpa [Array.getD_eq_getD_getElem?,Array.getElem?_eq_getElem h1] using h
   · simpa [Array.getD_eq_getD_getElem?,Array.getElem?_eq_getElem h1] using h'
def strconv_Itoa (n:Int):Option (List UInt8):=if -9223372036854775808≤n∧n≤9223372036854775807 then some (Lib.itoa n) else none
theorem jV {i1:Int} {H0:AH} {r0:List UInt8} (h:strconv_Itoa i1=some r0):az Tryz.prog 36 [(.int .i64 i1)] H0 fun v H'=>v=(.str r0)∧H'=H0:=by
 unfold strconv_Itoa at h
 obtain ⟨⟨h0,h1⟩,h⟩:=GY h
 injection h with h
 subst h
 exact FF i1 (by kernel_rfl) (fun F w hF=>ME hF (g:=1) (by simp [Tabs.l,rY]) (by kernel_rfl)) (fun w ht=>Tryz.strconv_Itoa i1 h0 h1 w ht)
def strings_IndexByte (s:List UInt8) (c:UInt8):Option Int:=some (Lib.indexByte s c)
theorem qw {s1:List UInt8} {c2:UInt8} {H0:AH} {r0:Int} (h:strings_IndexByte s1 c2=some r0):az Tryz.prog 73 [(.str s1),(b8 c2)] H0 fun v H'=>v=(.int .i64 r0)∧H'=H0:=by
 unfold strings_IndexByte at h
 injection h with h
 subst h
 refine az.P6 rfl (by simp) (by kernel_rfl) fun F C γ w vs hF hl hv=> ?_
 have h0:=(hv 0 _ rfl).cI
 have h1:=VR.cr (hv 1 _ rfl)
 obtain rfl:=args2 hl h0 h1
 refine (Tryz.strings_IndexByte ⟨s1.toArray⟩ _ w).mono ?_
 rintro e w' ⟨rfl,rfl⟩
 refine ⟨_,rfl, ?_,by simp [TC],fun _ _=>rfl,Nat.le_refl _,rfl,rfl,rfl⟩
 have:(c2.toNat:Int).toNat.toUInt8=c2:=by simp
 rw [this]
 exact .int ..
def strconv_Atoi (s:List UInt8):Option (Int×Bool):=if s.length≤281474976710656 then some (match Lib.atoiAll s with| .ok v=>(v,false)|Go.Lib.NumEnd.syntax=>(0,true)| .range=>(Lib.atoiSat s,true)) else none
theorem strconv_Atoi_ok {s1:List UInt8} {H0:AH} {r0:Int} {r1:Bool} (h:strconv_Atoi s1=some (r0,r1)):az Tryz.prog 82 [(.str s1)] H0 fun v H'=>v=(.aW [(.int .i64 r0),(cJ r1)])∧H'=H0:=by
 unfold strconv_Atoi at h
 obtain ⟨hs,h⟩:=GY h
 injection h with h
 refine az.P6 rfl (by simp) (by kernel_rfl) fun F C γ w vs hF hl hv=> ?_
 have h0:=(hv 0 _ rfl).cI
 obtain rfl:=args1 (γ:=γ) (C:=C) hl h0
 have hsz:(⟨s1.toArray⟩:ByteArray).size=s1.length:=by simp [ByteArray.size]
 have hd:(⟨s1.toArray⟩:ByteArray).data.toList=s1:=by simp
 rcases xM:Lib.atoiAll s1 with v|_|_
 · rw [xM] at h
   injection h with ha hb
   subst ha hb
   refine (Tryz.strconv_Atoi_ok ⟨s1.toArray⟩ (by omega) v (by rw [hd];exact xM) w).mono ?_
   rintro e w' ⟨rfl,hw⟩
   refine ⟨_,rfl, ?_, ?_, ?_⟩
   · refine .aW _ _ _ rfl fun i a hi=> ?_
     match i,hi with
     |0,hi=>injection hi with hi;subst hi;exact .int ..
     |1,hi=>injection hi with hi;subst hi;exact .v _ _ rfl
   · intro i a hi
     match i,hi with
     |0,hi=>injection hi with hi;subst hi;trivial
     |1,hi=>injection hi with hi;subst hi;trivial
   · rcases hw with rfl|⟨t,rfl⟩
     · exact ⟨fun _ _=>rfl,Nat.le_refl _,rfl,rfl,rfl⟩
     · exact ⟨fun b hb=>Lib.bytesWorld_at_old _ _ _ _ hb,by rw [Lib.bytesWorld_size];omega,rfl,rfl,rfl⟩
 · rw [xM] at h
   injection h with ha hb
   subst ha hb
   obtain ⟨ev,hc,he⟩:=BN hF (g:=4) (by simp [Tabs.l,rY])
   refine (Tryz.strconv_Atoi_syntax ⟨s1.toArray⟩ (by omega) (by rw [hd];exact xM) ev w hc he).mono ?_
   rintro e w' ⟨N,rfl, -, -,hb⟩
   refine ⟨_,rfl, ?_, ?_,hb.block,hb.size,hb.os,hb.tape,hb.output⟩
   · refine .aW _ _ _ rfl fun i a hi=> ?_
     match i,hi with
     |0,hi=>injection hi with hi;subst hi;exact .int ..
     |1,hi=>injection hi with hi;subst hi;exact .cH ..
   · intro i a hi
     match i,hi with
     |0,hi=>injection hi with hi;subst hi;trivial
     |1,hi=>injection hi with hi;subst hi;trivial
 · rw [xM] at h
   injection h with ha hb
   subst ha hb
   obtain ⟨ev,hc,he⟩:=BN hF (g:=5) (by simp [Tabs.l,rY])
   refine (Tryz.strconv_Atoi_range ⟨s1.toArray⟩ (by omega) (by rw [hd];exact xM) ev w hc he).mono ?_
   rintro e w' ⟨N,rfl, -, -,hb⟩
   refine ⟨_,rfl, ?_, ?_,hb.block,hb.size,hb.os,hb.tape,hb.output⟩
   · refine .aW _ _ _ rfl fun i a hi=> ?_
     match i,hi with
     |0,hi=>injection hi with hi;subst hi;simp only [hd];exact .int ..
     |1,hi=>injection hi with hi;subst hi;exact .cH ..
   · intro i a hi
     match i,hi with
     |0,hi=>injection hi with hi;subst hi;trivial
     |1,hi=>injection hi with hi;subst hi;trivial
theorem qX {sep:List UInt8} (h1:sep≠[]):∀(n:Nat) (l:List UInt8),Lib.count l sep=n→(Lib.splitK sep 0 n l).length=n+1
 |0,_,_=>rfl
 |n+1,l,h=>by
  rcases Lib.index_spec l sep with ⟨hi, -⟩|⟨i,hi, -, -, -⟩
  · rw [Lib.count_miss hi] at h;cases h
  · have hc:=Lib.count_hit h1 hi
    unfold Lib.splitK
    rw [if_neg (by rw [hi];simp),List.length_cons,qX h1 n _ (by rw [hi,Int.toNat_natCast];omega)]
def strings_Split (s sep:List UInt8):Option (List (List UInt8)):=if s.length<4294967281∧1≤sep.length then some (Lib.split s sep) else none
theorem fS {s1 s2:List UInt8} {H0:AH} {r0:List (List UInt8)} (h:strings_Split s1 s2=some r0):az Tryz.prog 55 [(.str s1),(.str s2)] H0 fun v H'=>v=(.sl .n 1 (ml AV.str r0))∧H'=H0:=by
 unfold strings_Split at h
 obtain ⟨⟨hs,hs2⟩,h⟩:=GY h
 injection h with h
 subst h
 refine az.P7 (by kernel_rfl) fun F C γ w vs hF hl hv=> ?_
 obtain rfl:=args2 hl (hv 0 _ rfl).cI (hv 1 _ rfl).cI
 obtain ⟨m,hm⟩:=BM hF
 have hsz:(⟨s1.toArray⟩:ByteArray).size=s1.length:=by simp [ByteArray.size]
 have abh:(⟨s2.toArray⟩:ByteArray).size=s2.length:=by simp [ByteArray.size]
 refine (Tryz.strings_Split ⟨s1.toArray⟩ ⟨s2.toArray⟩ m w (by omega) hm (by omega)).mono ?_
 rintro e w' ⟨rfl,rfl⟩
 have hd:(Lib.splitB ⟨s2.toArray⟩ 0 (Lib.countB ⟨s1.toArray⟩ ⟨s2.toArray⟩) ⟨s1.toArray⟩).map (·.data.toList)=Lib.split s1 s2:=by
  rw [Lib.splitB_data];simp [Lib.split,Lib.countB]
 have hlen:(Lib.split s1 s2).length=Lib.countB ⟨s1.toArray⟩ ⟨s2.toArray⟩+1:=by
  exact qX (by intro h;rw [h] at hs2;simp at hs2) _ _ rfl
 refine ⟨9,(0,0),by rw [hlen], ?_,by simp⟩
 rw [←hd,List.map_map]
 congr 3
def strings_Cut (s sep:List UInt8):Option (List UInt8×List UInt8×Bool):=if s.length<4294967281 then some (Lib.cut s sep) else none
theorem qe {s1 s2:List UInt8} {H0:AH} {r0 r1:List UInt8} {r2:Bool} (h:strings_Cut s1 s2=some (r0,r1,r2)):az Tryz.prog 25 [(.str s1),(.str s2)] H0 fun v H'=>v=(.aW [(.str r0),(.str r1),(.bool r2)])∧H'=H0:=by
 unfold strings_Cut at h
 obtain ⟨hs,h⟩:=GY h
 injection h with h
 refine az.P6 rfl (by simp) (by kernel_rfl) fun F C γ w vs hF hl hv=> ?_
 obtain rfl:=args2 hl (hv 0 _ rfl).cI (hv 1 _ rfl).cI
 obtain ⟨m,hm⟩:=BM hF
 have hsz:(⟨s1.toArray⟩:ByteArray).size=s1.length:=by simp [ByteArray.size]
 refine (Tryz.strings_Cut ⟨s1.toArray⟩ ⟨s2.toArray⟩ m w (by omega) hm).mono ?_
 rintro e w' ⟨rfl,n,rfl⟩
 have hd1:(⟨s1.toArray⟩:ByteArray).data.toList=s1:=by simp
 have Ew:(⟨s2.toArray⟩:ByteArray).data.toList=s2:=by simp
 rw [hd1,Ew,h]
 refine ⟨_,rfl, ?_, ?_,fun _ _=>rfl,Nat.le_refl _,rfl,rfl,rfl⟩
 · refine .aW _ _ _ rfl fun i a hi=> ?_
   match i,hi with
   |0,hi=>injection hi with hi;subst hi;exact .str ..
   |1,hi=>injection hi with hi;subst hi;exact .str ..
   |2,hi=>injection hi with hi;subst hi;exact .bool ..
 · intro i a hi
   match i,hi with
   |0,hi=>injection hi with hi;subst hi;trivial
   |1,hi=>injection hi with hi;subst hi;trivial
   |2,hi=>injection hi with hi;subst hi;trivial
def T6:Option TypeInfo→Bool
 |some i=>i.bytes==1&&i.size==1&&(match i.zero with|some z=>z.cells.size==1|none=>false)
 |none=>false
theorem MH {o:Option TypeInfo} (h:T6 o=true):∃i0:TypeInfo,o=some i0∧i0.bytes=1∧i0.size=1∧∃z,i0.zero=some z∧z.cells.size=1:=by
 cases o with
 |none=>cases h
 |some i=>
  simp only [T6,Bool.and_eq_true,beq_iff_eq] at h
  obtain ⟨⟨h1,h2⟩,h3⟩:=h
  cases hz:i.zero with
  |none=>rw [hz] at h3;cases h3
  |some z=>rw [hz] at h3;exact ⟨i,rfl,h1,h2,z,hz,by simpa using h3⟩
def gI (n:Int):Option (List UInt8):=if n<0 then none else if n.toNat≤140737488355328 then some [] else none
theorem xO {i1:Int} {H0:AH} {r0:List UInt8} (h:gI i1=some r0):az Tryz.prog 40 [(.sl .ex 1 []),(.int .i64 i1)] H0 fun v H'=>v=(.sl .own 1 (ml b8 r0))∧H'=H0:=by
 unfold gI at h
 have h0:0≤i1:=by
  rcases Int.lt_or_le i1 0 with h0|h0
  · rw [if_pos h0] at h;cases h
  · exact h0
 rw [if_neg (by omega)] at h
 obtain ⟨h1,h⟩:=GY h
 injection h with h
 subst h
 obtain ⟨i0,hi0,hb,hs0,z,hz0,hzs⟩:∃i0:TypeInfo,Tryz.prog.info? (Tryz.ni.t 25)=some i0∧i0.bytes=1∧i0.size=1∧∃z,i0.zero=some z∧z.cells.size=1:=MH (by kernel_rfl)
 have hn:i1=(i1.toNat:Int):=by omega
 refine FH (z:=z) (el:=Tryz.ni.t 25) (by kernel_rfl) hzs h0 (fun base w h=> ?_) (fun base w h=> ?_)
 · subst h
   exact Any8.slices_Grow_room Tryz.J0 base 0 0 0 w (by omega) (by omega) (by omega) (by omega)
 · have:=Any8.slices_Grow_grow Tryz.J0 i0 z hi0 hz0 (by omega) base 0 0 i1.toNat [] w (by omega) (by omega) (by rw [hb];omega) (by omega) (by rw [hs0];rfl) (fun _=>rfl) (fun a _ j v hj=>by simp at hj)
   rw [←hn] at this
   change Calls Tryz.prog (Tryz.ni.f 4) _ _ _
   simpa using this
end Go.Proofs.bX
end
section
set_option maxRecDepth 100000
namespace Go.Proofs.bX
open Go Go.Am Go.Proofs
open Nat renaming reduceEqDiff→nA,reduceLT→nB,reduceLeDiff→nC,reduceAdd→nD,reduceSub→nE,reduceMul→nF,reduceBEq→nG
set_option maxHeartbeats 2000000
structure aE where
 aD:List UInt8
 domain:List UInt8
 deriving DecidableEq
structure aG where
 name:List UInt8
 value:List UInt8
 deriving DecidableEq
abbrev kg (x:List UInt8):AV:= .sl .n 1 (ml b8 x)
abbrev aQ (x:aG):AV:= .agg [(.str x.name),(.str x.value)]
end Go.Proofs.bX
end
section
set_option maxRecDepth 100000
namespace Go.Proofs.bX
open Go Go.Am Go.Proofs
open Nat renaming reduceEqDiff→nA,reduceLT→nB,reduceLeDiff→nC,reduceAdd→nD,reduceSub→nE,reduceMul→nF,reduceBEq→nG
set_option maxHeartbeats 2000000
abbrev zz:au:=(.seq (.rg [(ai 4 (.aT (.c (.bool false))))]) (.seq (.rg [(av 5 0),(ai 6 (.gU .bs (.t 5))),(av 7 1),(ai 8 (.gU .bs (.t 7))),(ai 9 (.bin .eql (.t 6) (.t 8))),(aP 4 9)]) .ret))
theorem zA:bw Tryz.prog 48 10 [(.tmp 4)] (erase zz):=⟨Tryz.f48,_,rfl,by decide,rfl,by kernel_rfl,rfl,rfl⟩
abbrev zB:List Nat:=[0,1,4]
def bytes_Equal (a1:List UInt8) (b2:List UInt8):Option (Bool):=
 some (decide (a1=b2))
theorem xP {a1:List UInt8} {b2:List UInt8} {H0:AH} {aI:Bool} (h:bytes_Equal a1 b2=some aI):
 az Tryz.prog 48 [(.sl .n 1 (ml b8 a1)),(.sl .n 1 (ml b8 b2))] H0 fun v H'=>v=(.bool aI)∧H'=H0:=by
 refine dz zA zB fun hcl K0 aN=> ?_
 rw [bytes_Equal.eq_1] at h
 refine aA ?_
 obtain rfl:=aC h
 exact aN _ _ _ bE (aH hcl (bA bC (.bool (decide (a1=b2)))) bD bu ⟨rfl,rfl⟩)
abbrev jN:au:=(.rg [(av 5 0),(ai 6 (.len (.t 5))),(av 7 1),(ai 8 (.len (.t 7))),(ai 9 (.bin .geq (.t 6) (.t 8))),(av 10 9),(aB 11 (.mv (.t 0)) 10 true),(aB 12 (.mv (.t 0)) 10 true),(aB 13 (.len (.t 12)) 10 true),(aB 14 (.mv (.t 1)) 10 true),(aB 15 (.len (.t 14)) 10 true),(aB 16 (.bin .sub (.t 13) (.t 15)) 10 true),(aB 17 (.slc 1 (.t 11) (some (.t 16)) none none) 10 true),(aB 18 (.mv (.t 1)) 10 true),(aB 19 (.call (.c (.fn 48 [])) [(.t 17),(.t 18)]) 10 true),(ai 20 (.pick (.t 10) (.t 19) (.c (.bool false)))),(aP 4 20)])
abbrev tB:au:=(.seq (.rg [(ai 4 (.aT (.c (.bool false))))]) (.seq (.sem (erase jN)) .ret))
theorem tC:bw Tryz.prog 37 21 [(.tmp 4)] (erase tB):=⟨Tryz.f37,_,rfl,by decide,rfl,by kernel_rfl,rfl,rfl⟩
abbrev lQ:List Nat:=[0,1,4]
def eN (fZ:List UInt8) (s1:List UInt8):Option (Bool):=
 (if (decide ((fZ.length:Int)≤(s1.length:Int))) then
  (sub s1 (IntKind.wrap .i64 ((s1.length:Int) - (fZ.length:Int))) (s1.length:Int)).bind fun x3=>(bytes_Equal x3 fZ).bind fun r4=>some r4
 else
  some false)
def bytes_HasSuffix (s1:List UInt8) (fZ:List UInt8):Option (Bool):=
 (eN fZ s1).bind fun t6=>
 some t6
theorem pT {fZ:List UInt8} {s1:List UInt8} {H:AH} {K:Exit→Env→AH→Prop} {t5:Bool}
 (h:eN fZ s1=some t5)
 (kn:K .normal [(4,(.bool t5))] H):
 AX Tryz.prog lQ 21 H.length (erase jN) K [(0,(.sl .n 1 (ml b8 s1))),(1,(.sl .n 1 (ml b8 fZ))),(4,(.bool false))] H:=by
 refine cG fun K' hK=> ?_
 rw [eN.eq_1] at h
 refine aA ?_
 refine cw h (fun hy1 h=> ?_) fun hy1 h=> ?_
 · obtain ⟨x3,aV,h⟩:=aj h
   have aY:=P3 (f:=b8) aV
   refine aM (aK hy1 aV) ?_
   obtain ⟨r4,aX,h⟩:=aj h
   refine bx aq (xP aX) ?_
   refine aA ?_
   obtain rfl:=aC h
   exact hK _ _ _ _ _ aL aq kn
 · refine aM hy1 ?_
   obtain rfl:=aC h
   exact hK _ _ _ _ _ aL aq kn
theorem su {s1:List UInt8} {fZ:List UInt8} {H0:AH} {aI:Bool} (h:bytes_HasSuffix s1 fZ=some aI):
 az Tryz.prog 37 [(.sl .n 1 (ml b8 s1)),(.sl .n 1 (ml b8 fZ))] H0 fun v H'=>v=(.bool aI)∧H'=H0:=by
 refine dz tC lQ fun hcl K0 aN=> ?_
 rw [bytes_HasSuffix.eq_1] at h
 refine aA ?_
 obtain ⟨t6,bk,h⟩:=aj h
 refine bS aq (pT bk ?_)
 refine aA ?_
 obtain rfl:=aC h
 exact aN _ _ _ bE (aH hcl (bA bC (.bool t6)) bD bu ⟨rfl,rfl⟩)
theorem xQ:bw Tryz.prog 38 8 [(.tmp 2)] (uH 1 1):=⟨Tryz.f38,_,rfl,by decide,rfl,by kernel_rfl,rfl,rfl⟩
def ob (s1:List UInt8):Option (List UInt8):=cF 1 [] s1
theorem wo {s1:List UInt8} {H0:AH} {aI:List UInt8} (h:ob s1=some aI):az Tryz.prog 38 [(.sl .n 1 (ml b8 s1))] H0 fun v H'=>v=(.sl .own 1 (ml b8 aI))∧H'=H0:=Dd xQ (fR (f:=b8) h)
abbrev kj:au:=(.seq (.rg [(ai 12 (.bin .lss (.t 11) (.t 10)))]) (.seq (.cond (.t 12) .skip (.exit 0)) (.seq (.blk 1 (.seq (.rg [(ai 13 (.lF 1 (.t 9) (.t 11))),(ai 14 (.ld (.t 13) none)),(aP 5 14)]) (.seq (.rg [(av 15 3),(av 16 5),(ai 17 (.len (.t 16))),(ai 18 (.bin .add (.t 15) (.t 17))),(aP 3 18)]) (.seq (.rg [(av 19 3),(ai 20 (.bin .lss (.t 19) (.c (.int .i64 0))))]) (.cond (.t 20) (.rg [(ai 21 .bad),(De .bad)]) .skip))))) (.rg [(ai 22 (.bin .add (.t 11) (.c (.int .i64 1)))),(av 11 22)]))))
abbrev ko:au:=(.seq (.rg [(ai 28 (.bin .lss (.t 27) (.t 26)))]) (.seq (.cond (.t 28) .skip (.exit 2)) (.seq (.blk 3 (.seq (.rg [(ai 29 (.lF 1 (.t 25) (.t 27))),(ai 30 (.ld (.t 29) none)),(aP 8 30)]) (.rg [(av 31 6),(av 32 8),(ai 33 (.app 1 1 (.t 31) (.t 32))),(aP 6 33)]))) (.rg [(ai 34 (.bin .add (.t 27) (.c (.int .i64 1)))),(av 27 34)]))))
abbrev wq:au:=(.seq (.rg [(ai 2 (.aT (.c (.sl .ex 1 []))))]) (.seq (.rg [(ai 3 (.aT (.c (.int .i64 0))))]) (.seq (.seq (.rg [(av 9 0),(ai 10 (.len (.t 9))),(ai 11 (.mv (.c (.int .i64 0))))]) (.blk 0 (.loop (erase kj)))) (.seq (.rg [(av 23 3),(ai 24 (.call (.c (.fn 40 [])) [(.c (.sl .ex 1 [])),(.t 23)])),(aP 6 24)]) (.seq (.seq (.rg [(av 25 0),(ai 26 (.len (.t 25))),(ai 27 (.mv (.c (.int .i64 0))))]) (.blk 2 (.loop (erase ko)))) (.seq (.rg [(av 35 6),(ai 2 (.th 1 (.t 35)))]) .ret))))))
theorem wu:bw Tryz.prog 26 36 [(.tmp 2)] (erase wq):=⟨Tryz.f26,_,rfl,by decide,rfl,by kernel_rfl,rfl,rfl⟩
abbrev jW:List Nat:=[0,2,3,5,6,8,9,10,11,12,20,25,26,27,28]
def bp (b5:List (List UInt8)):(Int×Int)→Option (St (List UInt8) Int (Int×Int))
 |(pU,t3)=>
  (if (decide (t3<(b5.length:Int))) then
   (idx b5 t3).bind fun x4=>
   (if (decide ((IntKind.wrap .i64 (pU+(x4.length:Int)))<0)) then
    none
   else
    some (.cu ((IntKind.wrap .i64 (pU+(x4.length:Int))),(IntKind.wrap .i64 (t3+1)))))
  else
   some (.dU pU))
def br (b5:List (List UInt8)):((List UInt8)×Int)→Option (St (List UInt8) (List UInt8) ((List UInt8)×Int))
 |(fq,t9)=>
  (if (decide (t9<(b5.length:Int))) then
   (idx b5 t9).bind fun oc=>
   (cF 1 fq oc).bind fun oE=>some (.cu (oE,(IntKind.wrap .i64 (t9+1))))
  else
   some (.dU fq))
def dn (F:Nat) (b5:List (List UInt8)):Option ((List UInt8)):=
 ((iter (bp b5) F (0,0)).bind fun Za=>
 match Za with
 | .inr IW=>
   (gI IW).bind fun r7=>
   ((iter (br b5) F (r7,0)).bind fun FI=>
   match FI with
   | .inr qY=>
     some qY
   | .inl _=>none)
 | .inl _=>none)
theorem qZ {F:Nat} {t3:Int} {b5:List (List UInt8)} {pU:Int} {H:AH} {K:Exit→Env→AH→Prop} {o:((List UInt8))⊕(Int)}
 (h:iter (bp b5) F (pU,t3)=some o)
 (dV:∀o':Int,o= .inr o'→K (.exit 0) [(0,(.sl .n 1 (ml kg b5))),(3,(.int .i64 o'))] H):
 AX Tryz.prog jW 36 H.length (.loop (erase kj)) K [(0,(.sl .n 1 (ml kg b5))),(3,(.int .i64 pU)),(9,(.sl .n 1 (ml kg b5))),(10,(.int .i64 (b5.length:Int))),(11,(.int .i64 t3))] H:=by
 refine jM (fun s e H1=>match s with|(pU,t3)=>e=[(0,(.sl .n 1 (ml kg b5))),(3,(.int .i64 pU)),(9,(.sl .n 1 (ml kg b5))),(10,(.int .i64 (b5.length:Int))),(11,(.int .i64 t3))]∧H1=H) h ⟨rfl,rfl⟩ ?_
 rintro K' ⟨pU,t3⟩ st e H ⟨rfl,rfl⟩ h hN hB hR hX
 rw [bp.eq_1] at h
 refine aA ?_
 refine bZ h (fun hy1 h=> ?_) fun hy1 h=> ?_
 · obtain ⟨x4,aV,h⟩:=aj h
   refine aM aV ?_
   refine bZ h (fun aY h=> ?_) fun aY h=> ?_
   · cases h
   · refine aA ?_
     obtain rfl:=aC h
     exact hN _ rfl _ _ _ _ aL aq ⟨rfl,rfl⟩
 · refine aA ?_
   obtain rfl:=aC h
   exact hX _ _ _ _ _ ez aL aq (dV _ (hB _ rfl))
theorem q9 {F:Nat} {t9:Int} {b5:List (List UInt8)} {fq:List UInt8} {H:AH} {K:Exit→Env→AH→Prop} {o:((List UInt8))⊕((List UInt8))}
 (h:iter (br b5) F (fq,t9)=some o)
 (IX:∀o':(List UInt8),o= .inr o'→K (.exit 2) [(6,(.sl .own 1 (ml b8 o')))] H):
 AX Tryz.prog jW 36 H.length (.loop (erase ko)) K [(6,(.sl .own 1 (ml b8 fq))),(25,(.sl .n 1 (ml kg b5))),(26,(.int .i64 (b5.length:Int))),(27,(.int .i64 t9))] H:=by
 refine jM (fun s e H1=>match s with|(fq,t9)=>e=[(6,(.sl .own 1 (ml b8 fq))),(25,(.sl .n 1 (ml kg b5))),(26,(.int .i64 (b5.length:Int))),(27,(.int .i64 t9))]∧H1=H) h ⟨rfl,rfl⟩ ?_
 rintro K' ⟨fq,t9⟩ st e H ⟨rfl,rfl⟩ h hN hB hR hX
 rw [br.eq_1] at h
 refine aA ?_
 refine bZ h (fun cj h=> ?_) fun cj h=> ?_
 · obtain ⟨oc,cv,h⟩:=aj h
   obtain ⟨oE,cB,h⟩:=aj h
   have eV:cF 1 (ml b8 fq) (ml b8 oc)=some (ml b8 oE):=fR (f:=b8) cB
   refine aM (aK cv eV) ?_
   obtain rfl:=aC h
   exact hN _ rfl _ _ _ _ aL aq ⟨rfl,rfl⟩
 · refine aA ?_
   obtain rfl:=aC h
   exact hX _ _ _ _ _ ez aL aq (IX _ (hB _ rfl))
theorem nj {F:Nat} {b5:List (List UInt8)} {H0:AH} {aI:List UInt8} (h:dn F b5=some aI):
 az Tryz.prog 26 [(.sl .n 1 (ml kg b5))] H0 fun v H'=>v=(.sl .own 1 (ml b8 aI))∧H'=H0:=by
 refine dz wu jW fun hcl K0 aN=> ?_
 rw [dn.eq_1] at h
 refine aA ?_
 obtain ⟨Za,aX,h⟩:=aj h
 refine bS aq (qZ aX ?_)
 · rintro IW rfl
   try dsimp only at h
   refine aA ?_
   obtain ⟨r7,bk,h⟩:=aj h
   refine bx aq (xO (i1:=IW) bk) ?_
   refine aA ?_
   obtain ⟨FI,de,h⟩:=aj h
   refine bS aq (q9 de ?_)
   · rintro qY rfl
     try dsimp only at h
     refine aA ?_
     obtain rfl:=aC h
     exact aN _ _ _ bE (aH hcl (bA bC (.sl .own 1 (ml b8 qY))) bD bu ⟨rfl,rfl⟩)
abbrev qf:au:=(.rg [(av 3 0),(ai 4 (.len (.t 3))),(ai 5 (.bin .eql (.t 4) (.c (.int .i64 0)))),(av 6 5),(aB 7 (.mv (.t 0)) 6 false),(aB 8 (.mv (.c .un)) 6 false),(aB 9 (.lit 8 [13,10]) 6 false),(aB 10 (.call (.c (.fn 37 [])) [(.t 7),(.t 9)]) 6 false),(ai 11 (.pick (.t 6) (.c (.bool true)) (.t 10)))])
abbrev Di:au:=(.seq (.rg [(ai 2 (.aT (.c (.sl .ex 1 []))))]) (.seq (.seq (.sem (erase qf)) (.cond (.t 11) (.seq (.rg [(av 12 0),(ai 13 (.call (.c (.fn 38 [])) [(.t 12)])),(aP 2 13)]) .ret) .skip)) (.seq (.rg [(av 14 0),(ai 16 (.lit 15 [13,10])),(ai 17 (.j9 1 [(.t 14),(.t 16)])),(ai 18 (.call (.c (.fn 26 [])) [(.t 17)])),(aP 2 18)]) .ret)))
theorem Dj:bw Tryz.prog 24 19 [(.tmp 2)] (erase Di):=⟨Tryz.f24,_,rfl,by decide,rfl,by kernel_rfl,rfl,rfl⟩
abbrev uI:List Nat:=[0,2,11]
def ia (b1:List UInt8):Option (Bool):=
 (if (decide ((b1.length:Int)=0)) then
  some true
 else
  (bytes_HasSuffix b1 ([13,10]:List UInt8)).bind fun r2=>some r2)
def lR (F:Nat) (b1:List UInt8):Option ((List UInt8)):=
 (ia b1).bind fun t4=>
 (if t4 then
  (ob b1).bind fun r5=>some r5
 else
  (dn F ([b1,([13,10]:List UInt8)]:List (List UInt8))).bind fun r6=>some r6)
theorem wv {b1:List UInt8} {H:AH} {K:Exit→Env→AH→Prop} {t3:Bool}
 (h:ia b1=some t3)
 (kn:K .normal [(0,(.sl .n 1 (ml b8 b1))),(11,(.bool t3))] H):
 AX Tryz.prog uI 19 H.length (erase qf) K [(0,(.sl .n 1 (ml b8 b1)))] H:=by
 refine cG fun K' hK=> ?_
 rw [ia.eq_1] at h
 refine aA ?_
 refine cw h (fun hy1 h=> ?_) fun hy1 h=> ?_
 · refine aM hy1 ?_
   obtain rfl:=aC h
   exact hK _ _ _ _ _ aL aq kn
 · refine aM hy1 ?_
   obtain ⟨r2,aV,h⟩:=aj h
   refine bx aq (su aV) ?_
   refine aA ?_
   obtain rfl:=aC h
   exact hK _ _ _ _ _ aL aq kn
theorem AU {F:Nat} {b1:List UInt8} {H0:AH} {aI:List UInt8} (h:lR F b1=some aI):
 az Tryz.prog 24 [(.sl .n 1 (ml b8 b1))] H0 fun v H'=>v=(.sl .own 1 (ml b8 aI))∧H'=H0:=by
 refine dz Dj uI fun hcl K0 aN=> ?_
 rw [lR.eq_1] at h
 refine aA ?_
 obtain ⟨t4,aY,h⟩:=aj h
 refine bS aq (wv aY ?_)
 refine aA ?_
 refine bZ h (fun aX h=> ?_) fun aX h=> ?_
 · refine aA ?_
   obtain ⟨r5,bk,h⟩:=aj h
   refine bx aq (wo bk) ?_
   refine aA ?_
   obtain rfl:=aC h
   exact aN _ _ _ bE (aH hcl (bA bC (.sl .own 1 (ml b8 r5))) bD bu ⟨rfl,rfl⟩)
 · refine aA ?_
   obtain ⟨r6,cj,h⟩:=aj h
   refine bx aq (nj cj) ?_
   refine aA ?_
   obtain rfl:=aC h
   exact aN _ _ _ bE (aH hcl (bA bC (.sl .own 1 (ml b8 r6))) bD bu ⟨rfl,rfl⟩)
abbrev qg:au:=(.rg [(av 9 0),(av 10 3),(ai 11 (.ixs (.t 9) (.t 10))),(ai 12 (.bin .lss (.t 11) (.c (b8 33)))),(av 13 12),(aB 14 (.mv (.t 0)) 13 false),(aB 15 (.mv (.t 3)) 13 false),(aB 16 (.ixs (.t 14) (.t 15)) 13 false),(aB 17 (.bin .gtr (.t 16) (.c (b8 126))) 13 false),(ai 18 (.pick (.t 13) (.c (.bool true)) (.t 17))),(av 19 18),(aB 20 (.mv (.t 0)) 19 false),(aB 21 (.mv (.t 3)) 19 false),(aB 22 (.ixs (.t 20) (.t 21)) 19 false),(aB 23 (.bin .eql (.t 22) (.c (b8 58))) 19 false),(ai 24 (.pick (.t 19) (.c (.bool true)) (.t 23)))])
abbrev oF:au:=(.seq (.rg [(ai 7 (.bin .lss (.t 6) (.t 5)))]) (.seq (.cond (.t 7) .skip (.exit 0)) (.seq (.blk 1 (.seq (.rg [(av 8 6),(aP 3 8)]) (.seq (.sem (erase qg)) (.cond (.t 24) (.seq (.rg [(ai 2 (.aT (.c (.bool false))))]) .ret) .skip)))) (.rg [(ai 25 (.bin .add (.t 6) (.c (.int .i64 1)))),(av 6 25)]))))
abbrev qh:au:=(.rg [(av 26 0),(ai 27 (.bin .neq (.t 26) (.c (.str [])))),(av 28 27),(aB 29 (.mv (.t 0)) 28 true),(aB 30 (.lens (.t 29)) 28 true),(aB 31 (.bin .leq (.t 30) (.c (.int .i64 76))) 28 true),(ai 32 (.pick (.t 28) (.t 31) (.c (.bool false)))),(aP 2 32)])
abbrev Dk:au:=(.seq (.rg [(ai 2 (.aT (.c (.bool false))))]) (.seq (.seq (.rg [(av 4 0),(ai 5 (.lens (.t 4))),(ai 6 (.mv (.c (.int .i64 0))))]) (.blk 0 (.loop (erase oF)))) (.seq (.sem (erase qh)) .ret)))
theorem Dl:bw Tryz.prog 15 33 [(.tmp 2)] (erase Dk):=⟨Tryz.f15,_,rfl,by decide,rfl,by kernel_rfl,rfl,rfl⟩
abbrev k7:List Nat:=[0,2,3,5,6,7,24]
def ic (s1:List UInt8) (t2:Int):Option (Bool):=
 (idx s1 t2).bind fun x3=>
 (if (decide (x3<33)) then
  some true
 else
  (if (decide (126<x3)) then
   some true
  else
   some (decide (x3=58))))
def eG (s1:List UInt8):Int→Option (St Bool Unit Int)
 |t2=>
  (if (decide (t2<(s1.length:Int))) then
   (ic s1 t2).bind fun t5=>
   (if t5 then
    some (.ret false)
   else
    some (.cu (IntKind.wrap .i64 (t2+1))))
  else
   some (.dU ()))
def ga (F:Nat) (s1:List UInt8):Option (Bool):=
 ((iter (eG s1) F 0).bind fun o8=>
 match o8 with
 | .inr ()=>
   some ((!decide (s1=([]:List UInt8)))&&(decide ((s1.length:Int)≤76)))
 | .inl r7=>
   some r7)
theorem wz {s1:List UInt8} {t2:Int} {H:AH} {K:Exit→Env→AH→Prop} {t4:Bool}
 (h:ic s1 t2=some t4)
 (kn:K .normal [(0,(.str s1)),(5,(.int .i64 (s1.length:Int))),(6,(.int .i64 t2)),(24,(.bool t4))] H):
 AX Tryz.prog k7 33 H.length (erase qg) K [(0,(.str s1)),(3,(.int .i64 t2)),(5,(.int .i64 (s1.length:Int))),(6,(.int .i64 t2))] H:=by
 refine cG fun K' hK=> ?_
 rw [ic.eq_1] at h
 obtain ⟨x3,aV,h⟩:=aj h
 refine aM aV ?_
 refine cw h (fun aY h=> ?_) fun aY h=> ?_
 · refine aM aY ?_
   obtain rfl:=aC h
   exact hK _ _ _ _ _ aL aq kn
 · refine aM (aK aY aV) ?_
   refine cw h (fun aX h=> ?_) fun aX h=> ?_
   · refine aM aX ?_
     obtain rfl:=aC h
     exact hK _ _ _ _ _ aL aq kn
   · refine aM (aK aX aV) ?_
     obtain rfl:=aC h
     exact hK _ _ _ _ _ aL aq kn
theorem wA {F:Nat} {t2:Int} {s1:List UInt8} {H:AH} {K:Exit→Env→AH→Prop} {o:(Bool)⊕(Unit)}
 (h:iter (eG s1) F t2=some o)
 (dV:∀o':Unit,o= .inr o'→K (.exit 0) [(0,(.str s1))] H)
 (kr:∀o':Bool,o= .inl o'→K .ret [(2,(.bool o'))] H):
 AX Tryz.prog k7 33 H.length (.loop (erase oF)) K [(0,(.str s1)),(5,(.int .i64 (s1.length:Int))),(6,(.int .i64 t2))] H:=by
 refine jM (fun s e H1=>match s with|t2=>e=[(0,(.str s1)),(5,(.int .i64 (s1.length:Int))),(6,(.int .i64 t2))]∧H1=H) h ⟨rfl,rfl⟩ ?_
 rintro K' t2 st e H ⟨rfl,rfl⟩ h hN hB hR hX
 rw [eG.eq_1] at h
 refine aA ?_
 refine bZ h (fun hy1 h=> ?_) fun hy1 h=> ?_
 · refine aA ?_
   obtain ⟨t5,bk,h⟩:=aj h
   refine bS aq (wz bk ?_)
   refine aA ?_
   refine bZ h (fun cj h=> ?_) fun cj h=> ?_
   · refine aA ?_
     obtain rfl:=aC h
     exact hX _ _ _ _ _ ez aL aq (kr _ (hR _ rfl))
   · refine aA ?_
     obtain rfl:=aC h
     exact hN _ rfl _ _ _ _ aL aq ⟨rfl,rfl⟩
 · refine aA ?_
   obtain rfl:=aC h
   exact hX _ _ _ _ _ ez aL aq (dV _ (hB _ rfl))
theorem wB {s1:List UInt8} {H:AH} {K:Exit→Env→AH→Prop}
 (kn:K .normal [(2,(.bool ((!decide (s1=([]:List UInt8)))&&(decide ((s1.length:Int)≤76)))))] H):
 AX Tryz.prog k7 33 H.length (erase qh) K [(0,(.str s1))] H:=by
 refine cG fun K' hK=> ?_
 refine aA ?_
 refine mM (fun cB=> ?_) fun cB=> ?_
 · refine aM cB ?_
   exact hK _ _ _ _ _ (dL cB) aq kn
 · refine aM cB ?_
   exact hK _ _ _ _ _ (dL cB) aq kn
theorem j4 {F:Nat} {s1:List UInt8} {H0:AH} {aI:Bool} (h:ga F s1=some aI):
 az Tryz.prog 15 [(.str s1)] H0 fun v H'=>v=(.bool aI)∧H'=H0:=by
 refine dz Dl k7 fun hcl K0 aN=> ?_
 rw [ga.eq_1] at h
 refine aA ?_
 obtain ⟨o8,cv,h⟩:=aj h
 refine bS aq (wA cv ?_ ?_)
 · rintro ⟨⟩ rfl
   try dsimp only at h
   refine aA ?_
   refine bS aq (wB (s1:=s1) ?_)
   refine aA ?_
   obtain rfl:=aC h
   exact aN _ _ _ bE (aH hcl (bA bC (.bool ((!decide (s1=([]:List UInt8)))&&(decide ((s1.length:Int)≤76))))) bD bu ⟨rfl,rfl⟩)
 · rintro r7 rfl
   try dsimp only at h
   refine aA ?_
   obtain rfl:=aC h
   exact aN _ _ _ bE (aH hcl (bA bC (.bool r7)) bD bu ⟨rfl,rfl⟩)
abbrev oG:au:=(.rg [(av 33 4),(ai 34 (.len (.t 33))),(ai 35 (.bin .gtr (.t 34) (.c (.int .i64 0)))),(av 36 35),(aB 37 (.mv (.t 6)) 36 true),(aB 38 (.bin .neq (.t 37) (.c (.str []))) 36 true),(ai 39 (.pick (.t 36) (.t 38) (.c (.bool false)))),(av 40 39),(aB 41 (.mv (.t 6)) 40 true),(aB 42 (.ixs (.t 41) (.c (.int .i64 0))) 40 true),(aB 43 (.bin .eql (.t 42) (.c (b8 32))) 40 true),(aB 44 (.mv (.t 43)) 40 true),(aB 45 (.mv (.t 6)) 44 false),(aB 46 (.ixs (.t 45) (.c (.int .i64 0))) 44 false),(aB 47 (.bin .eql (.t 46) (.c (b8 9))) 44 false),(aB 48 (.pick (.t 44) (.c (.bool true)) (.t 47)) 40 true),(ai 49 (.pick (.t 40) (.t 48) (.c (.bool false)))),(aP 32 49)])
abbrev oH:au:=(.rg [(av 63 11),(av 64 63),(aB 65 (.mv (.t 9)) 64 true),(aB 66 (.call (.c (.fn 15 [])) [(.t 65)]) 64 true),(ai 67 (.pick (.t 64) (.t 66) (.c (.bool false)))),(aP 62 67)])
abbrev oI:au:=(.rg [(av 77 4),(av 78 7),(ai 79 (.gU .sb (.t 78))),(aP 2 77),(aP 3 79)])
abbrev oJ:au:=(.rg [(av 29 4),(av 30 5),(ai 31 (.gU .sb (.t 30))),(aP 2 29),(aP 3 31)])
abbrev nk:au:=(.seq (.seq (.rg [(av 15 5),(ai 16 (.bin .neq (.t 15) (.c (.str []))))]) (.cond (.t 16) .skip (.exit 0))) (.blk 1 (.seq (.rg [(av 18 5),(ai 19 (.call (.c (.fn 25 [])) [(.t 18),(.c (.str [13,10]))])),(av 17 19),(ai 20 (.ext (.t 17) 0)),(ai 21 (.ext (.t 17) 1)),(ai 22 (.ext (.t 17) 2)),(aP 6 20),(aP 7 21),(aP 8 22)]) (.seq (.rg [(av 24 6),(ai 25 (.call (.c (.fn 25 [])) [(.t 24),(.c (.str [58]))])),(av 23 25),(ai 26 (.ext (.t 23) 0)),(ai 27 (.ext (.t 23) 1)),(ai 28 (.ext (.t 23) 2)),(aP 9 26),(aP 10 27),(aP 11 28)]) (.seq (.blk 2 (.seq (.sem (erase oG)) (.cond (.t 32) (.rg [(av 50 4),(av 51 4),(ai 52 (.len (.t 51))),(ai 53 (.bin .sub (.t 52) (.c (.int .i64 1)))),(ai 54 (.lF 2 (.t 50) (.t 53))),(ai 55 (.gY (.t 54) 1)),(ai 56 (.ld (.t 55) none)),(av 57 6),(ai 58 (.bin .add (.c (.str [13,10])) (.t 57))),(ai 59 (.bin .add (.t 56) (.t 58))),(ai 60 (.lF 2 (.t 50) (.t 53))),(ai 61 (.gY (.t 60) 1)),(De (.st (.t 61) (.t 59) 1))]) (.seq (.sem (erase oH)) (.cond (.t 62) (.rg [(av 68 4),(av 69 9),(av 70 10),(ai 71 (.build [(.str []),(.str [])] [(0,(1,(.t 69))),(1,(1,(.t 70)))])),(ai 72 (.j9 2 [(.t 71)])),(ai 73 (.jh 2 32 (.t 68) (.t 72))),(aP 4 73)]) (.seq (.rg [(av 75 6),(ai 76 (.bin .eql (.t 75) (.c (.str [])))),(aP 74 76)]) (.cond (.t 74) (.seq (.sem (erase oI)) .ret) (.seq (.sem (erase oJ)) .ret)))))))) (.rg [(av 80 7),(aP 5 80)]))))))
abbrev oK:au:=(.rg [(av 81 4),(aP 2 81),(ai 3 (.aT (.c (.sl .ex 1 []))))])
abbrev AY:au:=(.seq (.rg [(ai 2 (.aT (.c (.sl .ex 2 [])))),(ai 3 (.aT (.c (.sl .ex 1 []))))]) (.seq (.rg [(ai 4 (.th 2 (.c (.sl .ex 2 []))))]) (.seq (.rg [(av 12 0),(ai 13 (.call (.c (.fn 24 [])) [(.t 12)])),(ai 14 (.gU .bs (.t 13))),(aP 5 14)]) (.seq (.blk 0 (.loop (erase nk))) (.seq (.sem (erase oK)) .ret)))))
theorem AZ:bw Tryz.prog 10 82 [(.tmp 2),(.tmp 3)] (erase AY):=⟨Tryz.f10,_,rfl,by decide,rfl,by kernel_rfl,rfl,rfl⟩
abbrev eH:List Nat:=[0,2,3,4,5,6,7,9,10,11,16,32,62,74]
def gb (s6:List aG) (r7:List UInt8):Option (Bool):=
 (if (decide (0<(s6.length:Int))) then
  (if (!decide (r7=([]:List UInt8))) then
   (idx r7 0).bind fun uJ=>
   (if (decide (uJ=32)) then
    some true
   else
    some (decide (uJ=9)))
  else
   some false)
 else
  some false)
def gf (F:Nat) (cm:Bool) (tD:List UInt8):Option (Bool):=
 (if cm then
  (ga F tD).bind fun Zb=>some Zb
 else
  some false)
def dW (F:Nat):((List UInt8)×(List aG))→Option (St ((List aG)×(List UInt8)) (List aG) ((List UInt8)×(List aG)))
 |(dA,s6)=>
  (if (!decide (dA=([]:List UInt8))) then
   (strings_Cut dA ([13,10]:List UInt8)).bind fun (r7,r8,r9)=>
   (strings_Cut r7 ([58]:List UInt8)).bind fun (tD,sw,cm)=>
   (gb s6 r7).bind fun t17=>
   (if t17 then
    (so s6.length (IntKind.wrap .i64 ((s6.length:Int) - 1))).bind fun MI=>
    (s6[MI]?).bind fun iR=>
    (cat ([13,10]:List UInt8) r7).bind fun FJ=>
    (cat iR.value FJ).bind fun ri=>some (.cu (r8,(List.set s6 MI (aG.mk iR.name ri))))
   else
    (gf F cm tD).bind fun t26=>
    (if t26 then
     (cF 32 s6 ([(aG.mk tD sw)]:List aG)).bind fun Qe=>some (.cu (r8,Qe))
    else
     (if (decide (r7=([]:List UInt8))) then
      some (.ret (s6,r8))
     else
      some (.ret (s6,dA)))))
  else
   some (.dU s6))
def iV (F:Nat) (b1:List UInt8):Option ((List aG)×(List UInt8)):=
 (lR F b1).bind fun r2=>
 ((iter (dW F) F (r2,([]:List aG))).bind fun Zc=>
 match Zc with
 | .inr Dm=>
   some (Dm,([]:List UInt8))
 | .inl (Wm,MJ)=>
   some (Wm,MJ))
theorem uK {s6:List aG} {r7:List UInt8} {S5:Nat} {S6:Nat} {dA:List UInt8} {r8:List UInt8} {tD:List UInt8} {sw:List UInt8} {cm:Bool} {H0 H:AH} (hfr:Fr H0 H0.length [] H) (ak:GF 2 H0.length S5 (ml aQ s6) S6 H) {K:Exit→Env→AH→Prop} {t16:Bool}
 (h:gb s6 r7=some t16)
 (kn:∀H':AH,Fr H0 H0.length [] H'→GF 2 H0.length S5 (ml aQ s6) S6 H'→K .normal [(4,(.bM S5 2 s6.length S6)),(5,(.str dA)),(6,(.str r7)),(7,(.str r8)),(9,(.str tD)),(10,(.str sw)),(11,(.bool cm)),(32,(.bool t16))] H'):
 AX Tryz.prog eH 82 H0.length (erase oG) K [(4,(.bM S5 2 s6.length S6)),(5,(.str dA)),(6,(.str r7)),(7,(.str r8)),(9,(.str tD)),(10,(.str sw)),(11,(.bool cm))] H:=by
 refine cG fun K' hK=> ?_
 have hle:=hfr.le
 rw [gb.eq_1] at h
 refine bG ?_
 refine cw h (fun bk h=> ?_) fun bk h=> ?_
 · refine aZ bk ?_
   refine cw h (fun cj h=> ?_) fun cj h=> ?_
   · obtain ⟨uJ,cv,h⟩:=aj h
     refine aZ (aK cj cv) ?_
     refine cw h (fun cB h=> ?_) fun cB h=> ?_
     · refine aZ cB ?_
       obtain rfl:=aC h
       exact hK _ _ _ _ _ (dL (aK bk (aK cj cB))) aq (kn _ hfr ak)
     · refine aZ (aK cB cv) ?_
       obtain rfl:=aC h
       exact hK _ _ _ _ _ (dL (aK bk (aK cj cB))) aq (kn _ hfr ak)
   · refine aZ cj ?_
     obtain rfl:=aC h
     exact hK _ _ _ _ _ (dL (aK bk cj)) aq (kn _ hfr ak)
 · refine aZ bk ?_
   obtain rfl:=aC h
   exact hK _ _ _ _ _ (dL bk) aq (kn _ hfr ak)
theorem uL {F:Nat} {cm:Bool} {tD:List UInt8} {S7:Nat} {s6:List aG} {S8:Nat} {dA:List UInt8} {r7:List UInt8} {r8:List UInt8} {sw:List UInt8} {H0 H:AH} (hfr:Fr H0 H0.length [] H) (ak:GF 2 H0.length S7 (ml aQ s6) S8 H) {K:Exit→Env→AH→Prop} {t25:Bool}
 (h:gf F cm tD=some t25)
 (kn:∀H':AH,Fr H0 H0.length [] H'→GF 2 H0.length S7 (ml aQ s6) S8 H'→K .normal [(4,(.bM S7 2 s6.length S8)),(5,(.str dA)),(6,(.str r7)),(7,(.str r8)),(9,(.str tD)),(10,(.str sw)),(62,(.bool t25))] H'):
 AX Tryz.prog eH 82 H0.length (erase oH) K [(4,(.bM S7 2 s6.length S8)),(5,(.str dA)),(6,(.str r7)),(7,(.str r8)),(9,(.str tD)),(10,(.str sw)),(11,(.bool cm))] H:=by
 refine cG fun K' hK=> ?_
 have hle:=hfr.le
 rw [gf.eq_1] at h
 refine bG ?_
 refine cw h (fun jO h=> ?_) fun jO h=> ?_
 · refine aZ jO ?_
   obtain ⟨Zb,ku,h⟩:=aj h
   refine bx aq (j4 ku) ?_
   refine bG ?_
   obtain rfl:=aC h
   exact hK _ _ _ _ _ (dL jO) aq (kn _ hfr ak)
 · refine aZ jO ?_
   obtain rfl:=aC h
   exact hK _ _ _ _ _ (dL jO) aq (kn _ hfr ak)
theorem uM {s6:List aG} {r8:List UInt8} {H0 H:AH} (hfr:Fr H0 H0.length [] H) {K:Exit→Env→AH→Prop}
 (kn:∀H':AH,Fr H0 H0.length [] H'→K .normal [(2,(.sl .n 2 (ml aQ s6))),(3,(.sl .own 1 (ml b8 r8)))] H'):
 AX Tryz.prog eH 82 H0.length (erase oI) K [(4,(.sl .n 2 (ml aQ s6))),(7,(.str r8))] H:=by
 refine cG fun K' hK=> ?_
 have hle:=hfr.le
 refine bG ?_
 exact hK _ _ _ _ _ aL aq (kn _ hfr)
theorem uN {s6:List aG} {dA:List UInt8} {H0 H:AH} (hfr:Fr H0 H0.length [] H) {K:Exit→Env→AH→Prop}
 (kn:∀H':AH,Fr H0 H0.length [] H'→K .normal [(2,(.sl .n 2 (ml aQ s6))),(3,(.sl .own 1 (ml b8 dA)))] H'):
 AX Tryz.prog eH 82 H0.length (erase oJ) K [(4,(.sl .n 2 (ml aQ s6))),(5,(.str dA))] H:=by
 refine cG fun K' hK=> ?_
 have hle:=hfr.le
 refine bG ?_
 exact hK _ _ _ _ _ aL aq (kn _ hfr)
theorem uO {F:Nat} {dA:List UInt8} {s6:List aG} {q3:Nat} {q4:Nat} {H0 H:AH} (hfr:Fr H0 H0.length [] H) (ak:GF 2 H0.length q3 (ml aQ s6) q4 H) {K:Exit→Env→AH→Prop} {o:((List aG)×(List UInt8))⊕((List aG))}
 (h:iter (dW F) F (dA,s6)=some o)
 (dV:∀o':(List aG),o= .inr o'→∀H':AH,∀Zd Ze:Nat,Fr H0 H0.length [] H'→GF 2 H0.length Zd (ml aQ o') Ze H'→K (.exit 0) [(4,(.bM Zd 2 o'.length Ze))] H')
 (kr:∀o':(List aG)×(List UInt8),o= .inl o'→∀H':AH,Fr H0 H0.length [] H'→K .ret [(2,(.sl .n 2 (ml aQ o'.1))),(3,(.sl .n 1 (ml b8 o'.2)))] H'):
 AX Tryz.prog eH 82 H0.length (.loop (erase nk)) K [(4,(.bM q3 2 s6.length q4)),(5,(.str dA))] H:=by
 refine jM (fun s e H1=>match s with|(dA,s6)=>∃q3 q4:Nat,e=[(4,(.bM q3 2 s6.length q4)),(5,(.str dA))]∧Fr H0 H0.length [] H1∧GF 2 H0.length q3 (ml aQ s6) q4 H1) h ⟨q3,q4,rfl,hfr,ak⟩ ?_
 rintro K' ⟨dA,s6⟩ st e H ⟨q3,q4,rfl,hfr,ak⟩ h hN hB hR hX
 have hle:=hfr.le
 rw [dW.eq_1] at h
 refine bG ?_
 refine bZ h (fun aV h=> ?_) fun aV h=> ?_
 · refine bG ?_
   obtain ⟨⟨r7,r8,r9⟩,aY,h⟩:=aj h
   dsimp only at h
   refine bx aq (qe (s1:=dA) (s2:=([13,10]:List UInt8)) aY) ?_
   refine bG ?_
   obtain ⟨⟨tD,sw,cm⟩,aX,h⟩:=aj h
   dsimp only at h
   refine bx aq (qe (s1:=r7) (s2:=([58]:List UInt8)) aX) ?_
   refine bG ?_
   obtain ⟨t17,eV,h⟩:=aj h
   refine bS aq (uK (dA:=dA) (r8:=r8) (tD:=tD) (sw:=sw) (cm:=cm) hfr ak eV ?_)
   intro H hfr ak
   have hle:=hfr.le
   refine bG ?_
   refine bZ h (fun de h=> ?_) fun de h=> ?_
   · obtain ⟨MI,dx,h⟩:=aj h
     obtain ⟨iR,dh,h⟩:=aj h
     have gh:=GF.YQ (f:=aQ) (ak) dh
     have kz:(gC 2 (ml aQ s6) q4)[MI*2+1]? =some (.str iR.value):=BL (f:=aQ) (fun _=>⟨rfl,rfl,rfl,rfl⟩) dh (by decide)
     obtain ⟨FJ,lS,h⟩:=aj h
     obtain ⟨ri,iW,h⟩:=aj h
     have oL:=GF.YQ (f:=aQ) (ak) dh
     have kA:=GF.geM (f:=aQ) (ak) dh
     have oM:over (gC 2 (ml aQ s6) q4) (MI*2+1) [(.str ri)]=some (gC 2 (ml aQ (List.set s6 MI (aG.mk iR.name ri))) q4):=zw (f:=aQ) (x':=(aG.mk iR.name ri)) (fun _=>⟨rfl,rfl,rfl,rfl⟩) dh (by decide) rfl
     have oN:=GF.YP (f:=aQ) (x':=(aG.mk iR.name ri)) (ak) dh
     refine aZ (aK dx (aK gh (aK kz (aK lS (aK iW (aK dx (aK oL oM))))))) ?_
     obtain rfl:=aC h
     exact hN _ rfl _ _ _ _ aL aq ⟨q3,q4,rfl,(Fr.set (s:=q3) hfr (.inr kA)),oN⟩
   · refine bG ?_
     obtain ⟨t26,oO,h⟩:=aj h
     refine bS aq (uL (s6:=s6) (dA:=dA) (r7:=r7) (r8:=r8) (sw:=sw) hfr ak oO ?_)
     intro H hfr ak
     have hle:=hfr.le
     refine bG ?_
     refine bZ h (fun oP h=> ?_) fun oP h=> ?_
     · obtain ⟨Qe,kB,h⟩:=aj h
       refine bG ?_
       refine gaZ (f:=aQ) (X:=s6) (Y:=([(aG.mk tD sw)]:List aG)) (n1:=H0.length) (fun _=>⟨rfl,rfl,rfl,rfl⟩) (by decide) rfl rfl rfl (by simp) kB (ak) (by first|assumption|omega|(simp only [sO,sP]<;>omega)|fail) fun q28 q29 H hsg xL IY RS=> ?_
       have hfr:=Fr.grow hfr xL IY
       have ak:=hsg
       have hle:=hfr.le
       refine bG ?_
       obtain rfl:=aC h
       exact hN _ rfl _ _ _ _ aL aq ⟨q28,q29,rfl,hfr,ak⟩
     · refine bG ?_
       refine bZ h (fun rj h=> ?_) fun rj h=> ?_
       · refine bG ?_
         refine MF ?_
         apply AX.FE (n1:=H0.length) (by decide) (EK.ml (f:=aQ) (fun _=>⟨rfl,rfl,rfl,rfl⟩) s6) (ak)
         · repeat (first|exact FG.nil|apply FG.lay _ _ _ _ (rW _ _).symm|apply FG.same)
         intro H xL IY
         have hfr:=Fr.lay hfr xL IY
         have hle:=hfr.le
         refine Qa ?_
         refine bS aq (uM (s6:=s6) (r8:=r8) hfr ?_)
         intro H hfr
         have hle:=hfr.le
         refine bG ?_
         obtain rfl:=aC h
         exact hX _ _ _ _ _ ez aL aq (kr _ (hR _ rfl) _ hfr)
       · refine bG ?_
         refine MF ?_
         apply AX.FE (n1:=H0.length) (by decide) (EK.ml (f:=aQ) (fun _=>⟨rfl,rfl,rfl,rfl⟩) s6) (ak)
         · repeat (first|exact FG.nil|apply FG.lay _ _ _ _ (rW _ _).symm|apply FG.same)
         intro H xL IY
         have hfr:=Fr.lay hfr xL IY
         have hle:=hfr.le
         refine Qa ?_
         refine bS aq (uN (s6:=s6) (dA:=dA) hfr ?_)
         intro H hfr
         have hle:=hfr.le
         refine bG ?_
         obtain rfl:=aC h
         exact hX _ _ _ _ _ ez aL aq (kr _ (hR _ rfl) _ hfr)
 · refine bG ?_
   obtain rfl:=aC h
   exact hX _ _ _ _ _ ez aL aq (dV _ (hB _ rfl) _ q3 q4 hfr ak)
theorem uP {Dm:List aG} {H0 H:AH} (hfr:Fr H0 H0.length [] H) {K:Exit→Env→AH→Prop}
 (kn:∀H':AH,Fr H0 H0.length [] H'→K .normal [(2,(.sl .n 2 (ml aQ Dm))),(3,(.sl .ex 1 []))] H'):
 AX Tryz.prog eH 82 H0.length (erase oK) K [(4,(.sl .n 2 (ml aQ Dm)))] H:=by
 refine cG fun K' hK=> ?_
 have hle:=hfr.le
 refine bG ?_
 exact hK _ _ _ _ _ aL aq (kn _ hfr)
theorem rq {F:Nat} {b1:List UInt8} {H0:AH} {aI:List aG} {FK:List UInt8} (h:iV F b1=some (aI,FK)):
 az Tryz.prog 10 [(.sl .n 1 (ml b8 b1))] H0 fun v H'=>v=(.aW [(.sl .n 2 (ml aQ aI)),(.sl .n 1 (ml b8 FK))])∧H'=H0:=by
 refine sr AZ eH [] fun hcl K0 aN H hH hfr=> ?_
 clear hH
 have hle:=hfr.le
 rw [iV.eq_1] at h
 refine bG ?_
 obtain ⟨r2,hy1,h⟩:=aj h
 refine bx aq (AU hy1) ?_
 refine bG ?_
 obtain ⟨Zc,uQ,h⟩:=aj h
 refine bS aq (uO hfr GF.nil uQ ?_ ?_)
 · rintro Dm rfl H q36 q37 hfr ak
   try dsimp only at h ak
   have hle:=hfr.le
   refine bG ?_
   refine MF ?_
   apply AX.FE (n1:=H0.length) (by decide) (EK.ml (f:=aQ) (fun _=>⟨rfl,rfl,rfl,rfl⟩) Dm) (ak)
   · repeat (first|exact FG.nil|apply FG.lay _ _ _ _ (rW _ _).symm|apply FG.same)
   intro H xL IY
   have hfr:=Fr.lay hfr xL IY
   have hle:=hfr.le
   refine Qa ?_
   refine bS aq (uP (Dm:=Dm) hfr ?_)
   intro H hfr
   have hle:=hfr.le
   refine bG ?_
   obtain ⟨rfl,rfl⟩:=JZ h
   exact aN _ _ _ bE (bR hfr hcl (bA (bA bC (.sl .ex 1 [])) (.sl .n 2 (ml aQ Dm))) bD bu ⟨rfl,rfl⟩)
 · rintro ⟨Wm,MJ⟩ rfl H hfr
   try dsimp only at h
   have hle:=hfr.le
   refine bG ?_
   obtain ⟨rfl,rfl⟩:=JZ h
   exact aN _ _ _ bE (bR hfr hcl (bA (bA bC (.sl .n 1 (ml b8 MJ))) (.sl .n 2 (ml aQ Wm))) bD bu ⟨rfl,rfl⟩)
abbrev oQ:au:=(.rg [(av 15 5),(ai 16 (.bin .geq (.t 15) (.c (b8 65)))),(av 17 16),(aB 18 (.mv (.t 5)) 17 true),(aB 19 (.bin .leq (.t 18) (.c (b8 90))) 17 true),(ai 20 (.pick (.t 17) (.t 19) (.c (.bool false))))])
abbrev nr:au:=(.seq (.rg [(ai 11 (.bin .lss (.t 10) (.t 9)))]) (.seq (.cond (.t 11) .skip (.exit 0)) (.seq (.blk 1 (.seq (.rg [(av 12 10),(ai 13 (.lF 1 (.t 8) (.t 10))),(ai 14 (.ld (.t 13) none)),(aP 4 12),(aP 5 14)]) (.seq (.sem (erase oQ)) (.cond (.t 20) (.rg [(av 21 3),(av 22 4),(ai 23 (.lF 1 (.t 21) (.t 22))),(ai 24 (.ld (.t 23) none)),(ai 25 (.bin .or (.t 24) (.c (b8 32)))),(ai 26 (.lF 1 (.t 21) (.t 22))),(De (.st (.t 26) (.t 25) 1))]) .skip)))) (.rg [(ai 27 (.bin .add (.t 10) (.c (.int .i64 1)))),(av 10 27)]))))
abbrev A1:au:=(.seq (.rg [(ai 2 (.aT (.c (.str []))))]) (.seq (.rg [(av 6 0),(ai 7 (.oz (.t 6))),(aP 3 7)]) (.seq (.seq (.rg [(av 8 3),(ai 9 (.len (.t 8))),(ai 10 (.mv (.c (.int .i64 0))))]) (.blk 0 (.loop (erase nr)))) (.seq (.rg [(av 28 3),(ai 29 (.gU .bs (.t 28))),(aP 2 29)]) .ret))))
theorem A2:bw Tryz.prog 28 30 [(.tmp 2)] (erase A1):=⟨Tryz.f28,_,rfl,by decide,rfl,by kernel_rfl,rfl,rfl⟩
abbrev od:List Nat:=[0,2,3,4,5,8,9,10,11,20]
def dX (s1:List UInt8):(Int×(List UInt8))→Option (St (List UInt8) (List UInt8) (Int×(List UInt8)))
 |(t3,s4)=>
  (if (decide (t3<(s1.length:Int))) then
   (so s1.length t3).bind fun j5=>
   (s4[j5]?).bind fun x6=>
   (if ((decide (65≤x6))&&(decide (x6≤90))) then
    (FA s4 j5 (x6 ||| 32)).bind fun s8=>some (.cu ((IntKind.wrap .i64 (t3+1)),s8))
   else
    some (.cu ((IntKind.wrap .i64 (t3+1)),s4)))
  else
   some (.dU s4))
def iX (F:Nat) (s1:List UInt8):Option ((List UInt8)):=
 ((iter (dX s1) F (0,s1)).bind fun Zf=>
 match Zf with
 | .inr Zg=>
   (sub Zg 0 (s1.length:Int)).bind fun oE=>some oE
 | .inl _=>none)
theorem uR {q7:Nat} {s1:List UInt8} {t3:Int} {x6:UInt8} {s4:List UInt8} {H0 H:AH} (hfr:Fr H0 H0.length [] H) (ak:H[q7]? =some (ml b8 s4)) (hi0:H0.length≤q7) {K:Exit→Env→AH→Prop}
 (kn:∀H':AH,Fr H0 H0.length [] H'→H'[q7]? =some (ml b8 s4)→K .normal [(3,(.b6 q7 1 0 s1.length)),(4,(.int .i64 t3)),(8,(.b6 q7 1 0 s1.length)),(9,(.int .i64 (s1.length:Int))),(10,(.int .i64 t3)),(20,(.bool ((decide (65≤x6))&&(decide (x6≤90)))))] H'):
 AX Tryz.prog od 30 H0.length (erase oQ) K [(3,(.b6 q7 1 0 s1.length)),(4,(.int .i64 t3)),(5,(b8 x6)),(8,(.b6 q7 1 0 s1.length)),(9,(.int .i64 (s1.length:Int))),(10,(.int .i64 t3))] H:=by
 refine cG fun K' hK=> ?_
 have hle:=hfr.le
 have dB:=ff ak
 refine aZ ak ?_
 refine mM (fun aX=> ?_) fun aX=> ?_
 · refine aZ (aK aX ak) ?_
   exact hK _ _ _ _ _ (dL aX) aq (kn _ hfr (ak.trans rfl))
 · refine aZ (aK aX ak) ?_
   exact hK _ _ _ _ _ (dL aX) aq (kn _ hfr (ak.trans rfl))
theorem uS {F:Nat} {t3:Int} {s1:List UInt8} {s4:List UInt8} {q2:Nat} {H0 H:AH} (hfr:Fr H0 H0.length [] H) (ak:H[q2]? =some (ml b8 s4)) (hi0:H0.length≤q2) {K:Exit→Env→AH→Prop} {o:((List UInt8))⊕((List UInt8))}
 (h:iter (dX s1) F (t3,s4)=some o)
 (dV:∀o':(List UInt8),o= .inr o'→∀H':AH,Fr H0 H0.length [] H'→H'[q2]? =some (ml b8 o')→K (.exit 0) [(3,(.b6 q2 1 0 s1.length))] H'):
 AX Tryz.prog od 30 H0.length (.loop (erase nr)) K [(3,(.b6 q2 1 0 s1.length)),(8,(.b6 q2 1 0 s1.length)),(9,(.int .i64 (s1.length:Int))),(10,(.int .i64 t3))] H:=by
 refine jM (fun s e H1=>match s with|(t3,s4)=>e=[(3,(.b6 q2 1 0 s1.length)),(8,(.b6 q2 1 0 s1.length)),(9,(.int .i64 (s1.length:Int))),(10,(.int .i64 t3))]∧Fr H0 H0.length [] H1∧H1[q2]? =some (ml b8 s4)) h ⟨rfl,hfr,ak⟩ ?_
 rintro K' ⟨t3,s4⟩ st e H ⟨rfl,hfr,ak⟩ h hN hB hR hX
 have hle:=hfr.le
 have dB:=ff ak
 rw [dX.eq_1] at h
 refine aZ ak ?_
 refine bZ h (fun hy1 h=> ?_) fun hy1 h=> ?_
 · obtain ⟨j5,aV,h⟩:=aj h
   obtain ⟨x6,aY,h⟩:=aj h
   refine aZ (aK aV (aK aY ak)) ?_
   refine bS aq (uR (q7:=q2) (s1:=s1) (t3:=t3) (x6:=x6) (s4:=s4) hfr (ak.trans rfl) wh ?_)
   intro H hfr ak
   have hle:=hfr.le
   have dB:=ff ak
   refine aZ ak ?_
   refine bZ h (fun bk h=> ?_) fun bk h=> ?_
   · obtain ⟨s8,cj,h⟩:=aj h
     refine aZ (aK aV (aK aY (aK aV (aK cj ak)))) ?_
     obtain rfl:=aC h
     exact hN _ rfl _ _ _ _ aL aq ⟨rfl,(wj _ hfr),P9⟩
   · refine aZ ak ?_
     obtain rfl:=aC h
     exact hN _ rfl _ _ _ _ aL aq ⟨rfl,hfr,(ak.trans rfl)⟩
 · refine aZ ak ?_
   obtain rfl:=aC h
   exact hX _ _ _ _ _ ez aL aq (dV _ (hB _ rfl) _ hfr (ak.trans rfl))
theorem ru {F:Nat} {s1:List UInt8} {H0:AH} {aI:List UInt8} (h:iX F s1=some aI):
 az Tryz.prog 28 [(.str s1)] H0 fun v H'=>v=(.str aI)∧H'=H0:=by
 refine sr A2 od [] fun hcl K0 aN H hH hfr=> ?_
 clear hH
 have hle:=hfr.le
 rw [iX.eq_1] at h
 refine bG ?_
 obtain ⟨q2,pV⟩:∃q:Nat,H.length=q:=⟨_,rfl⟩
 try rw [pV]
 obtain ⟨Zf,cv,h⟩:=aj h
 refine bS aq (uS (q2:=q2) (Fr.app hfr) IV wh cv ?_)
 · rintro Zg rfl H hfr ak
   try dsimp only at h ak
   have hle:=hfr.le
   have dB:=ff ak
   refine bG ?_
   obtain ⟨oE,cB,h⟩:=aj h
   refine aZ (aK cB ak) ?_
   obtain rfl:=aC h
   exact aN _ _ _ bE (bR hfr hcl (bA bC (.str oE)) bD bu ⟨rfl,rfl⟩)
abbrev qi:au:=(.seq (.rg [(ai 13 (.bin .lss (.t 12) (.t 11)))]) (.seq (.cond (.t 13) .skip (.exit 0)) (.seq (.blk 1 (.seq (.rg [(ai 14 (.lF 2 (.t 10) (.t 12))),(ai 15 (.ld (.t 14) (some 2))),(ai 9 (.alloc [(.str []),(.str [])])),(De (.st (.t 9) (.t 15) 2))]) (.seq (.seq (.rg [(ai 16 (.gY (.t 9) 0)),(ai 17 (.ld (.t 16) none)),(ai 18 (.call (.c (.fn 28 [])) [(.t 17)])),(av 19 1),(ai 20 (.call (.c (.fn 28 [])) [(.t 19)])),(ai 21 (.bin .neq (.t 18) (.t 20)))]) (.cond (.t 21) (.exit 1) .skip)) (.seq (.rg [(av 22 7),(ai 23 (.bin .add (.t 22) (.c (.int .i64 1)))),(aP 7 23)]) (.seq (.rg [(av 24 7),(ai 25 (.bin .eql (.t 24) (.c (.int .i64 1))))]) (.cond (.t 25) (.rg [(ai 26 (.gY (.t 9) 1)),(ai 27 (.ld (.t 26) none)),(aP 6 27)]) .skip)))))) (.rg [(ai 28 (.bin .add (.t 12) (.c (.int .i64 1)))),(av 12 28)]))))
abbrev FM:au:=(.seq (.rg [(ai 4 (.aT (.c (.str [])))),(ai 5 (.aT (.c (.int .i64 0))))]) (.seq (.rg [(ai 6 (.aT (.c (.str [])))),(ai 7 (.aT (.c (.int .i64 0))))]) (.seq (.seq (.rg [(av 10 0),(ai 11 (.len (.t 10))),(ai 12 (.mv (.c (.int .i64 0))))]) (.blk 0 (.loop (erase qi)))) (.seq (.rg [(av 29 6),(av 30 7),(aP 4 29),(aP 5 30)]) .ret))))
theorem FN:bw Tryz.prog 14 31 [(.tmp 4),(.tmp 5)] (erase FM):=⟨Tryz.f14,_,rfl,by decide,rfl,by kernel_rfl,rfl,rfl⟩
abbrev xC:List Nat:=[0,1,4,5,6,7,9,10,11,12,13,21,25]
def fy (F:Nat) (l1:List aG) (oe:List UInt8):((List UInt8)×Int×Int)→Option (St ((List UInt8)×Int) ((List UInt8)×Int) ((List UInt8)×Int×Int))
 |(iY,zC,t5)=>
  (if (decide (t5<(l1.length:Int))) then
   (idx l1 t5).bind fun x6=>
   (iX F x6.name).bind fun r7=>
   (iX F oe).bind fun r8=>
   (if (!decide (r7=r8)) then
    some (.cu (iY,zC,(IntKind.wrap .i64 (t5+1))))
   else
    (if (decide ((IntKind.wrap .i64 (zC+1))=1)) then
     some (.cu (x6.value,(IntKind.wrap .i64 (zC+1)),(IntKind.wrap .i64 (t5+1))))
    else
     some (.cu (iY,(IntKind.wrap .i64 (zC+1)),(IntKind.wrap .i64 (t5+1))))))
  else
   some (.dU (iY,zC)))
def lD (F:Nat) (l1:List aG) (oe:List UInt8):Option ((List UInt8)×Int):=
 ((iter (fy F l1 oe) F (([]:List UInt8),0,0)).bind fun FO=>
 match FO with
 | .inr (IZ,Qf)=>
   some (IZ,Qf)
 | .inl _=>none)
theorem xR {F:Nat} {t5:Int} {l1:List aG} {oe:List UInt8} {iY:List UInt8} {zC:Int} {H0 H:AH} (hfr:Fr H0 H0.length [] H) {K:Exit→Env→AH→Prop} {o:((List UInt8)×Int)⊕((List UInt8)×Int)}
 (h:iter (fy F l1 oe) F (iY,zC,t5)=some o)
 (dV:∀o':(List UInt8)×Int,o= .inr o'→∀H':AH,Fr H0 H0.length [] H'→K (.exit 0) [(6,(.str o'.1)),(7,(.int .i64 o'.2))] H'):
 AX Tryz.prog xC 31 H0.length (.loop (erase qi)) K [(1,(.str oe)),(6,(.str iY)),(7,(.int .i64 zC)),(10,(.sl .n 2 (ml aQ l1))),(11,(.int .i64 (l1.length:Int))),(12,(.int .i64 t5))] H:=by
 refine jM (fun s e H1=>match s with|(iY,zC,t5)=>e=[(1,(.str oe)),(6,(.str iY)),(7,(.int .i64 zC)),(10,(.sl .n 2 (ml aQ l1))),(11,(.int .i64 (l1.length:Int))),(12,(.int .i64 t5))]∧Fr H0 H0.length [] H1) h ⟨rfl,hfr⟩ ?_
 rintro K' ⟨iY,zC,t5⟩ st e H ⟨rfl,hfr⟩ h hN hB hR hX
 have hle:=hfr.le
 rw [fy.eq_1] at h
 refine bG ?_
 refine bZ h (fun hy1 h=> ?_) fun hy1 h=> ?_
 · obtain ⟨x6,aV,h⟩:=aj h
   refine aZ aV ?_
   obtain ⟨r7,aY,h⟩:=aj h
   refine bx aq (ru aY) ?_
   refine bG ?_
   obtain ⟨r8,aX,h⟩:=aj h
   refine bx aq (ru aX) ?_
   refine bG ?_
   refine bZ h (fun bk h=> ?_) fun bk h=> ?_
   · refine bG ?_
     obtain rfl:=aC h
     exact hN _ rfl _ _ _ _ aL aq ⟨rfl,(wj _ (Fr.app hfr))⟩
   · refine bG ?_
     refine bZ h (fun cj h=> ?_) fun cj h=> ?_
     · refine bG ?_
       obtain rfl:=aC h
       exact hN _ rfl _ _ _ _ aL aq ⟨rfl,(wj _ (Fr.app hfr))⟩
     · refine bG ?_
       obtain rfl:=aC h
       exact hN _ rfl _ _ _ _ aL aq ⟨rfl,(wj _ (Fr.app hfr))⟩
 · refine bG ?_
   obtain rfl:=aC h
   exact hX _ _ _ _ _ ez aL aq (dV _ (hB _ rfl) _ hfr)
theorem uT {F:Nat} {l1:List aG} {oe:List UInt8} {H0:AH} {aI:List UInt8} {FK:Int} (h:lD F l1 oe=some (aI,FK)):
 az Tryz.prog 14 [(.sl .n 2 (ml aQ l1)),(.str oe)] H0 fun v H'=>v=(.aW [(.str aI),(.int .i64 FK)])∧H'=H0:=by
 refine sr FN xC [] fun hcl K0 aN H hH hfr=> ?_
 clear hH
 have hle:=hfr.le
 rw [lD.eq_1] at h
 refine bG ?_
 obtain ⟨FO,cv,h⟩:=aj h
 refine bS aq (xR hfr cv ?_)
 · rintro ⟨IZ,Qf⟩ rfl H hfr
   try dsimp only at h
   have hle:=hfr.le
   refine bG ?_
   obtain ⟨rfl,rfl⟩:=JZ h
   exact aN _ _ _ bE (bR hfr hcl (bA (bA bC (.int .i64 Qf)) (.str IZ)) bD bu ⟨rfl,rfl⟩)
abbrev qj:au:=(.rg [(av 3 0),(ai 4 (.bin .rem (.t 3) (.c (.int .i64 4)))),(ai 5 (.bin .eql (.t 4) (.c (.int .i64 0)))),(av 6 5),(aB 7 (.mv (.t 0)) 6 true),(aB 8 (.bin .rem (.t 7) (.c (.int .i64 100))) 6 true),(aB 9 (.bin .neq (.t 8) (.c (.int .i64 0))) 6 true),(aB 10 (.mv (.t 9)) 6 true),(aB 11 (.mv (.t 0)) 10 false),(aB 12 (.bin .rem (.t 11) (.c (.int .i64 400))) 10 false),(aB 13 (.bin .eql (.t 12) (.c (.int .i64 0))) 10 false),(aB 14 (.pick (.t 10) (.c (.bool true)) (.t 13)) 6 true),(ai 15 (.pick (.t 6) (.t 14) (.c (.bool false)))),(aP 2 15)])
abbrev Dn:au:=(.seq (.rg [(ai 2 (.aT (.c (.bool false))))]) (.seq (.sem (erase qj)) .ret))
theorem Dp:bw Tryz.prog 34 16 [(.tmp 2)] (erase Dn):=⟨Tryz.f34,_,rfl,by decide,rfl,by kernel_rfl,rfl,rfl⟩
abbrev uU:List Nat:=[0,2]
def jX (y1:Int):Option (Bool):=
 some ((decide ((Int.tmod y1 4)=0))&&((!decide ((Int.tmod y1 100)=0))||(decide ((Int.tmod y1 400)=0))))
theorem wC {y1:Int} {H:AH} {K:Exit→Env→AH→Prop}
 (kn:K .normal [(2,(.bool ((decide ((Int.tmod y1 4)=0))&&((!decide ((Int.tmod y1 100)=0))||(decide ((Int.tmod y1 400)=0))))))] H):
 AX Tryz.prog uU 16 H.length (erase qj) K [(0,(.int .i64 y1)),(2,(.bool false))] H:=by
 refine cG fun K' hK=> ?_
 have aX:rm .i64 y1 4=some (Int.tmod y1 4):=rfl
 refine aM aX ?_
 refine mM (fun bk=> ?_) fun bk=> ?_
 · have cj:rm .i64 y1 100=some (Int.tmod y1 100):=rfl
   refine aM (aK bk cj) ?_
   refine mM (fun cv=> ?_) fun cv=> ?_
   · refine aM cv ?_
     exact hK _ _ _ _ _ (dL (aK bk cv)) aq kn
   · have cB:rm .i64 y1 400=some (Int.tmod y1 400):=rfl
     refine aM (aK cv cB) ?_
     exact hK _ _ _ _ _ (dL (aK bk cv)) aq kn
 · refine aM bk ?_
   exact hK _ _ _ _ _ (dL bk) aq kn
theorem sQ {y1:Int} {H0:AH} {aI:Bool} (h:jX y1=some aI):
 az Tryz.prog 34 [(.int .i64 y1)] H0 fun v H'=>v=(.bool aI)∧H'=H0:=by
 refine dz Dp uU fun hcl K0 aN=> ?_
 rw [jX.eq_1] at h
 refine aA ?_
 refine bS aq (wC (y1:=y1) ?_)
 refine aA ?_
 obtain rfl:=aC h
 exact aN _ _ _ bE (aH hcl (bA bC (.bool ((decide ((Int.tmod y1 4)=0))&&((!decide ((Int.tmod y1 100)=0))||(decide ((Int.tmod y1 400)=0)))))) bD bu ⟨rfl,rfl⟩)
abbrev qk:au:=(.rg [(av 7 1),(ai 8 (.bin .eql (.t 7) (.c (.int .i64 1)))),(av 9 8),(aB 10 (.mv (.t 0)) 9 true),(aB 11 (.call (.c (.fn 34 [])) [(.t 10)]) 9 true),(ai 12 (.pick (.t 9) (.t 11) (.c (.bool false))))])
abbrev Dq:au:=(.seq (.rg [(ai 4 (.aT (.c (.int .i64 0))))]) (.seq (.rg [(ai 6 (.build [(.int .i64 31),(.int .i64 28),(.int .i64 31),(.int .i64 30),(.int .i64 31),(.int .i64 30),(.int .i64 31),(.int .i64 31),(.int .i64 30),(.int .i64 31),(.int .i64 30),(.int .i64 31)] [])),(ai 5 (.alloc [(.int .i64 0),(.int .i64 0),(.int .i64 0),(.int .i64 0),(.int .i64 0),(.int .i64 0),(.int .i64 0),(.int .i64 0),(.int .i64 0),(.int .i64 0),(.int .i64 0),(.int .i64 0)])),(De (.st (.t 5) (.t 6) 12))]) (.seq (.seq (.sem (erase qk)) (.cond (.t 12) (.seq (.rg [(ai 4 (.aT (.c (.int .i64 29))))]) .ret) .skip)) (.seq (.rg [(av 13 1),(ai 14 (.Nf 1 12 (.t 5) (.t 13))),(ai 15 (.ld (.t 14) none)),(aP 4 15)]) .ret))))
theorem Dr:bw Tryz.prog 35 16 [(.tmp 4)] (erase Dq):=⟨Tryz.f35,_,rfl,by decide,rfl,by kernel_rfl,rfl,rfl⟩
abbrev uV:List Nat:=[0,1,4,5,12]
def dR:List Int:=[31,28,31,30,31,30,31,31,30,31,30,31]
def ie (m2:Int) (y1:Int):Option (Bool):=
 (if (decide (m2=1)) then
  (jX y1).bind fun r4=>some r4
 else
  some false)
def iS (y1:Int) (m2:Int):Option (Int):=
 (ie m2 y1).bind fun t6=>
 (if t6 then
  some 29
 else
  (so 12 m2).bind fun j7=>(dR[j7]?).bind fun x8=>some x8)
theorem wD {m2:Int} {y1:Int} {q3:Nat} {H0 H:AH} (hfr:Fr H0 H0.length [] H) (ak:H[q3]? =some (ml (xx .i64) dR)) (hi0:H0.length≤q3) {K:Exit→Env→AH→Prop} {t5:Bool}
 (h:ie m2 y1=some t5)
 (kn:∀H':AH,Fr H0 H0.length [] H'→H'[q3]? =some (ml (xx .i64) dR)→K .normal [(1,(.int .i64 m2)),(5,(.ptr q3 0)),(12,(.bool t5))] H'):
 AX Tryz.prog uV 16 H0.length (erase qk) K [(0,(.int .i64 y1)),(1,(.int .i64 m2)),(5,(.ptr q3 0))] H:=by
 refine cG fun K' hK=> ?_
 have hle:=hfr.le
 have dB:=ff ak
 rw [ie.eq_1] at h
 refine aZ ak ?_
 refine cw h (fun hy1 h=> ?_) fun hy1 h=> ?_
 · refine aZ (aK hy1 ak) ?_
   obtain ⟨r4,aV,h⟩:=aj h
   refine bx aq (sQ aV) ?_
   refine aZ ak ?_
   obtain rfl:=aC h
   exact hK _ _ _ _ _ aL aq (kn _ hfr (ak.trans rfl))
 · refine aZ (aK hy1 ak) ?_
   obtain rfl:=aC h
   exact hK _ _ _ _ _ aL aq (kn _ hfr (ak.trans rfl))
theorem sR {y1:Int} {m2:Int} {H0:AH} {aI:Int} (h:iS y1 m2=some aI):
 az Tryz.prog 35 [(.int .i64 y1),(.int .i64 m2)] H0 fun v H'=>v=(.int .i64 aI)∧H'=H0:=by
 refine sr Dr uV [] fun hcl K0 aN H hH hfr=> ?_
 clear hH
 have hle:=hfr.le
 rw [iS.eq_1] at h
 refine bG ?_
 obtain ⟨q3,I0⟩:∃q:Nat,H.length=q:=⟨_,rfl⟩
 try rw [I0]
 obtain ⟨t6,aY,h⟩:=aj h
 refine bS aq (wD (q3:=q3) (wj _ (Fr.app hfr)) P9 wh aY ?_)
 intro H hfr ak
 have hle:=hfr.le
 have dB:=ff ak
 refine aZ ak ?_
 refine bZ h (fun aX h=> ?_) fun aX h=> ?_
 · refine aZ ak ?_
   obtain rfl:=aC h
   exact aN _ _ _ bE (bR hfr hcl (bA bC (.int .i64 29)) bD bu ⟨rfl,rfl⟩)
 · obtain ⟨j7,bk,h⟩:=aj h
   obtain ⟨x8,cj,h⟩:=aj h
   have cv:=rX (f:=(xx .i64)) cj
   refine aZ (aK bk (aK cv ak)) ?_
   obtain rfl:=aC h
   exact aN _ _ _ bE (bR hfr hcl (bA bC (.int .i64 x8)) bD bu ⟨rfl,rfl⟩)
abbrev ql:au:=(.cond (.t 7) (.rg [(av 8 5),(ai 9 (.bin .add (.t 8) (.c (.int .i64 1)))),(aP 5 9)]) .skip)
abbrev oR:au:=(.blk 1 (.seq (.rg [(ai 5 (.aT (.c (.int .i64 365))))]) (.seq (.seq (.rg [(av 6 2),(ai 7 (.call (.c (.fn 34 [])) [(.t 6)]))]) (.sem (erase ql))) (.seq (.seq (.rg [(av 10 0),(av 11 5),(ai 12 (.bin .lss (.t 10) (.t 11)))]) (.cond (.t 12) (.exit 0) .skip)) (.seq (.rg [(av 13 0),(av 14 5),(ai 15 (.bin .sub (.t 13) (.t 14))),(aP 0 15)]) (.rg [(av 16 2),(ai 17 (.bin .add (.t 16) (.c (.int .i64 1)))),(aP 2 17)]))))))
abbrev oS:au:=(.seq (.seq (.rg [(av 18 0),(av 19 2),(av 20 3),(ai 21 (.call (.c (.fn 35 [])) [(.t 19),(.t 20)])),(ai 22 (.bin .geq (.t 18) (.t 21)))]) (.cond (.t 22) .skip (.exit 2))) (.blk 3 (.seq (.rg [(av 23 0),(av 24 2),(av 25 3),(ai 26 (.call (.c (.fn 35 [])) [(.t 24),(.t 25)])),(ai 27 (.bin .sub (.t 23) (.t 26))),(aP 0 27)]) (.rg [(av 28 3),(ai 29 (.bin .add (.t 28) (.c (.int .i64 1)))),(aP 3 29)]))))
abbrev Ds:au:=(.seq (.rg [(ai 2 (.aT (.c (.int .i64 0)))),(ai 3 (.aT (.c (.int .i64 0)))),(ai 4 (.aT (.c (.int .i64 0))))]) (.seq (.rg [(ai 2 (.aT (.c (.int .i64 1970))))]) (.seq .skip (.seq (.blk 0 (.loop (erase oR))) (.seq (.blk 2 (.loop (erase oS))) (.seq (.rg [(av 30 2),(av 31 3),(av 32 0),(ai 33 (.bin .add (.t 32) (.c (.int .i64 1)))),(aP 2 30),(aP 3 31),(aP 4 33)]) .ret))))))
theorem Dt:bw Tryz.prog 18 34 [(.tmp 2),(.tmp 3),(.tmp 4)] (erase Ds):=⟨Tryz.f18,_,rfl,by decide,rfl,by kernel_rfl,rfl,rfl⟩
abbrev k8:List Nat:=[0,2,3,4,5,7,12,22]
def ig (r4:Bool):Option (Int):=
 (if r4 then
  some (IntKind.wrap .i64 (365+1))
 else
  some 365)
def ij:(Int×Int)→Option (St (Int×Int×Int) (Int×Int) (Int×Int))
 |(uW,y3)=>
  (jX y3).bind fun r4=>
  (ig r4).bind fun Qg=>
  (if (decide (uW<Qg)) then
   some (.dU (uW,y3))
  else
   some (.cu ((IntKind.wrap .i64 (uW - Qg)),(IntKind.wrap .i64 (y3+1)))))
def iu (xS:Int):(Int×Int)→Option (St (Int×Int×Int) (Int×Int) (Int×Int))
 |(kC,m12)=>
  (iS xS m12).bind fun oT=>
  (if (decide (oT≤kC)) then
   (iS xS m12).bind fun Qh=>
   some (.cu ((IntKind.wrap .i64 (kC - Qh)),(IntKind.wrap .i64 (m12+1))))
  else
   some (.dU (kC,m12)))
def lT (F:Nat) (fc:Int):Option (Int×Int×Int):=
 ((iter ij F (fc,1970)).bind fun Zh=>
 match Zh with
 | .inr (Zi,xS)=>
   ((iter (iu xS) F (Zi,0)).bind fun Zj=>
   match Zj with
   | .inr (Qi,m18)=>
     some (xS,m18,(IntKind.wrap .i64 (Qi+1)))
   | .inl _=>none)
 | .inl _=>none)
theorem wE {r4:Bool} {uW:Int} {y3:Int} {H:AH} {K:Exit→Env→AH→Prop} {T7:Int}
 (h:ig r4=some T7)
 (kn:K .normal [(0,(.int .i64 uW)),(2,(.int .i64 y3)),(3,(.int .i64 0)),(5,(.int .i64 T7))] H):
 AX Tryz.prog k8 34 H.length (erase ql) K [(0,(.int .i64 uW)),(2,(.int .i64 y3)),(3,(.int .i64 0)),(5,(.int .i64 365)),(7,(.bool r4))] H:=by
 refine cG fun K' hK=> ?_
 rw [ig.eq_1] at h
 refine aA ?_
 refine bZ h (fun aV h=> ?_) fun aV h=> ?_
 · refine aA ?_
   obtain rfl:=aC h
   exact hK _ _ _ _ _ aL aq kn
 · refine aA ?_
   obtain rfl:=aC h
   exact hK _ _ _ _ _ aL aq kn
theorem wF {F:Nat} {y3:Int} {uW:Int} {H:AH} {K:Exit→Env→AH→Prop} {o:(Int×Int×Int)⊕(Int×Int)}
 (h:iter ij F (uW,y3)=some o)
 (dV:∀o':Int×Int,o= .inr o'→K (.exit 0) [(0,(.int .i64 o'.1)),(2,(.int .i64 o'.2)),(3,(.int .i64 0))] H):
 AX Tryz.prog k8 34 H.length (.loop (erase oR)) K [(0,(.int .i64 uW)),(2,(.int .i64 y3)),(3,(.int .i64 0))] H:=by
 refine jM (fun s e H1=>match s with|(uW,y3)=>e=[(0,(.int .i64 uW)),(2,(.int .i64 y3)),(3,(.int .i64 0))]∧H1=H) h ⟨rfl,rfl⟩ ?_
 rintro K' ⟨uW,y3⟩ st e H ⟨rfl,rfl⟩ h hN hB hR hX
 rw [ij.eq_1] at h
 refine aA ?_
 obtain ⟨r4,hy1,h⟩:=aj h
 refine bx aq (sQ hy1) ?_
 refine aA ?_
 obtain ⟨Qg,aY,h⟩:=aj h
 refine bS aq (wE (uW:=uW) (y3:=y3) aY ?_)
 refine aA ?_
 refine bZ h (fun aX h=> ?_) fun aX h=> ?_
 · refine aA ?_
   obtain rfl:=aC h
   exact hX _ _ _ _ _ ez aL aq (dV _ (hB _ rfl))
 · refine aA ?_
   obtain rfl:=aC h
   exact hN _ rfl _ _ _ _ aL aq ⟨rfl,rfl⟩
theorem wG {F:Nat} {xS:Int} {m12:Int} {kC:Int} {H:AH} {K:Exit→Env→AH→Prop} {o:(Int×Int×Int)⊕(Int×Int)}
 (h:iter (iu xS) F (kC,m12)=some o)
 (IX:∀o':Int×Int,o= .inr o'→K (.exit 2) [(0,(.int .i64 o'.1)),(2,(.int .i64 xS)),(3,(.int .i64 o'.2))] H):
 AX Tryz.prog k8 34 H.length (.loop (erase oS)) K [(0,(.int .i64 kC)),(2,(.int .i64 xS)),(3,(.int .i64 m12))] H:=by
 refine jM (fun s e H1=>match s with|(kC,m12)=>e=[(0,(.int .i64 kC)),(2,(.int .i64 xS)),(3,(.int .i64 m12))]∧H1=H) h ⟨rfl,rfl⟩ ?_
 rintro K' ⟨kC,m12⟩ st e H ⟨rfl,rfl⟩ h hN hB hR hX
 rw [iu.eq_1] at h
 refine aA ?_
 obtain ⟨oT,cj,h⟩:=aj h
 refine bx aq (sR cj) ?_
 refine aA ?_
 refine bZ h (fun cv h=> ?_) fun cv h=> ?_
 · refine aA ?_
   obtain ⟨Qh,cB,h⟩:=aj h
   refine bx aq (sR cB) ?_
   refine aA ?_
   obtain rfl:=aC h
   exact hN _ rfl _ _ _ _ aL aq ⟨rfl,rfl⟩
 · refine aA ?_
   obtain rfl:=aC h
   exact hX _ _ _ _ _ ez aL aq (IX _ (hB _ rfl))
theorem A3 {F:Nat} {fc:Int} {H0:AH} {aI:Int} {FK:Int} {Zk:Int} (h:lT F fc=some (aI,FK,Zk)):
 az Tryz.prog 18 [(.int .i64 fc)] H0 fun v H'=>v=(.aW [(.int .i64 aI),(.int .i64 FK),(.int .i64 Zk)])∧H'=H0:=by
 refine dz Dt k8 fun hcl K0 aN=> ?_
 rw [lT.eq_1] at h
 refine aA ?_
 obtain ⟨Zh,bk,h⟩:=aj h
 refine bS aq (wF bk ?_)
 · rintro ⟨Zi,xS⟩ rfl
   try dsimp only at h
   refine aA ?_
   obtain ⟨Zj,eV,h⟩:=aj h
   refine bS aq (wG eV ?_)
   · rintro ⟨Qi,m18⟩ rfl
     try dsimp only at h
     refine aA ?_
     obtain ⟨rfl,rfl,rfl⟩:=T5 h
     exact aN _ _ _ bE (aH hcl (bA (bA (bA bC (.int .i64 (IntKind.wrap .i64 (Qi+1)))) (.int .i64 m18)) (.int .i64 xS)) bD bu ⟨rfl,rfl⟩)
abbrev FP:au:=(.seq (.rg [(ai 2 (.aT (.c (.str []))))]) (.seq (.rg [(av 3 0),(ai 4 (.bin .quo (.t 3) (.c (.int .i64 10)))),(ai 5 (.call (.c (.fn 36 [])) [(.t 4)])),(av 6 0),(ai 7 (.bin .rem (.t 6) (.c (.int .i64 10)))),(ai 8 (.call (.c (.fn 36 [])) [(.t 7)])),(ai 9 (.bin .add (.t 5) (.t 8))),(aP 2 9)]) .ret))
theorem FQ:bw Tryz.prog 19 10 [(.tmp 2)] (erase FP):=⟨Tryz.f19,_,rfl,by decide,rfl,by kernel_rfl,rfl,rfl⟩
abbrev FR:List Nat:=[0,2]
def fM (fc:Int):Option ((List UInt8)):=
 (strconv_Itoa (IntKind.wrap .i64 (Int.tdiv fc 10))).bind fun r2=>
 (strconv_Itoa (Int.tmod fc 10)).bind fun r3=>(cat r2 r3).bind fun x4=>some x4
theorem gJ {fc:Int} {H0:AH} {aI:List UInt8} (h:fM fc=some aI):
 az Tryz.prog 19 [(.int .i64 fc)] H0 fun v H'=>v=(.str aI)∧H'=H0:=by
 refine dz FQ FR fun hcl K0 aN=> ?_
 rw [fM.eq_1] at h
 have hy1:dv .i64 fc 10=some (IntKind.wrap .i64 (Int.tdiv fc 10)):=rfl
 refine aM hy1 ?_
 obtain ⟨r2,aV,h⟩:=aj h
 refine bx aq (jV (i1:=(IntKind.wrap .i64 (Int.tdiv fc 10))) aV) ?_
 refine aA ?_
 have aY:rm .i64 fc 10=some (Int.tmod fc 10):=rfl
 refine aM aY ?_
 obtain ⟨r3,aX,h⟩:=aj h
 refine bx aq (jV (i1:=(Int.tmod fc 10)) aX) ?_
 refine aA ?_
 obtain ⟨x4,bk,h⟩:=aj h
 refine aM bk ?_
 obtain rfl:=aC h
 exact aN _ _ _ bE (aH hcl (bA bC (.str x4)) bD bu ⟨rfl,rfl⟩)
abbrev Du:au:=(.seq (.rg [(ai 2 (.aT (.c (.str []))))]) (.seq (.rg [(av 3 0),(ai 4 (.bin .quo (.t 3) (.c (.int .i64 100)))),(ai 5 (.call (.c (.fn 19 [])) [(.t 4)])),(av 6 0),(ai 7 (.bin .rem (.t 6) (.c (.int .i64 100)))),(ai 8 (.call (.c (.fn 19 [])) [(.t 7)])),(ai 9 (.bin .add (.t 5) (.t 8))),(aP 2 9)]) .ret))
theorem Dv:bw Tryz.prog 20 10 [(.tmp 2)] (erase Du):=⟨Tryz.f20,_,rfl,by decide,rfl,by kernel_rfl,rfl,rfl⟩
abbrev Dw:List Nat:=[0,2]
def lU (fc:Int):Option ((List UInt8)):=
 (fM (IntKind.wrap .i64 (Int.tdiv fc 100))).bind fun r2=>
 (fM (Int.tmod fc 100)).bind fun r3=>(cat r2 r3).bind fun x4=>some x4
theorem A4 {fc:Int} {H0:AH} {aI:List UInt8} (h:lU fc=some aI):
 az Tryz.prog 20 [(.int .i64 fc)] H0 fun v H'=>v=(.str aI)∧H'=H0:=by
 refine dz Dv Dw fun hcl K0 aN=> ?_
 rw [lU.eq_1] at h
 have hy1:dv .i64 fc 100=some (IntKind.wrap .i64 (Int.tdiv fc 100)):=rfl
 refine aM hy1 ?_
 obtain ⟨r2,aV,h⟩:=aj h
 refine bx aq (gJ aV) ?_
 refine aA ?_
 have aY:rm .i64 fc 100=some (Int.tmod fc 100):=rfl
 refine aM aY ?_
 obtain ⟨r3,aX,h⟩:=aj h
 refine bx aq (gJ aX) ?_
 refine aA ?_
 obtain ⟨x4,bk,h⟩:=aj h
 refine aM bk ?_
 obtain rfl:=aC h
 exact aN _ _ _ bE (aH hcl (bA bC (.str x4)) bD bu ⟨rfl,rfl⟩)
abbrev Dx:au:=(.seq (.rg [(ai 2 (.aT (.c (.str []))))]) (.seq (.rg [(av 9 0),(ai 10 (.mm true (.t 9) (.c (.int .i64 0)))),(ai 11 (.mm false (.t 10) (.c (.int .i64 253402300799)))),(aP 0 11)]) (.seq (.rg [(av 12 0),(ai 13 (.bin .quo (.t 12) (.c (.int .i64 86400)))),(av 14 0),(ai 15 (.bin .rem (.t 14) (.c (.int .i64 86400)))),(aP 3 13),(aP 4 15)]) (.seq (.rg [(av 17 3),(ai 18 (.call (.c (.fn 18 [])) [(.t 17)])),(av 16 18),(ai 19 (.ext (.t 16) 0)),(ai 20 (.ext (.t 16) 1)),(ai 21 (.ext (.t 16) 2)),(aP 5 19),(aP 6 20),(aP 7 21)]) (.seq (.rg [(av 22 3),(ai 23 (.bin .rem (.t 22) (.c (.int .i64 7)))),(aP 8 23)]) (.seq (.rg ((av 24 8)::(ai 25 (.bin .mul (.c (.int .i64 3)) (.t 24)))::(av 26 8)::(ai 27 (.bin .mul (.c (.int .i64 3)) (.t 26)))::(ai 28 (.bin .add (.t 27) (.c (.int .i64 3))))::(ai 29 (.AD (.c (.str [84,104,117,70,114,105,83,97,116,83,117,110,77,111,110,84,117,101,87,101,100])) (some (.t 25)) (some (.t 28))))::(ai 30 (.bin .add (.t 29) (.c (.str [44,32]))))::(av 31 7)::(av 35 6)::(ai 36 (.bin .mul (.c (.int .i64 3)) (.t 35)))::(av 37 6)::(ai 38 (.bin .mul (.c (.int .i64 3)) (.t 37)))::(ai 39 (.bin .add (.t 38) (.c (.int .i64 3))))::(ai 40 (.AD (.c (.str (74::97::110::70::101::98::77::97::114::65::112::114::77::97::121::74::117::110::74::117::108::65::117::103::83::101::112::79::99::116::78::111::118::68::101::99::[]))) (some (.t 36)) (some (.t 39))))::(av 43 5)::(av 47 4)::(ai 48 (.bin .quo (.t 47) (.c (.int .i64 3600))))::(av 52 4)::(ai 53 (.bin .quo (.t 52) (.c (.int .i64 60))))::(ai 54 (.bin .rem (.t 53) (.c (.int .i64 60))))::(av 58 4)::(ai 59 (.bin .rem (.t 58) (.c (.int .i64 60))))::(ai 32 (.call (.c (.fn 19 [])) [(.t 31)]))::(ai 33 (.bin .add (.t 30) (.t 32)))::(ai 34 (.bin .add (.t 33) (.c (.str [32]))))::(ai 41 (.bin .add (.t 34) (.t 40)))::(ai 42 (.bin .add (.t 41) (.c (.str [32]))))::(ai 44 (.call (.c (.fn 20 [])) [(.t 43)]))::(ai 45 (.bin .add (.t 42) (.t 44)))::(ai 46 (.bin .add (.t 45) (.c (.str [32]))))::(ai 49 (.call (.c (.fn 19 [])) [(.t 48)]))::(ai 50 (.bin .add (.t 46) (.t 49)))::(ai 51 (.bin .add (.t 50) (.c (.str [58]))))::(ai 55 (.call (.c (.fn 19 [])) [(.t 54)]))::(ai 56 (.bin .add (.t 51) (.t 55)))::(ai 57 (.bin .add (.t 56) (.c (.str [58]))))::(ai 60 (.call (.c (.fn 19 [])) [(.t 59)]))::(ai 61 (.bin .add (.t 57) (.t 60)))::(ai 62 (.bin .add (.t 61) (.c (.str [32,43,48,48,48,48]))))::(aP 2 62)::[])) .ret))))))
theorem Dy:bw Tryz.prog 8 63 [(.tmp 2)] (erase Dx):=⟨Tryz.f8,_,rfl,by decide,rfl,by kernel_rfl,rfl,rfl⟩
abbrev Dz:List Nat:=[0,2,3,4,5,6,7,8]
def cx (F:Nat) (t1:Int):Option ((List UInt8)):=
 (lT F (IntKind.wrap .i64 (Int.tdiv (min (max t1 0) 253402300799) 86400))).bind fun (r2,r3,r4)=>
 (sub ([84,104,117,70,114,105,83,97,116,83,117,110,77,111,110,84,117,101,87,101,100]:List UInt8) (IntKind.wrap .i64 (3*(Int.tmod (IntKind.wrap .i64 (Int.tdiv (min (max t1 0) 253402300799) 86400)) 7))) (IntKind.wrap .i64 ((IntKind.wrap .i64 (3*(Int.tmod (IntKind.wrap .i64 (Int.tdiv (min (max t1 0) 253402300799) 86400)) 7)))+3))).bind fun x5=>
 (cat x5 ([44,32]:List UInt8)).bind fun x6=>
 (sub ((74::97::110::70::101::98::77::97::114::65::112::114::77::97::121::74::117::110::74::117::108::65::117::103::83::101::112::79::99::116::78::111::118::68::101::99::[]):List UInt8) (IntKind.wrap .i64 (3*r3)) (IntKind.wrap .i64 ((IntKind.wrap .i64 (3*r3))+3))).bind fun x7=>
 (fM r4).bind fun r8=>
 (cat x6 r8).bind fun x9=>
 (cat x9 ([32]:List UInt8)).bind fun oc=>
 (cat oc x7).bind fun oE=>
 (cat oE ([32]:List UInt8)).bind fun wH=>
 (lU r2).bind fun oT=>
 (cat wH oT).bind fun xT=>
 (cat xT ([32]:List UInt8)).bind fun uJ=>
 (fM (IntKind.wrap .i64 (Int.tdiv (Int.tmod (min (max t1 0) 253402300799) 86400) 3600))).bind fun r16=>
 (cat uJ r16).bind fun tE=>
 (cat tE ([58]:List UInt8)).bind fun xU=>
 (fM (Int.tmod (IntKind.wrap .i64 (Int.tdiv (Int.tmod (min (max t1 0) 253402300799) 86400) 60)) 60)).bind fun FT=>
 (cat xU FT).bind fun FJ=>
 (cat FJ ([58]:List UInt8)).bind fun ri=>
 (fM (Int.tmod (Int.tmod (min (max t1 0) 253402300799) 86400) 60)).bind fun Zl=>
 (cat ri Zl).bind fun FU=>
 (cat FU ([32,43,48,48,48,48]:List UInt8)).bind fun xV=>some xV
theorem og {F:Nat} {t1:Int} {H0:AH} {aI:List UInt8} (h:cx F t1=some aI):
 az Tryz.prog 8 [(.int .i64 t1)] H0 fun v H'=>v=(.str aI)∧H'=H0:=by
 refine dz Dy Dz fun hcl K0 aN=> ?_
 rw [cx.eq_1] at h
 have hy1:dv .i64 (min (max t1 0) 253402300799) 86400=some (IntKind.wrap .i64 (Int.tdiv (min (max t1 0) 253402300799) 86400)):=rfl
 have aV:rm .i64 (min (max t1 0) 253402300799) 86400=some (Int.tmod (min (max t1 0) 253402300799) 86400):=rfl
 refine aM (aK hy1 aV) ?_
 obtain ⟨⟨r2,r3,r4⟩,aY,h⟩:=aj h
 dsimp only at h
 refine bx aq (A3 aY) ?_
 refine aA ?_
 have aX:rm .i64 (IntKind.wrap .i64 (Int.tdiv (min (max t1 0) 253402300799) 86400)) 7=some (Int.tmod (IntKind.wrap .i64 (Int.tdiv (min (max t1 0) 253402300799) 86400)) 7):=rfl
 obtain ⟨x5,bk,h⟩:=aj h
 obtain ⟨x6,cj,h⟩:=aj h
 obtain ⟨x7,cv,h⟩:=aj h
 have cB:dv .i64 (Int.tmod (min (max t1 0) 253402300799) 86400) 3600=some (IntKind.wrap .i64 (Int.tdiv (Int.tmod (min (max t1 0) 253402300799) 86400) 3600)):=rfl
 have eV:dv .i64 (Int.tmod (min (max t1 0) 253402300799) 86400) 60=some (IntKind.wrap .i64 (Int.tdiv (Int.tmod (min (max t1 0) 253402300799) 86400) 60)):=rfl
 have de:rm .i64 (IntKind.wrap .i64 (Int.tdiv (Int.tmod (min (max t1 0) 253402300799) 86400) 60)) 60=some (Int.tmod (IntKind.wrap .i64 (Int.tdiv (Int.tmod (min (max t1 0) 253402300799) 86400) 60)) 60):=rfl
 have dx:rm .i64 (Int.tmod (min (max t1 0) 253402300799) 86400) 60=some (Int.tmod (Int.tmod (min (max t1 0) 253402300799) 86400) 60):=rfl
 refine aM (aK aX (aK bk (aK cj (aK cv (aK cB (aK eV (aK de dx))))))) ?_
 obtain ⟨r8,dh,h⟩:=aj h
 refine bx aq (gJ dh) ?_
 refine aA ?_
 obtain ⟨x9,gh,h⟩:=aj h
 obtain ⟨oc,kz,h⟩:=aj h
 obtain ⟨oE,lS,h⟩:=aj h
 obtain ⟨wH,iW,h⟩:=aj h
 refine aM (aK gh (aK kz (aK lS iW))) ?_
 obtain ⟨oT,oL,h⟩:=aj h
 refine bx aq (A4 oL) ?_
 refine aA ?_
 obtain ⟨xT,oM,h⟩:=aj h
 obtain ⟨uJ,kA,h⟩:=aj h
 refine aM (aK oM kA) ?_
 obtain ⟨r16,oN,h⟩:=aj h
 refine bx aq (gJ oN) ?_
 refine aA ?_
 obtain ⟨tE,jO,h⟩:=aj h
 obtain ⟨xU,ku,h⟩:=aj h
 refine aM (aK jO ku) ?_
 obtain ⟨FT,oO,h⟩:=aj h
 refine bx aq (gJ oO) ?_
 refine aA ?_
 obtain ⟨FJ,oP,h⟩:=aj h
 obtain ⟨ri,kB,h⟩:=aj h
 refine aM (aK oP kB) ?_
 obtain ⟨Zl,rj,h⟩:=aj h
 refine bx aq (gJ rj) ?_
 refine aA ?_
 obtain ⟨FU,uQ,h⟩:=aj h
 obtain ⟨xV,zD,h⟩:=aj h
 refine aM (aK uQ zD) ?_
 obtain rfl:=aC h
 exact aN _ _ _ bE (aH hcl (bA bC (.str xV)) bD bu ⟨rfl,rfl⟩)
abbrev nt:au:=(.rg ((av 16 1)::(ai 17 (.len (.t 16)))::(ai 18 (.bin .eql (.t 17) (.c (.int .i64 2))))::(av 19 18)::(aB 20 (.mv (.t 1)) 19 true)::(aB 21 (.lF 2 (.t 20) (.c (.int .i64 0))) 19 true)::(aB 22 (.gY (.t 21) 1) 19 true)::(aB 23 (.ld (.t 22) none) 19 true)::(aB 24 (.bin .eql (.t 23) (.c (.str [32,49,13,10,32,109,111,114,101]))) 19 true)::(ai 25 (.pick (.t 19) (.t 24) (.c (.bool false))))::(av 26 25)::(aB 27 (.mv (.t 2)) 26 true)::(aB 28 (.gU .bs (.t 27)) 26 true)::(aB 29 (.bin .eql (.t 28) (.c (.str [98,111,100,121,13,10]))) 26 true)::(ai 30 (.pick (.t 26) (.t 29) (.c (.bool false))))::(av 31 30)::(aB 32 (.mv (.t 3)) 31 true)::(aB 33 (.bin .eql (.t 32) (.c (.str [50]))) 31 true)::(ai 34 (.pick (.t 31) (.t 33) (.c (.bool false))))::(av 35 34)::(aB 36 (.mv (.t 4)) 35 true)::(aB 37 (.bin .eql (.t 36) (.c (.int .i64 1))) 35 true)::(ai 38 (.pick (.t 35) (.t 37) (.c (.bool false))))::(av 39 38)::(aB 40 (.call (.c (.fn 8 [])) [(.c (.int .i64 951782400))]) 39 true)::(aB 41 (.bin .eql (.t 40) (.c (.str (84::117::101::44::32::50::57::32::70::101::98::32::50::48::48::48::32::48::48::58::48::48::58::48::48::32::43::48::48::48::48::[])))) 39 true)::(ai 42 (.pick (.t 39) (.t 41) (.c (.bool false))))::(av 43 42)::(aB 44 (.call (.c (.fn 15 [])) [(.c (.str [88,45,121]))]) 43 true)::(ai 45 (.pick (.t 43) (.t 44) (.c (.bool false))))::(av 46 45)::(aB 47 (.call (.c (.fn 15 [])) [(.c (.str [97,32,98]))]) 46 true)::(aB 48 (.un .not (.t 47)) 46 true)::(ai 49 (.pick (.t 46) (.t 48) (.c (.bool false))))::(aP 0 49)::[]))
abbrev zE:au:=(.seq (.rg [(ai 0 (.aT (.c (.bool false))))]) (.seq (.rg [(ai 7 (.lit 6 [65,58,32,49,13,10,32,109,111,114,101,13,10,66,58,50,13,10,13,10,98,111,100,121])),(ai 8 (.call (.c (.fn 10 [])) [(.t 7)])),(av 5 8),(ai 9 (.ext (.t 5) 0)),(ai 10 (.ext (.t 5) 1)),(aP 1 9),(aP 2 10)]) (.seq (.rg [(av 12 1),(ai 13 (.call (.c (.fn 14 [])) [(.t 12),(.c (.str [98]))])),(av 11 13),(ai 14 (.ext (.t 11) 0)),(ai 15 (.ext (.t 11) 1)),(aP 3 14),(aP 4 15)]) (.seq (.sem (erase nt)) .ret))))
theorem zF:bw Tryz.prog 4 50 [(.tmp 0)] (erase zE):=⟨Tryz.f4,_,rfl,by decide,rfl,by kernel_rfl,rfl,rfl⟩
abbrev ry:List Nat:=[0,1,2,3,4]
def kN (F:Nat) (r1:List aG) (r2:List UInt8) (r3:List UInt8) (r4:Int):Option (Bool):=
 (if (decide ((r1.length:Int)=2)) then
  (idx r1 0).bind fun x5=>
  (if (decide (x5.value=([32,49,13,10,32,109,111,114,101]:List UInt8))) then
   (if (decide (r2=([98,111,100,121,13,10]:List UInt8))) then
    (if (decide (r3=([50]:List UInt8))) then
     (if (decide (r4=1)) then
      (cx F 951782400).bind fun r6=>
      (if (decide (r6=((84::117::101::44::32::50::57::32::70::101::98::32::50::48::48::48::32::48::48::58::48::48::58::48::48::32::43::48::48::48::48::[]):List UInt8))) then
       (ga F ([88,45,121]:List UInt8)).bind fun r7=>
       (if r7 then
        (ga F ([97,32,98]:List UInt8)).bind fun r8=>some (!r8)
       else
        some false)
      else
       some false)
     else
      some false)
    else
     some false)
   else
    some false)
  else
   some false)
 else
  some false)
def k9 (F:Nat):Option (Bool):=
 (iV F ([65,58,32,49,13,10,32,109,111,114,101,13,10,66,58,50,13,10,13,10,98,111,100,121]:List UInt8)).bind fun (r1,r2)=>
 (lD F r1 ([98]:List UInt8)).bind fun (r3,r4)=>(kN F r1 r2 r3 r4).bind fun t10=>
 some t10
theorem tF {F:Nat} {r1:List aG} {r2:List UInt8} {r3:List UInt8} {r4:Int} {H:AH} {K:Exit→Env→AH→Prop} {t9:Bool}
 (h:kN F r1 r2 r3 r4=some t9)
 (kn:K .normal [(0,(.bool t9))] H):
 AX Tryz.prog ry 50 H.length (erase nt) K [(0,(.bool false)),(1,(.sl .n 2 (ml aQ r1))),(2,(.sl .n 1 (ml b8 r2))),(3,(.str r3)),(4,(.int .i64 r4))] H:=by
 refine cG fun K' hK=> ?_
 rw [kN.eq_1] at h
 refine aA ?_
 refine cw h (fun aY h=> ?_) fun aY h=> ?_
 · obtain ⟨x5,aX,h⟩:=aj h
   refine aM (aK aY aX) ?_
   refine cw h (fun bk h=> ?_) fun bk h=> ?_
   · refine aM bk ?_
     refine cw h (fun cj h=> ?_) fun cj h=> ?_
     · refine aM cj ?_
       refine cw h (fun cv h=> ?_) fun cv h=> ?_
       · refine aM cv ?_
         refine cw h (fun cB h=> ?_) fun cB h=> ?_
         · refine aM cB ?_
           obtain ⟨r6,eV,h⟩:=aj h
           refine bx aq (og eV) ?_
           refine aA ?_
           refine cw h (fun de h=> ?_) fun de h=> ?_
           · refine aM de ?_
             obtain ⟨r7,dx,h⟩:=aj h
             refine bx aq (j4 dx) ?_
             refine aA ?_
             refine cw h (fun dh h=> ?_) fun dh h=> ?_
             · refine aM dh ?_
               obtain ⟨r8,gh,h⟩:=aj h
               refine bx aq (j4 gh) ?_
               refine aA ?_
               obtain rfl:=aC h
               exact hK _ _ _ _ _ aL aq kn
             · refine aM dh ?_
               obtain rfl:=aC h
               exact hK _ _ _ _ _ aL aq kn
           · refine aM de ?_
             obtain rfl:=aC h
             exact hK _ _ _ _ _ aL aq kn
         · refine aM cB ?_
           obtain rfl:=aC h
           exact hK _ _ _ _ _ aL aq kn
       · refine aM cv ?_
         obtain rfl:=aC h
         exact hK _ _ _ _ _ aL aq kn
     · refine aM cj ?_
       obtain rfl:=aC h
       exact hK _ _ _ _ _ aL aq kn
   · refine aM bk ?_
     obtain rfl:=aC h
     exact hK _ _ _ _ _ aL aq kn
 · refine aM aY ?_
   obtain rfl:=aC h
   exact hK _ _ _ _ _ aL aq kn
theorem xW {F:Nat} {H0:AH} {aI:Bool} (h:k9 F=some aI):
 az Tryz.prog 4 [] H0 fun v H'=>v=(.bool aI)∧H'=H0:=by
 refine dz zF ry fun hcl K0 aN=> ?_
 rw [k9.eq_1] at h
 refine aA ?_
 obtain ⟨⟨r1,r2⟩,hy1,h⟩:=aj h
 dsimp only at h
 refine bx aq (rq hy1) ?_
 refine aA ?_
 obtain ⟨⟨r3,r4⟩,aV,h⟩:=aj h
 dsimp only at h
 refine bx aq (uT aV) ?_
 refine aA ?_
 obtain ⟨t10,kz,h⟩:=aj h
 refine bS aq (tF kz ?_)
 refine aA ?_
 obtain rfl:=aC h
 exact aN _ _ _ bE (aH hcl (bA bC (.bool t10)) bD bu ⟨rfl,rfl⟩)
abbrev qm:au:=(.rg [(ai 3 (.gY (.t 1) 0)),(ai 4 (.ld (.t 3) none)),(ai 5 (.lens (.t 4))),(ai 6 (.bin .leq (.t 5) (.c (.int .i64 400)))),(av 7 6),(aB 8 (.gY (.t 1) 1) 7 true),(aB 9 (.ld (.t 8) none) 7 true),(aB 10 (.lens (.t 9)) 7 true),(aB 11 (.bin .leq (.t 10) (.c (.int .i64 600))) 7 true),(ai 12 (.pick (.t 7) (.t 11) (.c (.bool false)))),(aP 2 12)])
abbrev DA:au:=(.seq (.rg [(ai 1 (.box (.t 0))),(ai 2 (.aT (.c (.bool false))))]) (.seq (.sem (erase qm)) .ret))
theorem DB:bw Tryz.prog 5 13 [(.tmp 2)] (erase DA):=⟨Tryz.f5,_,rfl,by decide,rfl,by kernel_rfl,rfl,rfl⟩
abbrev uX:List Nat:=[0,1,2]
def pW (a1:aE):Option (Bool):=
 some ((decide ((a1.aD.length:Int)≤400))&&(decide ((a1.domain.length:Int)≤600)))
theorem wI {q2:Nat} {a1:aE} {H0 H:AH} (hfr:Fr H0 H0.length [] H) (ak:H[q2]? =some [(.str a1.aD),(.str a1.domain)]) (hi0:H0.length≤q2) {K:Exit→Env→AH→Prop}
 (kn:∀H':AH,Fr H0 H0.length [] H'→H'[q2]? =some [(.str a1.aD),(.str a1.domain)]→K .normal [(2,(.bool ((decide ((a1.aD.length:Int)≤400))&&(decide ((a1.domain.length:Int)≤600)))))] H'):
 AX Tryz.prog uX 13 H0.length (erase qm) K [(1,(.ptr q2 0)),(2,(.bool false))] H:=by
 refine cG fun K' hK=> ?_
 have hle:=hfr.le
 have dB:=ff ak
 refine aZ ak ?_
 refine mM (fun hy1=> ?_) fun hy1=> ?_
 · refine aZ (aK hy1 ak) ?_
   exact hK _ _ _ _ _ (dL hy1) aq (kn _ hfr (ak.trans rfl))
 · refine aZ (aK hy1 ak) ?_
   exact hK _ _ _ _ _ (dL hy1) aq (kn _ hfr (ak.trans rfl))
theorem A5 {a1:aE} {H0:AH} {aI:Bool} (h:pW a1=some aI):
 az Tryz.prog 5 [(.agg [(.str a1.aD),(.str a1.domain)])] H0 fun v H'=>v=(.bool aI)∧H'=H0:=by
 refine sr DB uX [] fun hcl K0 aN H hH hfr=> ?_
 clear hH
 have hle:=hfr.le
 rw [pW.eq_1] at h
 refine bG ?_
 obtain ⟨q2,pV⟩:∃q:Nat,H.length=q:=⟨_,rfl⟩
 try rw [pV]
 refine bS aq (wI (q2:=q2) (a1:=a1) (Fr.app hfr) IV wh ?_)
 intro H hfr ak
 have hle:=hfr.le
 have dB:=ff ak
 refine aZ ak ?_
 obtain rfl:=aC h
 exact aN _ _ _ bE (bR hfr hcl (bA bC (.bool ((decide ((a1.aD.length:Int)≤400))&&(decide ((a1.domain.length:Int)≤600))))) bD bu ⟨rfl,rfl⟩)
abbrev DC:au:=(.seq (.rg [(ai 1 (.box (.t 0))),(ai 2 (.aT (.c (.bool false))))]) (.seq (.rg [(ai 3 (.ld (.t 1) (some 2))),(ai 4 (.build [(.str []),(.str [])] [])),(ai 5 (.seq [.s, .s] false (.t 3) (.t 4))),(aP 2 5)]) .ret))
theorem DD:bw Tryz.prog 29 6 [(.tmp 2)] (erase DC):=⟨Tryz.f29,_,rfl,by decide,rfl,by kernel_rfl,rfl,rfl⟩
abbrev DE:List Nat:=[0,1,2]
def jY (a1:aE):Option (Bool):=
 some (decide (a1.aD=([]:List UInt8))&&decide (a1.domain=([]:List UInt8)))
theorem sS {a1:aE} {H0:AH} {aI:Bool} (h:jY a1=some aI):
 az Tryz.prog 29 [(.agg [(.str a1.aD),(.str a1.domain)])] H0 fun v H'=>v=(.bool aI)∧H'=H0:=by
 refine sr DD DE [] fun hcl K0 aN H hH hfr=> ?_
 clear hH
 have hle:=hfr.le
 rw [jY.eq_1] at h
 refine bG ?_
 obtain rfl:=aC h
 exact aN _ _ _ bE (bR (Fr.app hfr) hcl (bA bC (.bool (decide (a1.aD=([]:List UInt8))&&decide (a1.domain=([]:List UInt8))))) bD bu ⟨rfl,rfl⟩)
abbrev lV:au:=(.rg [(av 3 0),(ai 4 (.bin .geq (.t 3) (.c (b8 32)))),(av 5 4),(aB 6 (.mv (.t 0)) 5 true),(aB 7 (.bin .leq (.t 6) (.c (b8 126))) 5 true),(ai 8 (.pick (.t 5) (.t 7) (.c (.bool false)))),(aP 2 8)])
abbrev xX:au:=(.seq (.rg [(ai 2 (.aT (.c (.bool false))))]) (.seq (.sem (erase lV)) .ret))
theorem xY:bw Tryz.prog 51 9 [(.tmp 2)] (erase xX):=⟨Tryz.f51,_,rfl,by decide,rfl,by kernel_rfl,rfl,rfl⟩
abbrev qn:List Nat:=[0,2]
def j6 (c1:UInt8):Option (Bool):=
 some ((decide (32≤c1))&&(decide (c1≤126)))
theorem sx {c1:UInt8} {H:AH} {K:Exit→Env→AH→Prop}
 (kn:K .normal [(2,(.bool ((decide (32≤c1))&&(decide (c1≤126)))))] H):
 AX Tryz.prog qn 9 H.length (erase lV) K [(0,(b8 c1)),(2,(.bool false))] H:=by
 refine cG fun K' hK=> ?_
 refine aA ?_
 refine mM (fun hy1=> ?_) fun hy1=> ?_
 · refine aM hy1 ?_
   exact hK _ _ _ _ _ (dL hy1) aq kn
 · refine aM hy1 ?_
   exact hK _ _ _ _ _ (dL hy1) aq kn
theorem wJ {c1:UInt8} {H0:AH} {aI:Bool} (h:j6 c1=some aI):
 az Tryz.prog 51 [(b8 c1)] H0 fun v H'=>v=(.bool aI)∧H'=H0:=by
 refine dz xY qn fun hcl K0 aN=> ?_
 rw [j6.eq_1] at h
 refine aA ?_
 refine bS aq (sx (c1:=c1) ?_)
 refine aA ?_
 obtain rfl:=aC h
 exact aN _ _ _ bE (aH hcl (bA bC (.bool ((decide (32≤c1))&&(decide (c1≤126))))) bD bu ⟨rfl,rfl⟩)
abbrev kW:au:=(.seq (.rg [(ai 9 (.bin .lss (.t 8) (.t 7)))]) (.seq (.cond (.t 9) .skip (.exit 0)) (.seq (.blk 1 (.seq (.rg [(av 10 8),(aP 5 10)]) (.seq (.rg [(av 11 1),(av 12 0),(av 13 5),(ai 14 (.ixs (.t 12) (.t 13))),(ai 15 (.call (.t 11) [(.t 14)])),(ai 16 (.un .not (.t 15)))]) (.cond (.t 16) (.seq (.rg [(ai 4 (.aT (.c (.bool false))))]) .ret) .skip)))) (.rg [(ai 17 (.bin .add (.t 8) (.c (.int .i64 1)))),(av 8 17)]))))
abbrev xZ:au:=(.seq (.rg [(ai 4 (.aT (.c (.bool false))))]) (.seq (.seq (.rg [(av 6 0),(ai 7 (.lens (.t 6))),(ai 8 (.mv (.c (.int .i64 0))))]) (.blk 0 (.loop (erase kW)))) (.seq (.rg [(ai 4 (.aT (.c (.bool true))))]) .ret)))
theorem ya:bw Tryz.prog 50 18 [(.tmp 4)] (erase xZ):=⟨Tryz.f50,_,rfl,by decide,rfl,by kernel_rfl,rfl,rfl⟩
abbrev qo:List Nat:=[0,1,4,5,7,8,9,16]
def c7 (s1:List UInt8):(Bool×Int)→Option (St Bool Unit (Bool×Int))
 |(t2,t3)=>
  (if (decide (t3<(s1.length:Int))) then
   (idx s1 t3).bind fun x4=>
   (j6 x4).bind fun r5=>
   (if (!r5) then
    some (.ret false)
   else
    some (.cu (t2,(IntKind.wrap .i64 (t3+1)))))
  else
   some (.dU ()))
def iw (F:Nat) (s1:List UInt8):Option (Bool):=
 ((iter (c7 s1) F (false,0)).bind fun o8=>
 match o8 with
 | .inr ()=>
   some true
 | .inl r7=>
   some r7)
theorem sy {F:Nat} {t3:Int} {s1:List UInt8} {t2:Bool} {H:AH} {K:Exit→Env→AH→Prop} {o:(Bool)⊕(Unit)}
 (h:iter (c7 s1) F (t2,t3)=some o)
 (dV:∀o':Unit,o= .inr o'→K (.exit 0) [] H)
 (kr:∀o':Bool,o= .inl o'→K .ret [(4,(.bool o'))] H):
 AX Tryz.prog qo 18 H.length (.loop (erase kW)) K [(0,(.str s1)),(1,(.fn 51 [])),(4,(.bool t2)),(7,(.int .i64 (s1.length:Int))),(8,(.int .i64 t3))] H:=by
 refine jM (fun s e H1=>match s with|(t2,t3)=>e=[(0,(.str s1)),(1,(.fn 51 [])),(4,(.bool t2)),(7,(.int .i64 (s1.length:Int))),(8,(.int .i64 t3))]∧H1=H) h ⟨rfl,rfl⟩ ?_
 rintro K' ⟨t2,t3⟩ st e H ⟨rfl,rfl⟩ h hN hB hR hX
 rw [c7.eq_1] at h
 refine aA ?_
 refine bZ h (fun hy1 h=> ?_) fun hy1 h=> ?_
 · obtain ⟨x4,aV,h⟩:=aj h
   refine aM aV ?_
   obtain ⟨r5,aY,h⟩:=aj h
   refine bx aq (wJ aY) ?_
   refine aA ?_
   refine bZ h (fun aX h=> ?_) fun aX h=> ?_
   · refine aA ?_
     obtain rfl:=aC h
     exact hX _ _ _ _ _ ez aL aq (kr _ (hR _ rfl))
   · refine aA ?_
     obtain rfl:=aC h
     exact hN _ rfl _ _ _ _ aL aq ⟨rfl,rfl⟩
 · refine aA ?_
   obtain rfl:=aC h
   exact hX _ _ _ _ _ ez WE.nil aq (dV _ (hB _ rfl))
theorem wK {F:Nat} {s1:List UInt8} {H0:AH} {aI:Bool} (h:iw F s1=some aI):
 az Tryz.prog 50 [(.str s1),(.fn 51 [])] H0 fun v H'=>v=(.bool aI)∧H'=H0:=by
 refine dz ya qo fun hcl K0 aN=> ?_
 rw [iw.eq_1] at h
 refine aA ?_
 obtain ⟨o8,bk,h⟩:=aj h
 refine bS aq (sy bk ?_ ?_)
 · rintro ⟨⟩ rfl
   try dsimp only at h
   refine aA ?_
   obtain rfl:=aC h
   exact aN _ _ _ bE (aH hcl (bA bC (.bool true)) bD bu ⟨rfl,rfl⟩)
 · rintro r7 rfl
   try dsimp only at h
   refine aA ?_
   obtain rfl:=aC h
   exact aN _ _ _ bE (aH hcl (bA bC (.bool r7)) bD bu ⟨rfl,rfl⟩)
abbrev oU:au:=(.rg [(av 3 0),(ai 4 (.bin .neq (.t 3) (.c (.str [])))),(av 5 4),(aB 6 (.mv (.t 0)) 5 true),(aB 7 (.lens (.t 6)) 5 true),(aB 8 (.bin .leq (.t 7) (.c (.int .i64 64))) 5 true),(ai 9 (.pick (.t 5) (.t 8) (.c (.bool false)))),(av 10 9),(aB 11 (.mv (.t 0)) 10 true),(aB 12 (.call (.c (.fn 50 [])) [(.t 11),(.c (.fn 51 []))]) 10 true),(ai 13 (.pick (.t 10) (.t 12) (.c (.bool false)))),(aP 2 13)])
abbrev A6:au:=(.seq (.rg [(ai 2 (.aT (.c (.bool false))))]) (.seq (.sem (erase oU)) .ret))
theorem A7:bw Tryz.prog 41 14 [(.tmp 2)] (erase A6):=⟨Tryz.f41,_,rfl,by decide,rfl,by kernel_rfl,rfl,rfl⟩
abbrev sU:List Nat:=[0,2]
def jn (F:Nat) (s1:List UInt8):Option (Bool):=
 (if (!decide (s1=([]:List UInt8))) then
  (if (decide ((s1.length:Int)≤64)) then
   (iw F s1).bind fun r2=>some r2
  else
   some false)
 else
  some false)
def kD (F:Nat) (s1:List UInt8):Option (Bool):=
 (jn F s1).bind fun t4=>
 some t4
theorem uY {F:Nat} {s1:List UInt8} {H:AH} {K:Exit→Env→AH→Prop} {t3:Bool}
 (h:jn F s1=some t3)
 (kn:K .normal [(2,(.bool t3))] H):
 AX Tryz.prog sU 14 H.length (erase oU) K [(0,(.str s1)),(2,(.bool false))] H:=by
 refine cG fun K' hK=> ?_
 rw [jn.eq_1] at h
 refine aA ?_
 refine cw h (fun hy1 h=> ?_) fun hy1 h=> ?_
 · refine aM hy1 ?_
   refine cw h (fun aV h=> ?_) fun aV h=> ?_
   · refine aM aV ?_
     obtain ⟨r2,aY,h⟩:=aj h
     refine bx aq (wK aY) ?_
     refine aA ?_
     obtain rfl:=aC h
     exact hK _ _ _ _ _ aL aq kn
   · refine aM aV ?_
     obtain rfl:=aC h
     exact hK _ _ _ _ _ aL aq kn
 · refine aM hy1 ?_
   obtain rfl:=aC h
   exact hK _ _ _ _ _ aL aq kn
theorem zG {F:Nat} {s1:List UInt8} {H0:AH} {aI:Bool} (h:kD F s1=some aI):
 az Tryz.prog 41 [(.str s1)] H0 fun v H'=>v=(.bool aI)∧H'=H0:=by
 refine dz A7 sU fun hcl K0 aN=> ?_
 rw [kD.eq_1] at h
 refine aA ?_
 obtain ⟨t4,aX,h⟩:=aj h
 refine bS aq (uY aX ?_)
 refine aA ?_
 obtain rfl:=aC h
 exact aN _ _ _ bE (aH hcl (bA bC (.bool t4)) bD bu ⟨rfl,rfl⟩)
abbrev nu:au:=(.rg [(av 10 4),(ai 11 (.iq false (.t 10) (.c (.v .nilIface)))),(av 12 11),(aB 13 (.mv (.t 3)) 12 true),(aB 14 (.bin .geq (.t 13) (.c (.int .i64 0))) 12 true),(ai 15 (.pick (.t 12) (.t 14) (.c (.bool false)))),(av 16 15),(aB 17 (.mv (.t 3)) 16 true),(aB 18 (.bin .leq (.t 17) (.c (.int .i64 255))) 16 true),(ai 19 (.pick (.t 16) (.t 18) (.c (.bool false)))),(av 20 19),(aB 21 (.mv (.t 3)) 20 true),(aB 22 (.call (.c (.fn 36 [])) [(.t 21)]) 20 true),(aB 23 (.mv (.t 0)) 20 true),(aB 24 (.bin .eql (.t 22) (.t 23)) 20 true),(ai 25 (.pick (.t 20) (.t 24) (.c (.bool false)))),(aP 2 25)])
abbrev zH:au:=(.seq (.rg [(ai 2 (.aT (.c (.bool false))))]) (.seq (.rg [(av 6 0),(ai 7 (.call (.c (.fn 82 [])) [(.t 6)])),(av 5 7),(ai 8 (.ext (.t 5) 0)),(ai 9 (.ext (.t 5) 1)),(aP 3 8),(aP 4 9)]) (.seq (.sem (erase nu)) .ret)))
theorem zI:bw Tryz.prog 67 26 [(.tmp 2)] (erase zH):=⟨Tryz.f67,_,rfl,by decide,rfl,by kernel_rfl,rfl,rfl⟩
abbrev rz:List Nat:=[0,2,3,4]
def eB (r3:Bool) (r2:Int) (s1:List UInt8):Option (Bool):=
 (if (!r3) then
  (if (decide (0≤r2)) then
   (if (decide (r2≤255)) then
    (strconv_Itoa r2).bind fun r4=>some (decide (r4=s1))
   else
    some false)
  else
   some false)
 else
  some false)
def gK (s1:List UInt8):Option (Bool):=
 (strconv_Atoi s1).bind fun (r2,r3)=>(eB r3 r2 s1).bind fun t6=>
 some t6
theorem tG {r3:Bool} {r2:Int} {s1:List UInt8} {H:AH} {K:Exit→Env→AH→Prop} {t5:Bool}
 (h:eB r3 r2 s1=some t5)
 (kn:K .normal [(2,(.bool t5))] H):
 AX Tryz.prog rz 26 H.length (erase nu) K [(0,(.str s1)),(2,(.bool false)),(3,(.int .i64 r2)),(4,(cJ r3))] H:=by
 refine cG fun K' hK=> ?_
 rw [eB.eq_1] at h
 refine aA ?_
 refine cw h (fun aV h=> ?_) fun aV h=> ?_
 · refine aM aV ?_
   refine cw h (fun aY h=> ?_) fun aY h=> ?_
   · refine aM aY ?_
     refine cw h (fun aX h=> ?_) fun aX h=> ?_
     · refine aM aX ?_
       obtain ⟨r4,bk,h⟩:=aj h
       refine bx aq (jV (i1:=r2) bk) ?_
       refine aA ?_
       obtain rfl:=aC h
       exact hK _ _ _ _ _ aL aq kn
     · refine aM aX ?_
       obtain rfl:=aC h
       exact hK _ _ _ _ _ aL aq kn
   · refine aM aY ?_
     obtain rfl:=aC h
     exact hK _ _ _ _ _ aL aq kn
 · refine aM aV ?_
   obtain rfl:=aC h
   exact hK _ _ _ _ _ aL aq kn
theorem yb {s1:List UInt8} {H0:AH} {aI:Bool} (h:gK s1=some aI):
 az Tryz.prog 67 [(.str s1)] H0 fun v H'=>v=(.bool aI)∧H'=H0:=by
 refine dz zI rz fun hcl K0 aN=> ?_
 rw [gK.eq_1] at h
 refine aA ?_
 obtain ⟨⟨r2,r3⟩,hy1,h⟩:=aj h
 dsimp only at h
 refine bx aq (strconv_Atoi_ok (s1:=s1) hy1) ?_
 refine aA ?_
 obtain ⟨t6,cj,h⟩:=aj h
 refine bS aq (tG cj ?_)
 refine aA ?_
 obtain rfl:=aC h
 exact aN _ _ _ bE (aH hcl (bA bC (.bool t6)) bD bu ⟨rfl,rfl⟩)
abbrev wL:au:=(.seq (.rg [(ai 2 (.aT (.c (.bool false))))]) (.seq (.rg [(av 3 0),(ai 4 (.call (.c (.fn 67 [])) [(.t 3)])),(ai 5 (.un .not (.t 4))),(aP 2 5)]) .ret))
theorem wM:bw Tryz.prog 66 6 [(.tmp 2)] (erase wL):=⟨Tryz.f66,_,rfl,by decide,rfl,by kernel_rfl,rfl,rfl⟩
abbrev wN:List Nat:=[0,2]
def gi (x1:List UInt8):Option (Bool):=
 (gK x1).bind fun r2=>some (!r2)
theorem uZ {x1:List UInt8} {H0:AH} {aI:Bool} (h:gi x1=some aI):
 az Tryz.prog 66 [(.str x1)] H0 fun v H'=>v=(.bool aI)∧H'=H0:=by
 refine dz wM wN fun hcl K0 aN=> ?_
 rw [gi.eq_1] at h
 refine aA ?_
 obtain ⟨r2,hy1,h⟩:=aj h
 refine bx aq (yb hy1) ?_
 refine aA ?_
 obtain rfl:=aC h
 exact aN _ _ _ bE (aH hcl (bA bC (.bool (!r2))) bD bu ⟨rfl,rfl⟩)
abbrev gR:au:=(.seq (.rg [(ai 9 (.bin .lss (.t 8) (.t 7)))]) (.seq (.cond (.t 9) .skip (.exit 0)) (.seq (.blk 1 (.seq (.rg [(av 10 8),(aP 5 10)]) (.seq (.rg [(av 11 1),(av 12 0),(av 13 5),(ai 14 (.lF 1 (.t 12) (.t 13))),(ai 15 (.ld (.t 14) none)),(ai 16 (.call (.t 11) [(.t 15)]))]) (.cond (.t 16) (.seq (.rg [(av 17 5),(aP 4 17)]) .ret) .skip)))) (.rg [(ai 18 (.bin .add (.t 8) (.c (.int .i64 1)))),(av 8 18)]))))
abbrev qx:au:=(.seq (.rg [(ai 4 (.aT (.c (.int .i64 0))))]) (.seq (.seq (.rg [(av 6 0),(ai 7 (.len (.t 6))),(ai 8 (.mv (.c (.int .i64 0))))]) (.blk 0 (.loop (erase gR)))) (.seq (.rg [(ai 4 (.aT (.c (.int .i64 (-1)))))]) .ret)))
theorem qy:bw Tryz.prog 70 19 [(.tmp 4)] (erase qx):=⟨Tryz.f70,_,rfl,by decide,rfl,by kernel_rfl,rfl,rfl⟩
abbrev jP:List Nat:=[0,1,4,5,7,8,9,16]
def b7 (s1:List (List UInt8)):(Int×Int)→Option (St Int Unit (Int×Int))
 |(t2,t3)=>
  (if (decide (t3<(s1.length:Int))) then
   (idx s1 t3).bind fun x4=>
   (gi x4).bind fun r5=>
   (if r5 then
    some (.ret t3)
   else
    some (.cu (t2,(IntKind.wrap .i64 (t3+1)))))
  else
   some (.dU ()))
def eO (F:Nat) (s1:List (List UInt8)):Option (Int):=
 ((iter (b7 s1) F (0,0)).bind fun o8=>
 match o8 with
 | .inr ()=>
   some (-1)
 | .inl r7=>
   some r7)
theorem mN {F:Nat} {t3:Int} {s1:List (List UInt8)} {t2:Int} {H:AH} {K:Exit→Env→AH→Prop} {o:(Int)⊕(Unit)}
 (h:iter (b7 s1) F (t2,t3)=some o)
 (dV:∀o':Unit,o= .inr o'→K (.exit 0) [] H)
 (kr:∀o':Int,o= .inl o'→K .ret [(4,(.int .i64 o'))] H):
 AX Tryz.prog jP 19 H.length (.loop (erase gR)) K [(0,(.sl .n 1 (ml AV.str s1))),(1,(.fn 66 [])),(4,(.int .i64 t2)),(7,(.int .i64 (s1.length:Int))),(8,(.int .i64 t3))] H:=by
 refine jM (fun s e H1=>match s with|(t2,t3)=>e=[(0,(.sl .n 1 (ml AV.str s1))),(1,(.fn 66 [])),(4,(.int .i64 t2)),(7,(.int .i64 (s1.length:Int))),(8,(.int .i64 t3))]∧H1=H) h ⟨rfl,rfl⟩ ?_
 rintro K' ⟨t2,t3⟩ st e H ⟨rfl,rfl⟩ h hN hB hR hX
 rw [b7.eq_1] at h
 refine aA ?_
 refine bZ h (fun hy1 h=> ?_) fun hy1 h=> ?_
 · obtain ⟨x4,aV,h⟩:=aj h
   refine aM aV ?_
   obtain ⟨r5,aY,h⟩:=aj h
   refine bx aq (uZ aY) ?_
   refine aA ?_
   refine bZ h (fun aX h=> ?_) fun aX h=> ?_
   · refine aA ?_
     obtain rfl:=aC h
     exact hX _ _ _ _ _ ez aL aq (kr _ (hR _ rfl))
   · refine aA ?_
     obtain rfl:=aC h
     exact hN _ rfl _ _ _ _ aL aq ⟨rfl,rfl⟩
 · refine aA ?_
   obtain rfl:=aC h
   exact hX _ _ _ _ _ ez WE.nil aq (dV _ (hB _ rfl))
theorem pX {F:Nat} {s1:List (List UInt8)} {H0:AH} {aI:Int} (h:eO F s1=some aI):
 az Tryz.prog 70 [(.sl .n 1 (ml AV.str s1)),(.fn 66 [])] H0 fun v H'=>v=(.int .i64 aI)∧H'=H0:=by
 refine dz qy jP fun hcl K0 aN=> ?_
 rw [eO.eq_1] at h
 refine aA ?_
 obtain ⟨o8,bk,h⟩:=aj h
 refine bS aq (mN bk ?_ ?_)
 · rintro ⟨⟩ rfl
   try dsimp only at h
   refine aA ?_
   obtain rfl:=aC h
   exact aN _ _ _ bE (aH hcl (bA bC (.int .i64 (-1))) bD bu ⟨rfl,rfl⟩)
 · rintro r7 rfl
   try dsimp only at h
   refine aA ?_
   obtain rfl:=aC h
   exact aN _ _ _ bE (aH hcl (bA bC (.int .i64 r7)) bD bu ⟨rfl,rfl⟩)
abbrev oh:au:=(.seq (.rg [(ai 4 (.aT (.c (.bool false))))]) (.seq (.rg [(av 5 0),(av 6 1),(ai 7 (.call (.c (.fn 70 [])) [(.t 5),(.t 6)])),(ai 8 (.bin .geq (.t 7) (.c (.int .i64 0)))),(aP 4 8)]) .ret))
theorem om:bw Tryz.prog 54 9 [(.tmp 4)] (erase oh):=⟨Tryz.f54,_,rfl,by decide,rfl,by kernel_rfl,rfl,rfl⟩
abbrev oq:List Nat:=[0,1,4]
def cK (F:Nat) (s1:List (List UInt8)):Option (Bool):=
 (eO F s1).bind fun r2=>some (decide (0≤r2))
theorem mO {F:Nat} {s1:List (List UInt8)} {H0:AH} {aI:Bool} (h:cK F s1=some aI):
 az Tryz.prog 54 [(.sl .n 1 (ml AV.str s1)),(.fn 66 [])] H0 fun v H'=>v=(.bool aI)∧H'=H0:=by
 refine dz om oq fun hcl K0 aN=> ?_
 rw [cK.eq_1] at h
 refine aA ?_
 obtain ⟨r2,hy1,h⟩:=aj h
 refine bx aq (pX hy1) ?_
 refine aA ?_
 obtain rfl:=aC h
 exact aN _ _ _ bE (aH hcl (bA bC (.bool (decide (0≤r2)))) bD bu ⟨rfl,rfl⟩)
abbrev nv:au:=(.rg [(av 3 0),(ai 4 (.bin .or (.t 3) (.c (b8 32)))),(ai 5 (.bin .geq (.t 4) (.c (b8 97)))),(av 6 5),(aB 7 (.mv (.t 0)) 6 true),(aB 8 (.bin .or (.t 7) (.c (b8 32))) 6 true),(aB 9 (.bin .leq (.t 8) (.c (b8 122))) 6 true),(ai 10 (.pick (.t 6) (.t 9) (.c (.bool false)))),(av 11 10),(aB 12 (.mv (.t 0)) 11 false),(aB 13 (.bin .geq (.t 12) (.c (b8 48))) 11 false),(aB 14 (.mv (.t 13)) 11 false),(aB 15 (.mv (.t 0)) 14 true),(aB 16 (.bin .leq (.t 15) (.c (b8 57))) 14 true),(aB 17 (.pick (.t 14) (.t 16) (.c (.bool false))) 11 false),(ai 18 (.pick (.t 11) (.c (.bool true)) (.t 17))),(aP 2 18)])
abbrev zJ:au:=(.seq (.rg [(ai 2 (.aT (.c (.bool false))))]) (.seq (.sem (erase nv)) .ret))
theorem zK:bw Tryz.prog 72 19 [(.tmp 2)] (erase zJ):=⟨Tryz.f72,_,rfl,by decide,rfl,by kernel_rfl,rfl,rfl⟩
abbrev rA:List Nat:=[0,2]
def gL (c1:UInt8):Option (Bool):=
 some (((decide (97≤(c1 ||| 32)))&&(decide ((c1 ||| 32)≤122)))||((decide (48≤c1))&&(decide (c1≤57))))
theorem tH {c1:UInt8} {H:AH} {K:Exit→Env→AH→Prop}
 (kn:K .normal [(2,(.bool (((decide (97≤(c1 ||| 32)))&&(decide ((c1 ||| 32)≤122)))||((decide (48≤c1))&&(decide (c1≤57))))))] H):
 AX Tryz.prog rA 19 H.length (erase nv) K [(0,(b8 c1)),(2,(.bool false))] H:=by
 refine cG fun K' hK=> ?_
 refine aA ?_
 refine mM (fun hy1=> ?_) fun hy1=> ?_
 · refine aM hy1 ?_
   refine mM (fun aV=> ?_) fun aV=> ?_
   · refine aM aV ?_
     exact hK _ _ _ _ _ (dL (aK hy1 aV)) aq kn
   · refine aM aV ?_
     refine mM (fun aY=> ?_) fun aY=> ?_
     · refine aM aY ?_
       exact hK _ _ _ _ _ (dL (aK hy1 (aK aV aY))) aq kn
     · refine aM aY ?_
       exact hK _ _ _ _ _ (dL (aK hy1 (aK aV aY))) aq kn
 · refine aM hy1 ?_
   refine mM (fun aX=> ?_) fun aX=> ?_
   · refine aM aX ?_
     exact hK _ _ _ _ _ (dL (aK hy1 aX)) aq kn
   · refine aM aX ?_
     exact hK _ _ _ _ _ (dL (aK hy1 aX)) aq kn
theorem qp {c1:UInt8} {H0:AH} {aI:Bool} (h:gL c1=some aI):
 az Tryz.prog 72 [(b8 c1)] H0 fun v H'=>v=(.bool aI)∧H'=H0:=by
 refine dz zK rA fun hcl K0 aN=> ?_
 rw [gL.eq_1] at h
 refine aA ?_
 refine bS aq (tH (c1:=c1) ?_)
 refine aA ?_
 obtain rfl:=aC h
 exact aN _ _ _ bE (aH hcl (bA bC (.bool (((decide (97≤(c1 ||| 32)))&&(decide ((c1 ||| 32)≤122)))||((decide (48≤c1))&&(decide (c1≤57)))))) bD bu ⟨rfl,rfl⟩)
abbrev lW:au:=(.rg [(av 3 0),(ai 4 (.call (.c (.fn 72 [])) [(.t 3)])),(av 5 4),(aB 6 (.mv (.t 0)) 5 false),(aB 7 (.bin .eql (.t 6) (.c (b8 45))) 5 false),(ai 8 (.pick (.t 5) (.c (.bool true)) (.t 7))),(aP 2 8)])
abbrev yc:au:=(.seq (.rg [(ai 2 (.aT (.c (.bool false))))]) (.seq (.sem (erase lW)) .ret))
theorem yd:bw Tryz.prog 83 9 [(.tmp 2)] (erase yc):=⟨Tryz.f83,_,rfl,by decide,rfl,by kernel_rfl,rfl,rfl⟩
abbrev qq:List Nat:=[0,2]
def jZ (c1:UInt8):Option (Bool):=
 (gL c1).bind fun r2=>(if r2 then
  some true
 else
  some (decide (c1=45)))
def iy (c1:UInt8):Option (Bool):=
 (jZ c1).bind fun t4=>
 some t4
theorem sA {c1:UInt8} {H:AH} {K:Exit→Env→AH→Prop} {t3:Bool}
 (h:jZ c1=some t3)
 (kn:K .normal [(2,(.bool t3))] H):
 AX Tryz.prog qq 9 H.length (erase lW) K [(0,(b8 c1)),(2,(.bool false))] H:=by
 refine cG fun K' hK=> ?_
 rw [jZ.eq_1] at h
 refine aA ?_
 obtain ⟨r2,hy1,h⟩:=aj h
 refine bx aq (qp hy1) ?_
 refine aA ?_
 refine cw h (fun aV h=> ?_) fun aV h=> ?_
 · refine aM aV ?_
   obtain rfl:=aC h
   exact hK _ _ _ _ _ aL aq kn
 · refine aM aV ?_
   obtain rfl:=aC h
   exact hK _ _ _ _ _ aL aq kn
theorem wO {c1:UInt8} {H0:AH} {aI:Bool} (h:iy c1=some aI):
 az Tryz.prog 83 [(b8 c1)] H0 fun v H'=>v=(.bool aI)∧H'=H0:=by
 refine dz yd qq fun hcl K0 aN=> ?_
 rw [iy.eq_1] at h
 refine aA ?_
 obtain ⟨t4,aY,h⟩:=aj h
 refine bS aq (sA aY ?_)
 refine aA ?_
 obtain rfl:=aC h
 exact aN _ _ _ bE (aH hcl (bA bC (.bool t4)) bD bu ⟨rfl,rfl⟩)
abbrev kE:au:=(.seq (.rg [(ai 9 (.bin .lss (.t 8) (.t 7)))]) (.seq (.cond (.t 9) .skip (.exit 0)) (.seq (.blk 1 (.seq (.rg [(av 10 8),(aP 5 10)]) (.seq (.rg [(av 11 1),(av 12 0),(av 13 5),(ai 14 (.ixs (.t 12) (.t 13))),(ai 15 (.call (.t 11) [(.t 14)])),(ai 16 (.un .not (.t 15)))]) (.cond (.t 16) (.seq (.rg [(ai 4 (.aT (.c (.bool false))))]) .ret) .skip)))) (.rg [(ai 17 (.bin .add (.t 8) (.c (.int .i64 1)))),(av 8 17)]))))
abbrev wP:au:=(.seq (.rg [(ai 4 (.aT (.c (.bool false))))]) (.seq (.seq (.rg [(av 6 0),(ai 7 (.lens (.t 6))),(ai 8 (.mv (.c (.int .i64 0))))]) (.blk 0 (.loop (erase kE)))) (.seq (.rg [(ai 4 (.aT (.c (.bool true))))]) .ret)))
theorem wQ:bw Tryz.prog 50 18 [(.tmp 4)] (erase wP):=⟨Tryz.f50,_,rfl,by decide,rfl,by kernel_rfl,rfl,rfl⟩
abbrev oV:List Nat:=[0,1,4,5,7,8,9,16]
def cL (s1:List UInt8):(Bool×Int)→Option (St Bool Unit (Bool×Int))
 |(t2,t3)=>
  (if (decide (t3<(s1.length:Int))) then
   (idx s1 t3).bind fun x4=>
   (iy x4).bind fun r5=>
   (if (!r5) then
    some (.ret false)
   else
    some (.cu (t2,(IntKind.wrap .i64 (t3+1)))))
  else
   some (.dU ()))
def gj (F:Nat) (s1:List UInt8):Option (Bool):=
 ((iter (cL s1) F (false,0)).bind fun o8=>
 match o8 with
 | .inr ()=>
   some true
 | .inl r7=>
   some r7)
theorem rB {F:Nat} {t3:Int} {s1:List UInt8} {t2:Bool} {H:AH} {K:Exit→Env→AH→Prop} {o:(Bool)⊕(Unit)}
 (h:iter (cL s1) F (t2,t3)=some o)
 (dV:∀o':Unit,o= .inr o'→K (.exit 0) [] H)
 (kr:∀o':Bool,o= .inl o'→K .ret [(4,(.bool o'))] H):
 AX Tryz.prog oV 18 H.length (.loop (erase kE)) K [(0,(.str s1)),(1,(.fn 83 [])),(4,(.bool t2)),(7,(.int .i64 (s1.length:Int))),(8,(.int .i64 t3))] H:=by
 refine jM (fun s e H1=>match s with|(t2,t3)=>e=[(0,(.str s1)),(1,(.fn 83 [])),(4,(.bool t2)),(7,(.int .i64 (s1.length:Int))),(8,(.int .i64 t3))]∧H1=H) h ⟨rfl,rfl⟩ ?_
 rintro K' ⟨t2,t3⟩ st e H ⟨rfl,rfl⟩ h hN hB hR hX
 rw [cL.eq_1] at h
 refine aA ?_
 refine bZ h (fun hy1 h=> ?_) fun hy1 h=> ?_
 · obtain ⟨x4,aV,h⟩:=aj h
   refine aM aV ?_
   obtain ⟨r5,aY,h⟩:=aj h
   refine bx aq (wO aY) ?_
   refine aA ?_
   refine bZ h (fun aX h=> ?_) fun aX h=> ?_
   · refine aA ?_
     obtain rfl:=aC h
     exact hX _ _ _ _ _ ez aL aq (kr _ (hR _ rfl))
   · refine aA ?_
     obtain rfl:=aC h
     exact hN _ rfl _ _ _ _ aL aq ⟨rfl,rfl⟩
 · refine aA ?_
   obtain rfl:=aC h
   exact hX _ _ _ _ _ ez WE.nil aq (dV _ (hB _ rfl))
theorem u0 {F:Nat} {s1:List UInt8} {H0:AH} {aI:Bool} (h:gj F s1=some aI):
 az Tryz.prog 50 [(.str s1),(.fn 83 [])] H0 fun v H'=>v=(.bool aI)∧H'=H0:=by
 refine dz wQ oV fun hcl K0 aN=> ?_
 rw [gj.eq_1] at h
 refine aA ?_
 obtain ⟨o8,bk,h⟩:=aj h
 refine bS aq (rB bk ?_ ?_)
 · rintro ⟨⟩ rfl
   try dsimp only at h
   refine aA ?_
   obtain rfl:=aC h
   exact aN _ _ _ bE (aH hcl (bA bC (.bool true)) bD bu ⟨rfl,rfl⟩)
 · rintro r7 rfl
   try dsimp only at h
   refine aA ?_
   obtain rfl:=aC h
   exact aN _ _ _ bE (aH hcl (bA bC (.bool r7)) bD bu ⟨rfl,rfl⟩)
abbrev oW:au:=(.rg [(av 3 0),(ai 4 (.bin .neq (.t 3) (.c (.str [])))),(av 5 4),(aB 6 (.mv (.t 0)) 5 true),(aB 7 (.ixs (.t 6) (.c (.int .i64 0))) 5 true),(aB 8 (.bin .neq (.t 7) (.c (b8 45))) 5 true),(ai 9 (.pick (.t 5) (.t 8) (.c (.bool false)))),(av 10 9),(aB 11 (.mv (.t 0)) 10 true),(aB 12 (.mv (.t 0)) 10 true),(aB 13 (.lens (.t 12)) 10 true),(aB 14 (.bin .sub (.t 13) (.c (.int .i64 1))) 10 true),(aB 15 (.ixs (.t 11) (.t 14)) 10 true),(aB 16 (.bin .neq (.t 15) (.c (b8 45))) 10 true),(ai 17 (.pick (.t 10) (.t 16) (.c (.bool false)))),(av 18 17),(aB 19 (.mv (.t 0)) 18 true),(aB 20 (.call (.c (.fn 50 [])) [(.t 19),(.c (.fn 83 []))]) 18 true),(ai 21 (.pick (.t 18) (.t 20) (.c (.bool false)))),(aP 2 21)])
abbrev A8:au:=(.seq (.rg [(ai 2 (.aT (.c (.bool false))))]) (.seq (.sem (erase oW)) .ret))
theorem A9:bw Tryz.prog 69 22 [(.tmp 2)] (erase A8):=⟨Tryz.f69,_,rfl,by decide,rfl,by kernel_rfl,rfl,rfl⟩
abbrev sV:List Nat:=[0,2]
def jo (F:Nat) (s1:List UInt8):Option (Bool):=
 (if (!decide (s1=([]:List UInt8))) then
  (idx s1 0).bind fun x2=>
  (if (!decide (x2=45)) then
   (idx s1 (IntKind.wrap .i64 ((s1.length:Int) - 1))).bind fun x3=>
   (if (!decide (x3=45)) then
    (gj F s1).bind fun r4=>some r4
   else
    some false)
  else
   some false)
 else
  some false)
def kF (F:Nat) (s1:List UInt8):Option (Bool):=
 (jo F s1).bind fun t6=>
 some t6
theorem u6 {F:Nat} {s1:List UInt8} {H:AH} {K:Exit→Env→AH→Prop} {t5:Bool}
 (h:jo F s1=some t5)
 (kn:K .normal [(2,(.bool t5))] H):
 AX Tryz.prog sV 22 H.length (erase oW) K [(0,(.str s1)),(2,(.bool false))] H:=by
 refine cG fun K' hK=> ?_
 rw [jo.eq_1] at h
 refine aA ?_
 refine cw h (fun hy1 h=> ?_) fun hy1 h=> ?_
 · obtain ⟨x2,aV,h⟩:=aj h
   refine aM (aK hy1 aV) ?_
   refine cw h (fun aY h=> ?_) fun aY h=> ?_
   · obtain ⟨x3,aX,h⟩:=aj h
     refine aM (aK aY aX) ?_
     refine cw h (fun bk h=> ?_) fun bk h=> ?_
     · refine aM bk ?_
       obtain ⟨r4,cj,h⟩:=aj h
       refine bx aq (u0 cj) ?_
       refine aA ?_
       obtain rfl:=aC h
       exact hK _ _ _ _ _ aL aq kn
     · refine aM bk ?_
       obtain rfl:=aC h
       exact hK _ _ _ _ _ aL aq kn
   · refine aM aY ?_
     obtain rfl:=aC h
     exact hK _ _ _ _ _ aL aq kn
 · refine aM hy1 ?_
   obtain rfl:=aC h
   exact hK _ _ _ _ _ aL aq kn
theorem zL {F:Nat} {s1:List UInt8} {H0:AH} {aI:Bool} (h:kF F s1=some aI):
 az Tryz.prog 69 [(.str s1)] H0 fun v H'=>v=(.bool aI)∧H'=H0:=by
 refine dz A9 sV fun hcl K0 aN=> ?_
 rw [kF.eq_1] at h
 refine aA ?_
 obtain ⟨t6,cv,h⟩:=aj h
 refine bS aq (u6 cv ?_)
 refine aA ?_
 obtain rfl:=aC h
 exact aN _ _ _ bE (aH hcl (bA bC (.bool t6)) bD bu ⟨rfl,rfl⟩)
abbrev wR:au:=(.seq (.rg [(ai 2 (.aT (.c (.bool false))))]) (.seq (.rg [(av 3 0),(ai 4 (.call (.c (.fn 69 [])) [(.t 3)])),(ai 5 (.un .not (.t 4))),(aP 2 5)]) .ret))
theorem wS:bw Tryz.prog 68 6 [(.tmp 2)] (erase wR):=⟨Tryz.f68,_,rfl,by decide,rfl,by kernel_rfl,rfl,rfl⟩
abbrev wT:List Nat:=[0,2]
def gl (F:Nat) (x1:List UInt8):Option (Bool):=
 (kF F x1).bind fun r2=>some (!r2)
theorem u7 {F:Nat} {x1:List UInt8} {H0:AH} {aI:Bool} (h:gl F x1=some aI):
 az Tryz.prog 68 [(.str x1)] H0 fun v H'=>v=(.bool aI)∧H'=H0:=by
 refine dz wS wT fun hcl K0 aN=> ?_
 rw [gl.eq_1] at h
 refine aA ?_
 obtain ⟨r2,hy1,h⟩:=aj h
 refine bx aq (zL hy1) ?_
 refine aA ?_
 obtain rfl:=aC h
 exact aN _ _ _ bE (aH hcl (bA bC (.bool (!r2))) bD bu ⟨rfl,rfl⟩)
abbrev gm:au:=(.seq (.rg [(ai 9 (.bin .lss (.t 8) (.t 7)))]) (.seq (.cond (.t 9) .skip (.exit 0)) (.seq (.blk 1 (.seq (.rg [(av 10 8),(aP 5 10)]) (.seq (.rg [(av 11 1),(av 12 0),(av 13 5),(ai 14 (.lF 1 (.t 12) (.t 13))),(ai 15 (.ld (.t 14) none)),(ai 16 (.call (.t 11) [(.t 15)]))]) (.cond (.t 16) (.seq (.rg [(av 17 5),(aP 4 17)]) .ret) .skip)))) (.rg [(ai 18 (.bin .add (.t 8) (.c (.int .i64 1)))),(av 8 18)]))))
abbrev pY:au:=(.seq (.rg [(ai 4 (.aT (.c (.int .i64 0))))]) (.seq (.seq (.rg [(av 6 0),(ai 7 (.len (.t 6))),(ai 8 (.mv (.c (.int .i64 0))))]) (.blk 0 (.loop (erase gm)))) (.seq (.rg [(ai 4 (.aT (.c (.int .i64 (-1)))))]) .ret)))
theorem pZ:bw Tryz.prog 70 19 [(.tmp 4)] (erase pY):=⟨Tryz.f70,_,rfl,by decide,rfl,by kernel_rfl,rfl,rfl⟩
abbrev jq:List Nat:=[0,1,4,5,7,8,9,16]
def bV (F:Nat) (s1:List (List UInt8)):(Int×Int)→Option (St Int Unit (Int×Int))
 |(t2,t3)=>
  (if (decide (t3<(s1.length:Int))) then
   (idx s1 t3).bind fun x4=>
   (gl F x4).bind fun r5=>
   (if r5 then
    some (.ret t3)
   else
    some (.cu (t2,(IntKind.wrap .i64 (t3+1)))))
  else
   some (.dU ()))
def eD (F:Nat) (s1:List (List UInt8)):Option (Int):=
 ((iter (bV F s1) F (0,0)).bind fun o8=>
 match o8 with
 | .inr ()=>
   some (-1)
 | .inl r7=>
   some r7)
theorem lZ {F:Nat} {t3:Int} {s1:List (List UInt8)} {t2:Int} {H:AH} {K:Exit→Env→AH→Prop} {o:(Int)⊕(Unit)}
 (h:iter (bV F s1) F (t2,t3)=some o)
 (dV:∀o':Unit,o= .inr o'→K (.exit 0) [] H)
 (kr:∀o':Int,o= .inl o'→K .ret [(4,(.int .i64 o'))] H):
 AX Tryz.prog jq 19 H.length (.loop (erase gm)) K [(0,(.sl .n 1 (ml AV.str s1))),(1,(.fn 68 [])),(4,(.int .i64 t2)),(7,(.int .i64 (s1.length:Int))),(8,(.int .i64 t3))] H:=by
 refine jM (fun s e H1=>match s with|(t2,t3)=>e=[(0,(.sl .n 1 (ml AV.str s1))),(1,(.fn 68 [])),(4,(.int .i64 t2)),(7,(.int .i64 (s1.length:Int))),(8,(.int .i64 t3))]∧H1=H) h ⟨rfl,rfl⟩ ?_
 rintro K' ⟨t2,t3⟩ st e H ⟨rfl,rfl⟩ h hN hB hR hX
 rw [bV.eq_1] at h
 refine aA ?_
 refine bZ h (fun hy1 h=> ?_) fun hy1 h=> ?_
 · obtain ⟨x4,aV,h⟩:=aj h
   refine aM aV ?_
   obtain ⟨r5,aY,h⟩:=aj h
   refine bx aq (u7 aY) ?_
   refine aA ?_
   refine bZ h (fun aX h=> ?_) fun aX h=> ?_
   · refine aA ?_
     obtain rfl:=aC h
     exact hX _ _ _ _ _ ez aL aq (kr _ (hR _ rfl))
   · refine aA ?_
     obtain rfl:=aC h
     exact hN _ rfl _ _ _ _ aL aq ⟨rfl,rfl⟩
 · refine aA ?_
   obtain rfl:=aC h
   exact hX _ _ _ _ _ ez WE.nil aq (dV _ (hB _ rfl))
theorem oX {F:Nat} {s1:List (List UInt8)} {H0:AH} {aI:Int} (h:eD F s1=some aI):
 az Tryz.prog 70 [(.sl .n 1 (ml AV.str s1)),(.fn 68 [])] H0 fun v H'=>v=(.int .i64 aI)∧H'=H0:=by
 refine dz pZ jq fun hcl K0 aN=> ?_
 rw [eD.eq_1] at h
 refine aA ?_
 obtain ⟨o8,bk,h⟩:=aj h
 refine bS aq (lZ bk ?_ ?_)
 · rintro ⟨⟩ rfl
   try dsimp only at h
   refine aA ?_
   obtain rfl:=aC h
   exact aN _ _ _ bE (aH hcl (bA bC (.int .i64 (-1))) bD bu ⟨rfl,rfl⟩)
 · rintro r7 rfl
   try dsimp only at h
   refine aA ?_
   obtain rfl:=aC h
   exact aN _ _ _ bE (aH hcl (bA bC (.int .i64 r7)) bD bu ⟨rfl,rfl⟩)
abbrev mP:au:=(.seq (.rg [(ai 4 (.aT (.c (.bool false))))]) (.seq (.rg [(av 5 0),(av 6 1),(ai 7 (.call (.c (.fn 70 [])) [(.t 5),(.t 6)])),(ai 8 (.bin .geq (.t 7) (.c (.int .i64 0)))),(aP 4 8)]) .ret))
theorem mQ:bw Tryz.prog 54 9 [(.tmp 4)] (erase mP):=⟨Tryz.f54,_,rfl,by decide,rfl,by kernel_rfl,rfl,rfl⟩
abbrev mR:List Nat:=[0,1,4]
def cE (F:Nat) (s1:List (List UInt8)):Option (Bool):=
 (eD F s1).bind fun r2=>some (decide (0≤r2))
theorem l5 {F:Nat} {s1:List (List UInt8)} {H0:AH} {aI:Bool} (h:cE F s1=some aI):
 az Tryz.prog 54 [(.sl .n 1 (ml AV.str s1)),(.fn 68 [])] H0 fun v H'=>v=(.bool aI)∧H'=H0:=by
 refine dz mQ mR fun hcl K0 aN=> ?_
 rw [cE.eq_1] at h
 refine aA ?_
 obtain ⟨r2,hy1,h⟩:=aj h
 refine bx aq (oX hy1) ?_
 refine aA ?_
 obtain rfl:=aC h
 exact aN _ _ _ bE (aH hcl (bA bC (.bool (decide (0≤r2)))) bD bu ⟨rfl,rfl⟩)
abbrev ny:au:=(.rg [(av 4 0),(ai 5 (.lens (.t 4))),(ai 6 (.bin .gtr (.t 5) (.c (.int .i64 1)))),(av 7 6),(aB 8 (.mv (.t 0)) 7 true),(aB 9 (.ixs (.t 8) (.c (.int .i64 0))) 7 true),(aB 10 (.bin .eql (.t 9) (.c (b8 91))) 7 true),(ai 11 (.pick (.t 7) (.t 10) (.c (.bool false)))),(av 12 11),(aB 13 (.mv (.t 0)) 12 true),(aB 14 (.mv (.t 0)) 12 true),(aB 15 (.lens (.t 14)) 12 true),(aB 16 (.bin .sub (.t 15) (.c (.int .i64 1))) 12 true),(aB 17 (.ixs (.t 13) (.t 16)) 12 true),(aB 18 (.bin .eql (.t 17) (.c (b8 93))) 12 true),(ai 19 (.pick (.t 12) (.t 18) (.c (.bool false))))])
abbrev nH:au:=(.rg [(av 26 3),(ai 27 (.len (.t 26))),(ai 28 (.bin .eql (.t 27) (.c (.int .i64 4)))),(av 29 28),(aB 30 (.mv (.t 3)) 29 true),(aB 31 (.call (.c (.fn 54 [])) [(.t 30),(.c (.fn 66 []))]) 29 true),(aB 32 (.un .not (.t 31)) 29 true),(ai 33 (.pick (.t 29) (.t 32) (.c (.bool false)))),(aP 2 33)])
abbrev zM:au:=(.seq (.rg [(ai 2 (.aT (.c (.bool false))))]) (.seq (.seq (.sem (erase ny)) (.cond (.t 19) (.seq (.rg [(av 20 0),(av 21 0),(ai 22 (.lens (.t 21))),(ai 23 (.bin .sub (.t 22) (.c (.int .i64 1)))),(ai 24 (.AD (.t 20) (some (.c (.int .i64 1))) (some (.t 23)))),(ai 25 (.call (.c (.fn 55 [])) [(.t 24),(.c (.str [46]))])),(aP 3 25)]) (.seq (.sem (erase nH)) .ret)) .skip)) (.seq (.rg [(av 34 0),(ai 35 (.call (.c (.fn 55 [])) [(.t 34),(.c (.str [46]))])),(ai 36 (.call (.c (.fn 54 [])) [(.t 35),(.c (.fn 68 []))])),(ai 37 (.un .not (.t 36))),(aP 2 37)]) .ret)))
theorem zN:bw Tryz.prog 53 38 [(.tmp 2)] (erase zM):=⟨Tryz.f53,_,rfl,by decide,rfl,by kernel_rfl,rfl,rfl⟩
abbrev l6:List Nat:=[0,2,3,19]
def fC (s1:List UInt8):Option (Bool):=
 (if (decide (1<(s1.length:Int))) then
  (idx s1 0).bind fun x2=>
  (if (decide (x2=91)) then
   (idx s1 (IntKind.wrap .i64 ((s1.length:Int) - 1))).bind fun x3=>some (decide (x3=93))
  else
   some false)
 else
  some false)
def iH (F:Nat) (r7:List (List UInt8)):Option (Bool):=
 (if (decide ((r7.length:Int)=4)) then
  (cK F r7).bind fun r8=>some (!r8)
 else
  some false)
def jr (F:Nat) (s1:List UInt8):Option (Bool):=
 (fC s1).bind fun t5=>
 (if t5 then
  (sub s1 1 (IntKind.wrap .i64 ((s1.length:Int) - 1))).bind fun x6=>
  (strings_Split x6 ([46]:List UInt8)).bind fun r7=>(iH F r7).bind fun t10=>
  some t10
 else
  (strings_Split s1 ([46]:List UInt8)).bind fun sw=>(cE F sw).bind fun cm=>some (!cm))
theorem tI {s1:List UInt8} {H:AH} {K:Exit→Env→AH→Prop} {t4:Bool}
 (h:fC s1=some t4)
 (kn:K .normal [(0,(.str s1)),(19,(.bool t4))] H):
 AX Tryz.prog l6 38 H.length (erase ny) K [(0,(.str s1))] H:=by
 refine cG fun K' hK=> ?_
 rw [fC.eq_1] at h
 refine aA ?_
 refine cw h (fun hy1 h=> ?_) fun hy1 h=> ?_
 · obtain ⟨x2,aV,h⟩:=aj h
   refine aM (aK hy1 aV) ?_
   refine cw h (fun aY h=> ?_) fun aY h=> ?_
   · obtain ⟨x3,aX,h⟩:=aj h
     refine aM (aK aY aX) ?_
     obtain rfl:=aC h
     exact hK _ _ _ _ _ aL aq kn
   · refine aM aY ?_
     obtain rfl:=aC h
     exact hK _ _ _ _ _ aL aq kn
 · refine aM hy1 ?_
   obtain rfl:=aC h
   exact hK _ _ _ _ _ aL aq kn
theorem tJ {F:Nat} {r7:List (List UInt8)} {H:AH} {K:Exit→Env→AH→Prop} {t9:Bool}
 (h:iH F r7=some t9)
 (kn:K .normal [(2,(.bool t9))] H):
 AX Tryz.prog l6 38 H.length (erase nH) K [(3,(.sl .n 1 (ml AV.str r7)))] H:=by
 refine cG fun K' hK=> ?_
 rw [iH.eq_1] at h
 refine aA ?_
 refine cw h (fun eV h=> ?_) fun eV h=> ?_
 · refine aM eV ?_
   obtain ⟨r8,de,h⟩:=aj h
   refine bx aq (mO de) ?_
   refine aA ?_
   obtain rfl:=aC h
   exact hK _ _ _ _ _ aL aq kn
 · refine aM eV ?_
   obtain rfl:=aC h
   exact hK _ _ _ _ _ aL aq kn
theorem ye {F:Nat} {s1:List UInt8} {H0:AH} {aI:Bool} (h:jr F s1=some aI):
 az Tryz.prog 53 [(.str s1)] H0 fun v H'=>v=(.bool aI)∧H'=H0:=by
 refine dz zN l6 fun hcl K0 aN=> ?_
 rw [jr.eq_1] at h
 refine aA ?_
 obtain ⟨t5,bk,h⟩:=aj h
 refine bS aq (tI bk ?_)
 refine aA ?_
 refine bZ h (fun cj h=> ?_) fun cj h=> ?_
 · obtain ⟨x6,cv,h⟩:=aj h
   refine aM cv ?_
   obtain ⟨r7,cB,h⟩:=aj h
   refine bx aq (fS (s1:=x6) (s2:=([46]:List UInt8)) cB) ?_
   refine aA ?_
   obtain ⟨t10,dx,h⟩:=aj h
   refine bS aq (tJ dx ?_)
   refine aA ?_
   obtain rfl:=aC h
   exact aN _ _ _ bE (aH hcl (bA bC (.bool t10)) bD bu ⟨rfl,rfl⟩)
 · refine aA ?_
   obtain ⟨sw,dh,h⟩:=aj h
   refine bx aq (fS (s1:=s1) (s2:=([46]:List UInt8)) dh) ?_
   refine aA ?_
   obtain ⟨cm,gh,h⟩:=aj h
   refine bx aq (l5 gh) ?_
   refine aA ?_
   obtain rfl:=aC h
   exact aN _ _ _ bE (aH hcl (bA bC (.bool (!cm))) bD bu ⟨rfl,rfl⟩)
abbrev wU:au:=(.seq (.rg [(ai 2 (.aT (.c (.bool false))))]) (.seq (.rg [(av 3 0),(ai 4 (.lens (.t 3))),(ai 5 (.bin .gtr (.t 4) (.c (.int .i64 63)))),(aP 2 5)]) .ret))
theorem wV:bw Tryz.prog 52 6 [(.tmp 2)] (erase wU):=⟨Tryz.f52,_,rfl,by decide,rfl,by kernel_rfl,rfl,rfl⟩
abbrev wW:List Nat:=[0,2]
def gp (x1:List UInt8):Option (Bool):=
 some (decide (63<(x1.length:Int)))
theorem u9 {x1:List UInt8} {H0:AH} {aI:Bool} (h:gp x1=some aI):
 az Tryz.prog 52 [(.str x1)] H0 fun v H'=>v=(.bool aI)∧H'=H0:=by
 refine dz wV wW fun hcl K0 aN=> ?_
 rw [gp.eq_1] at h
 refine aA ?_
 obtain rfl:=aC h
 exact aN _ _ _ bE (aH hcl (bA bC (.bool (decide (63<(x1.length:Int))))) bD bu ⟨rfl,rfl⟩)
abbrev fT:au:=(.seq (.rg [(ai 9 (.bin .lss (.t 8) (.t 7)))]) (.seq (.cond (.t 9) .skip (.exit 0)) (.seq (.blk 1 (.seq (.rg [(av 10 8),(aP 5 10)]) (.seq (.rg [(av 11 1),(av 12 0),(av 13 5),(ai 14 (.lF 1 (.t 12) (.t 13))),(ai 15 (.ld (.t 14) none)),(ai 16 (.call (.t 11) [(.t 15)]))]) (.cond (.t 16) (.seq (.rg [(av 17 5),(aP 4 17)]) .ret) .skip)))) (.rg [(ai 18 (.bin .add (.t 8) (.c (.int .i64 1)))),(av 8 18)]))))
abbrev oY:au:=(.seq (.rg [(ai 4 (.aT (.c (.int .i64 0))))]) (.seq (.seq (.rg [(av 6 0),(ai 7 (.len (.t 6))),(ai 8 (.mv (.c (.int .i64 0))))]) (.blk 0 (.loop (erase fT)))) (.seq (.rg [(ai 4 (.aT (.c (.int .i64 (-1)))))]) .ret)))
theorem oZ:bw Tryz.prog 70 19 [(.tmp 4)] (erase oY):=⟨Tryz.f70,_,rfl,by decide,rfl,by kernel_rfl,rfl,rfl⟩
abbrev iZ:List Nat:=[0,1,4,5,7,8,9,16]
def bT (s1:List (List UInt8)):(Int×Int)→Option (St Int Unit (Int×Int))
 |(t2,t3)=>
  (if (decide (t3<(s1.length:Int))) then
   (idx s1 t3).bind fun x4=>
   (gp x4).bind fun r5=>
   (if r5 then
    some (.ret t3)
   else
    some (.cu (t2,(IntKind.wrap .i64 (t3+1)))))
  else
   some (.dU ()))
def eu (F:Nat) (s1:List (List UInt8)):Option (Int):=
 ((iter (bT s1) F (0,0)).bind fun o8=>
 match o8 with
 | .inr ()=>
   some (-1)
 | .inl r7=>
   some r7)
theorem lf {F:Nat} {t3:Int} {s1:List (List UInt8)} {t2:Int} {H:AH} {K:Exit→Env→AH→Prop} {o:(Int)⊕(Unit)}
 (h:iter (bT s1) F (t2,t3)=some o)
 (dV:∀o':Unit,o= .inr o'→K (.exit 0) [] H)
 (kr:∀o':Int,o= .inl o'→K .ret [(4,(.int .i64 o'))] H):
 AX Tryz.prog iZ 19 H.length (.loop (erase fT)) K [(0,(.sl .n 1 (ml AV.str s1))),(1,(.fn 52 [])),(4,(.int .i64 t2)),(7,(.int .i64 (s1.length:Int))),(8,(.int .i64 t3))] H:=by
 refine jM (fun s e H1=>match s with|(t2,t3)=>e=[(0,(.sl .n 1 (ml AV.str s1))),(1,(.fn 52 [])),(4,(.int .i64 t2)),(7,(.int .i64 (s1.length:Int))),(8,(.int .i64 t3))]∧H1=H) h ⟨rfl,rfl⟩ ?_
 rintro K' ⟨t2,t3⟩ st e H ⟨rfl,rfl⟩ h hN hB hR hX
 rw [bT.eq_1] at h
 refine aA ?_
 refine bZ h (fun hy1 h=> ?_) fun hy1 h=> ?_
 · obtain ⟨x4,aV,h⟩:=aj h
   refine aM aV ?_
   obtain ⟨r5,aY,h⟩:=aj h
   refine bx aq (u9 aY) ?_
   refine aA ?_
   refine bZ h (fun aX h=> ?_) fun aX h=> ?_
   · refine aA ?_
     obtain rfl:=aC h
     exact hX _ _ _ _ _ ez aL aq (kr _ (hR _ rfl))
   · refine aA ?_
     obtain rfl:=aC h
     exact hN _ rfl _ _ _ _ aL aq ⟨rfl,rfl⟩
 · refine aA ?_
   obtain rfl:=aC h
   exact hX _ _ _ _ _ ez WE.nil aq (dV _ (hB _ rfl))
theorem ot {F:Nat} {s1:List (List UInt8)} {H0:AH} {aI:Int} (h:eu F s1=some aI):
 az Tryz.prog 70 [(.sl .n 1 (ml AV.str s1)),(.fn 52 [])] H0 fun v H'=>v=(.int .i64 aI)∧H'=H0:=by
 refine dz oZ iZ fun hcl K0 aN=> ?_
 rw [eu.eq_1] at h
 refine aA ?_
 obtain ⟨o8,bk,h⟩:=aj h
 refine bS aq (lf bk ?_ ?_)
 · rintro ⟨⟩ rfl
   try dsimp only at h
   refine aA ?_
   obtain rfl:=aC h
   exact aN _ _ _ bE (aH hcl (bA bC (.int .i64 (-1))) bD bu ⟨rfl,rfl⟩)
 · rintro r7 rfl
   try dsimp only at h
   refine aA ?_
   obtain rfl:=aC h
   exact aN _ _ _ bE (aH hcl (bA bC (.int .i64 r7)) bD bu ⟨rfl,rfl⟩)
abbrev l7:au:=(.seq (.rg [(ai 4 (.aT (.c (.bool false))))]) (.seq (.rg [(av 5 0),(av 6 1),(ai 7 (.call (.c (.fn 70 [])) [(.t 5),(.t 6)])),(ai 8 (.bin .geq (.t 7) (.c (.int .i64 0)))),(aP 4 8)]) .ret))
theorem l8:bw Tryz.prog 54 9 [(.tmp 4)] (erase l7):=⟨Tryz.f54,_,rfl,by decide,rfl,by kernel_rfl,rfl,rfl⟩
abbrev l9:List Nat:=[0,1,4]
def cz (F:Nat) (s1:List (List UInt8)):Option (Bool):=
 (eu F s1).bind fun r2=>some (decide (0≤r2))
theorem lg {F:Nat} {s1:List (List UInt8)} {H0:AH} {aI:Bool} (h:cz F s1=some aI):
 az Tryz.prog 54 [(.sl .n 1 (ml AV.str s1)),(.fn 52 [])] H0 fun v H'=>v=(.bool aI)∧H'=H0:=by
 refine dz l8 l9 fun hcl K0 aN=> ?_
 rw [cz.eq_1] at h
 refine aA ?_
 obtain ⟨r2,hy1,h⟩:=aj h
 refine bx aq (ot hy1) ?_
 refine aA ?_
 obtain rfl:=aC h
 exact aN _ _ _ bE (aH hcl (bA bC (.bool (decide (0≤r2)))) bD bu ⟨rfl,rfl⟩)
abbrev nI:au:=(.rg [(av 4 0),(ai 5 (.lens (.t 4))),(ai 6 (.bin .leq (.t 5) (.c (.int .i64 255)))),(av 7 6),(aB 8 (.mv (.t 0)) 7 true),(aB 9 (.call (.c (.fn 53 [])) [(.t 8)]) 7 true),(ai 10 (.pick (.t 7) (.t 9) (.c (.bool false)))),(av 11 10),(aB 12 (.mv (.t 0)) 11 true),(aB 13 (.call (.c (.fn 55 [])) [(.t 12),(.c (.str [46]))]) 11 true),(aB 14 (.mv (.t 3)) 11 true),(aB 15 (.call (.c (.fn 54 [])) [(.t 13),(.t 14)]) 11 true),(aB 16 (.un .not (.t 15)) 11 true),(ai 17 (.pick (.t 11) (.t 16) (.c (.bool false)))),(aP 2 17)])
abbrev zO:au:=(.seq (.rg [(ai 2 (.aT (.c (.bool false))))]) (.seq (.rg [(ai 3 (.aT (.c (.fn 52 []))))]) (.seq (.sem (erase nI)) .ret)))
theorem zP:bw Tryz.prog 42 18 [(.tmp 2)] (erase zO):=⟨Tryz.f42,_,rfl,by decide,rfl,by kernel_rfl,rfl,rfl⟩
abbrev rC:List Nat:=[0,2,3]
def iI (F:Nat) (s1:List UInt8):Option (Bool):=
 (if (decide ((s1.length:Int)≤255)) then
  (jr F s1).bind fun r2=>
  (if r2 then
   (strings_Split s1 ([46]:List UInt8)).bind fun r3=>(cz F r3).bind fun r4=>some (!r4)
  else
   some false)
 else
  some false)
def js (F:Nat) (s1:List UInt8):Option (Bool):=
 (iI F s1).bind fun t6=>
 some t6
theorem tK {F:Nat} {s1:List UInt8} {H:AH} {K:Exit→Env→AH→Prop} {t5:Bool}
 (h:iI F s1=some t5)
 (kn:K .normal [(2,(.bool t5))] H):
 AX Tryz.prog rC 18 H.length (erase nI) K [(0,(.str s1)),(2,(.bool false)),(3,(.fn 52 []))] H:=by
 refine cG fun K' hK=> ?_
 rw [iI.eq_1] at h
 refine aA ?_
 refine cw h (fun hy1 h=> ?_) fun hy1 h=> ?_
 · refine aM hy1 ?_
   obtain ⟨r2,aV,h⟩:=aj h
   refine bx aq (ye aV) ?_
   refine aA ?_
   refine cw h (fun aY h=> ?_) fun aY h=> ?_
   · refine aM aY ?_
     obtain ⟨r3,aX,h⟩:=aj h
     refine bx aq (fS (s1:=s1) (s2:=([46]:List UInt8)) aX) ?_
     refine aA ?_
     obtain ⟨r4,bk,h⟩:=aj h
     refine bx aq (lg bk) ?_
     refine aA ?_
     obtain rfl:=aC h
     exact hK _ _ _ _ _ aL aq kn
   · refine aM aY ?_
     obtain rfl:=aC h
     exact hK _ _ _ _ _ aL aq kn
 · refine aM hy1 ?_
   obtain rfl:=aC h
   exact hK _ _ _ _ _ aL aq kn
theorem yf {F:Nat} {s1:List UInt8} {H0:AH} {aI:Bool} (h:js F s1=some aI):
 az Tryz.prog 42 [(.str s1)] H0 fun v H'=>v=(.bool aI)∧H'=H0:=by
 refine dz zP rC fun hcl K0 aN=> ?_
 rw [js.eq_1] at h
 refine aA ?_
 obtain ⟨t6,cj,h⟩:=aj h
 refine bS aq (tK cj ?_)
 refine aA ?_
 obtain rfl:=aC h
 exact aN _ _ _ bE (aH hcl (bA bC (.bool t6)) bD bu ⟨rfl,rfl⟩)
abbrev qs:au:=(.rg [(av 3 0),(ai 4 (.call (.c (.fn 72 [])) [(.t 3)])),(av 5 4),(aB 6 (.mv (.t 0)) 5 false),(aB 7 (.call (.c (.fn 73 [])) [(.c (.str [33,35,36,37,38,39,42,43,45,47,61,63,94,95,96,123,124,125,126])),(.t 6)]) 5 false),(aB 8 (.bin .geq (.t 7) (.c (.int .i64 0))) 5 false),(ai 9 (.pick (.t 5) (.c (.bool true)) (.t 8))),(aP 2 9)])
abbrev DF:au:=(.seq (.rg [(ai 2 (.aT (.c (.bool false))))]) (.seq (.sem (erase qs)) .ret))
theorem DG:bw Tryz.prog 57 10 [(.tmp 2)] (erase DF):=⟨Tryz.f57,_,rfl,by decide,rfl,by kernel_rfl,rfl,rfl⟩
abbrev vb:List Nat:=[0,2]
def ou (c1:UInt8):Option (Bool):=
 (gL c1).bind fun r2=>
 (if r2 then
  some true
 else
  (strings_IndexByte ([33,35,36,37,38,39,42,43,45,47,61,63,94,95,96,123,124,125,126]:List UInt8) c1).bind fun r3=>some (decide (0≤r3)))
def mb (c1:UInt8):Option (Bool):=
 (ou c1).bind fun t5=>
 some t5
theorem wX {c1:UInt8} {H:AH} {K:Exit→Env→AH→Prop} {t4:Bool}
 (h:ou c1=some t4)
 (kn:K .normal [(2,(.bool t4))] H):
 AX Tryz.prog vb 10 H.length (erase qs) K [(0,(b8 c1)),(2,(.bool false))] H:=by
 refine cG fun K' hK=> ?_
 rw [ou.eq_1] at h
 refine aA ?_
 obtain ⟨r2,hy1,h⟩:=aj h
 refine bx aq (qp hy1) ?_
 refine aA ?_
 refine cw h (fun aV h=> ?_) fun aV h=> ?_
 · refine aM aV ?_
   obtain rfl:=aC h
   exact hK _ _ _ _ _ aL aq kn
 · refine aM aV ?_
   obtain ⟨r3,aY,h⟩:=aj h
   refine bx aq (qw (s1:=([33,35,36,37,38,39,42,43,45,47,61,63,94,95,96,123,124,125,126]:List UInt8)) (c2:=c1) aY) ?_
   refine aA ?_
   obtain rfl:=aC h
   exact hK _ _ _ _ _ aL aq kn
theorem Ba {c1:UInt8} {H0:AH} {aI:Bool} (h:mb c1=some aI):
 az Tryz.prog 57 [(b8 c1)] H0 fun v H'=>v=(.bool aI)∧H'=H0:=by
 refine dz DG vb fun hcl K0 aN=> ?_
 rw [mb.eq_1] at h
 refine aA ?_
 obtain ⟨t5,aX,h⟩:=aj h
 refine bS aq (wX aX ?_)
 refine aA ?_
 obtain rfl:=aC h
 exact aN _ _ _ bE (aH hcl (bA bC (.bool t5)) bD bu ⟨rfl,rfl⟩)
abbrev jQ:au:=(.seq (.rg [(ai 9 (.bin .lss (.t 8) (.t 7)))]) (.seq (.cond (.t 9) .skip (.exit 0)) (.seq (.blk 1 (.seq (.rg [(av 10 8),(aP 5 10)]) (.seq (.rg [(av 11 1),(av 12 0),(av 13 5),(ai 14 (.ixs (.t 12) (.t 13))),(ai 15 (.call (.t 11) [(.t 14)])),(ai 16 (.un .not (.t 15)))]) (.cond (.t 16) (.seq (.rg [(ai 4 (.aT (.c (.bool false))))]) .ret) .skip)))) (.rg [(ai 17 (.bin .add (.t 8) (.c (.int .i64 1)))),(av 8 17)]))))
abbrev ve:au:=(.seq (.rg [(ai 4 (.aT (.c (.bool false))))]) (.seq (.seq (.rg [(av 6 0),(ai 7 (.lens (.t 6))),(ai 8 (.mv (.c (.int .i64 0))))]) (.blk 0 (.loop (erase jQ)))) (.seq (.rg [(ai 4 (.aT (.c (.bool true))))]) .ret)))
theorem vf:bw Tryz.prog 50 18 [(.tmp 4)] (erase ve):=⟨Tryz.f50,_,rfl,by decide,rfl,by kernel_rfl,rfl,rfl⟩
abbrev nJ:List Nat:=[0,1,4,5,7,8,9,16]
def cC (s1:List UInt8):(Bool×Int)→Option (St Bool Unit (Bool×Int))
 |(t2,t3)=>
  (if (decide (t3<(s1.length:Int))) then
   (idx s1 t3).bind fun x4=>
   (mb x4).bind fun r5=>
   (if (!r5) then
    some (.ret false)
   else
    some (.cu (t2,(IntKind.wrap .i64 (t3+1)))))
  else
   some (.dU ()))
def fD (F:Nat) (s1:List UInt8):Option (Bool):=
 ((iter (cC s1) F (false,0)).bind fun o8=>
 match o8 with
 | .inr ()=>
   some true
 | .inl r7=>
   some r7)
theorem qz {F:Nat} {t3:Int} {s1:List UInt8} {t2:Bool} {H:AH} {K:Exit→Env→AH→Prop} {o:(Bool)⊕(Unit)}
 (h:iter (cC s1) F (t2,t3)=some o)
 (dV:∀o':Unit,o= .inr o'→K (.exit 0) [] H)
 (kr:∀o':Bool,o= .inl o'→K .ret [(4,(.bool o'))] H):
 AX Tryz.prog nJ 18 H.length (.loop (erase jQ)) K [(0,(.str s1)),(1,(.fn 57 [])),(4,(.bool t2)),(7,(.int .i64 (s1.length:Int))),(8,(.int .i64 t3))] H:=by
 refine jM (fun s e H1=>match s with|(t2,t3)=>e=[(0,(.str s1)),(1,(.fn 57 [])),(4,(.bool t2)),(7,(.int .i64 (s1.length:Int))),(8,(.int .i64 t3))]∧H1=H) h ⟨rfl,rfl⟩ ?_
 rintro K' ⟨t2,t3⟩ st e H ⟨rfl,rfl⟩ h hN hB hR hX
 rw [cC.eq_1] at h
 refine aA ?_
 refine bZ h (fun hy1 h=> ?_) fun hy1 h=> ?_
 · obtain ⟨x4,aV,h⟩:=aj h
   refine aM aV ?_
   obtain ⟨r5,aY,h⟩:=aj h
   refine bx aq (Ba aY) ?_
   refine aA ?_
   refine bZ h (fun aX h=> ?_) fun aX h=> ?_
   · refine aA ?_
     obtain rfl:=aC h
     exact hX _ _ _ _ _ ez aL aq (kr _ (hR _ rfl))
   · refine aA ?_
     obtain rfl:=aC h
     exact hN _ rfl _ _ _ _ aL aq ⟨rfl,rfl⟩
 · refine aA ?_
   obtain rfl:=aC h
   exact hX _ _ _ _ _ ez WE.nil aq (dV _ (hB _ rfl))
theorem tL {F:Nat} {s1:List UInt8} {H0:AH} {aI:Bool} (h:fD F s1=some aI):
 az Tryz.prog 50 [(.str s1),(.fn 57 [])] H0 fun v H'=>v=(.bool aI)∧H'=H0:=by
 refine dz vf nJ fun hcl K0 aN=> ?_
 rw [fD.eq_1] at h
 refine aA ?_
 obtain ⟨o8,bk,h⟩:=aj h
 refine bS aq (qz bk ?_ ?_)
 · rintro ⟨⟩ rfl
   try dsimp only at h
   refine aA ?_
   obtain rfl:=aC h
   exact aN _ _ _ bE (aH hcl (bA bC (.bool true)) bD bu ⟨rfl,rfl⟩)
 · rintro r7 rfl
   try dsimp only at h
   refine aA ?_
   obtain rfl:=aC h
   exact aN _ _ _ bE (aH hcl (bA bC (.bool r7)) bD bu ⟨rfl,rfl⟩)
abbrev mc:au:=(.rg [(av 3 0),(ai 4 (.bin .eql (.t 3) (.c (.str [])))),(av 5 4),(aB 6 (.mv (.t 0)) 5 false),(aB 7 (.call (.c (.fn 50 [])) [(.t 6),(.c (.fn 57 []))]) 5 false),(aB 8 (.un .not (.t 7)) 5 false),(ai 9 (.pick (.t 5) (.c (.bool true)) (.t 8))),(aP 2 9)])
abbrev yg:au:=(.seq (.rg [(ai 2 (.aT (.c (.bool false))))]) (.seq (.sem (erase mc)) .ret))
theorem yh:bw Tryz.prog 56 10 [(.tmp 2)] (erase yg):=⟨Tryz.f56,_,rfl,by decide,rfl,by kernel_rfl,rfl,rfl⟩
abbrev qt:List Nat:=[0,2]
def gM (F:Nat) (x1:List UInt8):Option (Bool):=
 (if (decide (x1=([]:List UInt8))) then
  some true
 else
  (fD F x1).bind fun r2=>some (!r2))
def iz (F:Nat) (x1:List UInt8):Option (Bool):=
 (gM F x1).bind fun t4=>
 some t4
theorem sB {F:Nat} {x1:List UInt8} {H:AH} {K:Exit→Env→AH→Prop} {t3:Bool}
 (h:gM F x1=some t3)
 (kn:K .normal [(2,(.bool t3))] H):
 AX Tryz.prog qt 10 H.length (erase mc) K [(0,(.str x1)),(2,(.bool false))] H:=by
 refine cG fun K' hK=> ?_
 rw [gM.eq_1] at h
 refine aA ?_
 refine cw h (fun hy1 h=> ?_) fun hy1 h=> ?_
 · refine aM hy1 ?_
   obtain rfl:=aC h
   exact hK _ _ _ _ _ aL aq kn
 · refine aM hy1 ?_
   obtain ⟨r2,aV,h⟩:=aj h
   refine bx aq (tL aV) ?_
   refine aA ?_
   obtain rfl:=aC h
   exact hK _ _ _ _ _ aL aq kn
theorem wY {F:Nat} {x1:List UInt8} {H0:AH} {aI:Bool} (h:iz F x1=some aI):
 az Tryz.prog 56 [(.str x1)] H0 fun v H'=>v=(.bool aI)∧H'=H0:=by
 refine dz yh qt fun hcl K0 aN=> ?_
 rw [iz.eq_1] at h
 refine aA ?_
 obtain ⟨t4,aY,h⟩:=aj h
 refine bS aq (sB aY ?_)
 refine aA ?_
 obtain rfl:=aC h
 exact aN _ _ _ bE (aH hcl (bA bC (.bool t4)) bD bu ⟨rfl,rfl⟩)
abbrev fE:au:=(.seq (.rg [(ai 9 (.bin .lss (.t 8) (.t 7)))]) (.seq (.cond (.t 9) .skip (.exit 0)) (.seq (.blk 1 (.seq (.rg [(av 10 8),(aP 5 10)]) (.seq (.rg [(av 11 1),(av 12 0),(av 13 5),(ai 14 (.lF 1 (.t 12) (.t 13))),(ai 15 (.ld (.t 14) none)),(ai 16 (.call (.t 11) [(.t 15)]))]) (.cond (.t 16) (.seq (.rg [(av 17 5),(aP 4 17)]) .ret) .skip)))) (.rg [(ai 18 (.bin .add (.t 8) (.c (.int .i64 1)))),(av 8 18)]))))
abbrev ov:au:=(.seq (.rg [(ai 4 (.aT (.c (.int .i64 0))))]) (.seq (.seq (.rg [(av 6 0),(ai 7 (.len (.t 6))),(ai 8 (.mv (.c (.int .i64 0))))]) (.blk 0 (.loop (erase fE)))) (.seq (.rg [(ai 4 (.aT (.c (.int .i64 (-1)))))]) .ret)))
theorem ow:bw Tryz.prog 70 19 [(.tmp 4)] (erase ov):=⟨Tryz.f70,_,rfl,by decide,rfl,by kernel_rfl,rfl,rfl⟩
abbrev iA:List Nat:=[0,1,4,5,7,8,9,16]
def bP (F:Nat) (s1:List (List UInt8)):(Int×Int)→Option (St Int Unit (Int×Int))
 |(t2,t3)=>
  (if (decide (t3<(s1.length:Int))) then
   (idx s1 t3).bind fun x4=>
   (iz F x4).bind fun r5=>
   (if r5 then
    some (.ret t3)
   else
    some (.cu (t2,(IntKind.wrap .i64 (t3+1)))))
  else
   some (.dU ()))
def dM (F:Nat) (s1:List (List UInt8)):Option (Int):=
 ((iter (bP F s1) F (0,0)).bind fun o8=>
 match o8 with
 | .inr ()=>
   some (-1)
 | .inl r7=>
   some r7)
theorem kO {F:Nat} {t3:Int} {s1:List (List UInt8)} {t2:Int} {H:AH} {K:Exit→Env→AH→Prop} {o:(Int)⊕(Unit)}
 (h:iter (bP F s1) F (t2,t3)=some o)
 (dV:∀o':Unit,o= .inr o'→K (.exit 0) [] H)
 (kr:∀o':Int,o= .inl o'→K .ret [(4,(.int .i64 o'))] H):
 AX Tryz.prog iA 19 H.length (.loop (erase fE)) K [(0,(.sl .n 1 (ml AV.str s1))),(1,(.fn 56 [])),(4,(.int .i64 t2)),(7,(.int .i64 (s1.length:Int))),(8,(.int .i64 t3))] H:=by
 refine jM (fun s e H1=>match s with|(t2,t3)=>e=[(0,(.sl .n 1 (ml AV.str s1))),(1,(.fn 56 [])),(4,(.int .i64 t2)),(7,(.int .i64 (s1.length:Int))),(8,(.int .i64 t3))]∧H1=H) h ⟨rfl,rfl⟩ ?_
 rintro K' ⟨t2,t3⟩ st e H ⟨rfl,rfl⟩ h hN hB hR hX
 rw [bP.eq_1] at h
 refine aA ?_
 refine bZ h (fun hy1 h=> ?_) fun hy1 h=> ?_
 · obtain ⟨x4,aV,h⟩:=aj h
   refine aM aV ?_
   obtain ⟨r5,aY,h⟩:=aj h
   refine bx aq (wY aY) ?_
   refine aA ?_
   refine bZ h (fun aX h=> ?_) fun aX h=> ?_
   · refine aA ?_
     obtain rfl:=aC h
     exact hX _ _ _ _ _ ez aL aq (kr _ (hR _ rfl))
   · refine aA ?_
     obtain rfl:=aC h
     exact hN _ rfl _ _ _ _ aL aq ⟨rfl,rfl⟩
 · refine aA ?_
   obtain rfl:=aC h
   exact hX _ _ _ _ _ ez WE.nil aq (dV _ (hB _ rfl))
theorem mS {F:Nat} {s1:List (List UInt8)} {H0:AH} {aI:Int} (h:dM F s1=some aI):
 az Tryz.prog 70 [(.sl .n 1 (ml AV.str s1)),(.fn 56 [])] H0 fun v H'=>v=(.int .i64 aI)∧H'=H0:=by
 refine dz ow iA fun hcl K0 aN=> ?_
 rw [dM.eq_1] at h
 refine aA ?_
 obtain ⟨o8,bk,h⟩:=aj h
 refine bS aq (kO bk ?_ ?_)
 · rintro ⟨⟩ rfl
   try dsimp only at h
   refine aA ?_
   obtain rfl:=aC h
   exact aN _ _ _ bE (aH hcl (bA bC (.int .i64 (-1))) bD bu ⟨rfl,rfl⟩)
 · rintro r7 rfl
   try dsimp only at h
   refine aA ?_
   obtain rfl:=aC h
   exact aN _ _ _ bE (aH hcl (bA bC (.int .i64 r7)) bD bu ⟨rfl,rfl⟩)
abbrev lq:au:=(.seq (.rg [(ai 4 (.aT (.c (.bool false))))]) (.seq (.rg [(av 5 0),(av 6 1),(ai 7 (.call (.c (.fn 70 [])) [(.t 5),(.t 6)])),(ai 8 (.bin .geq (.t 7) (.c (.int .i64 0)))),(aP 4 8)]) .ret))
theorem lu:bw Tryz.prog 54 9 [(.tmp 4)] (erase lq):=⟨Tryz.f54,_,rfl,by decide,rfl,by kernel_rfl,rfl,rfl⟩
abbrev lz:List Nat:=[0,1,4]
def cT (F:Nat) (s1:List (List UInt8)):Option (Bool):=
 (dM F s1).bind fun r2=>some (decide (0≤r2))
theorem kP {F:Nat} {s1:List (List UInt8)} {H0:AH} {aI:Bool} (h:cT F s1=some aI):
 az Tryz.prog 54 [(.sl .n 1 (ml AV.str s1)),(.fn 56 [])] H0 fun v H'=>v=(.bool aI)∧H'=H0:=by
 refine dz lu lz fun hcl K0 aN=> ?_
 rw [cT.eq_1] at h
 refine aA ?_
 obtain ⟨r2,hy1,h⟩:=aj h
 refine bx aq (mS hy1) ?_
 refine aA ?_
 obtain rfl:=aC h
 exact aN _ _ _ bE (aH hcl (bA bC (.bool (decide (0≤r2)))) bD bu ⟨rfl,rfl⟩)
abbrev Bb:au:=(.seq (.rg [(ai 2 (.aT (.c (.bool false))))]) (.seq (.rg [(av 3 0),(ai 4 (.call (.c (.fn 55 [])) [(.t 3),(.c (.str [46]))])),(ai 5 (.call (.c (.fn 54 [])) [(.t 4),(.c (.fn 56 []))])),(ai 6 (.un .not (.t 5))),(aP 2 6)]) .ret))
theorem Bc:bw Tryz.prog 43 7 [(.tmp 2)] (erase Bb):=⟨Tryz.f43,_,rfl,by decide,rfl,by kernel_rfl,rfl,rfl⟩
abbrev Be:List Nat:=[0,2]
def kG (F:Nat) (s1:List UInt8):Option (Bool):=
 (strings_Split s1 ([46]:List UInt8)).bind fun r2=>(cT F r2).bind fun r3=>some (!r3)
theorem zQ {F:Nat} {s1:List UInt8} {H0:AH} {aI:Bool} (h:kG F s1=some aI):
 az Tryz.prog 43 [(.str s1)] H0 fun v H'=>v=(.bool aI)∧H'=H0:=by
 refine dz Bc Be fun hcl K0 aN=> ?_
 rw [kG.eq_1] at h
 refine aA ?_
 obtain ⟨r2,hy1,h⟩:=aj h
 refine bx aq (fS (s1:=s1) (s2:=([46]:List UInt8)) hy1) ?_
 refine aA ?_
 obtain ⟨r3,aV,h⟩:=aj h
 refine bx aq (kP aV) ?_
 refine aA ?_
 obtain rfl:=aC h
 exact aN _ _ _ bE (aH hcl (bA bC (.bool (!r3))) bD bu ⟨rfl,rfl⟩)
abbrev qu:au:=(.rg [(av 17 3),(av 18 5),(ai 19 (.ixs (.t 17) (.t 18))),(ai 20 (.bin .eql (.t 19) (.c (b8 34)))),(av 21 20),(aB 22 (.mv (.t 3)) 21 false),(aB 23 (.mv (.t 5)) 21 false),(aB 24 (.ixs (.t 22) (.t 23)) 21 false),(aB 25 (.bin .eql (.t 24) (.c (b8 92))) 21 false),(ai 26 (.pick (.t 21) (.c (.bool true)) (.t 25)))])
abbrev o5:au:=(.seq (.rg [(ai 15 (.bin .lss (.t 14) (.t 13)))]) (.seq (.cond (.t 15) .skip (.exit 0)) (.seq (.blk 1 (.seq (.rg [(av 16 14),(aP 5 16)]) (.seq (.seq (.sem (erase qu)) (.cond (.t 26) (.rg [(av 27 4),(ai 28 (.j9 1 [(.c (b8 92))])),(ai 29 (.app 1 1 (.t 27) (.t 28))),(aP 4 29)]) .skip)) (.rg [(av 30 4),(av 31 3),(av 32 5),(ai 33 (.ixs (.t 31) (.t 32))),(ai 34 (.j9 1 [(.t 33)])),(ai 35 (.app 1 1 (.t 30) (.t 34))),(aP 4 35)])))) (.rg [(ai 36 (.bin .add (.t 14) (.c (.int .i64 1)))),(av 14 36)]))))
abbrev DH:au:=(.seq (.rg [(ai 1 (.box (.t 0))),(ai 2 (.aT (.c (.str []))))]) (.seq (.rg [(ai 6 (.gY (.t 1) 0)),(ai 7 (.ld (.t 6) none)),(aP 3 7)]) (.seq (.seq (.rg [(av 8 3),(ai 9 (.call (.c (.fn 43 [])) [(.t 8)])),(ai 10 (.un .not (.t 9)))]) (.cond (.t 10) (.seq (.rg [(ai 11 (.j9 1 [(.c (b8 34))])),(aP 4 11)]) (.seq (.seq (.rg [(av 12 3),(ai 13 (.lens (.t 12))),(ai 14 (.mv (.c (.int .i64 0))))]) (.blk 0 (.loop (erase o5)))) (.rg [(av 37 4),(ai 38 (.j9 1 [(.c (b8 34))])),(ai 39 (.app 1 1 (.t 37) (.t 38))),(ai 40 (.gU .bs (.t 39))),(aP 3 40)]))) .skip)) (.seq (.rg [(av 41 3),(ai 42 (.bin .add (.c (.str [60])) (.t 41))),(ai 43 (.bin .add (.t 42) (.c (.str [64])))),(ai 44 (.gY (.t 1) 1)),(ai 45 (.ld (.t 44) none)),(ai 46 (.bin .add (.t 43) (.t 45))),(ai 47 (.bin .add (.t 46) (.c (.str [62])))),(aP 2 47)]) .ret))))
theorem DI:bw Tryz.prog 31 48 [(.tmp 2)] (erase DH):=⟨Tryz.f31,_,rfl,by decide,rfl,by kernel_rfl,rfl,rfl⟩
abbrev p6:List Nat:=[0,1,2,3,4,5,10,13,14,15,26]
def j8 (a1:aE) (t5:Int):Option (Bool):=
 (idx a1.aD t5).bind fun x7=>
 (if (decide (x7=34)) then
  some true
 else
  some (decide (x7=92)))
def eI (a1:aE):((List UInt8)×Int)→Option (St (List UInt8) (List UInt8) ((List UInt8)×Int))
 |(b4,t5)=>
  (if (decide (t5<(a1.aD.length:Int))) then
   (j8 a1 t5).bind fun t9=>
   (if t9 then
    (cF 1 b4 ([92]:List UInt8)).bind fun oc=>
    (idx a1.aD t5).bind fun oE=>
    (cF 1 oc ([oE]:List UInt8)).bind fun wH=>some (.cu (wH,(IntKind.wrap .i64 (t5+1))))
   else
    (idx a1.aD t5).bind fun DJ=>
    (cF 1 b4 ([DJ]:List UInt8)).bind fun xT=>some (.cu (xT,(IntKind.wrap .i64 (t5+1)))))
  else
   some (.dU b4))
def j0 (F:Nat) (a1:aE):Option ((List UInt8)):=
 (kG F a1.aD).bind fun r2=>
 (if (!r2) then
  ((iter (eI a1) F (([34]:List UInt8),0)).bind fun Zm=>
  match Zm with
  | .inr Wn=>
    (cF 1 Wn ([34]:List UInt8)).bind fun tE=>
    (cat ([60]:List UInt8) tE).bind fun xU=>
    (cat xU ([64]:List UInt8)).bind fun iR=>
    (cat iR a1.domain).bind fun FJ=>(cat FJ ([62]:List UInt8)).bind fun ri=>some ri
  | .inl _=>none)
 else
  (cat ([60]:List UInt8) a1.aD).bind fun FU=>
  (cat FU ([64]:List UInt8)).bind fun xV=>
  (cat xV a1.domain).bind fun DK=>(cat DK ([62]:List UInt8)).bind fun Wo=>some Wo)
theorem wZ {a1:aE} {t5:Int} {q6:Nat} {b4:List UInt8} {H0 H:AH} (hfr:Fr H0 H0.length [] H) (ak:H[q6]? =some [(.str a1.aD),(.str a1.domain)]) (hi0:H0.length≤q6) {K:Exit→Env→AH→Prop} {t8:Bool}
 (h:j8 a1 t5=some t8)
 (kn:∀H':AH,Fr H0 H0.length [] H'→H'[q6]? =some [(.str a1.aD),(.str a1.domain)]→K .normal [(1,(.ptr q6 0)),(3,(.str a1.aD)),(4,(.sl .own 1 (ml b8 b4))),(5,(.int .i64 t5)),(13,(.int .i64 (a1.aD.length:Int))),(14,(.int .i64 t5)),(26,(.bool t8))] H'):
 AX Tryz.prog p6 48 H0.length (erase qu) K [(1,(.ptr q6 0)),(3,(.str a1.aD)),(4,(.sl .own 1 (ml b8 b4))),(5,(.int .i64 t5)),(13,(.int .i64 (a1.aD.length:Int))),(14,(.int .i64 t5))] H:=by
 refine cG fun K' hK=> ?_
 have hle:=hfr.le
 have dB:=ff ak
 rw [j8.eq_1] at h
 obtain ⟨x7,aX,h⟩:=aj h
 refine aZ (aK aX ak) ?_
 refine cw h (fun bk h=> ?_) fun bk h=> ?_
 · refine aZ (aK bk ak) ?_
   obtain rfl:=aC h
   exact hK _ _ _ _ _ aL aq (kn _ hfr (ak.trans rfl))
 · refine aZ (aK bk (aK aX ak)) ?_
   obtain rfl:=aC h
   exact hK _ _ _ _ _ aL aq (kn _ hfr (ak.trans rfl))
theorem w5 {F:Nat} {t5:Int} {a1:aE} {b4:List UInt8} {q3:Nat} {H0 H:AH} (hfr:Fr H0 H0.length [] H) (ak:H[q3]? =some [(.str a1.aD),(.str a1.domain)]) (hi0:H0.length≤q3) {K:Exit→Env→AH→Prop} {o:((List UInt8))⊕((List UInt8))}
 (h:iter (eI a1) F (b4,t5)=some o)
 (dV:∀o':(List UInt8),o= .inr o'→∀H':AH,Fr H0 H0.length [] H'→H'[q3]? =some [(.str a1.aD),(.str a1.domain)]→K (.exit 0) [(1,(.ptr q3 0)),(4,(.sl .own 1 (ml b8 o')))] H'):
 AX Tryz.prog p6 48 H0.length (.loop (erase o5)) K [(1,(.ptr q3 0)),(3,(.str a1.aD)),(4,(.sl .own 1 (ml b8 b4))),(13,(.int .i64 (a1.aD.length:Int))),(14,(.int .i64 t5))] H:=by
 refine jM (fun s e H1=>match s with|(b4,t5)=>e=[(1,(.ptr q3 0)),(3,(.str a1.aD)),(4,(.sl .own 1 (ml b8 b4))),(13,(.int .i64 (a1.aD.length:Int))),(14,(.int .i64 t5))]∧Fr H0 H0.length [] H1∧H1[q3]? =some [(.str a1.aD),(.str a1.domain)]) h ⟨rfl,hfr,ak⟩ ?_
 rintro K' ⟨b4,t5⟩ st e H ⟨rfl,hfr,ak⟩ h hN hB hR hX
 have hle:=hfr.le
 have dB:=ff ak
 rw [eI.eq_1] at h
 refine aZ ak ?_
 refine bZ h (fun aY h=> ?_) fun aY h=> ?_
 · refine aZ ak ?_
   obtain ⟨t9,cj,h⟩:=aj h
   refine bS aq (wZ (b4:=b4) (q6:=q3) hfr (ak.trans rfl) wh cj ?_)
   intro H hfr ak
   have hle:=hfr.le
   have dB:=ff ak
   refine aZ ak ?_
   refine bZ h (fun cv h=> ?_) fun cv h=> ?_
   · obtain ⟨oc,cB,h⟩:=aj h
     have eV:cF 1 (ml b8 b4) [(b8 92)]=some (ml b8 oc):=fR (f:=b8) cB
     obtain ⟨oE,de,h⟩:=aj h
     obtain ⟨wH,dx,h⟩:=aj h
     have dh:cF 1 (ml b8 oc) [(b8 oE)]=some (ml b8 wH):=fR (f:=b8) dx
     refine aZ (aK eV (aK de (aK dh ak))) ?_
     obtain rfl:=aC h
     exact hN _ rfl _ _ _ _ aL aq ⟨rfl,hfr,(ak.trans rfl)⟩
   · obtain ⟨DJ,gh,h⟩:=aj h
     obtain ⟨xT,kz,h⟩:=aj h
     have lS:cF 1 (ml b8 b4) [(b8 DJ)]=some (ml b8 xT):=fR (f:=b8) kz
     refine aZ (aK gh (aK lS ak)) ?_
     obtain rfl:=aC h
     exact hN _ rfl _ _ _ _ aL aq ⟨rfl,hfr,(ak.trans rfl)⟩
 · refine aZ ak ?_
   obtain rfl:=aC h
   exact hX _ _ _ _ _ ez aL aq (dV _ (hB _ rfl) _ hfr (ak.trans rfl))
theorem sW {F:Nat} {a1:aE} {H0:AH} {aI:List UInt8} (h:j0 F a1=some aI):
 az Tryz.prog 31 [(.agg [(.str a1.aD),(.str a1.domain)])] H0 fun v H'=>v=(.str aI)∧H'=H0:=by
 refine sr DI p6 [] fun hcl K0 aN H hH hfr=> ?_
 clear hH
 have hle:=hfr.le
 rw [j0.eq_1] at h
 refine bG ?_
 obtain ⟨r2,hy1,h⟩:=aj h
 refine bx aq (zQ hy1) ?_
 refine bG ?_
 refine bZ h (fun aV h=> ?_) fun aV h=> ?_
 · refine bG ?_
   obtain ⟨q3,I0⟩:∃q:Nat,H.length=q:=⟨_,rfl⟩
   try rw [I0]
   obtain ⟨Zm,iW,h⟩:=aj h
   refine bS aq (w5 (q3:=q3) (Fr.app hfr) IV wh iW ?_)
   · rintro Wn rfl H hfr ak
     try dsimp only at h ak
     have hle:=hfr.le
     have dB:=ff ak
     refine bG ?_
     obtain ⟨tE,oL,h⟩:=aj h
     have oM:cF 1 (ml b8 Wn) [(b8 34)]=some (ml b8 tE):=fR (f:=b8) oL
     obtain ⟨xU,kA,h⟩:=aj h
     obtain ⟨iR,oN,h⟩:=aj h
     obtain ⟨FJ,jO,h⟩:=aj h
     obtain ⟨ri,ku,h⟩:=aj h
     refine aZ (aK oM (aK kA (aK oN (aK jO (aK ku ak))))) ?_
     obtain rfl:=aC h
     exact aN _ _ _ bE (bR hfr hcl (bA bC (.str ri)) bD bu ⟨rfl,rfl⟩)
 · obtain ⟨FU,oO,h⟩:=aj h
   obtain ⟨xV,oP,h⟩:=aj h
   obtain ⟨DK,kB,h⟩:=aj h
   obtain ⟨Wo,rj,h⟩:=aj h
   refine aZ (aK oO (aK oP (aK kB rj))) ?_
   obtain rfl:=aC h
   exact aN _ _ _ bE (bR (Fr.app hfr) hcl (bA bC (.str Wo)) bD bu ⟨rfl,rfl⟩)
abbrev o6:au:=(.rg [(ai 3 (.ld (.t 1) (some 2))),(ai 4 (.call (.c (.fn 29 [])) [(.t 3)])),(av 5 4),(aB 6 (.gY (.t 1) 0) 5 false),(aB 7 (.ld (.t 6) none) 5 false),(aB 8 (.call (.c (.fn 41 [])) [(.t 7)]) 5 false),(aB 9 (.mv (.t 8)) 5 false),(aB 10 (.gY (.t 1) 1) 9 true),(aB 11 (.ld (.t 10) none) 9 true),(aB 12 (.call (.c (.fn 42 [])) [(.t 11)]) 9 true),(aB 13 (.pick (.t 9) (.t 12) (.c (.bool false))) 5 false),(aB 14 (.mv (.t 13)) 5 false),(aB 15 (.ld (.t 1) (some 2)) 14 true),(aB 16 (.call (.c (.fn 31 [])) [(.t 15)]) 14 true),(aB 17 (.lens (.t 16)) 14 true),(aB 18 (.bin .leq (.t 17) (.c (.int .i64 256))) 14 true),(aB 19 (.pick (.t 14) (.t 18) (.c (.bool false))) 5 false),(ai 20 (.pick (.t 5) (.c (.bool true)) (.t 19))),(aP 2 20)])
abbrev Bg:au:=(.seq (.rg [(ai 1 (.box (.t 0))),(ai 2 (.aT (.c (.bool false))))]) (.seq (.sem (erase o6)) .ret))
theorem Bh:bw Tryz.prog 30 21 [(.tmp 2)] (erase Bg):=⟨Tryz.f30,_,rfl,by decide,rfl,by kernel_rfl,rfl,rfl⟩
abbrev sX:List Nat:=[0,1,2]
def jt (F:Nat) (a1:aE):Option (Bool):=
 (jY a1).bind fun r3=>
 (if r3 then
  some true
 else
  (kD F a1.aD).bind fun r4=>
  (if r4 then
   (js F a1.domain).bind fun r5=>
   (if r5 then
    (j0 F a1).bind fun r6=>some (decide ((r6.length:Int)≤256))
   else
    some false)
  else
   some false))
def kH (F:Nat) (a1:aE):Option (Bool):=
 (jt F a1).bind fun t8=>
 some t8
theorem vg {F:Nat} {a1:aE} {q2:Nat} {H0 H:AH} (hfr:Fr H0 H0.length [] H) (ak:H[q2]? =some [(.str a1.aD),(.str a1.domain)]) (hi0:H0.length≤q2) {K:Exit→Env→AH→Prop} {t7:Bool}
 (h:jt F a1=some t7)
 (kn:∀H':AH,Fr H0 H0.length [] H'→H'[q2]? =some [(.str a1.aD),(.str a1.domain)]→K .normal [(2,(.bool t7))] H'):
 AX Tryz.prog sX 21 H0.length (erase o6) K [(1,(.ptr q2 0)),(2,(.bool false))] H:=by
 refine cG fun K' hK=> ?_
 have hle:=hfr.le
 have dB:=ff ak
 rw [jt.eq_1] at h
 refine aZ ak ?_
 obtain ⟨r3,hy1,h⟩:=aj h
 refine bx aq (sS hy1) ?_
 refine aZ ak ?_
 refine cw h (fun aV h=> ?_) fun aV h=> ?_
 · refine aZ (aK aV ak) ?_
   obtain rfl:=aC h
   exact hK _ _ _ _ _ aL aq (kn _ hfr (ak.trans rfl))
 · refine aZ (aK aV ak) ?_
   obtain ⟨r4,aY,h⟩:=aj h
   refine bx aq (zG aY) ?_
   refine aZ ak ?_
   refine cw h (fun aX h=> ?_) fun aX h=> ?_
   · refine aZ (aK aX ak) ?_
     obtain ⟨r5,bk,h⟩:=aj h
     refine bx aq (yf bk) ?_
     refine aZ ak ?_
     refine cw h (fun cj h=> ?_) fun cj h=> ?_
     · refine aZ (aK cj ak) ?_
       obtain ⟨r6,cv,h⟩:=aj h
       refine bx aq (sW cv) ?_
       refine aZ ak ?_
       obtain rfl:=aC h
       exact hK _ _ _ _ _ aL aq (kn _ hfr (ak.trans rfl))
     · refine aZ (aK cj ak) ?_
       obtain rfl:=aC h
       exact hK _ _ _ _ _ aL aq (kn _ hfr (ak.trans rfl))
   · refine aZ (aK aX ak) ?_
     obtain rfl:=aC h
     exact hK _ _ _ _ _ aL aq (kn _ hfr (ak.trans rfl))
theorem zR {F:Nat} {a1:aE} {H0:AH} {aI:Bool} (h:kH F a1=some aI):
 az Tryz.prog 30 [(.agg [(.str a1.aD),(.str a1.domain)])] H0 fun v H'=>v=(.bool aI)∧H'=H0:=by
 refine sr Bh sX [] fun hcl K0 aN H hH hfr=> ?_
 clear hH
 have hle:=hfr.le
 rw [kH.eq_1] at h
 refine bG ?_
 obtain ⟨q2,pV⟩:∃q:Nat,H.length=q:=⟨_,rfl⟩
 try rw [pV]
 obtain ⟨t8,cB,h⟩:=aj h
 refine bS aq (vg (q2:=q2) (Fr.app hfr) IV wh cB ?_)
 intro H hfr ak
 have hle:=hfr.le
 have dB:=ff ak
 refine aZ ak ?_
 obtain rfl:=aC h
 exact aN _ _ _ bE (bR hfr hcl (bA bC (.bool t8)) bD bu ⟨rfl,rfl⟩)
abbrev Bi:au:=(.seq (.rg [(ai 1 (.box (.t 0))),(ai 2 (.aT (.c (.str []))))]) (.seq (.blk 0 (.seq (.rg [(ai 4 (.ld (.t 1) (some 2))),(ai 5 (.call (.c (.fn 29 [])) [(.t 4)])),(aP 3 5)]) (.cond (.t 3) (.seq (.rg [(ai 2 (.aT (.c (.str [60,62]))))]) .ret) (.seq (.rg [(ai 7 (.ld (.t 1) (some 2))),(ai 8 (.call (.c (.fn 30 [])) [(.t 7)])),(ai 9 (.un .not (.t 8))),(aP 6 9)]) (.cond (.t 6) (.seq (.rg [(ai 2 (.aT (.c (.str []))))]) .ret) .skip))))) (.seq (.rg [(ai 10 (.ld (.t 1) (some 2))),(ai 11 (.call (.c (.fn 31 [])) [(.t 10)])),(aP 2 11)]) .ret)))
theorem Bj:bw Tryz.prog 16 12 [(.tmp 2)] (erase Bi):=⟨Tryz.f16,_,rfl,by decide,rfl,by kernel_rfl,rfl,rfl⟩
abbrev Bk:List Nat:=[0,1,2,3,6]
def gq (F:Nat) (a1:aE):Option ((List UInt8)):=
 (jY a1).bind fun r2=>
 (if r2 then
  some ([60,62]:List UInt8)
 else
  (kH F a1).bind fun r3=>
  (if (!r3) then
   some ([]:List UInt8)
  else
   (j0 F a1).bind fun r4=>some r4))
theorem zS {F:Nat} {a1:aE} {H0:AH} {aI:List UInt8} (h:gq F a1=some aI):
 az Tryz.prog 16 [(.agg [(.str a1.aD),(.str a1.domain)])] H0 fun v H'=>v=(.str aI)∧H'=H0:=by
 refine sr Bj Bk [] fun hcl K0 aN H hH hfr=> ?_
 clear hH
 have hle:=hfr.le
 rw [gq.eq_1] at h
 refine bG ?_
 obtain ⟨r2,hy1,h⟩:=aj h
 refine bx aq (sS hy1) ?_
 refine bG ?_
 refine bZ h (fun aV h=> ?_) fun aV h=> ?_
 · refine bG ?_
   obtain rfl:=aC h
   exact aN _ _ _ bE (bR (Fr.app hfr) hcl (bA bC (.str ([60,62]:List UInt8))) bD bu ⟨rfl,rfl⟩)
 · refine bG ?_
   obtain ⟨r3,aY,h⟩:=aj h
   refine bx aq (zR aY) ?_
   refine bG ?_
   refine bZ h (fun aX h=> ?_) fun aX h=> ?_
   · refine bG ?_
     obtain rfl:=aC h
     exact aN _ _ _ bE (bR (Fr.app hfr) hcl (bA bC (.str ([]:List UInt8))) bD bu ⟨rfl,rfl⟩)
   · refine bG ?_
     obtain ⟨r4,bk,h⟩:=aj h
     refine bx aq (sW bk) ?_
     refine bG ?_
     obtain rfl:=aC h
     exact aN _ _ _ bE (bR (Fr.app hfr) hcl (bA bC (.str r4)) bD bu ⟨rfl,rfl⟩)
abbrev w6:au:=(.seq (.rg [(ai 9 (.box (.t 4))),(ai 10 (.alloc [(.str []),(.str [])]))]) (.seq (.rg [(av 11 0),(ai 12 (.bin .add (.c (.str [32,102,114,111,109,32])) (.t 11))),(ai 13 (.bin .add (.t 12) (.c (.str [32,98,121,32])))),(av 14 1),(ai 15 (.bin .add (.t 13) (.t 14))),(ai 16 (.bin .add (.t 15) (.c (.str [32,119,105,116,104,32,83,77,84,80,32,105,100,32])))),(av 17 2),(ai 18 (.bin .add (.t 16) (.t 17))),(ai 19 (.bin .add (.t 18) (.c (.str [13,10])))),(ai 20 (.bin .add (.t 19) (.c (.str [9,102,111,114,32])))),(ai 21 (.ld (.t 9) (some 2))),(ai 22 (.call (.c (.fn 16 [])) [(.t 21)])),(ai 23 (.bin .add (.t 20) (.t 22))),(ai 24 (.bin .add (.t 23) (.c (.str [59,32])))),(av 25 3),(ai 26 (.call (.c (.fn 8 [])) [(.t 25)])),(ai 27 (.bin .add (.t 24) (.t 26))),(ai 28 (.build [(.str []),(.str [])] [(0,(1,(.c (.str [82,101,99,101,105,118,101,100])))),(1,(1,(.t 27)))])),(De (.st (.t 10) (.t 28) 2))]) .ret))
theorem w7:bw Tryz.prog 6 29 [(.cell 10 28)] (erase w6):=⟨Tryz.f6,_,rfl,by decide,rfl,by kernel_rfl,rfl,rfl⟩
abbrev w9:List Nat:=[0,1,2,3,4,9,10]
def gr (F:Nat) (bN:List UInt8) (dY:List UInt8) (dZ:List UInt8) (t4:Int) (gu:aE):Option (aG):=
 (cat ([32,102,114,111,109,32]:List UInt8) bN).bind fun x6=>
 (cat x6 ([32,98,121,32]:List UInt8)).bind fun x7=>
 (cat x7 dY).bind fun x8=>
 (cat x8 ([32,119,105,116,104,32,83,77,84,80,32,105,100,32]:List UInt8)).bind fun x9=>
 (cat x9 dZ).bind fun oc=>
 (cat oc ([13,10]:List UInt8)).bind fun oE=>
 (cat oE ([9,102,111,114,32]:List UInt8)).bind fun wH=>
 (gq F gu).bind fun oT=>
 (cat wH oT).bind fun xT=>
 (cat xT ([59,32]:List UInt8)).bind fun uJ=>
 (cx F t4).bind fun r16=>
 (cat uJ r16).bind fun tE=>
 some (aG.mk ([82,101,99,101,105,118,101,100]:List UInt8) tE)
theorem vh {F:Nat} {bN:List UInt8} {dY:List UInt8} {dZ:List UInt8} {t4:Int} {gu:aE} {H0:AH} {aI:aG} (h:gr F bN dY dZ t4 gu=some aI):
 az Tryz.prog 6 [(.str bN),(.str dY),(.str dZ),(.int .i64 t4),(.agg [(.str gu.aD),(.str gu.domain)])] H0 fun v H'=>v=(.agg [(.str aI.name),(.str aI.value)])∧H'=H0:=by
 refine sr w7 w9 [] fun hcl K0 aN H hH hfr=> ?_
 clear hH
 have hle:=hfr.le
 rw [gr.eq_1] at h
 obtain ⟨x6,hy1,h⟩:=aj h
 obtain ⟨x7,aV,h⟩:=aj h
 obtain ⟨x8,aY,h⟩:=aj h
 obtain ⟨x9,aX,h⟩:=aj h
 obtain ⟨oc,bk,h⟩:=aj h
 obtain ⟨oE,cj,h⟩:=aj h
 obtain ⟨wH,cv,h⟩:=aj h
 refine aZ (aK hy1 (aK aV (aK aY (aK aX (aK bk (aK cj cv)))))) ?_
 obtain ⟨oT,cB,h⟩:=aj h
 refine bx aq (zS cB) ?_
 refine bG ?_
 obtain ⟨xT,eV,h⟩:=aj h
 obtain ⟨uJ,de,h⟩:=aj h
 refine aZ (aK eV de) ?_
 obtain ⟨r16,dx,h⟩:=aj h
 refine bx aq (og dx) ?_
 refine bG ?_
 obtain ⟨tE,dh,h⟩:=aj h
 refine aZ dh ?_
 obtain rfl:=aC h
 exact aN _ _ _ bE (bR (wj _ (Fr.app (Fr.app hfr))) hcl (zj (cs:=[(.str ([82,101,99,101,105,118,101,100]:List UInt8)),(.str tE)]) (v:=(.agg [(.str ([82,101,99,101,105,118,101,100]:List UInt8)),(.str tE)])) (by kernel_rfl) (n:=(some 2)) (by kernel_rfl) rfl P9 (by simp [zh,zg,mL,bU,AV.flat,JO,Cu,AV.bn,Tg.sh]) bC) bD bu ⟨rfl,rfl⟩)
abbrev nK:au:=(.rg [(av 4 0),(ai 5 (.bin .eql (.t 4) (.c (.str [])))),(av 6 5),(aB 7 (.mv (.t 0)) 6 false),(aB 8 (.lens (.t 7)) 6 false),(aB 9 (.bin .gtr (.t 8) (.c (.int .i64 64))) 6 false),(ai 10 (.pick (.t 6) (.c (.bool true)) (.t 9)))])
abbrev nL:au:=(.rg [(av 17 0),(av 18 3),(ai 19 (.ixs (.t 17) (.t 18))),(ai 20 (.bin .lss (.t 19) (.c (b8 32)))),(av 21 20),(aB 22 (.mv (.t 0)) 21 false),(aB 23 (.mv (.t 3)) 21 false),(aB 24 (.ixs (.t 22) (.t 23)) 21 false),(aB 25 (.bin .gtr (.t 24) (.c (b8 126))) 21 false),(ai 26 (.pick (.t 21) (.c (.bool true)) (.t 25)))])
abbrev me:au:=(.seq (.seq (.rg [(av 11 3),(av 12 0),(ai 13 (.lens (.t 12))),(ai 14 (.bin .lss (.t 11) (.t 13)))]) (.cond (.t 14) .skip (.exit 0))) (.seq (.blk 1 (.seq (.sem (erase nL)) (.cond (.t 26) (.seq (.rg [(ai 2 (.aT (.c (.bool false))))]) .ret) .skip))) (.rg [(av 15 3),(ai 16 (.bin .add (.t 15) (.c (.int .i64 1)))),(aP 3 16)])))
abbrev zT:au:=(.seq (.rg [(ai 2 (.aT (.c (.bool false))))]) (.seq (.seq (.sem (erase nK)) (.cond (.t 10) (.seq (.rg [(ai 2 (.aT (.c (.bool false))))]) .ret) .skip)) (.seq (.seq (.rg [(ai 3 (.aT (.c (.int .i64 0))))]) (.blk 0 (.loop (erase me)))) (.seq (.rg [(ai 2 (.aT (.c (.bool true))))]) .ret))))
theorem zU:bw Tryz.prog 44 27 [(.tmp 2)] (erase zT):=⟨Tryz.f44,_,rfl,by decide,rfl,by kernel_rfl,rfl,rfl⟩
abbrev ju:List Nat:=[0,2,3,10,14,26]
def fF (s1:List UInt8) (i2:Int):Option (Bool):=
 (idx s1 i2).bind fun x3=>
 (if (decide (x3<32)) then
  some true
 else
  some (decide (126<x3)))
def dD (s1:List UInt8):Int→Option (St Bool Unit Int)
 |i2=>
  (if (decide (i2<(s1.length:Int))) then
   (fF s1 i2).bind fun t5=>
   (if t5 then
    some (.ret false)
   else
    some (.cu (IntKind.wrap .i64 (i2+1))))
  else
   some (.dU ()))
def jv (F:Nat) (s1:List UInt8):Option (Bool):=
 (if ((decide (s1=([]:List UInt8)))||(decide (64<(s1.length:Int)))) then
  some false
 else
  ((iter (dD s1) F 0).bind fun o8=>
  match o8 with
  | .inr ()=>
    some true
  | .inl r7=>
    some r7))
theorem tM {s1:List UInt8} {H:AH} {K:Exit→Env→AH→Prop}
 (kn:K .normal [(0,(.str s1)),(10,(.bool ((decide (s1=([]:List UInt8)))||(decide (64<(s1.length:Int))))))] H):
 AX Tryz.prog ju 27 H.length (erase nK) K [(0,(.str s1))] H:=by
 refine cG fun K' hK=> ?_
 refine aA ?_
 refine mM (fun hy1=> ?_) fun hy1=> ?_
 · refine aM hy1 ?_
   exact hK _ _ _ _ _ (dL hy1) aq kn
 · refine aM hy1 ?_
   exact hK _ _ _ _ _ (dL hy1) aq kn
theorem tN {s1:List UInt8} {i2:Int} {H:AH} {K:Exit→Env→AH→Prop} {t4:Bool}
 (h:fF s1 i2=some t4)
 (kn:K .normal [(0,(.str s1)),(3,(.int .i64 i2)),(26,(.bool t4))] H):
 AX Tryz.prog ju 27 H.length (erase nL) K [(0,(.str s1)),(3,(.int .i64 i2))] H:=by
 refine cG fun K' hK=> ?_
 rw [fF.eq_1] at h
 obtain ⟨x3,aX,h⟩:=aj h
 refine aM aX ?_
 refine cw h (fun bk h=> ?_) fun bk h=> ?_
 · refine aM bk ?_
   obtain rfl:=aC h
   exact hK _ _ _ _ _ aL aq kn
 · refine aM (aK bk aX) ?_
   obtain rfl:=aC h
   exact hK _ _ _ _ _ aL aq kn
theorem tO {F:Nat} {i2:Int} {s1:List UInt8} {H:AH} {K:Exit→Env→AH→Prop} {o:(Bool)⊕(Unit)}
 (h:iter (dD s1) F i2=some o)
 (dV:∀o':Unit,o= .inr o'→K (.exit 0) [] H)
 (kr:∀o':Bool,o= .inl o'→K .ret [(2,(.bool o'))] H):
 AX Tryz.prog ju 27 H.length (.loop (erase me)) K [(0,(.str s1)),(3,(.int .i64 i2))] H:=by
 refine jM (fun s e H1=>match s with|i2=>e=[(0,(.str s1)),(3,(.int .i64 i2))]∧H1=H) h ⟨rfl,rfl⟩ ?_
 rintro K' i2 st e H ⟨rfl,rfl⟩ h hN hB hR hX
 rw [dD.eq_1] at h
 refine aA ?_
 refine bZ h (fun aY h=> ?_) fun aY h=> ?_
 · refine aA ?_
   obtain ⟨t5,cj,h⟩:=aj h
   refine bS aq (tN cj ?_)
   refine aA ?_
   refine bZ h (fun cv h=> ?_) fun cv h=> ?_
   · refine aA ?_
     obtain rfl:=aC h
     exact hX _ _ _ _ _ ez aL aq (kr _ (hR _ rfl))
   · refine aA ?_
     obtain rfl:=aC h
     exact hN _ rfl _ _ _ _ aL aq ⟨rfl,rfl⟩
 · refine aA ?_
   obtain rfl:=aC h
   exact hX _ _ _ _ _ ez WE.nil aq (dV _ (hB _ rfl))
theorem yj {F:Nat} {s1:List UInt8} {H0:AH} {aI:Bool} (h:jv F s1=some aI):
 az Tryz.prog 44 [(.str s1)] H0 fun v H'=>v=(.bool aI)∧H'=H0:=by
 refine dz zU ju fun hcl K0 aN=> ?_
 rw [jv.eq_1] at h
 refine aA ?_
 refine bS aq (tM (s1:=s1) ?_)
 refine aA ?_
 refine bZ h (fun aV h=> ?_) fun aV h=> ?_
 · refine aA ?_
   obtain rfl:=aC h
   exact aN _ _ _ bE (aH hcl (bA bC (.bool false)) bD bu ⟨rfl,rfl⟩)
 · refine aA ?_
   obtain ⟨o8,cB,h⟩:=aj h
   refine bS aq (tO cB ?_ ?_)
   · rintro ⟨⟩ rfl
     try dsimp only at h
     refine aA ?_
     obtain rfl:=aC h
     exact aN _ _ _ bE (aH hcl (bA bC (.bool true)) bD bu ⟨rfl,rfl⟩)
   · rintro r7 rfl
     try dsimp only at h
     refine aA ?_
     obtain rfl:=aC h
     exact aN _ _ _ bE (aH hcl (bA bC (.bool r7)) bD bu ⟨rfl,rfl⟩)
abbrev nM:au:=(.rg [(av 3 0),(ai 4 (.bin .geq (.t 3) (.c (b8 48)))),(av 5 4),(aB 6 (.mv (.t 0)) 5 true),(aB 7 (.bin .leq (.t 6) (.c (b8 57))) 5 true),(ai 8 (.pick (.t 5) (.t 7) (.c (.bool false)))),(aP 2 8)])
abbrev zV:au:=(.seq (.rg [(ai 2 (.aT (.c (.bool false))))]) (.seq (.sem (erase nM)) .ret))
theorem zW:bw Tryz.prog 74 9 [(.tmp 2)] (erase zV):=⟨Tryz.f74,_,rfl,by decide,rfl,by kernel_rfl,rfl,rfl⟩
abbrev rD:List Nat:=[0,2]
def fz (c1:UInt8):Option (Bool):=
 some ((decide (48≤c1))&&(decide (c1≤57)))
theorem tP {c1:UInt8} {H:AH} {K:Exit→Env→AH→Prop}
 (kn:K .normal [(2,(.bool ((decide (48≤c1))&&(decide (c1≤57)))))] H):
 AX Tryz.prog rD 9 H.length (erase nM) K [(0,(b8 c1)),(2,(.bool false))] H:=by
 refine cG fun K' hK=> ?_
 refine aA ?_
 refine mM (fun hy1=> ?_) fun hy1=> ?_
 · refine aM hy1 ?_
   exact hK _ _ _ _ _ (dL hy1) aq kn
 · refine aM hy1 ?_
   exact hK _ _ _ _ _ (dL hy1) aq kn
theorem kQ {c1:UInt8} {H0:AH} {aI:Bool} (h:fz c1=some aI):
 az Tryz.prog 74 [(b8 c1)] H0 fun v H'=>v=(.bool aI)∧H'=H0:=by
 refine dz zW rD fun hcl K0 aN=> ?_
 rw [fz.eq_1] at h
 refine aA ?_
 refine bS aq (tP (c1:=c1) ?_)
 refine aA ?_
 obtain rfl:=aC h
 exact aN _ _ _ bE (aH hcl (bA bC (.bool ((decide (48≤c1))&&(decide (c1≤57))))) bD bu ⟨rfl,rfl⟩)
abbrev nN:au:=(.rg [(av 5 0),(ai 6 (.bin .eql (.t 5) (.c (.str [])))),(av 7 6),(aB 8 (.mv (.t 0)) 7 false),(aB 9 (.lens (.t 8)) 7 false),(aB 10 (.bin .gtr (.t 9) (.c (.int .i64 3))) 7 false),(ai 11 (.pick (.t 7) (.c (.bool true)) (.t 10))),(av 12 11),(aB 13 (.mv (.t 0)) 12 false),(aB 14 (.ixs (.t 13) (.c (.int .i64 0))) 12 false),(aB 15 (.bin .eql (.t 14) (.c (b8 48))) 12 false),(aB 16 (.mv (.t 15)) 12 false),(aB 17 (.mv (.t 0)) 16 true),(aB 18 (.lens (.t 17)) 16 true),(aB 19 (.bin .gtr (.t 18) (.c (.int .i64 1))) 16 true),(aB 20 (.pick (.t 16) (.t 19) (.c (.bool false))) 12 false),(ai 21 (.pick (.t 12) (.c (.bool true)) (.t 20)))])
abbrev mg:au:=(.seq (.seq (.rg [(av 22 4),(av 23 0),(ai 24 (.lens (.t 23))),(ai 25 (.bin .lss (.t 22) (.t 24)))]) (.cond (.t 25) .skip (.exit 0))) (.seq (.blk 1 (.seq (.seq (.rg [(av 28 0),(av 29 4),(ai 30 (.ixs (.t 28) (.t 29))),(ai 31 (.call (.c (.fn 74 [])) [(.t 30)])),(ai 32 (.un .not (.t 31)))]) (.cond (.t 32) (.seq (.rg [(ai 2 (.aT (.c (.bool false))))]) .ret) .skip)) (.rg [(av 33 3),(ai 34 (.bin .mul (.c (.int .i64 10)) (.t 33))),(av 35 0),(av 36 4),(ai 37 (.ixs (.t 35) (.t 36))),(ai 38 (.bin .sub (.t 37) (.c (b8 48)))),(ai 39 (.gU (.int .i64) (.t 38))),(ai 40 (.bin .add (.t 34) (.t 39))),(aP 3 40)]))) (.rg [(av 26 4),(ai 27 (.bin .add (.t 26) (.c (.int .i64 1)))),(aP 4 27)])))
abbrev zX:au:=(.seq (.rg [(ai 2 (.aT (.c (.bool false))))]) (.seq (.seq (.sem (erase nN)) (.cond (.t 21) (.seq (.rg [(ai 2 (.aT (.c (.bool false))))]) .ret) .skip)) (.seq (.rg [(ai 3 (.aT (.c (.int .i64 0))))]) (.seq (.seq (.rg [(ai 4 (.aT (.c (.int .i64 0))))]) (.blk 0 (.loop (erase mg)))) (.seq (.rg [(av 41 3),(ai 42 (.bin .leq (.t 41) (.c (.int .i64 255)))),(aP 2 42)]) .ret)))))
theorem zY:bw Tryz.prog 58 43 [(.tmp 2)] (erase zX):=⟨Tryz.f58,_,rfl,by decide,rfl,by kernel_rfl,rfl,rfl⟩
abbrev mh:List Nat:=[0,2,3,4,21,25,32]
def dF (s1:List UInt8):Option (Bool):=
 (if (decide (s1=([]:List UInt8))) then
  some true
 else
  (if (decide (3<(s1.length:Int))) then
   some true
  else
   (idx s1 0).bind fun x2=>
   (if (decide (x2=48)) then
    some (decide (1<(s1.length:Int)))
   else
    some false)))
def eC (s1:List UInt8):(Int×Int)→Option (St Bool Int (Int×Int))
 |(FV,i6)=>
  (if (decide (i6<(s1.length:Int))) then
   (idx s1 i6).bind fun x7=>
   (fz x7).bind fun r8=>
   (if (!r8) then
    some (.ret false)
   else
    some (.cu ((IntKind.wrap .i64 ((IntKind.wrap .i64 (10*FV))+(IntKind.wrap .i64 ((x7 - 48).toNat:Int)))),(IntKind.wrap .i64 (i6+1)))))
  else
   some (.dU FV))
def dj (F:Nat) (s1:List UInt8):Option (Bool):=
 (dF s1).bind fun t4=>
 (if t4 then
  some false
 else
  ((iter (eC s1) F (0,0)).bind fun FO=>
  match FO with
  | .inr kC=>
    some (decide (kC≤255))
  | .inl cm=>
    some cm))
theorem tQ {s1:List UInt8} {H:AH} {K:Exit→Env→AH→Prop} {t3:Bool}
 (h:dF s1=some t3)
 (kn:K .normal [(0,(.str s1)),(21,(.bool t3))] H):
 AX Tryz.prog mh 43 H.length (erase nN) K [(0,(.str s1))] H:=by
 refine cG fun K' hK=> ?_
 rw [dF.eq_1] at h
 refine aA ?_
 refine cw h (fun hy1 h=> ?_) fun hy1 h=> ?_
 · refine aM hy1 ?_
   obtain rfl:=aC h
   exact hK _ _ _ _ _ aL aq kn
 · refine aM hy1 ?_
   refine cw h (fun aV h=> ?_) fun aV h=> ?_
   · refine aM aV ?_
     obtain rfl:=aC h
     exact hK _ _ _ _ _ aL aq kn
   · obtain ⟨x2,aY,h⟩:=aj h
     refine aM (aK aV aY) ?_
     refine cw h (fun aX h=> ?_) fun aX h=> ?_
     · refine aM aX ?_
       obtain rfl:=aC h
       exact hK _ _ _ _ _ aL aq kn
     · refine aM aX ?_
       obtain rfl:=aC h
       exact hK _ _ _ _ _ aL aq kn
theorem tR {F:Nat} {i6:Int} {s1:List UInt8} {FV:Int} {H:AH} {K:Exit→Env→AH→Prop} {o:(Bool)⊕(Int)}
 (h:iter (eC s1) F (FV,i6)=some o)
 (dV:∀o':Int,o= .inr o'→K (.exit 0) [(3,(.int .i64 o'))] H)
 (kr:∀o':Bool,o= .inl o'→K .ret [(2,(.bool o'))] H):
 AX Tryz.prog mh 43 H.length (.loop (erase mg)) K [(0,(.str s1)),(3,(.int .i64 FV)),(4,(.int .i64 i6))] H:=by
 refine jM (fun s e H1=>match s with|(FV,i6)=>e=[(0,(.str s1)),(3,(.int .i64 FV)),(4,(.int .i64 i6))]∧H1=H) h ⟨rfl,rfl⟩ ?_
 rintro K' ⟨FV,i6⟩ st e H ⟨rfl,rfl⟩ h hN hB hR hX
 rw [eC.eq_1] at h
 refine aA ?_
 refine bZ h (fun cv h=> ?_) fun cv h=> ?_
 · obtain ⟨x7,cB,h⟩:=aj h
   refine aM cB ?_
   obtain ⟨r8,eV,h⟩:=aj h
   refine bx aq (kQ eV) ?_
   refine aA ?_
   refine bZ h (fun de h=> ?_) fun de h=> ?_
   · refine aA ?_
     obtain rfl:=aC h
     exact hX _ _ _ _ _ ez aL aq (kr _ (hR _ rfl))
   · refine aM cB ?_
     obtain rfl:=aC h
     exact hN _ rfl _ _ _ _ aL aq ⟨rfl,rfl⟩
 · refine aA ?_
   obtain rfl:=aC h
   exact hX _ _ _ _ _ ez aL aq (dV _ (hB _ rfl))
theorem yl {F:Nat} {s1:List UInt8} {H0:AH} {aI:Bool} (h:dj F s1=some aI):
 az Tryz.prog 58 [(.str s1)] H0 fun v H'=>v=(.bool aI)∧H'=H0:=by
 refine dz zY mh fun hcl K0 aN=> ?_
 rw [dj.eq_1] at h
 refine aA ?_
 obtain ⟨t4,bk,h⟩:=aj h
 refine bS aq (tQ bk ?_)
 refine aA ?_
 refine bZ h (fun cj h=> ?_) fun cj h=> ?_
 · refine aA ?_
   obtain rfl:=aC h
   exact aN _ _ _ bE (aH hcl (bA bC (.bool false)) bD bu ⟨rfl,rfl⟩)
 · refine aA ?_
   obtain ⟨FO,dx,h⟩:=aj h
   refine bS aq (tR dx ?_ ?_)
   · rintro kC rfl
     try dsimp only at h
     refine aA ?_
     obtain rfl:=aC h
     exact aN _ _ _ bE (aH hcl (bA bC (.bool (decide (kC≤255)))) bD bu ⟨rfl,rfl⟩)
   · rintro cm rfl
     try dsimp only at h
     refine aA ?_
     obtain rfl:=aC h
     exact aN _ _ _ bE (aH hcl (bA bC (.bool cm)) bD bu ⟨rfl,rfl⟩)
abbrev mj:au:=(.rg [(av 3 0),(ai 4 (.bin .geq (.t 3) (.c (b8 65)))),(av 5 4),(aB 6 (.mv (.t 0)) 5 true),(aB 7 (.bin .leq (.t 6) (.c (b8 90))) 5 true),(ai 8 (.pick (.t 5) (.t 7) (.c (.bool false)))),(av 9 8),(aB 10 (.mv (.t 0)) 9 false),(aB 11 (.bin .geq (.t 10) (.c (b8 97))) 9 false),(aB 12 (.mv (.t 11)) 9 false),(aB 13 (.mv (.t 0)) 12 true),(aB 14 (.bin .leq (.t 13) (.c (b8 122))) 12 true),(aB 15 (.pick (.t 12) (.t 14) (.c (.bool false))) 9 false),(ai 16 (.pick (.t 9) (.c (.bool true)) (.t 15))),(aP 2 16)])
abbrev ym:au:=(.seq (.rg [(ai 2 (.aT (.c (.bool false))))]) (.seq (.sem (erase mj)) .ret))
theorem yo:bw Tryz.prog 75 17 [(.tmp 2)] (erase ym):=⟨Tryz.f75,_,rfl,by decide,rfl,by kernel_rfl,rfl,rfl⟩
abbrev qv:List Nat:=[0,2]
def fN (c1:UInt8):Option (Bool):=
 some (((decide (65≤c1))&&(decide (c1≤90)))||((decide (97≤c1))&&(decide (c1≤122))))
theorem sC {c1:UInt8} {H:AH} {K:Exit→Env→AH→Prop}
 (kn:K .normal [(2,(.bool (((decide (65≤c1))&&(decide (c1≤90)))||((decide (97≤c1))&&(decide (c1≤122))))))] H):
 AX Tryz.prog qv 17 H.length (erase mj) K [(0,(b8 c1)),(2,(.bool false))] H:=by
 refine cG fun K' hK=> ?_
 refine aA ?_
 refine mM (fun hy1=> ?_) fun hy1=> ?_
 · refine aM hy1 ?_
   refine mM (fun aV=> ?_) fun aV=> ?_
   · refine aM aV ?_
     exact hK _ _ _ _ _ (dL (aK hy1 aV)) aq kn
   · refine aM aV ?_
     refine mM (fun aY=> ?_) fun aY=> ?_
     · refine aM aY ?_
       exact hK _ _ _ _ _ (dL (aK hy1 (aK aV aY))) aq kn
     · refine aM aY ?_
       exact hK _ _ _ _ _ (dL (aK hy1 (aK aV aY))) aq kn
 · refine aM hy1 ?_
   refine mM (fun aX=> ?_) fun aX=> ?_
   · refine aM aX ?_
     exact hK _ _ _ _ _ (dL (aK hy1 aX)) aq kn
   · refine aM aX ?_
     exact hK _ _ _ _ _ (dL (aK hy1 aX)) aq kn
theorem o7 {c1:UInt8} {H0:AH} {aI:Bool} (h:fN c1=some aI):
 az Tryz.prog 75 [(b8 c1)] H0 fun v H'=>v=(.bool aI)∧H'=H0:=by
 refine dz yo qv fun hcl K0 aN=> ?_
 rw [fN.eq_1] at h
 refine aA ?_
 refine bS aq (sC (c1:=c1) ?_)
 refine aA ?_
 obtain rfl:=aC h
 exact aN _ _ _ bE (aH hcl (bA bC (.bool (((decide (65≤c1))&&(decide (c1≤90)))||((decide (97≤c1))&&(decide (c1≤122)))))) bD bu ⟨rfl,rfl⟩)
end Go.Proofs.bX
end
