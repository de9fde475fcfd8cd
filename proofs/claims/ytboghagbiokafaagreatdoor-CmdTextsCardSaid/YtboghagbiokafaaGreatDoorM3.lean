import Derived.Test.YtboghagbiokafaaGreatDoorM2
import Derived.Shelf.Strconv.Itoa3
import Derived.Shelf.Strings.Trim
import Derived.Shelf.Small.Utf8
import Derived.Shelf.Small.Strs
import Derived.Shelf.Utf8.RuneCount
import Derived.Shelf.Strconv.Atoi
import Derived.Shelf.Strconv.Itoa0
import Derived.Shelf.Strconv.Itoa1
import Derived.Shelf.LaysM
import Derived.Shelf.Strconv.Itoa2
import Derived.Shelf.Strconv.AtoiErrFast
import Derived.Shelf.Strconv.ParseIntEmpty
import Derived.Shelf.Strconv.AtoiFail
import Derived.Shelf.Strconv.Clone
import Derived.Shelf.Strconv.SyntaxError
import Derived.Shelf.LaysC
import Derived.Shelf.Strconv.ToError
import Derived.Shelf.Strconv.Lower
import Derived.Shelf.Strconv.ParseUint10
import Derived.Shelf.Strconv.ParseUint10Empty
import Derived.Shelf.Strconv.ParseUint10Any
import Derived.Shelf.Strconv.ParseInt10
import Derived.Shelf.Strconv.AtoiLong
import Derived.Shelf.Strconv.AtoiInnerAll
import Derived.Shelf.Strconv.RangeError
import Derived.Shelf.Strconv.ToErrorRange
import Derived.Shelf.Strconv.AtoiAll
import Derived.Shelf.Strconv.ErrVarAll
import Derived.Shelf.Strings.Search1
import Derived.Shelf.Strings.Search2
import Derived.Shelf.Strings.Search3
import Derived.Shelf.Strings.Cut
import Derived.Shelf.Strings.Count
import Derived.Shelf.Strings.Shaped
import Derived.Shelf.Strings.Split
import Derived.Shelf.Strings.SplitShaped
import Derived.Shelf.Unicode.Decode
import Derived.Shelf.Strings.Runes
import Derived.Shelf.Strings.RuneCount
import Derived.Shelf.Strings.AsciiSet
import Derived.Shelf.Strings.Explode
import Derived.Shelf.Unicode.DecodeSlow
import Derived.Shelf.Unicode.DecodeAny
import Derived.Shelf.Unicode.DecodeLast
import Derived.Test.YtboghagbiokafaaGreatDoorProg
import Derived.Lib.Split
import Derived.Shelf.Strings.SlTrimAscii
set_option linter.unusedSimpArgs false
set_option linter.unusedVariables false
set_option linter.unusedSectionVars false
set_option linter.defProp false
section
namespace Go.Am
open Go
variable [Tabs]
def EK (k:Nat) (xs:List AV):Prop:=∀(i:Nat) (a:AV),xs[i]? =some a→a.cells.length=k∧bZ a.cells=true∧fY a.cells=true∧aU a.cells=true
theorem EK.ml {α:Type} {f:α→AV} {k:Nat} (h:∀x,(f x).cells.length=k∧bZ (f x).cells=true∧fY (f x).cells=true∧aU (f x).cells=true) (l:List α):EK k (ml f l):=by
 intro i a hi
 simp only [Am.ml,List.getElem?_map,Option.map_eq_some_iff] at hi
 obtain ⟨x, -,rfl⟩:=hi
 exact h x
def fla (xs:List AV):List AV:=(xs.map fun a=>a.cells.map AV.s1).flatten
theorem mw (a:AV) (xs:List AV):fla (a::xs)=a.cells.map AV.s1++fla xs:=rfl
theorem Jj (xs ys:List AV):fla (xs++ys)=fla xs++fla ys:=by simp [fla]
theorem EK.tail {k:Nat} {a:AV} {xs:List AV} (h:EK k (a::xs)):EK k xs:=fun i b hb=>h (i+1) b (by simpa using hb)
theorem mQ {k:Nat}:∀ {xs:List AV},EK k xs→(fla xs).length=xs.length*k:=by
 intro xs
 induction xs with
 |nil=>intro _;simp [fla]
 |cons a r ih=>intro h;rw [mw,List.length_append,List.length_map,ih h.tail,(h 0 a rfl).1,List.length_cons,Nat.succ_mul];omega
theorem Jk {k:Nat}:∀ {xs:List AV},EK k xs→∀(i j:Nat) (a:AV),xs[i]? =some a→j<k→(fla xs)[i*k+j]? =(a.cells.map AV.s1)[j]? :=by
 intro xs
 induction xs with
 |nil=>intro _ i j a h;simp at h
 |cons y r ih=>
  intro h i j a hi hj
  have hy:=(h 0 y rfl).1
  rw [mw]
  cases i with
  |zero=>
   simp at hi;subst hi
   rw [List.getElem?_append_left (by simp;omega)];simp
  |succ i=>
   rw [List.getElem?_append_right (by simp only [List.length_map,hy,Nat.succ_mul];omega)]
   rw [show (i+1)*k+j - (y.cells.map AV.s1).length=i*k+j by simp only [List.length_map,hy,Nat.succ_mul];omega]
   exact ih h.tail i j a (by simpa using hi) hj
theorem TJ {k:Nat}:∀ {xs:List AV},EK k xs→∀(i j:Nat) (a a' w:AV),xs[i]? =some a→j<k→a'.cells.map AV.s1=(a.cells.map AV.s1).set j w→fla (xs.set i a')=(fla xs).set (i*k+j) w:=by
 intro xs
 induction xs with
 |nil=>intro _ i j a a' w h;simp at h
 |cons y r ih=>
  intro h i j a a' w hi hj hw
  have hy:=(h 0 y rfl).1
  cases i with
  |zero=>
   simp at hi;subst hi
   rw [List.set_cons_zero,mw,mw,hw,List.set_append_left _ _ (by simp;omega)];simp
  |succ i=>
   rw [List.set_cons_succ,mw,mw,ih h.tail i j a a' w (by simpa using hi) hj hw,List.set_append_right _ _ (by simp only [List.length_map,hy,Nat.succ_mul];omega)]
   rw [show (i+1)*k+j - (y.cells.map AV.s1).length=i*k+j by simp only [List.length_map,hy,Nat.succ_mul];omega]
theorem ZL (a:AV):a.s1.s1=a.s1:=by cases a<;>rfl
theorem WR (xs:List AV):(fla xs).map AV.s1=fla xs:=by
 unfold fla
 rw [List.map_flatten,List.map_map]
 congr 1
 apply List.map_congr_left
 intro a _
 simp [List.map_map,Function.comp_def,ZL]
theorem CX {k:Nat}:∀ {xs:List AV},EK k xs→∀(q:Nat) (a:AV),(fla xs)[q]? =some a→a.flat=true∧a.np=true∧a.iV=true:=by
 intro xs
 induction xs with
 |nil=>intro _ q a h;simp [fla] at h
 |cons y r ih=>
  intro h q a hq
  rw [mw] at hq
  by_cases hlt:q<(y.cells.map AV.s1).length
  · rw [List.getElem?_append_left hlt,List.getElem?_map,Option.map_eq_some_iff] at hq
    obtain ⟨z,hz,rfl⟩:=hq
    have h1:=jr (h 0 y rfl).2.2.2 hz
    have h2:=tM (h 0 y rfl).2.2.1 hz
    have h3:z.iV=true:=by
     have:=(h 0 y rfl).2.1
     generalize y.cells=l at this hz
     clear hlt
     induction l generalizing q with
     |nil=>simp at hz
     |cons b l ihl=>
      simp only [bZ,Bool.and_eq_true] at this
      cases q with
      |zero=>simp at hz;subst hz;exact this.1
      |succ q=>exact ihl q this.2 (by simpa using hz)
    cases z<;>simp_all [AV.s1,AV.flat,AV.np,AV.iV]
  · rw [List.getElem?_append_right (by omega)] at hq
    exact ih h.tail _ a hq
theorem Jl {l:List AV} (h:∀(q:Nat) (a:AV),l[q]? =some a→a.flat=true):aU l=true:=by
 induction l with
 |nil=>rfl
 |cons a r ih=>simp only [aU,Bool.and_eq_true];exact ⟨h 0 a rfl,ih fun q b hb=>h (q+1) b (by simpa using hb)⟩
theorem lA (k:Nat) (xs:List AV) (c:Nat):kS k xs c=fla xs++List.replicate ((c - xs.length)*k) .un:=rfl
theorem zd {k c:Nat} {xs:List AV} (h:EK k xs) (hc:xs.length≤c):(kS k xs c).length=c*k:=by
 rw [lA,List.length_append,mQ h,List.length_replicate, ←Nat.add_mul];congr 1;omega
theorem An {k c:Nat} {xs:List AV} (h:EK k xs):(kS k xs c).take (xs.length*k)=fla xs:=by
 rw [lA,List.take_append_of_le_length (by rw [mQ h];exact Nat.le_refl _),List.take_of_length_le (by rw [mQ h];exact Nat.le_refl _)]
theorem TK {k c i j:Nat} {xs:List AV} {a:AV} (h:EK k xs) (hi:xs[i]? =some a) (hj:j<k):(kS k xs c)[i*k+j]? =(a.cells.map AV.s1)[j]? :=by
 have hlt:i<xs.length:=(List.getElem?_eq_some_iff.1 hi).1
 have:(i+1)*k≤xs.length*k:=Nat.mul_le_mul_right _ hlt
 rw [Nat.succ_mul] at this
 rw [lA,List.getElem?_append_left (by rw [mQ h];omega),Jk h i j a hi hj]
theorem Qv {k c i j:Nat} {xs:List AV} {a a' w:AV} (h:EK k xs) (hi:xs[i]? =some a) (hj:j<k) (hw:a'.cells.map AV.s1=(a.cells.map AV.s1).set j w):
 over (kS k xs c) (i*k+j) [w]=some (kS k (xs.set i a') c):=by
 have hlt:i<xs.length:=(List.getElem?_eq_some_iff.1 hi).1
 have hm:(i+1)*k≤xs.length*k:=Nat.mul_le_mul_right _ hlt
 rw [Nat.succ_mul] at hm
 have hl:=mQ h
 unfold over
 rw [if_pos (by rw [lA,List.length_append,hl,List.length_singleton];omega)]
 congr 1
 rw [lA k (xs.set i a'),List.length_set,TJ h i j a a' w hi hj hw,lA]
 rw [←List.set_append_left _ _ (by rw [hl];omega)]
 rw [List.set_eq_take_append_cons_drop,if_pos (by rw [List.length_append,hl];omega)]
 simp
def GF (k n0 q:Nat) (xs:List AV) (c:Nat) (ah:AH):Prop:=
 (c=0∧xs=[])∨(n0≤q∧0<c∧xs.length≤c∧ah[q]? =some (kS k xs c))
theorem GF.lt {k n0 q c:Nat} {xs:List AV} {ah:AH} (h:GF k n0 q xs c ah) (hc:0<c):q<ah.length∧n0≤q:=by
 rcases h with ⟨h, -⟩|⟨h1, -, -,h2⟩
 · omega
 · exact ⟨(List.getElem?_eq_some_iff.1 h2).1,h1⟩
theorem GF.nil {k n0 q:Nat} {ah:AH}:GF k n0 q [] 0 ah:= .inl ⟨rfl,rfl⟩
theorem GF.at {k n0 q c i:Nat} {xs:List AV} {ah:AH} {a:AV} (h:GF k n0 q xs c ah) (hi:xs[i]? =some a):n0≤q∧ah[q]? =some (kS k xs c):=by
 rcases h with ⟨-,rfl⟩|⟨h1, -, -,h2⟩
 · simp at hi
 · exact ⟨h1,h2⟩
theorem GF.of {k n0 q c:Nat} {xs:List AV} {ah aE:AH} (h:GF k n0 q xs c ah) (he:q<ah.length→n0≤q→aE[q]? =ah[q]?):GF k n0 q xs c aE:=by
 rcases h with h|⟨h1,h2,h3,h4⟩
 · exact .inl h
 · exact .inr ⟨h1,h2,h3,by rw [he (List.getElem?_eq_some_iff.1 h4).1 h1];exact h4⟩
theorem GF.set {k n0 q c i:Nat} {xs:List AV} {ah:AH} {a a':AV} (h:GF k n0 q xs c ah) (hi:xs[i]? =some a):GF k n0 q (xs.set i a') c (ah.set q (kS k (xs.set i a') c)):=by
 rcases h with ⟨-,rfl⟩|⟨h1,h2,h3,h4⟩
 · simp at hi
 · exact .inr ⟨h1,h2,by simpa using h3,List.getElem?_set_self (List.getElem?_eq_some_iff.1 h4).1⟩
section
variable {P:Program} {L:List Nat} {N n0:Nat} {e:Env} {ah:AH} {t:List It} {Q:Exit→Env→AH→Prop} {r:List aL} {d:Option Nat} {g:Option (Nat×Bool)}
theorem TL {α:Type} {f:α→AV} {k b q c n1:Nat} {x y:Ar} {tg:Tg} {X Y Z:List α} {ys:List AV} (hf:∀x,(f x).cells.length=k∧bZ (f x).cells=true∧fY (f x).cells=true∧aU (f x).cells=true)
 (hk0:0<k) (hx:ev e x= .cv q k X.length c) (hy:ev e y= .sl tg k ys) (hys:ys=ml f Y) (hY:Y≠[]) (hz:eE b X Y=some Z) (hG:GF k n1 q (ml f X) c ah) (hn:n1≤ah.length)
 (hK:∀q' c' aE,GF k n1 q' (ml f Z) c' aE→(∀s,s<ah.length→s<n1∨(0<c→s≠q)→aE[s]? =ah[s]?)→ah.length≤aE.length→(q'=q∨ah.length≤q')→
  U P L N n0 (.ops r::t) Q .normal (aG L e d (.cv q' k Z.length c')) aE):
 UG P L N n0 ⟨d, .me k b x y,g⟩ r t Q e ah (some true):=by
 subst hys
 obtain ⟨hc,hZ⟩:=F8 hz
 injection hZ with hZ
 subst hZ
 have eX:=EK.ml hf X
 have eY:=EK.ml hf Y
 have eXY:EK k (ml f (X++Y)):=EK.ml hf _
 have hap:ml f (X++Y)=ml f X++ml f Y:=by simp [ml]
 have lX:(ml f X).length=X.length:=by simp [ml]
 have lY:(ml f Y).length=Y.length:=by simp [ml]
 have hyp:0<Y.length:=List.length_pos_iff.2 hY
 show oz L d k b x y e ah fun e ah=>U P L N n0 (.ops r::t) Q .normal e ah
 unfold oz
 rw [hx,hy]
 refine ⟨rfl,rfl,by simpa [ml] using hY,by rw [lY];exact hc.1,by rw [lY];exact hc.2, ?_⟩
 have lXY:(X++Y).length=X.length+Y.length:=List.length_append
 rcases hG with ⟨rfl,hX⟩|⟨h1,h2,h3,h4⟩
 · have hX:X=[]:=by simpa [ml] using hX
   subst hX
   refine .inl ⟨rfl,rfl,fun c' b6=> ?_⟩
   rw [lY] at b6 ⊢
   have:=hK ah.length c' (ah++[kS k (ml f Y) c']) (.inr ⟨hn,by omega,by simpa [ml] using b6,by simp⟩) (fun s hs _=>List.getElem?_append_left hs) (by simp) (.inr (Nat.le_refl _))
   simpa using this
 · rw [lX] at h3
   have hlt:=(List.getElem?_eq_some_iff.1 h4).1
   refine .inr ⟨_,h4,fun h0=> ?_,zd eX (by rw [lX];exact h3),h3, ?_,fun hr=> ?_,fun hr c' b6=> ?_⟩
   · have:=zd eX (c:=c) (by rw [lX];exact h3)
     rw [h0] at this
     have h5:=Nat.mul_pos h2 hk0
     simp at this
     omega
   · rw [←lX,An eX];exact Jl fun q a hq=>(CX eX q a hq).1
   · rw [lY] at hr ⊢
     have e1:(kS k (ml f X) c).take (X.length*k)++((ml f Y).map fun a=>a.cells.map AV.s1).flatten++(kS k (ml f X) c).drop ((X.length+Y.length)*k)=kS k (ml f (X++Y)) c:=by
      have t1:=An (c:=c) eX
      rw [lX] at t1
      rw [t1,lA k (ml f (X++Y)),hap,Jj]
      show fla (ml f X)++fla (ml f Y)++_=_
      congr 1
      rw [lA,List.drop_append,List.drop_of_length_le (by rw [mQ eX,lX];exact Nat.mul_le_mul_right _ (by omega)),List.nil_append,List.drop_replicate]
      congr 1
      rw [mQ eX,List.length_append,lX,lY, ←Nat.sub_mul, ←Nat.sub_mul]
      congr 1
      omega
     rw [e1]
     have:=hK q c (ah.set q (kS k (ml f (X++Y)) c)) (.inr ⟨h1,h2,by simpa [ml] using hr,List.getElem?_set_self hlt⟩) (fun s hs hq=>List.getElem?_set_ne (hq.elim (fun h=>by omega) (fun h=>Ne.symm (h h2)))) (by simp) (.inl rfl)
     rw [lXY] at this
     exact this
   · rw [lY] at b6 hr ⊢
     have e1:((kS k (ml f X) c).take (X.length*k)).map AV.s1++kS k (ml f Y) (c' - X.length)=kS k (ml f (X++Y)) c':=by
      have t1:=An (c:=c) eX
      rw [lX] at t1
      rw [t1,WR,lA,lA,hap,Jj,List.append_assoc]
      congr 3
      rw [List.length_append,lX,lY];congr 1;omega
     rw [e1]
     have:=hK ah.length c' (ah++[kS k (ml f (X++Y)) c']) (.inr ⟨hn,by omega,by simpa [ml] using b6,by simp⟩) (fun s hs _=>List.getElem?_append_left hs) (by simp) (.inr (Nat.le_refl _))
     rw [lXY] at this
     exact this
theorem ZM {q k n c:Nat}:Nw L e ah d (.cv q k n c)=some (aG L e d (.int .i64 n),ah):=rfl
theorem abN {q k n c:Nat} {ki:IntKind} {i:Int}:y9 L e ah d k (.cv q k n c) (.int ki i)=(Al n i).map fun j=>(aG L e d (.ptr q (j*k)),ah):=by
 simp only [y9,Al,and_true]
 split<;>simp
theorem ZN {k m s p:Nat} {ki:IntKind} {i:Int}:Ij L e ah d k m (.ptr s p) (.int ki i)=(Al m i).map fun j=>(aG L e d (.ptr s (p+j*k)),ah):=by
 simp only [Ij,Al]
 split<;>simp
theorem ZO {k m p:Nat} {a:AV} {ki:IntKind} {i:Int}:Ij L e ah d k m (.ep a p) (.int ki i)=(Al m i).map fun j=>(aG L e d (.ep a (p+j*k)),ah):=by
 simp only [Ij,Al]
 split<;>simp
theorem ZP {k:Nat}:Ik L e ah d k (.sl .ex k [])=some (aG L e d (.cv 0 k 0 0),ah):=by simp [Ik]
theorem ZQ {s k n c j:Nat}:Ik L e ah d j (.cv s k n c)=some (aG L e d (.cv s k n c),ah):=rfl
theorem ZR {u k j:Nat} {xs:List AV}:Ik L e ah d j (.sl (.fr (.tmp u)) k xs)=Nn L e ah d u k xs (Am.get e u):=rfl
theorem WT {u k:Nat} {xs zs:List AV}:Nn L e ah d u k xs (.sl .own k zs)=some (aG L (put e u (.sl .n k zs)) d (.sl .own k xs),ah):=by simp [Nn]
end
theorem Wx.adj {s k n m c:Nat} (h:n=m):Wx (.cv s k n c) (.cv s k m c):=by subst h;exact .same (by simp)
theorem Wx.cv {s k n c:Nat}:Wx (.cv s k n c) (.cv s k n c):= .same (by simp)
def WG:=And.intro @ZR<|And.intro @WT<|And.intro @V5<|And.intro @V6<|And.intro @V7<|And.intro @V8<|And.intro @V9<|And.intro @Wa<|And.intro @Wb<|And.intro @Wc<|And.intro @Wd<|And.intro @We<|And.intro @Wf<|And.intro @Wg<|And.intro @Wh<|And.intro @Wi<|And.intro @Wj<|And.intro @Wl<|And.intro @Sv<|And.intro @Sw<|And.intro @Sx<|And.intro @Sy<|And.intro @ZM<|And.intro @abN<|And.intro @ZN<|And.intro @ZO<|And.intro @ZP<|And.intro @ZQ<|And.intro @YH<|And.intro @YI<|And.intro @Nat.add_zero<|And.intro @Nat.zero_add @Nat.mul_one
section
variable {P:Program} {L:List Nat} {N n0:Nat} {F:Nat→Prop} {γ:List Nat} {C:Nat→List Value} {e e':Env} {ah:AH} {ts:Array Value} {w:World} {Q K:Exit→Env→AH→Prop}
theorem VR.one' {x:AV} {u:Value} (hx:VR C γ x u) (hk:x.iV=true):u.oneCell'=true:=by
 cases hx<;>first|rfl|cases hk|skip
 rename_i hs
 cases u<;>first|rfl|cases hs
theorem SR.XN (h:SR L N F γ C e ah ts w) {s k n1 c:Nat} {xs:List AV} (hkp:0<k) (hk:EK k xs) (hG:GF k n1 s xs c ah)
 (he:∀t,get e' t=get e t∨(get e t= .cv s k xs.length c∧get e' t= .sl .n k xs)):∃C',SR L N F γ C' e' (if c=0 then ah else ah.set s []) ts w∧Ext F C w C' w:=by
 rcases hG with ⟨rfl,rfl⟩|⟨-,hc0,hcl,hs⟩
 · refine ⟨C, ?_,Ext.refl ..⟩
   rw [if_pos rfl]
   have hbk:∀p b,blk γ e' ah ts w p b→blk γ e ah ts w p b:=by
    intro p b hp
    cases p with
    |tmp t=>
     simp only [blk] at hp ⊢
     rcases he t with h1|⟨h1,h2⟩
     · rwa [h1] at hp
     · rw [h2] at hp;simp [bS] at hp
    |obj s=>exact hp
    |cell s i=>exact hp
   refine ⟨h.mem,h.sz,fun t=> ?_,fun p q b hp hq=>h.ew p q b (hbk p b hp) (hbk q b hq),fun p b hp=>h.nf p b (hbk p b hp),h.k9,fun t l k' xs' ht=> ?_⟩
   · rcases he t with h1|⟨h1,h2⟩
     · rw [h1];exact h.env t
     · rw [h2]
       have hv:=(h.env t).1
       rw [h1] at hv
       obtain ⟨a,hv, -⟩:=hv.vh
       rw [hv]
       exact ⟨.rM ..,by simp [TC]⟩
   · rcases he t with h1|⟨h1,h2⟩
     · rw [h1] at ht
       have hf:=h.fr t l k' xs' ht
       cases l with
       |tmp u=>
        refine ⟨hf.1,fun hu=>hf.2 ?_⟩
        rcases he u with g1|⟨g1,g2⟩
        · rwa [g1] at hu
        · rw [g2] at hu;cases hu
       |cell s' o=>exact hf
     · rw [h2] at ht;cases ht
 rw [if_neg (by omega)]
 have hlt:s<γ.length:=by rw [h.mem.len];exact (List.getElem?_eq_some_iff.1 hs).1
 obtain ⟨b,hb⟩:∃b,γ[s]? =some b:=⟨_,List.getElem?_eq_getElem hlt⟩
 obtain ⟨vs,ty,hh,hsz,hcell⟩:=h.mem.obj s b _ hs hb
 have yV:blk γ e ah ts w (.obj s) b:=hb
 have hk0:kS k xs c≠[]:=by
  intro h0
  have:=zd (c:=c) hk hcl
  rw [h0] at this
  have h5:=Nat.mul_pos hc0 hkp
  simp at this
  omega
 have HR:=h.mem.uo s b _ hs hk0 hb
 refine ⟨fun x=>if x=b then vs.toList.take (xs.length*k) else C x, ?_⟩
 generalize xm:(fun x=>if x=b then vs.toList.take (xs.length*k) else C x)=C'
 have c0:C' b=vs.toList.take (xs.length*k):=by rw [←xm];simp
 have c1:∀x,x≠b→C' x=C x:=fun x hx=>by rw [←xm];simp [hx]
 have hgl:=zd (c:=c) hk hcl
 have hmul:xs.length*k≤c*k:=Nat.mul_le_mul_right _ hcl
 have hvl:(C' b).length=xs.length*k:=by rw [c0,List.length_take,show vs.toList.length=vs.size from Array.length_toList];omega
 have hpre:∀x,C x <+: C' x:=by
  intro x
  by_cases hx:x=b
  · subst hx;rw [HR];exact List.nil_prefix
  · rw [c1 x hx];exact List.prefix_refl _
 have hset:∀(s':Nat),s'≠s→(ah.set s [])[s']? =ah[s']? :=fun s' hn=>List.getElem?_set_ne (Ne.symm hn)
 have iX:(ah.set s [])[s]? =some []:=List.getElem?_set_self (by rw [←h.mem.len];exact hlt)
 have xo:∀(s':Nat),γ[s']? =some b→s'=s:=fun s' hs'=>by
  have:=h.ew (.obj s') (.obj s) b hs' hb;injection this
 have hbk:∀p x,blk γ e' (ah.set s []) ts w p x→blk γ e ah ts w p x:=by
  intro p x hp
  cases p with
  |obj s'=>exact hp
  |cell s' i=>
   obtain ⟨ds,a,b0,h1,h2,h3,h4⟩:=hp
   by_cases hn:s'=s
   · subst hn;rw [iX] at h1;injection h1 with h1;subst h1;simp at h2
   · rw [hset s' hn] at h1;exact ⟨ds,a,b0,h1,h2,h3,h4⟩
  |tmp t=>
   simp only [blk] at hp ⊢
   rcases he t with h1|⟨h1,h2⟩
   · rwa [h1] at hp
   · rw [h2] at hp;simp [bS] at hp
 have oC:∀(a:AV) (v:Value),TC w C a v→(∀x,bS a v=some x→x≠b)→TC w C' a v:=fun a v ht hn=>ht.mono fun x hx=>⟨rfl,c1 x (hn x hx)⟩
 refine ⟨⟨⟨by simp [h.mem.len],fun s' x ds h1 h2=> ?_,fun x hx=> ?_,fun s' x ds h1 h0 h2=> ?_,fun s' x ds us ty' fr h1 h2 h3=> ?_⟩,h.sz,fun t=> ?_,fun p q x hp hq=>h.ew p q x (hbk p x hp) (hbk q x hq),fun p x hp=>h.nf p x (hbk p x hp),h.k9,fun t l k xs ht=> ?_⟩,
  ⟨hpre,fun x hx=>⟨rfl,c1 x (fun e=>h.nf _ _ yV (e▸hx))⟩,Nat.le_refl _,rfl,rfl,rfl⟩⟩
 · by_cases hn:s'=s
   · subst hn
     rw [iX] at h1;injection h1 with h1;subst h1
     rw [hb] at h2;injection h2 with h2;subst h2
     exact ⟨vs,ty,hh,by simp,by simp⟩
   · rw [hset s' hn] at h1
     obtain ⟨us,ty',g1,g2,g3⟩:=h.mem.obj s' x ds h1 h2
     refine ⟨us,ty',g1,g2,fun i a hi=>⟨(g3 i a hi).1.mono hpre _ (fun _ _ h=>h),oC _ _ (g3 i a hi).2 fun y hy e=> ?_⟩⟩
     subst e
     obtain ⟨v,hv, -, -⟩:=cellAt h.mem h1 hi h2
     have Kt:v=us.getD i undef:=by
      have hlt:i<us.size:=Nat.lt_of_lt_of_le (List.getElem?_eq_some_iff.1 hi).1 g2
      rw [dA g1,Array.getElem?_eq_getElem hlt] at hv
      simp [Array.getD_eq_getD_getElem?,Array.getElem?_eq_getElem hlt,Option.some.inj hv]
     have:blk γ e ah ts w (.cell s' i) y:=⟨ds,a,x,h1,hi,h2,by rw [hv,Kt];exact hy⟩
     have:=h.ew _ _ _ this yV
     cases this
 · by_cases TI:x=b
   · subst TI;exact ⟨vs,ty.1,ty.2,hh,by rw [c0];exact List.take_prefix _ _⟩
   · rw [c1 x TI] at hx ⊢;exact h.mem.vi x hx
 · have hn:s'≠s:=by
    rintro rfl
    rw [iX] at h1;injection h1 with h1;exact h0 h1.symm
   rw [hset s' hn] at h1
   rw [c1 x (fun e=>hn (xo s' (e▸h2)))]
   exact h.mem.uo s' x ds h1 h0 h2
 · by_cases hn:s'=s
   · subst hn
     rw [iX] at h1;injection h1 with h1;subst h1
     intro i hi;simp at hi
   · rw [hset s' hn] at h1
     exact h.mem.Ct s' x ds us ty' fr h1 h2 h3
 · rcases he t with h1|⟨h1,h2⟩
   · rw [h1]
     refine ⟨(h.env t).1.mono hpre _ (fun _ _ h=>h),oC _ _ (h.env t).2 fun y hy e=> ?_⟩
     subst e
     have:=h.ew (.tmp t) (.obj s) y hy yV
     cases this
   · have hv:=(h.env t).1
     rw [h1] at hv
     obtain ⟨ad,hv,hnc,hcase⟩:=hv.vh
     have hcase:ad=some ⟨b,0,none⟩:=by
      rcases hcase with ⟨-,h0⟩|⟨b',hb',e⟩
      · omega
      · rw [hb] at hb';injection hb' with hb';subst hb';exact e
     subst hcase
     rw [h2,hv]
     have hval:∀q,q<xs.length*k→(C' b).getD q undef=vs.getD q undef:=by
      intro q hq
      rw [c0]
      simp [List.getD_eq_getElem?_getD,Array.getD_eq_getD_getElem?,List.getElem?_take_of_lt hq]
     have nY:∀q a,(fla xs)[q]? =some a→VR C γ a (vs.getD q undef):=by
      intro q a hq
      refine (hcell q a ?_).1
      rw [lA,List.getElem?_append_left (List.getElem?_eq_some_iff.1 hq).1];exact hq
     have hfl:=mQ hk
     refine ⟨.sl _ _ _ _ _ _ _ _ rfl hnc (fun i a hi=>(hk i a hi).1) (by omega) (fun q _ hq=> ?_) (fun i a hi j y hj=> ?_),by simp [TC]⟩
     · rw [Nat.zero_add] at hq
       rw [hval q hq]
       have RE:(fla xs)[q]? =some ((fla xs)[q]'(by omega)):=List.getElem?_eq_getElem (by omega)
       have h3:=nY q _ RE
       have h4:=(CX hk q _ RE).2.2
       exact VR.one' h3 h4
     · have hlt':i<xs.length:=(List.getElem?_eq_some_iff.1 hi).1
       have Rf:j<k:=by rw [←(hk i a hi).1];exact (List.getElem?_eq_some_iff.1 hj).1
       have hm:(i+1)*k≤xs.length*k:=Nat.mul_le_mul_right _ hlt'
       rw [Nat.succ_mul] at hm
       rw [Nat.zero_add,hval _ (by omega)]
       have hg:=Jk hk i j a hi Rf
       rw [List.getElem?_map,hj] at hg
       have h3:=nY _ _ hg
       have hnp:=tM (hk i a hi).2.2.1 hj
       have h4:VR C [] y.s1 (vs.getD (i*k+j) undef):=h3.np (CX hk _ _ hg).2.1
       have h5:VR C' [] y.s1 (vs.getD (i*k+j) undef):=h4.mono hpre [] (fun _ _ h=>h)
       cases y with
       |sl t k xs=>exact h5.jV _
       |_=>exact h5
 · rcases he t with h1|⟨h1,h2⟩
   · have hf:=h.fr t l k xs (by rw [←h1];exact ht)
     cases l with
     |tmp u=>
      refine ⟨hf.1,fun hu=>hf.2 ?_⟩
      rcases he u with g1|⟨g1,g2⟩
      · rwa [g1] at hu
      · rw [g2] at hu;cases hu
     |cell s' o=>
      intro ds a x g1 g2 g3 g4
      by_cases hn:s'=s
      · subst hn;rw [iX] at g1;injection g1 with g1;subst g1;simp at g2
      · rw [hset s' hn] at g1;exact hf ds a x g1 g2 g3 g4
   · rw [h2] at ht;cases ht
end
end Go.Am
namespace Go.Am
open Go
variable [Tabs]
section
variable {P:Program} {L:List Nat} {N n0:Nat} {e e':Env} {ah:AH} {K:Exit→Env→AH→Prop}
inductive FG (s k c:Nat) (xs:List AV):Env→Env→Prop
 |nil:FG s k c xs [] []
 |same (i:Nat) (a:AV) (r r':Env):FG s k c xs r r'→FG s k c xs ((i,a)::r) ((i,a)::r')
 |lay (i n:Nat) (r r':Env):n=xs.length→FG s k c xs r r'→FG s k c xs ((i, .cv s k n c)::r) ((i, .sl .n k xs)::r')
theorem FG.get {s k c:Nat} {xs:List AV} {e e':Env} (h:FG s k c xs e e') (t:Nat):Am.get e' t=Am.get e t∨(Am.get e t= .cv s k xs.length c∧Am.get e' t= .sl .n k xs):=by
 induction h with
 |nil=>exact .inl rfl
 |same i a r r' _ ih=>
  simp only [Am.get]
  by_cases hi:i=t
  · simp [hi]
  · simpa [hi] using ih
 |lay i n r r' hn _ ih=>
  simp only [Am.get]
  by_cases hi:i=t
  · exact .inr ⟨by simp [hi,hn],by simp [hi]⟩
  · simpa [hi] using ih
theorem AX.XN {c0:av} {s k n1 c:Nat} {xs:List AV} (hkp:0<k) (hk:EK k xs) (hG:GF k n1 s xs c ah) (he:FG s k c xs e e')
 (h:∀H',(∀s',s'<n1∨(0<c→s'≠s)→H'[s']? =ah[s']?)→H'.length=ah.length→AX P L N n0 c0 K e' H'):AX P L N n0 c0 K e ah:=by
 intro c' b6 F γ C ts w lu hn
 obtain ⟨C',h1,h2⟩:=lu.XN hkp hk hG he.get
 have hsame:∀s',s'<n1∨(0<c→s'≠s)→(if c=0 then ah else ah.set s [])[s']? =ah[s']? :=by
  intro s' hs'
  rcases hG with ⟨rfl, -⟩|⟨g1,g2, -, -⟩
  · rw [if_pos rfl]
  · rw [if_neg (by omega),List.getElem?_set_ne]
    rcases hs' with h|h
    · omega
    · exact Ne.symm (h g2)
 refine wp_mono (h _ hsame (by split<;>simp) c' b6 F γ C' ts w h1 hn) ?_
 rintro x a w' ⟨q1,q2,e2,sB,γ2,C2,q3,q4,q5,q6⟩
 exact ⟨q1,q2,e2,sB,γ2,C2,q3,q4,q5,h2.trans q6⟩
end
end Go.Am
namespace Go.Am
open Go
variable [Tabs]
def EF {α:Type} (k:Nat) (f:α→AV):Prop:=∀x,(f x).cells.length=k∧bZ (f x).cells=true∧fY (f x).cells=true∧aU (f x).cells=true
section
variable {α:Type} {f:α→AV} {k c j o n q:Nat} {X:List α} {x x':α} {w:AV} {ah:AH}
theorem ze (h:X[j]? =some x):(ml f X)[j]? =some (f x):=by simp [ml,h]
theorem Nz:(ml f X).set j (f x')=ml f (X.set j x'):=by simp [ml,List.map_set]
theorem Qw (he:EF k f) (h:X[j]? =some x) (ho:o<k):(kS k (ml f X) c)[j*k+o]? =((f x).cells.map AV.s1)[o]? :=TK (EK.ml he X) (ze h) ho
theorem ZS (he:EF k f) (h:X[j]? =some x) (ho:0<k):(kS k (ml f X) c)[j*k]? =((f x).cells.map AV.s1)[0]? :=Qw (o:=0) he h ho
theorem Mp (he:EF k f) (h:X[j]? =some x) (ho:o<k) (hw:(f x').cells.map AV.s1=((f x).cells.map AV.s1).set o w):over (kS k (ml f X) c) (j*k+o) [w]=some (kS k (ml f (X.set j x')) c):=by
 rw [Qv (EK.ml he X) (ze h) ho hw,Nz]
theorem XO (he:EF k f) (h:X[j]? =some x) (ho:0<k) (hw:(f x').cells.map AV.s1=((f x).cells.map AV.s1).set 0 w):over (kS k (ml f X) c) (j*k) [w]=some (kS k (ml f (X.set j x')) c):=Mp (o:=0) he h ho hw
theorem GF.adk (h:GF k n q (ml f X) c ah) (hj:X[j]? =some x):GF k n q (ml f (X.set j x')) c (ah.set q (kS k (ml f (X.set j x')) c)):=by
 have:=h.set (a':=f x') (ze hj)
 rwa [Nz] at this
theorem GF.atM (h:GF k n q (ml f X) c ah) (hj:X[j]? =some x):ah[q]? =some (kS k (ml f X) c):=(h.at (ze hj)).2
theorem GF.geM (h:GF k n q (ml f X) c ah) (hj:X[j]? =some x):n≤q:=(h.at (ze hj)).1
end
theorem Fr.grow {H0 H H':AH} {S:List Nat} {n q c:Nat} (h:Fr H0 n S H) (hs:∀s,s<H.length→s<n∨(0<c→s≠q)→H'[s]? =H[s]?) (hl:H.length≤H'.length):Fr H0 n S H':=
 ⟨Nat.le_trans h.le hl,fun j hj CW=>(hs j (Nat.lt_of_lt_of_le hj h.le) (.inl hj)).trans (h.eq j hj CW)⟩
theorem Fr.lay {H0 H H':AH} {S:List Nat} {n q c:Nat} (h:Fr H0 n S H) (hs:∀s,s<n∨(0<c→s≠q)→H'[s]? =H[s]?) (hl:H'.length=H.length):Fr H0 n S H':=
 ⟨by rw [hl];exact h.le,fun j hj CW=>(hs j (.inl hj)).trans (h.eq j hj CW)⟩
end Go.Am
end
section
namespace Go.Am
open Go
variable [Tabs]
theorem abO {e:Env} {n:Nat}:ev e (.t n)=Am.get e n:=rfl
theorem abP {e:Env} {a:AV}:ev e (.c a)=a:=rfl
theorem TM {e:Env} {n:Int}:bI e n none= .int .i64 n:=rfl
theorem TN {e:Env} {n:Int} {x:Ar}:bI e n (some x)=ev e x:=rfl
def WU:=And.intro @Ym<|And.intro @VC<|And.intro @Yn<|And.intro @VD<|And.intro @Yo<|And.intro @Yp<|And.intro @aaQ<|And.intro @VE<|And.intro @Yq<|And.intro @VF<|And.intro @VG<|And.intro @RY<|And.intro @RZ<|And.intro @R0<|And.intro @Ol<|And.intro @Om<|And.intro @KH<|And.intro @Yr<|And.intro @R1<|And.intro @On<|And.intro @R2<|And.intro @Oo<|And.intro @Ys<|And.intro @VN<|And.intro @VO<|And.intro @Oq<|And.intro @VP<|And.intro @aaV<|And.intro @Yw<|And.intro @VQ<|And.intro @R3<|And.intro @Yx<|And.intro @R4<|And.intro @Yy<|And.intro @YR<|And.intro @Yz<|And.intro @YA<|And.intro @Ny<|And.intro @aaW<|And.intro @TE<|And.intro @XM<|And.intro @YB<|And.intro @aaX<|And.intro @aaY<|And.intro @YC<|And.intro @aaZ<|And.intro @YD<|And.intro @YE<|And.intro @YF<|And.intro @YG<|And.intro @VV<|And.intro @YJ<|And.intro @YK<|And.intro @TD<|And.intro @TA<|And.intro @Nx<|And.intro @YN<|And.intro @VW<|@VX
def WV:=And.intro @abO<|And.intro @abP<|And.intro @Nq<|And.intro @Nr<|And.intro @VZ<|And.intro @V0<|And.intro @Sg<|And.intro @V1<|And.intro @Sh<|And.intro @V3<|And.intro @Si<|And.intro @TM<|And.intro @TN<|And.intro @Sj<|And.intro @Sk<|And.intro @YS<|And.intro @YT<|And.intro @Sl<|And.intro @Sm<|And.intro @XF<|And.intro @Sn<|And.intro @So<|And.intro @Sp<|And.intro @Sq<|And.intro @Sr<|And.intro @Ss<|And.intro @Su<|And.intro @YU<|And.intro @YV<|And.intro @YW<|And.intro @YX<|And.intro @YY<|And.intro @YZ<|And.intro @aa6<|And.intro @Y0<|And.intro @Y1<|And.intro @Y2<|And.intro @Y3<|And.intro @Y4<|And.intro @Y5<|And.intro @Y6<|And.intro @Y7<|And.intro @aa7<|And.intro @aa8<|And.intro @aa9<|And.intro @abb<|And.intro @Y8<|And.intro @Y9<|And.intro @Za<|And.intro @Zb<|And.intro @Zc<|And.intro @Zd<|And.intro @abd<|And.intro @abe<|And.intro @abf<|And.intro @Ze<|And.intro @Zf<|And.intro @Zg<|And.intro @KM<|And.intro @Ge<|And.intro @Bi<|And.intro @Q_i<|And.intro @Q_s<|And.intro @Q_b<|And.intro @Q_n<|And.intro @abh<|And.intro @abi<|And.intro @abj<|And.intro @abk<|And.intro @Nu<|And.intro @Zh<|And.intro @Zi<|And.intro @Zj<|And.intro @Np<|And.intro @F9<|And.intro @Iq<|And.intro @Ga<|And.intro @Zk<|And.intro @za<|And.intro @zb<|And.intro @YL<|And.intro @YM<|And.intro @bF<|@bG
theorem AX.TO {P:Program} {L:List Nat} {N n0:Nat} {K:Exit→Env→AH→Prop} {e:Env} {ah:AH} {m c:av} (hm:erase m=c) (ho:qb N c=true) (h:U P L N n0 [.code m] K .normal e ah):AX P L N n0 c K e ah:=by
 subst hm
 exact fun c' b6=>ov c' m _ e ah b6 ho h
theorem Wx.ZT {a b:Bool} (h:a=b):Wx (.bool a) (.bool b):=by subst h;exact Wx.bool
theorem Wx.abQ {k:IntKind} {a b:Int} (h:a=b):Wx (.int k a) (.int k b):=by subst h;exact Wx.int
theorem Wx.adl {a b:List UInt8} (h:a=b):Wx (.str a) (.str b):=by subst h;exact Wx.str
theorem gu.adm {ah:AH} {q:Nat} {cs:List AV} (hq:ah[q]? =some cs):gu ah (ah.set q cs):=by
 rw [Ox hq];exact gu.refl _
theorem ZU {α:Type} {f:α→AV} {xs:List α} {i:Int} {x:α} (h:idx xs i=some x):idx (ml f xs) i=some (f x):=by rw [Np,h];rfl
theorem ac0 {α:Type} {f:α→AV} {xs ys:List α} {i j:Int} (h:sub xs i j=some ys):sub (ml f xs) i j=some (ml f ys):=by rw [F9,h];rfl
theorem acD {α:Type} {f:α→AV} {xs ys:List α} {i j m:Int} (h:Bj xs i j m=some ys):Bj (ml f xs) i j m=some (ml f ys):=by rw [Iq,h];rfl
end Go.Am
namespace Go.Am
open Go
variable [Tabs]
section
variable {P:Program} {L:List Nat} {N n0:Nat} {e:Env} {ah:AH} {t:List It} {Q:Exit→Env→AH→Prop} {r:List aL}
theorem abR {a b:av} {B:Bool} (h:B=true) (hk:U P L N n0 (.code a::t) Q .normal e ah):UC P L N n0 a b t Q e ah (.bool B):=by subst h;exact hk
theorem abS {a b:av} {B:Bool} (h:B=false) (hk:U P L N n0 (.code b::t) Q .normal e ah):UC P L N n0 a b t Q e ah (.bool B):=by subst h;exact hk
theorem ac1 {o:aL} {B want:Bool} (h:B=want) (hk:UG P L N n0 o r t Q e ah (some true)):UG P L N n0 o r t Q e ah (some (B==want)):=by subst h;simpa using hk
theorem TP {o:aL} {B want:Bool} (h:B= !want) (hk:U P L N n0 (.ops r::t) Q .normal (oG e o.d) ah):UG P L N n0 o r t Q e ah (some (B==want)):=by
 subst h;cases want<;>exact hk
theorem ac2 {o:aL} {B:Bool} (h:B=false) (hk:U P L N n0 (.ops r::t) Q .normal (oG e o.d) ah):UG P L N n0 o r t Q e ah (some (B==true)):=TP h hk
theorem ac3 {o:aL} {B:Bool} (h:B=true) (hk:U P L N n0 (.ops r::t) Q .normal (oG e o.d) ah):UG P L N n0 o r t Q e ah (some (B==false)):=TP h hk
end
theorem acE (B:Bool):B=true∨B=false:=by cases B<;>simp
theorem bq1:(true==true)=true:=rfl
theorem bq2:(true==false)=false:=rfl
theorem bq3:(false==true)=false:=rfl
theorem bq4:(false==false)=true:=rfl
def WB:=And.intro @bq1<|And.intro @bq2<|And.intro @bq3<|And.intro @bq4<|And.intro @Bool.and_true<|And.intro @Bool.true_and<|And.intro @Bool.and_false<|And.intro @Bool.false_and<|And.intro @Bool.or_true<|And.intro @Bool.true_or<|And.intro @Bool.or_false<|And.intro @Bool.false_or<|And.intro @Bool.not_true<|And.intro @Bool.not_false<|And.intro @decide_true<|And.intro @decide_false<|And.intro @and_true<|And.intro @true_and<|And.intro @and_self<|And.intro @and_false<|And.intro @false_and<|And.intro @Nat.zero_add<|And.intro @Nat.add_zero<|And.intro @Nat.succ_ne_zero<|And.intro @Nat.lt_irrefl<|And.intro @Bool.false_eq_true<|And.intro @List.contains_cons.{0}<|And.intro @List.contains_nil.{0}<|And.intro @List.take_succ_cons.{0}<|And.intro @List.take_zero.{0}<|And.intro @List.drop_succ_cons.{0}<|And.intro @List.drop_zero.{0}<|And.intro @List.length_cons.{0}<|And.intro @List.length_nil.{0}<|And.intro @List.getElem?_cons_zero.{0}<|And.intro @List.getElem?_cons_succ.{0}<|And.intro @List.getElem?_nil.{0}<|And.intro @List.cons_append.{0}<|And.intro @List.nil_append.{0}<|And.intro @List.append_nil.{0}<|And.intro @List.all_cons.{0}<|And.intro @List.all_nil.{0}<|And.intro @List.set_cons_zero.{0}<|And.intro @List.set_cons_succ.{0}<|And.intro @List.isEmpty_cons.{0}<|And.intro @List.isEmpty_nil.{0}<|And.intro @List.map_cons.{0,0}<|And.intro @List.map_nil.{0,0}<|And.intro @Option.map_some.{0,0}<|And.intro @Option.map_none.{0,0}<|@Option.bind_some.{0,0}
end Go.Am
namespace Go.Am
open Go
variable [Tabs]
section
variable {P:Program} {e':Env} {H0 H':AH} {rs:List ResultVar} {vs:List AV} {r':AV} {R:AV→AH→Prop}
theorem aK (hcl:l8 H0.length H0) (hr:gr P e' H0 rs=some vs) (hc:Cl H0.length (fin vs)) (hw:Wx (fin vs) r') (hR:R r' H0):vC P H0 rs R e' H0:=
 ⟨vs,r',H0,hr,hw,hR, .inl ⟨hc,by rw [List.take_length];exact hcl,Nat.le_refl _,by rw [List.take_length];exact gu.refl _⟩⟩
theorem aV (hf:Fr H0 H0.length [] H') (hcl:l8 H0.length H0) (hr:gr P e' H' rs=some vs) (hc:Cl H0.length (fin vs)) (hw:Wx (fin vs) r') (hR:R r' H0):vC P H0 rs R e' H':=
 ⟨vs,r',H0,hr,hw,hR, .inl ⟨hc,by rw [hf.XJ];exact hcl,hf.le,by rw [hf.XJ];exact gu.refl _⟩⟩
theorem abT (hr:gr P e' H' rs=some vs) (hw:Wx (fin vs) r') {aE:AH} (hh:gu H' aE) (hR:R r' aE):vC P H0 rs R e' H':=
 ⟨vs,r',aE,hr,hw,hR, .inr hh⟩
theorem jZ {s:Nat} {c c':List AV} (hf:Fr H0 H0.length [s] H') (hcl:l8 H0.length H0) (hr:gr P e' H' rs=some vs) (hc:Cl H0.length (fin vs)) (hw:Wx (fin vs) r')
 (hs:H'[s]? =some c) (hl:s<H0.length) (TQ:∀a∈c,Cl H0.length a) (ZV:vB c c') (hR:R r' (H0.set s c')):vC P H0 rs R e' H':=by
 refine ⟨vs,r',H0.set s c',hr,hw,hR, .inl ⟨hc,by rw [hf.XK hs hl];exact hcl.set TQ,hf.le, ?_⟩⟩
 rw [hf.XK hs hl]
 have:=gu.set (ah:=H0.set s c) (q:=s) (cs':=c') (h_eq hl) ZV
 rwa [List.set_set] at this
theorem gu.trans {a b c:AH} (h1:gu a b) (h2:∀(s:Nat) (cs':List AV),c[s]? =some cs'→∃cs,b[s]? =some cs∧(cs'=cs∨(vB cs cs'∧a[s]? =some cs))) (hl:c.length=b.length):gu a c:=by
 refine ⟨by rw [hl,h1.1],fun s cs' hs=> ?_⟩
 obtain ⟨cs,hb,rfl|⟨hw,ha⟩⟩:=h2 s cs' hs
 · exact h1.2 s _ hb
 · exact ⟨cs,ha, .inr hw⟩
theorem gu.abU {ah:AH} {q q2:Nat} {cs cs' ds ds':List AV} (hne:q≠q2) (hq:ah[q]? =some cs) (hc:vB cs cs') (Eg:ah[q2]? =some ds) (hd:vB ds ds'):gu ah ((ah.set q cs').set q2 ds'):=by
 refine gu.trans (gu.set hq hc) (fun s es hs=> ?_) (by simp)
 rw [List.getElem?_set] at hs
 split at hs
 · rename_i h;subst h
   split at hs
   · injection hs with hs;subst hs
     exact ⟨ds,by rw [List.getElem?_set_ne hne];exact Eg, .inr ⟨hd,Eg⟩⟩
   · cases hs
 · exact ⟨es,hs, .inl rfl⟩
theorem abV {s s2:Nat} {c c' d d':List AV} (hf:Fr H0 H0.length [s,s2] H') (hcl:l8 H0.length H0) (hr:gr P e' H' rs=some vs) (hc:Cl H0.length (fin vs)) (hw:Wx (fin vs) r')
 (hs:H'[s]? =some c) (hl:s<H0.length) (TQ:∀a∈c,Cl H0.length a) (ZV:vB c c') (hs2:H'[s2]? =some d) (nW:s2<H0.length) (abW:∀a∈d,Cl H0.length a) (abX:vB d d') (hne:s≠s2)
 (hR:R r' ((H0.set s c').set s2 d')):vC P H0 rs R e' H':=by
 refine ⟨vs,r',(H0.set s c').set s2 d',hr,hw,hR, .inl ⟨hc,by rw [hf.XL hs hs2 hl nW hne];exact (hcl.set TQ).set abW,hf.le, ?_⟩⟩
 rw [hf.XL hs hs2 hl nW hne]
 have:=gu.abU (ah:=(H0.set s c).set s2 d) (q:=s) (q2:=s2) (cs:=c) (cs':=c') (ds:=d) (ds':=d') hne (by rw [List.getElem?_set_ne (Ne.symm hne)];exact h_eq hl) ZV (h_eq (by simpa using nW)) abX
 have e1:(((H0.set s c).set s2 d).set s c').set s2 d'=(H0.set s c').set s2 d':=by
  rw [List.set_comm d c' (Ne.symm hne),List.set_set,List.set_set]
 rwa [e1] at this
end
theorem Fr.trans {ah H H':AH} {n0:Nat} {S S2:List Nat} (h:Fr ah n0 S H) (h2:Fr H H.length S2 H') (hs:∀s∈S2,s∈S∨n0≤s):Fr ah n0 S H':=by
 have h3:=h.le
 refine ⟨Nat.le_trans h.le h2.le,fun j hj CW=> ?_⟩
 rw [h2.eq j (by omega),h.eq j hj CW]
 intro hm
 rcases hs j hm with h4|h4
 · exact CW h4
 · omega
end Go.Am
namespace Go.Am
open Go
variable [Tabs]
theorem XP {P:Program} {L:List Nat} {N n0:Nat} {e:Env} {ah:AH} {t:List It} {Q:Exit→Env→AH→Prop} {r:List aL} {d:Option Nat} {f:Nat} {zq zq':List AV} {bU HE:AH} {V:AV}
 (h:aF P f zq' bU fun v H'=>v=V∧H'=HE) (hw:WL zq zq') (hh:gu ah bU) (hk:U P L N n0 (.ops r::t) Q .normal (aG L (vv e) d V.df) HE):UK P L N n0 f zq d r t Q e ah:=by
 refine XD h hw hh ?_
 rintro _ _ ⟨rfl,rfl⟩
 exact hk
end Go.Am
namespace Go.Am
open Go
variable [Tabs]
def WW:=And.intro WG<|And.intro WM<|And.intro WU<|And.intro WV<|And.intro WB<|And.intro WA0<|And.intro WA1<|And.intro WA2<|And.intro WA3<|And.intro WA4<|And.intro WA5 WA6
def WH:=And.intro @h_eq<|And.intro @XI<|And.intro @SA @Nv
theorem tg1:Tg.sh .ex= .ex:=rfl
theorem V4:Tg.sh .own= .n:=rfl
theorem tg3:Tg.sh .n= .n:=rfl
end Go.Am
end
section
namespace Go.Am
open Go
variable [Tabs]
theorem SR.NA {L:List Nat} {N:Nat} {F:Nat→Prop} {γ:List Nat} {C:Nat→List Value} {e:Env} {ah:AH} {ts:Array Value} {w:World} (h:SR L N F γ C e ah ts w) {r:AV} {v:Value} (hv:VR C γ r v) (ht:TC w C r v)
 (ho:r.bR=false) (hf:∀l k xs,r≠ .sl (.fr l) k xs):SR [] 1 F γ C [(0,r)] ah #[v] w:=by
 have hbk:∀p b,blk γ [(0,r)] ah #[v] w p b→blk γ e ah ts w p b∧∀t,p≠ .tmp t:=by
  intro p b hp
  cases p with
  |obj s=>exact ⟨hp,by simp⟩
  |cell s i=>exact ⟨hp,by simp⟩
  |tmp t=>
   simp only [blk,get] at hp
   split at hp
   · rename_i h0;subst h0;rw [iE _ ho] at hp;cases hp
   · simp [bS] at hp
 refine ⟨h.mem,rfl,fun t=> ?_,fun p q b hp hq=>h.ew p q b (hbk p b hp).1 (hbk q b hq).1,fun p b hp=>h.nf p b (hbk p b hp).1,h.k9,fun t l k xs htl=> ?_⟩
 · by_cases h0:0=t
   · subst h0;simp only [get,if_true];exact ⟨hv,ht⟩
   · simp only [get,if_neg h0];exact ⟨.un ..,by generalize (#[v]:Array Value).getD t undef=u;cases u<;>trivial⟩
 · simp only [get] at htl
   split at htl
   · exact absurd htl (hf l k xs)
   · cases htl
theorem aF.Ci {P:Program} {f:Nat} {args:List AV} {ah:AH} {l:List UInt8} (hc:jt P f=true)
 (h:∀(F:Nat→Prop) (C:Nat→List Value) (γ:List Nat) (w:World) (vs:Array Value),FL F w→vs.size=args.length→(∀(i:Nat) (a:AV),args[i]? =some a→VR C γ a (vs.getD i undef))→
  Calls P f vs w fun en w'=>en= .returned (.string ⟨l.toArray⟩)∧(∀b,b<w.heap.size→w'.heap[b]? =w.heap[b]?)∧w.heap.size≤w'.heap.size∧lq w w'):
 aF P f args ah fun r aE=>r= .str l∧aE=ah:=by
 refine ⟨hc,fun F γ C w vs hs=> ?_⟩
 refine (h F C γ w vs hs.k9 hs.sz fun i a hi=> ?_).mono ?_
 · have:=(hs.env i).1
   rw [eA] at this
   simpa [hi] using this
 · rintro en w' ⟨rfl,h1,h2,h3⟩
   have hg:=hs.grow (C':=C) h1 h2 (fun _ _=>rfl) (fun b hb hne=>by
    exfalso
    obtain ⟨vs',ty,fr,hh, -⟩:=hs.mem.vi b hne
    have:b<w.heap.size:=by
     rcases Nat.lt_or_ge b w.heap.size with h4|h4
     · exact h4
     · rw [Array.getElem?_eq_none h4] at hh;cases hh
    omega) h3
   exact ⟨.str l, .string ⟨l.toArray⟩,ah,γ,C,rfl,⟨rfl,rfl⟩,List.prefix_refl _,hg.1.NA (.str ..) (by simp [TC]) rfl (by simp),hg.2⟩
theorem aF.TR {P:Program} {f:Nat} {args:List AV} {ah:AH} {r:AV} (ho:r.bR=false) (hf:∀l k xs,r≠ .sl (.fr l) k xs) (hc:jt P f=true)
 (h:∀(F:Nat→Prop) (C:Nat→List Value) (γ:List Nat) (w:World) (vs:Array Value),FL F w→vs.size=args.length→(∀(i:Nat) (a:AV),args[i]? =some a→VR C γ a (vs.getD i undef))→
  Calls P f vs w fun en w'=>∃v,en= .returned v∧VR C γ r v∧TC w' C r v∧(∀b,b<w.heap.size→w'.heap[b]? =w.heap[b]?)∧w.heap.size≤w'.heap.size∧lq w w'):
 aF P f args ah fun r' aE=>r'=r∧aE=ah:=by
 refine ⟨hc,fun F γ C w vs hs=> ?_⟩
 refine (h F C γ w vs hs.k9 hs.sz fun i a hi=> ?_).mono ?_
 · have:=(hs.env i).1
   rw [eA] at this
   simpa [hi] using this
 · rintro en w' ⟨v,rfl,hv,ht,h1,h2,h3⟩
   have hg:=hs.grow (C':=C) h1 h2 (fun _ _=>rfl) (fun b hb hne=>by
    exfalso
    obtain ⟨vs',ty,fr,hh, -⟩:=hs.mem.vi b hne
    have:b<w.heap.size:=by
     rcases Nat.lt_or_ge b w.heap.size with h4|h4
     · exact h4
     · rw [Array.getElem?_eq_none h4] at hh;cases hh
    omega) h3
   exact ⟨r,v,ah,γ,C,rfl,⟨rfl,rfl⟩,List.prefix_refl _,hg.1.NA hv ht ho hf,hg.2⟩
theorem aF.TS {P:Program} {f:Nat} {args:List AV} {ah:AH} {ps:List (List UInt8)} (hc:jt P f=true)
 (h:∀(F:Nat→Prop) (C:Nat→List Value) (γ:List Nat) (w:World) (vs:Array Value),FL F w→vs.size=args.length→(∀(i:Nat) (a:AV),args[i]? =some a→VR C γ a (vs.getD i undef))→
  Calls P f vs w fun en w'=>∃t fr,en= .returned (.slice (some ⟨w.heap.size,0,none⟩) ps.length ps.length)∧w'=w.alloc (.cells (ps.map fun l=>Value.string ⟨l.toArray⟩).toArray t fr)∧fr.2≤fr.1):
 aF P f args ah fun r' aE=>r'= .sl .n 1 (ml .str ps)∧aE=ah:=by
 refine ⟨hc,fun F γ C w vs hs=> ?_⟩
 refine (h F C γ w vs hs.k9 hs.sz fun i a hi=> ?_).mono ?_
 · have:=(hs.env i).1
   rw [eA] at this
   simpa [hi] using this
 · rintro en w' ⟨t,fr,rfl,rfl,hfr⟩
   obtain ⟨C', -,he,hg,hv⟩:=vq (w':=w.alloc (.cells (ps.map fun l=>Value.string ⟨l.toArray⟩).toArray t fr)) (ds:=[]) hs (d:=none) (by simp) (cs:=(ps.map fun l=>Value.string ⟨l.toArray⟩).toArray) (t:=t) (fr:=fr)
    (Bz:=ps.map fun l=>Value.string ⟨l.toArray⟩) (xs:=ml .str ps) (k:=1) (n:=ps.length) (c:=ps.length)
    (fun b hb=>by show (w.heap.push _)[b]? =_;rw [Array.getElem?_push_lt hb,Array.getElem?_eq_getElem hb]) (by show (w.heap.push _).size=_;simp) (by show (w.heap.push _)[w.heap.size]? =_;simp)
    (by simp) (by simp only [List.mem_map];rintro v ⟨l, -,rfl⟩;rfl) (by simp) (by simp [ml]) (Nat.le_refl _) (by simp) (by intro i _;omega)
    (by intro i a hi;simp only [ml,List.getElem?_map,Option.map_eq_some_iff] at hi;obtain ⟨l, -,rfl⟩:=hi;rfl)
    (by
     intro i a hi j y hj
     simp only [ml,List.getElem?_map,Option.map_eq_some_iff] at hi
     obtain ⟨l,hl,rfl⟩:=hi
     cases j with
     |succ j=>simp [AV.cells] at hj
     |zero=>
      simp only [AV.cells,List.getElem?_cons_zero,Option.some.injEq] at hj
      subst hj
      simp only [Nat.mul_one,Nat.add_zero,List.getD_eq_getElem?_getD,List.getElem?_map,hl,Option.map_some,Option.getD_some]
      exact .str ..)
   exact ⟨.sl .n 1 (ml .str ps),_,ah,γ,C',rfl,⟨rfl,rfl⟩,List.prefix_refl _,hg.NA (hv.jV _) (by simp [TC]) rfl (by simp),he⟩
theorem Jm {P:Program} {f:Nat} {ah:AH} (n:Int) (hc:jt P f=true) (htab:∀F w,FL F w→Lib.TabIs P w "internal/strconv.uint64pow10" .u64 Lib.pow10Tab)
 (abY:∀w,Lib.TabIs P w "internal/strconv.uint64pow10" .u64 Lib.pow10Tab→Calls P f #[.int .i64 n] w fun e w'=>e= .returned (.string ⟨(Lib.itoa n).toArray⟩)∧∃k os,w'=Go.Sort.grow (w.drewN k) os):
 aF P f [.int .i64 n] ah fun r aE=>r= .str (Lib.itoa n)∧aE=ah:=by
 refine aF.Ci hc fun F C γ w vs hF hl hv=> ?_
 have h0:=(hv 0 _ rfl).cQ
 have hvs:vs= #[.int .i64 n]:=by
  apply Array.ext
  · simpa using hl
  · intro i h1 h2
    simp at h2;subst h2
    simpa [Array.getD_eq_getD_getElem?,Array.getElem?_eq_getElem h1] using h0
 subst hvs
 refine (abY w (htab F w hF)).mono ?_
 rintro e w' ⟨rfl,k,os,rfl⟩
 refine ⟨rfl,fun b hb=> ?_, ?_,rfl,rfl,rfl⟩
 · show (w.heap++os)[b]? =_
   rw [Array.getElem?_append_left hb]
 · show w.heap.size≤(w.heap++os).size
   simp
theorem Qx {P:Program} {w:World} {F:Nat→Prop} {name:String} {k:IntKind} {zs:List Int} {g:Nat} (hF:FL F w) (hm:(g,fun cs=>cs=(zs.map fun z=>Value.int k z).toArray)∈Tabs.l) (hg:P.globalNamed name=some g):Lib.TabIs P w name k zs:=by
 obtain ⟨-,cs,ty,fr,h,hcs⟩:=hF.HM _ hm
 simp only at h hcs
 subst hcs
 unfold Lib.TabIs World.var?
 rw [hg]
 simp [h]
end Go.Am
end
section
namespace Go.Am
open Go
variable [Tabs]
def AV.zf:AV→Bool
 | .int _ _| .bool _| .str _| .v _=>true
 |_=>false
def GS:List AV→Bool
 |[]=>true
 |a::r=>a.zf&&GS r
def AV.GU:AV→Bool
 | .agg cs=>GS cs
 |a=>a.zf
def Cj:List AV→Bool
 |[]=>true
 |a::r=>a.GU&&Cj r
def AV.Ep:AV→Bool
 | .bz cs=>Cj cs
 |a=>a.GU
theorem tP {l:List AV} (h:GS l=true) {i:Nat} {a:AV} (hi:l[i]? =some a):a.zf=true:=by
 induction l generalizing i with
 |nil=>simp at hi
 |cons b r ih=>
  simp only [GS,Bool.and_eq_true] at h
  cases i with
  |zero=>simp at hi;subst hi;exact h.1
  |succ i=>exact ih h.2 (by simpa using hi)
theorem Bk {l:List AV} (h:Cj l=true) {i:Nat} {a:AV} (hi:l[i]? =some a):a.GU=true:=by
 induction l generalizing i with
 |nil=>simp at hi
 |cons b r ih=>
  simp only [Cj,Bool.and_eq_true] at h
  cases i with
  |zero=>simp at hi;subst hi;exact h.1
  |succ i=>exact ih h.2 (by simpa using hi)
theorem VR.zf {C C':Nat→List Value} {γ γ':List Nat} {a:AV} {v:Value} (h:VR C γ a v) (hs:a.zf=true):VR C' γ' a v:=by
 cases h with
 |v _ _ hv=>exact .v _ _ hv
 |int=>exact .int ..
 |bool=>exact .bool ..
 |str=>exact .str ..
 |_=>cases hs
theorem VR.GU {C C':Nat→List Value} {γ γ':List Nat} {a:AV} {v:Value} (h:VR C γ a v) (hs:a.GU=true):VR C' γ' a v:=by
 cases h with
 |agg _ cs vs h1 h2=>exact .agg _ _ _ h1 fun i a hi=>(h2 i a hi).zf (tP hs hi)
 |v _ _ hv=>exact .v _ _ hv
 |int=>exact .int ..
 |bool=>exact .bool ..
 |str=>exact .str ..
 |_=>cases hs
theorem VR.Ep {C C':Nat→List Value} {γ γ':List Nat} {a:AV} {v:Value} (h:VR C γ a v) (hs:a.Ep=true):VR C' γ' a v:=by
 cases h with
 |bz _ cs vs h1 h2=>exact .bz _ _ _ h1 fun i a hi=>(h2 i a hi).GU (Bk hs hi)
 |agg _ cs vs h1 h2=>exact .agg _ _ _ h1 fun i a hi=>(h2 i a hi).zf (tP hs hi)
 |v _ _ hv=>exact .v _ _ hv
 |int=>exact .int ..
 |bool=>exact .bool ..
 |str=>exact .str ..
 |_=>cases hs
theorem k8.zf {a:AV} (hs:a.zf=true) (v:Value):k8 a v:=by
 cases a<;>first|(cases hs;done)|(cases v<;>trivial)
theorem FP.GU {a:AV} (hs:a.GU=true) (v:Value):FP a v:=by
 cases a with
 |agg cs=>cases v<;>first|trivial|exact fun i a hi=>k8.zf (tP hs hi) _
 |_=>first|(cases hs;done)|(cases v<;>trivial)
theorem TC.Ep {w:World} {C:Nat→List Value} {a:AV} (hs:a.Ep=true) (v:Value):TC w C a v:=by
 cases a with
 |bz cs=>cases v<;>first|trivial|exact fun i a hi=>FP.GU (Bk hs hi) _
 |agg cs=>cases v<;>first|trivial|exact fun i a hi=>k8.zf (tP hs hi) _
 |_=>first|(cases hs;done)|(cases v<;>trivial)
theorem TT {a:AV} (hs:a.Ep=true):a.bR=false:=by
 cases a<;>first|rfl|cases hs
theorem WX {a:AV} (hs:a.Ep=true) (l:Loc) (k:Nat) (xs:List AV):a≠ .sl (.fr l) k xs:=by
 rintro rfl;cases hs
inductive gL (ah:AH):AV→AV→Prop
 |same (a):a.zf=true→gL ah a a
 |ep (a p):gL ah (.ep a p) (.ep a p)
 |sl (t k xs):gL ah (.sl t k xs) (.sl .n k xs)
 |ptr (s o:Nat) (cs cs':List AV):ah[s]? =some cs→cs'.length=cs.length→(∀(i:Nat) (a a':AV),cs[i]? =some a→cs'[i]? =some a'→gL ah a a')→gL ah (.ptr s o) (.ep (.agg cs') o)
inductive PE (ah:AH):AV→AV→Prop
 |one (a a'):gL ah a a'→PE ah a a'
 |fn (f:Nat) (cs:List AV):PE ah (.fn f []) (.fn f [])
 |agg (cs cs':List AV):cs'.length=cs.length→(∀(i:Nat) (a a':AV),cs[i]? =some a→cs'[i]? =some a'→gL ah a a')→PE ah (.agg cs) (.agg cs')
def CY (w:World) (b:Nat):List Value:=match w.heap[b]? with|some (.cells vs _ _)=>vs.toList|_=>[]
open Classical in
noncomputable def Cx (w:World) (γ:List Nat) (C:Nat→List Value):Nat→List Value:=fun b=>if b∈γ then CY w b else C b
section
variable {L:List Nat} {N:Nat} {F:Nat→Prop} {γ:List Nat} {C:Nat→List Value} {e:Env} {ah:AH} {ts:Array Value} {w:World}
theorem NB (h:Mem γ C ah w) (b:Nat):C b <+: Cx w γ C b:=by
 unfold Cx
 split
 · rename_i hb
   by_cases hne:C b=[]
   · rw [hne];exact List.nil_prefix
   · obtain ⟨vs,ty,fr,hh,hp⟩:=h.vi b hne
     unfold CY;rw [hh];exact hp
 · exact List.prefix_refl _
theorem NC {s b:Nat} {vs:Array Value} {ty:TypeId} {fr:Nat×Nat} (hs:γ[s]? =some b) (hb:w.heap[b]? =some (.cells vs ty fr)):Cx w γ C b=vs.toList:=by
 unfold Cx CY
 rw [if_pos (List.mem_of_getElem? hs),hb]
theorem VR.WY {C:Nat→List Value} {γ:List Nat} {t:Tg} {k:Nat} {xs:List AV} {v:Value} (h:VR C γ (.sl t k xs) v) (γ':List Nat):VR C γ' (.sl .n k xs) v:=by
 cases h with
 |rM=>exact .rM ..
 |sl _ _ _ _ b o n c hn hc hk hl ho hx=>exact .sl _ _ _ _ _ _ _ _ hn hc hk hl ho hx
theorem gL.vr (hm:Mem γ C ah w) {a a':AV} (hp:gL ah a a'):∀ {v:Value},VR C γ a v→VR (Cx w γ C) [] a' v:=by
 induction hp with
 |same a hs=>intro v h;exact h.zf hs
 |ep a p=>
  intro v h
  have h':=h.np rfl
  exact h'.mono (NB hm) [] (fun _ _ h=>h)
 |sl t k xs=>
  intro v h
  exact (h.WY []).mono (NB hm) [] (fun _ _ h=>h)
 |ptr s o cs cs' hs hl hc ih=>
  intro v h
  obtain ⟨b,hb,rfl⟩:=h.iW
  obtain ⟨vs,ty,hh,hsz,hcell⟩:=hm.obj s b cs hs hb
  have hx:Cx w γ C b=vs.toList:=NC hb hh
  suffices hS:VR (Cx w γ C) [] (.ep (.agg cs') o) (.pointer (some ⟨b,0+o,none⟩)) by rwa [Nat.zero_add] at hS
  refine VR.ep [] (.agg cs') o b 0 (by rw [hx];simpa [AV.cells,hl] using hsz) fun j a' hj=> ?_
  simp only [AV.cells] at hj
  have hlt:j<cs.length:=by rw [←hl];exact (List.getElem?_eq_some_iff.1 hj).1
  have h0:cs[j]? =some cs[j]:=List.getElem?_eq_getElem hlt
  have:=ih j _ _ h0 hj (hcell j _ h0).1
  rw [hx,Nat.zero_add]
  have e1:vs.toList.getD j undef=vs.getD j undef:=by simp [List.getD_eq_getElem?_getD,Array.getD_eq_getD_getElem?]
  rw [e1];exact this
theorem gL.flat {a a':AV} (hp:gL ah a a') (v:Value):k8 a' v∧a'.plain=true:=by
 cases hp with
 |same _ hs=>exact ⟨k8.zf hs v,by cases a<;>first|rfl|cases hs⟩
 |ep=>exact ⟨by cases v<;>trivial,rfl⟩
 |sl=>exact ⟨FQ ..,rfl⟩
 |ptr=>exact ⟨by cases v<;>trivial,rfl⟩
theorem PE.vr (hm:Mem γ C ah w) {a a':AV} (hp:PE ah a a') {v:Value} (h:VR C γ a v):VR (Cx w γ C) [] a' v:=by
 cases hp with
 |one _ _ h1=>exact h1.vr hm h
 |fn f cs=>
  obtain ⟨vs,rfl,h1,h2⟩:=h.FM
  exact .fn _ _ _ _ h1 (by simp)
 |agg cs cs' hl hc=>
  obtain ⟨vs,rfl,h1,h2⟩:=h.mP
  refine .agg _ _ _ (by omega) fun i a' hi=> ?_
  have hlt:i<cs.length:=by rw [←hl];exact (List.getElem?_eq_some_iff.1 hi).1
  have h0:cs[i]? =some cs[i]:=List.getElem?_eq_getElem hlt
  exact (hc i _ _ h0 hi).vr hm (h2 i _ h0)
theorem PE.tc {a a':AV} (hp:PE ah a a') {C':Nat→List Value} (v:Value):TC w C' a' v∧a'.plain=true:=by
 cases hp with
 |one _ _ h1=>
  cases h1 with
  |same _ hs=>exact ⟨by cases a<;>first|(cases hs;done)|(cases v<;>trivial),by cases a<;>first|rfl|cases hs⟩
  |ep=>exact ⟨by cases v<;>trivial,rfl⟩
  |sl=>exact ⟨by cases v<;>trivial,rfl⟩
  |ptr=>exact ⟨by cases v<;>trivial,rfl⟩
 |fn=>exact ⟨by cases v<;>trivial,rfl⟩
 |agg cs cs' hl hc=>
  refine ⟨?_,rfl⟩
  cases v with
  |agg vs=>
   intro i a' hi
   have hlt:i<cs.length:=by rw [←hl];exact (List.getElem?_eq_some_iff.1 hi).1
   exact ((hc i _ _ (List.getElem?_eq_getElem hlt) hi).flat _).1
  |_=>trivial
def l9 (ah:AH):List AV→List AV→Prop
 |[],[]=>True
 |a::r,a'::r'=>PE ah a a'∧l9 ah r r'
 |_,_=>False
theorem l9.len:∀ {xs ys:List AV},l9 ah xs ys→ys.length=xs.length:=by
 intro xs
 induction xs with
 |nil=>intro ys h;cases ys with|nil=>rfl|cons=>exact h.elim
 |cons a r ih=>intro ys h;cases ys with|nil=>exact h.elim|cons a' r'=>simp [ih h.2]
theorem l9.get:∀ {xs ys:List AV},l9 ah xs ys→∀(i:Nat) (a a':AV),xs[i]? =some a→ys[i]? =some a'→PE ah a a':=by
 intro xs
 induction xs with
 |nil=>intro ys _ i a a' h;simp at h
 |cons a r ih=>
  intro ys h i b b' h1 h2
  cases ys with
  |nil=>exact h.elim
  |cons a' r'=>
   rcases i with _|i
   · simp at h1 h2;subst h1;subst h2;exact h.1
   · exact ih h.2 i b b' (by simpa using h1) (by simpa using h2)
def nO (ah:AH):List AV→List AV→Prop
 |[],[]=>True
 |a::r,a'::r'=>gL ah a a'∧nO ah r r'
 |_,_=>False
theorem nO.len:∀ {xs ys:List AV},nO ah xs ys→ys.length=xs.length:=by
 intro xs
 induction xs with
 |nil=>intro ys h;cases ys with|nil=>rfl|cons=>exact h.elim
 |cons a r ih=>intro ys h;cases ys with|nil=>exact h.elim|cons a' r'=>simp [ih h.2]
theorem nO.get:∀ {xs ys:List AV},nO ah xs ys→∀(i:Nat) (a a':AV),xs[i]? =some a→ys[i]? =some a'→gL ah a a':=by
 intro xs
 induction xs with
 |nil=>intro ys _ i a a' h;simp at h
 |cons a r ih=>
  intro ys h i b b' h1 h2
  cases ys with
  |nil=>exact h.elim
  |cons a' r'=>
   rcases i with _|i
   · simp at h1 h2;subst h1;subst h2;exact h.1
   · exact ih h.2 i b b' (by simpa using h1) (by simpa using h2)
theorem l9.nil:l9 ah [] []:=trivial
theorem l9.cons {a a':AV} {r r':List AV} (h:PE ah a a') (hr:l9 ah r r'):l9 ah (a::r) (a'::r'):=⟨h,hr⟩
theorem nO.nil:nO ah [] []:=trivial
theorem nO.cons {a a':AV} {r r':List AV} (h:gL ah a a') (hr:nO ah r r'):nO ah (a::r) (a'::r'):=⟨h,hr⟩
theorem gL.int {k:IntKind} {i:Int}:gL ah (.int k i) (.int k i):= .same _ rfl
theorem gL.b8 {c:UInt8}:gL ah (Am.b8 c) (Am.b8 c):= .same _ rfl
theorem gL.bool {b:Bool}:gL ah (.bool b) (.bool b):= .same _ rfl
theorem gL.str {l:List UInt8}:gL ah (.str l) (.str l):= .same _ rfl
theorem gL.v {x:Value}:gL ah (.v x) (.v x):= .same _ rfl
theorem gL.Bl {s o:Nat} {cs cs':List AV} (hs:ah[s]? =some cs) (h:nO ah cs cs'):gL ah (.ptr s o) (.ep (.agg cs') o):= .ptr _ _ _ _ hs h.len h.get
theorem PE.adn {cs cs':List AV} (h:nO ah cs cs'):PE ah (.agg cs) (.agg cs'):= .agg _ _ h.len h.get
theorem aF.ofE {P:Program} {f:Nat} {args args':List AV} {R:AV→Prop} (h:aF P f args' [] fun r aE=>R r∧aE=[]) (hp:l9 ah args args') (hs:∀r,R r→r.Ep=true):
 aF P f args ah fun r aE=>R r∧aE=ah:=by
 refine ⟨h.1,fun F γ C w vs lu=> ?_⟩
 have Oe:∀(l:List AV) (t:Nat),get (e4 0 l) t=(l[t]?).getD .un:=fun l t=>by rw [eA];simp
 have ND:∀t,VR (Cx w γ C) [] (get (e4 0 args') t) (vs.getD t undef)∧TC w (Cx w γ C) (get (e4 0 args') t) (vs.getD t undef)∧(get (e4 0 args') t).plain=true:=by
  intro t
  rw [Oe]
  cases ht:args'[t]? with
  |none=>exact ⟨.un ..,by cases vs.getD t undef<;>trivial,rfl⟩
  |some a'=>
   have hlt:t<args.length:=by rw [←hp.len];exact (List.getElem?_eq_some_iff.1 ht).1
   have h0:args[t]? =some args[t]:=List.getElem?_eq_getElem hlt
   have h1:=(lu.env t).1
   rw [Oe,h0] at h1
   have hpe:=hp.get t _ _ h0 ht
   exact ⟨hpe.vr lu.mem h1,hpe.tc _⟩
 have hnb:∀p b,¬blk [] (e4 0 args') [] vs w p b:=by
  intro p b hb
  cases p with
  |obj s=>simp [blk] at hb
  |cell s i=>obtain ⟨cs,a,b0,h1, -⟩:=hb;simp at h1
  |tmp t=>simp only [blk] at hb;rw [iE _ (gJ (ND t).2.2)] at hb;cases hb
 have hs0:SR [] args'.length (fun b=>b<w.heap.size) [] (Cx w γ C) (e4 0 args') [] vs w:=by
  refine ⟨⟨rfl,fun s b cs h1=>by simp at h1,fun b hne=> ?_,fun s b cs h1=>by simp at h1,fun s b cs us ty fr h1=>by simp at h1⟩,by rw [lu.sz,hp.len],fun t=>⟨(ND t).1,(ND t).2.1⟩,fun p q b h1=>absurd h1 (hnb p b),fun p b h1=>absurd h1 (hnb p b),
   ⟨fun b hb=>hb,fun e he=>⟨lu.k9.lt _ (lu.k9.HM e he).1,(lu.k9.HM e he).2⟩⟩,fun t l k xs ht=>absurd ht (wA (ND t).2.2 l k xs)⟩
  by_cases hb:b∈γ
  · obtain ⟨s,hsb⟩:=List.getElem?_of_mem hb
    have hlt:s<ah.length:=by rw [←lu.mem.len];exact (List.getElem?_eq_some_iff.1 hsb).1
    obtain ⟨xs,ty,hh, -⟩:=lu.mem.obj s b _ (List.getElem?_eq_getElem hlt) hsb
    exact ⟨xs,ty.1,ty.2,hh,by rw [NC hsb hh];exact List.prefix_refl _⟩
  · have:Cx w γ C b=C b:=by unfold Cx;rw [if_neg hb]
    rw [this] at hne ⊢
    exact lu.mem.vi b hne
 refine (h.2 _ [] (Cx w γ C) w vs hs0).mono ?_
 rintro en w' ⟨r,v,aE,γ',X0,rfl,⟨hR,rfl⟩,hγ,abZ,hx⟩
 have hold:∀b,b<w.heap.size→w'.heap[b]? =w.heap[b]? :=fun b hb=>(hx.keep b hb).1
 have hg:=lu.grow (w':=w') (C':=C) hold hx.size (fun _ _=>rfl) (fun b hb hne=>by
  exfalso
  obtain ⟨vs',ty,fr,hh, -⟩:=lu.mem.vi b hne
  exact absurd (vn hh) (by omega)) hx.out
 have hv:=(abZ.env 0).1
 simp only [get,if_true] at hv
 have hsc:=hs r hR
 exact ⟨r,v,ah,γ,C,rfl,⟨hR,rfl⟩,List.prefix_refl _,hg.1.NA (hv.Ep hsc) (TC.Ep hsc _) (TT hsc) (WX hsc),hg.2⟩
end
end Go.Am
end
section
set_option maxRecDepth 100000
namespace Go.Am
open Go
open Nat renaming reduceEqDiff→nA,reduceLT→nB,reduceLeDiff→nC,reduceAdd→nD,reduceSub→nE,reduceMul→nF,reduceBEq→nG
variable [Tabs]
theorem ZW {P:Program} {L:List Nat} {N n0:Nat} {e:Env} {ah:AH} {t:List It} {Q:Exit→Env→AH→Prop} {r:List aL} {d:Option Nat} {g:Option (Nat×Bool)} {n:Bool} {x:Ar} {tg:Tg} {k:Nat} {xs:List AV}
 (hx:ev e x= .sl tg k xs) (h1:xs=[]→∀b,U P L N n0 (.ops r::t) Q .normal (aG L e d (.bool b)) ah) (h2:xs≠[]→U P L N n0 (.ops r::t) Q .normal (aG L e d (.bool n)) ah):
 UG P L N n0 ⟨d, .nq n x,g⟩ r t Q e ah (some true):=by
 show Cp L d n x e ah _
 unfold Cp
 rw [hx]
 exact ⟨h1,h2⟩
def Ck (k b:Nat):av:= .seq (.rg [⟨some 2, .aO (.c (.sl .ex k [])),none⟩]) (.seq (.seq (.rg [⟨some 3, .mv (.t 0),none⟩,⟨some 4, .nq false (.t 3),none⟩]) (.cond (.t 4) (.seq (.rg [⟨some 2, .aO (.c (.sl .ex k [])),none⟩]) .ret) .skip))
 (.seq (.rg [⟨some 5, .ve k [],none⟩,⟨some 6, .mv (.t 0),none⟩,⟨some 7, .app k b (.t 5) (.t 6),none⟩,⟨some 2, .aO (.t 7),none⟩]) .ret))
theorem WZ {P:Program} {f k b:Nat} {xs ys:List AV} {H0:AH} (hF:bQ P f 8 [.tmp 2] (Ck k b)) (hz:eE b [] xs=some ys):aF P f [.sl .n k xs] H0 fun v H'=>v= .sl .own k ys∧H'=H0:=by
 refine aF.YP hF (m:=Ck k b) rfl [0,2,4] rfl (by simp) fun hcl K0 aN=> ?_
 refine AX.TO (m:=Ck k b) rfl rfl ?_
 have hys:ys=xs:=by unfold eE at hz;split at hz<;>simp_all
 subst hys
 simp only [WW, ↓reduceIte,nA,nB,nC,nD,nE,nF,nG,reduceCtorEq,Ck]
 have step:U P [0,2,4] 8 H0.length [.code .skip, .code (.seq (.rg [⟨some 5, .ve k [],none⟩,⟨some 6, .mv (.t 0),none⟩,⟨some 7, .app k b (.t 5) (.t 6),none⟩,⟨some 2, .aO (.t 7),none⟩]) .ret)] K0 .normal
  [(0, .sl .n k ys),(2, .sl .ex k []),(4, .bool false)] H0:=by
  simp only [WW, ↓reduceIte,nA,nB,nC,nD,nE,nF,nG,reduceCtorEq,hz,List.all_nil,List.map_nil]
  refine aN _ _ _ (.inr rfl) ?_
  exact aK hcl (wC (a:= .sl .own k ys) rfl rfl Ak) (by simp [fin,AV.df]) Wx.oo (r':= .sl .own k ys) ⟨rfl,rfl⟩
 refine ZW (by rfl) (fun h0 b=> ?_) (fun h0=> ?_)
 · subst h0
   simp only [WW, ↓reduceIte,nA,nB,nC,nD,nE,nF,nG,reduceCtorEq]
   cases b
   · refine abS rfl ?_
     exact step
   · refine abR rfl ?_
     simp only [WW, ↓reduceIte,nA,nB,nC,nD,nE,nF,nG,reduceCtorEq]
     refine aN _ _ _ (.inr rfl) ?_
     exact aK hcl (wC (a:= .sl .ex k []) rfl rfl Ak) (by simp [fin,AV.df]) (Wx.own ..) (r':= .sl .own k []) ⟨rfl,rfl⟩
 · simp only [WW, ↓reduceIte,nA,nB,nC,nD,nE,nF,nG,reduceCtorEq,hz,List.all_nil,List.map_nil]
   refine aN _ _ _ (.inr rfl) ?_
   exact aK hcl (wC (a:= .sl .own k ys) rfl rfl Ak) (by simp [fin,AV.df]) Wx.oo (r':= .sl .own k ys) ⟨rfl,rfl⟩
end Go.Am
namespace Go.Am
open Go
variable [Tabs]
theorem SR.XQ {L:List Nat} {N:Nat} {F:Nat→Prop} {γ:List Nat} {C:Nat→List Value} {e:Env} {ah:AH} {ts:Array Value} {w:World} (h:SR L N F γ C e ah ts w) {r:AV} {v:Value} (hr:Am.get e 0=r) (hv:ts.getD 0 undef=v)
 (hf:∀l k xs,r≠ .sl (.fr l) k xs):SR [] 1 F γ C [(0,r)] ah #[v] w:=by
 subst hr;subst hv
 have hbk:∀p b,blk γ [(0,Am.get e 0)] ah #[ts.getD 0 undef] w p b→blk γ e ah ts w p b:=by
  intro p b hp
  cases p with
  |obj s=>exact hp
  |cell s i=>exact hp
  |tmp t=>
   simp only [blk,Am.get] at hp ⊢
   split at hp
   · rename_i h0;subst h0;exact hp
   · simp [bS] at hp
 refine ⟨h.mem,rfl,fun t=> ?_,fun p q b hp hq=>h.ew p q b (hbk p b hp) (hbk q b hq),fun p b hp=>h.nf p b (hbk p b hp),h.k9,fun t l k xs htl=> ?_⟩
 · by_cases h0:0=t
   · subst h0;simp only [Am.get,if_true];exact h.env 0
   · simp only [Am.get,if_neg h0];exact ⟨.un ..,by generalize (#[ts.getD 0 undef]:Array Value).getD t undef=u;cases u<;>trivial⟩
 · simp only [Am.get] at htl
   split at htl
   · exact absurd htl (hf l k xs)
   · cases htl
theorem XR {P:Program} {f:Nat} {n:Int} {H0:AH} {el:TypeId} {z:Value} (hc:jt P f=true) (hz:z.cells.size=1) (h0:0≤n)
 (hroom:∀(base:Option Addr) (w:World),n=0→Calls P f #[.slice base 0 0, .int .i64 n] w fun e w'=>e= .returned (.slice base 0 0)∧w'=w)
 (hgrow:∀(base:Option Addr) (w:World),0<n→Calls P f #[.slice base 0 0, .int .i64 n] w fun e w'=>e= .returned (.slice (some ⟨w.heap.size,0,none⟩) 0 (grownCap w n.toNat 0 el))∧
  w'=w.drew.alloc (.cells ((#[]:Array Value)++Builtin.zeroCells z.cells n.toNat++Builtin.zeroCells z.cells (grownCap w n.toNat 0 el - n.toNat)) el)):
 aF P f [.sl .ex 1 [], .int .i64 n] H0 fun v H'=>v= .sl .own 1 []∧H'=H0:=by
 refine ⟨hc,fun F γ C w vs hs=> ?_⟩
 have h1:=hs.env 0
 have h2:=(hs.env 1).1
 rw [eA] at h1 h2
 simp only [Nat.zero_le,if_true,Nat.sub_zero,List.getElem?_cons_zero,Option.getD_some] at h1
 simp only [Nat.zero_le,if_true,Nat.sub_zero,List.getElem?_cons_succ,List.getElem?_cons_zero,Option.getD_some] at h2
 obtain ⟨a,c,e1, -⟩:=h1.1.e7
 rw [e1] at h1
 have hc0:c=0:=h1.2
 subst hc0
 have e2:=h2.cQ
 have hvs:vs= #[.slice a 0 0, .int .i64 n]:=by
  have hsz:vs.size=2:=hs.sz
  apply Array.ext
  · simpa using hsz
  · intro i g1 g2
    have:i=0∨i=1:=by omega
    rcases this with rfl|rfl
    · simpa [Array.getD_eq_getD_getElem?,Array.getElem?_eq_getElem g1] using e1
    · simpa [Array.getD_eq_getD_getElem?,Array.getElem?_eq_getElem g1] using e2
 by_cases hn:n=0
 · rw [hvs]
   refine (hroom a w hn).mono ?_
   rintro en w' ⟨rfl,rfl⟩
   have hw:SR [] 2 F γ C (Am.put (e4 0 [.sl .ex 1 [], .int .i64 n]) 0 (.sl .own 1 [])) H0 vs w':=by
    refine hs.wx ⟨fun t=> ?_,gu.refl _⟩
    rw [eZ]
    split
    · rename_i ht;subst ht
      rw [eA]
      exact Wx.own _ _
    · refine Wx.same fun l k xs=> ?_
      rw [eA]
      match t with
      |0=>simp
      |1=>simp
      |t+2=>simp
   exact ⟨.sl .own 1 [],_,H0,γ,C,rfl,⟨rfl,rfl⟩,List.prefix_refl _,hw.XQ (by rw [eZ];simp) (by rw [hvs];rfl) (by simp),Ext.refl ..⟩
 · have hpos:0<n:=by omega
   rw [hvs]
   refine (hgrow a w hpos).mono ?_
   rintro en w' ⟨rfl,rfl⟩
   generalize hcap:grownCap w n.toNat 0 el=cap
   have hge:n.toNat≤cap:=by rw [←hcap];exact grownCap_ge w _ _ _
   generalize hrow:(#[]:Array Value)++Builtin.zeroCells z.cells n.toNat++Builtin.zeroCells z.cells (cap - n.toNat)=row
   have hrl:row.size=cap:=by
    rw [←hrow];simp only [Array.size_append,size_zeroCells,hz];simp;omega
   obtain ⟨q1,q2,q3⟩:=heap_alloc w.drew (.cells row el)
   obtain ⟨C',g1,g2, -, -⟩:=vq (ds:=[]) (w':=w.drew.alloc (.cells row el)) (d:=some 0) (Bz:=[]) (xs:=[]) (k:=1) (n:=0) (c:=cap)
    hs (by intro x hx;injection hx with hx;subst hx;simp) q2 q3 q1 (by simp) (by simp) (by simp) rfl (Nat.zero_le _) (by omega) (fun q hq=>by simp) (by simp) (by simp)
   refine ⟨.sl .own 1 [],_,H0,γ,C',rfl,⟨rfl,rfl⟩,List.prefix_refl _,g1.XQ ?_ ?_ (by simp),g2⟩
   · simp [Am.aG,eZ,AV.bR,AV.df]
   · rw [hvs];rfl
end Go.Am
end
section
set_option maxRecDepth 100000
namespace Go.Am
open Go
open Nat renaming reduceEqDiff→nA,reduceLT→nB,reduceLeDiff→nC,reduceAdd→nD,reduceSub→nE,reduceMul→nF,reduceBEq→nG
variable [Tabs]
theorem ct {p:Prop} (h:p:=by first|assumption|omega|(simp only [za,zb]<;>omega)):p:=h
section
variable {H T:AH} {q s:Nat} {c c':List AV}
theorem cD (h:q<H.length:=by first|assumption|omega|(simp only [za,zb]<;>omega)) (hc:c=c':=by rfl):(H.set q c)[q]? =some c':=hc▸h_eq h
theorem mz {r:Option (List AV)} (hx:H[q]? =r) (h:s≠q:=by first|assumption|omega|(simp only [za,zb]<;>omega)):(H.set s c)[q]? =r:=(XI h).trans hx
theorem BA {r:Option (List AV)} (hx:H[q]? =r) (h:q<H.length:=by first|assumption|omega|(simp only [za,zb]<;>omega)):(H++T)[q]? =r:=(SA h).trans hx
theorem uR (h:q=H.length:=by first|assumption|omega|(simp only [za,zb]<;>omega)) (hc:c=c':=by rfl):(H++[c])[q]? =some c':=hc▸Nv h
theorem cj {ah:AH} {n0:Nat} {S:List Nat} (s:Nat) (h:Fr ah n0 S H) (hs:s∈S∨n0≤s:=by first|exact .inr (by first|assumption|omega|(simp only [za,zb]<;>omega))|exact .inl (by simp)):Fr ah n0 S (H.set s c):=Fr.set h hs
end
theorem ak {H:AH}:gu H H:=gu.refl _
theorem aD {g g':Prop} (k:g') (h:g=g':=by
 first|(conv=>lhs;simp only [WW, ↓reduceIte,nA,nB,nC,nD,nE,nF,nG,reduceCtorEq])|rfl):g:=h▸k
theorem aW {p g g':Prop} (f:p) (k:g') (h:p→g=g':=by
 intro f;first|(conv=>lhs;simp only [WW, ↓reduceIte,nA,nB,nC,nD,nE,nF,nG,reduceCtorEq,f])|rfl):g:=h f▸k
theorem ei {g g':Prop} (k:g') (h:g=g':=by
 first|(conv=>lhs;simp (disch:=first|assumption|omega|(simp only [za,zb]<;>omega)|fail) only [WW,WH, ↓reduceIte,nA,nB,nC,nD,nE,nF,nG,reduceCtorEq])|rfl):g:=h▸k
theorem az {p g g':Prop} (f:p) (k:g') (h:p→g=g':=by
 intro f;first|(conv=>lhs;simp (disch:=first|assumption|omega|(simp only [za,zb]<;>omega)|fail) only [WW,WH, ↓reduceIte,nA,nB,nC,nD,nE,nF,nG,reduceCtorEq,f])|rfl):g:=h f▸k
structure GZ (p:Prop):Prop where
 out:p
section
variable {P:Program} {L:List Nat} {N n0:Nat} {e:Env} {ah:AH} {t:List It} {Q:Exit→Env→AH→Prop} {r:List aL}
theorem bV {β:Type} {x y:Option β} {z:β} {o:aL} {B want:Bool} (h:(if B=true then x else y)=some z) (k1:B=true→x=some z→GZ (UG P L N n0 o r t Q e ah (some (true==want))))
 (k2:B=false→y=some z→GZ (UG P L N n0 o r t Q e ah (some (false==want)))):GZ (UG P L N n0 o r t Q e ah (some (B==want))):=by
 cases B
 · exact k2 rfl h
 · exact k1 rfl h
theorem nj {o:aL} {B want:Bool} (k1:B=true→GZ (UG P L N n0 o r t Q e ah (some (true==want))))
 (k2:B=false→GZ (UG P L N n0 o r t Q e ah (some (false==want)))):GZ (UG P L N n0 o r t Q e ah (some (B==want))):=by
 cases B
 · exact k2 rfl
 · exact k1 rfl
theorem bn {β:Type} {x y:Option β} {z:β} {a b:av} {B:Bool} (h:(if B=true then x else y)=some z) (k1:B=true→x=some z→GZ (U P L N n0 (.code a::t) Q .normal e ah))
 (k2:B=false→y=some z→GZ (U P L N n0 (.code b::t) Q .normal e ah)):GZ (UC P L N n0 a b t Q e ah (.bool B)):=by
 cases B
 · exact k2 rfl h
 · exact k1 rfl h
end
def AV.ab0:AV→Bool
 | .sl (.fr _) _ _=>false
 |_=>true
theorem Wx.ZX {a:AV} (h:a.ab0=true):Wx a a:= .same fun l k xs e=>by subst e;cases h
theorem Wx.gsZ {s k n n' c:Nat} (h:n=n'):Wx (.cv s k n c) (.cv s k n' c):=by subst h;exact Wx.ZX rfl
theorem wAZ {cs cs':List AV} (h:gV cs cs':=by repeat (first|exact gV.nil|apply gV.same|apply gV.n)):gV cs cs':=h
theorem wBZ {cs cs':List AV} (h:nZ cs cs':=by repeat (first|exact nZ.nil|apply nZ.same|apply nZ.n|refine nZ.agg wAZ ?_)):nZ cs cs':=h
theorem aZ {a a':AV} (h:Wx a a':=by
 first|exact Wx.ZX rfl|exact Wx.n|exact Wx.own .. |exact Wx.un _|exact Wx.agg wAZ|exact Wx.err|exact Wx.gsZ (by simp)|exact Wx.aa5 wBZ):Wx a a':=h
theorem aJ {e e1:Env} (h:WE e e1:=by
 repeat (refine WE.cons aZ ?_)
 exact WE.nil):WE e e1:=h
theorem fI {p:Prop} {e e1:Env} (f:p) (h:p→WE e e1:=by
 intro f
 repeat (refine WE.cons (by first|exact aZ|exact Wx.ZT (by simp only [f,WB])|exact Wx.abQ (by simp only [f,WB])|exact Wx.epE (by simp only [f])) ?_)
 exact WE.nil):WE e e1:=h f
theorem wlZ {a a':List AV} (h:WL a a':=by
 repeat (refine WL.cons aZ ?_)
 exact WL.nil):WL a a':=h
theorem Er {a a':List AV} (h:vB a a':=by
 repeat (refine vB.cons aZ ?_)
 exact vB.nil):vB a a':=h
theorem dB {x:Exit} (h:x≠ .normal:=by simp):x≠ .normal:=h
section
variable {P:Program} {L:List Nat} {N n0:Nat} {e:Env} {ah:AH} {t:List It} {Q:Exit→Env→AH→Prop} {r:List aL} {d:Option Nat} {f:Nat}
theorem bE {zs zs':List AV} {bU HE:AH} {V:AV} (hh:gu ah bU) (h:aF P f zs' bU fun v H'=>v=V∧H'=HE) (hk:GZ (U P L N n0 (.ops r::t) Q .normal (aG L (vv e) d V.df) HE))
 (hw:WL zs zs':=by
 repeat (refine WL.cons aZ ?_)
 exact WL.nil):GZ (UK P L N n0 f zs d r t Q e ah):=⟨XP h hw hh hk.out⟩
theorem uXZ {zs zs':List AV} {bU:AH} {R:AV→AH→Prop} (hh:gu ah bU) (h:aF P f zs' bU R) (hk:∀v aE,R v aE→GZ (U P L N n0 (.ops r::t) Q .normal (aG L (vv e) d v.df) aE))
 (hw:WL zs zs':=by
 repeat (refine WL.cons aZ ?_)
 exact WL.nil):GZ (UK P L N n0 f zs d r t Q e ah):=⟨XD h hw hh fun v aE hR=>(hk v aE hR).out⟩
theorem Jn {zs zs':List AV} {V:AV} (h:aF P f zs' [] fun v H'=>v=V∧H'=[]) (hp:l9 ah zs zs') (hk:GZ (U P L N n0 (.ops r::t) Q .normal (aG L (vv e) d V.df) ah)) (hs:V.Ep=true:=by rfl) (hw:WL zs zs:=by
 repeat (refine WL.cons (Wx.ZX rfl) ?_)
 exact WL.nil):GZ (UK P L N n0 f zs d r t Q e ah):=
 ⟨XP (aF.ofE h hp (by rintro _ rfl;exact hs)) hw (gu.refl _) hk.out⟩
theorem Jo {cs cs':List AV} (h:nO ah cs cs':=by
 repeat (first|exact nO.nil|refine nO.cons (by first|exact gL.int|exact gL.b8|exact gL.bool|exact gL.str|exact gL.v|exact .sl _ _ _|exact .ep _ _) ?_)):nO ah cs cs':=h
theorem W0 {c:av} (h:AX P L N n0 c (fun x e ah=>GZ (U P L N n0 t Q x e ah)) e ah):GZ (UX P L N n0 c t Q e ah):=⟨YO (AX.mono h fun _ _ _ h=>h.out)⟩
theorem ZY {c:av} (h:GZ (UX P L N n0 c t Q e ah)):AX P L N n0 c (fun x e ah=>GZ (U P L N n0 t Q x e ah)) e ah:=AX.mono h.out fun _ _ _ h=>⟨h⟩
theorem bB {c:av} {e1:Env} {bU:AH} (hh:gu ah bU) (h:AX P L N n0 c (fun x e ah=>GZ (U P L N n0 t Q x e ah)) e1 bU) (he:WE e e1:=by
 repeat (refine WE.cons aZ ?_)
 exact WE.nil):GZ (UX P L N n0 c t Q e ah):=W0 (AX.weak he hh h)
theorem gaZ {α:Type} {f:α→AV} {k b q c n1:Nat} {x y:Ar} {tg:Tg} {X Y Z:List α} {ys:List AV} {g:Option (Nat×Bool)} (hf:∀x,(f x).cells.length=k∧bZ (f x).cells=true∧fY (f x).cells=true∧aU (f x).cells=true)
 (hk0:0<k) (hx:ev e x= .cv q k X.length c) (hy:ev e y= .sl tg k ys) (hys:ys=ml f Y) (hY:Y≠[]) (hz:eE b X Y=some Z) (hG:GF k n1 q (ml f X) c ah) (hn:n1≤ah.length)
 (hK:∀q' c' aE,GF k n1 q' (ml f Z) c' aE→(∀s,s<ah.length→s<n1∨(0<c→s≠q)→aE[s]? =ah[s]?)→ah.length≤aE.length→(q'=q∨ah.length≤q')→
  GZ (U P L N n0 (.ops r::t) Q .normal (aG L e d (.cv q' k Z.length c')) aE)):
 GZ (UG P L N n0 ⟨d, .me k b x y,g⟩ r t Q e ah (some true)):=⟨TL hf hk0 hx hy hys hY hz hG hn fun q' c' aE h1 h2 h3 h4=>(hK q' c' aE h1 h2 h3 h4).out⟩
end
theorem aB {α:Type} {a b:α} (h:some a=some b):a=b:=Option.some.inj h
theorem cE {α β:Type} {a b:α} {c d:β} (h:some (a,c)=some (b,d)):a=b∧c=d:=Prod.mk.inj (Option.some.inj h)
theorem oI {α β γ:Type} {a b:α} {c d:β} {e f:γ} (h:some (a,c,e)=some (b,d,f)):a=b∧c=d∧e=f:=by
 obtain ⟨h1,h2⟩:=cE h;exact ⟨h1,Prod.mk.inj h2⟩
theorem ab1 {α β γ δ:Type} {a b:α} {c d:β} {e f:γ} {g i:δ} (h:some (a,c,e,g)=some (b,d,f,i)):a=b∧c=d∧e=f∧g=i:=by
 obtain ⟨h1,h2,h3⟩:=oI h;exact ⟨h1,h2,Prod.mk.inj h3⟩
theorem ab2 {α β γ δ ε:Type} {a b:α} {c d:β} {e f:γ} {g i:δ} {j k:ε} (h:some (a,c,e,g,j)=some (b,d,f,i,k)):a=b∧c=d∧e=f∧g=i∧j=k:=by
 obtain ⟨h1,h2,h3,h4⟩:=ab1 h;exact ⟨h1,h2,h3,Prod.mk.inj h4⟩
theorem ado {α β γ δ ε ζ:Type} {a b:α} {c d:β} {e f:γ} {g i:δ} {j k:ε} {l m:ζ} (h:some (a,c,e,g,j,l)=some (b,d,f,i,k,m)):a=b∧c=d∧e=f∧g=i∧j=k∧l=m:=by
 obtain ⟨h1,h2,h3,h4,h5⟩:=ab2 h;exact ⟨h1,h2,h3,h4,Prod.mk.inj h5⟩
theorem bf {P:Program} {e:Env} {ah:AH}:gr P e ah []=some []:=rfl
theorem aX {P:Program} {e:Env} {ah:AH} {t:Nat} {rs:List ResultVar} {vs:List AV} (hr:gr P e ah rs=some vs) (a:AV) (h:Am.get e t=a:=by rfl) (ht:a.eH=false:=by rfl):gr P e ah (.tmp t::rs)=some (a::vs):=wC h ht hr
theorem bg {n:Nat} {a:AV} (h:Cl n a:=by first|(simp [fin,XH,XG,cz,Nu];done)|(simp [fin,AV.df,AV.sh,AV.br,XH,XG,cz,Nu];done)):Cl n a:=h
theorem Es {n:Nat} {c:List AV} (h:∀a∈c,Cl n a:=by simp [Nu];try omega):∀a∈c,Cl n a:=h
theorem aI {p q:Prop} (a:p) (b:q):p∧q:=⟨a,b⟩
theorem bk:Exit.ret= .normal∨Exit.ret= .ret:= .inr rfl
theorem ZZ:Exit.normal= .normal∨Exit.normal= .ret:= .inl rfl
theorem nk {P:Program} {N f:Nat} {rs:List ResultVar} {m:av} (hF:bQ P f N rs (erase m)) (L:List Nat) {args:List AV} {R:AV→AH→Prop} {H0:AH} (S:List Nat)
 (h:l8 H0.length H0→∀K0:Exit→Env→AH→Prop,(∀x e' H,x= .normal∨x= .ret→vC P H0 rs R e' H→GZ (K0 x e' H))→
  ∀H,H=H0→Fr H0 H0.length S H→GZ (U P L N H0.length [.code m] K0 .normal (e4 0 args) H)) (ho:qb N (erase m)=true:=by kernel_rfl) (hN:args.length≤N:=by simp):aF P f args H0 R:=by
 refine aF.YP hF (m:=m) rfl L ho hN fun hcl K0 aN=> ?_
 refine AX.TO (m:=m) rfl ho ?_
 exact (h hcl K0 (fun x e' H h1 h2=>⟨aN x e' H h1 h2⟩) H0 rfl (Fr.refl H0 S)).out
theorem fL {P:Program} {N f:Nat} {rs:List ResultVar} {m:av} (hF:bQ P f N rs (erase m)) (L:List Nat) {args:List AV} {R:AV→AH→Prop} {H0:AH}
 (h:l8 H0.length H0→∀K0:Exit→Env→AH→Prop,(∀x e' H,x= .normal∨x= .ret→vC P H0 rs R e' H→GZ (K0 x e' H))→
  GZ (U P L N H0.length [.code m] K0 .normal (e4 0 args) H0)) (ho:qb N (erase m)=true:=by kernel_rfl) (hN:args.length≤N:=by simp):aF P f args H0 R:=by
 refine aF.YP hF (m:=m) rfl L ho hN fun hcl K0 aN=> ?_
 exact AX.TO (m:=m) rfl ho (h hcl K0 (fun x e' H h1 h2=>⟨aN x e' H h1 h2⟩)).out
theorem b7 {P:Program} {L:List Nat} {N n0:Nat} {e:Env} {ah:AH} {K:Exit→Env→AH→Prop} {m:av}
 (h:∀K':Exit→Env→AH→Prop,(∀x e ah e1 bU,WE e e1→gu ah bU→K x e1 bU→GZ (K' x e ah))→GZ (U P L N n0 [.code m] K' .normal e ah)) (ho:qb N (erase m)=true:=by kernel_rfl):AX P L N n0 (erase m) K e ah:=
 AX.go rfl ho fun K' hK=>(h K' fun x e ah e1 bU h1 h2 h3=>⟨hK x e ah e1 bU h1 h2 h3⟩).out
theorem iY {P:Program} {L:List Nat} {N n0:Nat} {e:Env} {ah:AH} {K:Exit→Env→AH→Prop} {m:av} {ρ τ σ:Type} {body:σ→Option (St ρ τ σ)} (J:σ→Env→AH→Prop) {F:Nat} {s0:σ} {o:ρ⊕τ} (hit:Am.iter body F s0=some o) (h0:J s0 e ah)
 (round:∀(K':Exit→Env→AH→Prop) s st e ah,J s e ah→body s=some st→
 (∀s',st= .cB s'→∀e' aE e1 bU,WE e' e1→gu aE bU→J s' e1 bU→GZ (K' .normal e' aE))→
 (∀t,st= .eg t→o= .inr t)→(∀r,st= .ret r→o= .inl r)→
 (∀x e' aE e1 bU,x≠ .normal→WE e' e1→gu aE bU→K x e1 bU→GZ (K' x e' aE))→GZ (U P L N n0 [.code m] K' .normal e ah)) (ho:qb N (erase m)=true:=by kernel_rfl):AX P L N n0 (.loop (erase m)) K e ah:=
 AX.iter rfl ho J hit h0 fun K' s st e ah h1 h2 h3 h4 h5 h6=>(round K' s st e ah h1 h2 (fun s' h e' aE e1 bU g1 g2 g3=>⟨h3 s' h e' aE e1 bU g1 g2 g3⟩) h4 h5 fun x e' aE e1 bU hx g1 g2 g3=>⟨h6 x e' aE e1 bU hx g1 g2 g3⟩).out
abbrev aj (d:Nat) (p:fK):aL:=⟨some d,p,none⟩
abbrev ay (d:Nat) (p:fK) (g:Nat) (w:Bool):aL:=⟨some d,p,some (g,w)⟩
abbrev cZ (p:fK):aL:=⟨none,p,none⟩
abbrev au (d x:Nat):aL:=⟨some d, .mv (.t x),none⟩
abbrev aR (d x:Nat):aL:=⟨some d, .aO (.t x),none⟩
end Go.Am
end
section
namespace Go.Proofs
open Go.Shelf
def Tryz.GV:Go.Shelf.Ren:=⟨fun|137=>108|217=>88|266=>115|n=>n,fun|9=>9|5=>5|3=>3|n=>n,fun|n=>n⟩
theorem Tryz.TU:Go.Proofs.Lays.n137 Tryz.prog Tryz.GV:= {
 mixed:=by kernel_rfl
 f137:=Tryz.func108.trans (congrArg some (by kernel_rfl))
 f217:=Tryz.func88.trans (congrArg some (by kernel_rfl))
 f266:=Tryz.func115.trans (congrArg some (by kernel_rfl))
 t3:=Tryz.underlying3
 a3:=Tryz.isAgg3
 z3:=Tryz.sizeOf3
 v3:=Tryz.zeroValue3
 t5:=Tryz.underlying5
 a5:=Tryz.isAgg5
 z5:=Tryz.sizeOf5
 v5:=Tryz.zeroValue5
 t9:=Tryz.underlying9
 a9:=Tryz.isAgg9
 z9:=Tryz.sizeOf9
 v9:=Tryz.zeroValue9}
open Go.RowKit in
theorem Tryz.strings_IndexByte (s:ByteArray) (c:Int) (w:World):
 Calls Tryz.prog 108 #[.string s, .int .u8 c] w fun e w'=>e= .returned (.int .i64 (Lib.indexByte s.data.toList c.toNat.toUInt8))∧w'=w:=Any.strings_IndexByte Tryz.TU s c w
def Tryz.Et:Go.Shelf.Ren:=⟨fun|171=>34|243=>57|246=>82|283=>109|284=>110|285=>111|286=>112|129=>127|317=>126|318=>128|319=>129|320=>130|337=>134|338=>135|n=>n,fun|3=>3|9=>9|2=>2|4=>4|171=>96|0=>0|53=>68|37=>33|5=>5|173=>99|212=>113|51=>102|20=>20|213=>114|46=>88|232=>132|233=>133|n=>n,fun|17=>1|18=>6|19=>7|n=>n⟩
theorem Tryz.Qy:Go.Proofs.LaysM.n171 Tryz.prog Tryz.Et:= {
 mixed:=by kernel_rfl
 f129:=Tryz.func127.trans (congrArg some (by kernel_rfl))
 f171:=Tryz.func34.trans (congrArg some (by kernel_rfl))
 f243:=Tryz.func57.trans (congrArg some (by kernel_rfl))
 f246:=Tryz.func82.trans (congrArg some (by kernel_rfl))
 f283:=Tryz.func109.trans (congrArg some (by kernel_rfl))
 f284:=Tryz.func110.trans (congrArg some (by kernel_rfl))
 f285:=Tryz.func111.trans (congrArg some (by kernel_rfl))
 f286:=Tryz.func112.trans (congrArg some (by kernel_rfl))
 f317:=Tryz.func126.trans (congrArg some (by kernel_rfl))
 f318:=Tryz.func128.trans (congrArg some (by kernel_rfl))
 f319:=Tryz.func129.trans (congrArg some (by kernel_rfl))
 f320:=Tryz.func130.trans (congrArg some (by kernel_rfl))
 f337:=Tryz.func134.trans (congrArg some (by kernel_rfl))
 f338:=Tryz.func135.trans (congrArg some (by kernel_rfl))
 t0:=Tryz.underlying0
 a0:=Tryz.isAgg0
 z0:=Tryz.sizeOf0
 v0:=Tryz.zeroValue0
 t2:=Tryz.underlying2
 a2:=Tryz.isAgg2
 z2:=Tryz.sizeOf2
 v2:=Tryz.zeroValue2
 t3:=Tryz.underlying3
 a3:=Tryz.isAgg3
 z3:=Tryz.sizeOf3
 v3:=Tryz.zeroValue3
 t4:=Tryz.underlying4
 a4:=Tryz.isAgg4
 z4:=Tryz.sizeOf4
 v4:=Tryz.zeroValue4
 t5:=Tryz.underlying5
 a5:=Tryz.isAgg5
 z5:=Tryz.sizeOf5
 v5:=Tryz.zeroValue5
 t9:=Tryz.underlying9
 a9:=Tryz.isAgg9
 z9:=Tryz.sizeOf9
 v9:=Tryz.zeroValue9
 t20:=Tryz.underlying20
 a20:=Tryz.isAgg20
 z20:=Tryz.sizeOf20
 v20:=Tryz.zeroValue20
 t37:=Tryz.underlying33
 a37:=Tryz.isAgg33
 z37:=Tryz.sizeOf33
 v37:=Tryz.zeroValue33
 t46:=Tryz.underlying88
 a46:=Tryz.isAgg88
 z46:=Tryz.sizeOf88
 v46:=Tryz.zeroValue88
 t51:=Tryz.underlying102
 a51:=Tryz.isAgg102
 z51:=Tryz.sizeOf102
 v51:=Tryz.zeroValue102
 t53:=Tryz.underlying68
 a53:=Tryz.isAgg68
 z53:=Tryz.sizeOf68
 v53:=Tryz.zeroValue68
 t171:=Tryz.underlying96
 a171:=Tryz.isAgg96
 z171:=Tryz.sizeOf96
 v171:=Tryz.zeroValue96
 t173:=Tryz.underlying99
 a173:=Tryz.isAgg99
 z173:=Tryz.sizeOf99
 v173:=Tryz.zeroValue99
 t212:=Tryz.underlying113
 a212:=Tryz.isAgg113
 z212:=Tryz.sizeOf113
 v212:=Tryz.zeroValue113
 t213:=Tryz.underlying114
 a213:=Tryz.isAgg114
 z213:=Tryz.sizeOf114
 t232:=Tryz.underlying132
 a232:=Tryz.isAgg132
 z232:=Tryz.sizeOf132
 v232:=Tryz.zeroValue132
 t233:=Tryz.underlying133
 a233:=Tryz.isAgg133
 z233:=Tryz.sizeOf133
 v233:=Tryz.zeroValue133
 g17:=by kernel_rfl
 g18:=by kernel_rfl
 g19:=by kernel_rfl
 i0:=by kernel_rfl
 i2:=by kernel_rfl
 i3:=by kernel_rfl
 i4:=by kernel_rfl
 i5:=by kernel_rfl
 i9:=by kernel_rfl
 i20:=by kernel_rfl
 i37:=by kernel_rfl
 i46:=by kernel_rfl
 i51:=by kernel_rfl
 i53:=by kernel_rfl
 i171:=by kernel_rfl
 i173:=by kernel_rfl
 i212:=by kernel_rfl
 i232:=by kernel_rfl
 i233:=by kernel_rfl
 m17:=by kernel_rfl
 m18:=by kernel_rfl
 m19:=by kernel_rfl}
open Go.RowKit Go.Sort Go.Lib in
theorem Tryz.strconv_Itoa (n:Int) (h0: -9223372036854775808≤n) (h1:n≤9223372036854775807) (w:World) (htab:Lib.TabIs Tryz.prog w "internal/strconv.uint64pow10" .u64 Lib.pow10Tab):
 Calls Tryz.prog 34 #[.int .i64 n] w fun e w'=>e= .returned (.string ⟨(Lib.itoa n).toArray⟩)∧∃k os,w'=grow (w.drewN k) os:=Any.strconv_Itoa Tryz.Qy n h0 h1 w htab
def Tryz.Eu:Go.Shelf.Ren:=⟨fun|172=>66|244=>100|245=>101|247=>119|279=>120|280=>121|281=>122|282=>123|287=>131|316=>132|171=>34|205=>133|321=>136|322=>137|243=>57|246=>82|283=>109|284=>110|285=>111|286=>112|129=>127|317=>126|318=>128|319=>129|320=>130|337=>134|338=>135|n=>n,fun|9=>9|3=>3|75=>77|76=>78|4=>4|5=>5|167=>106|37=>33|0=>0|85=>107|2=>2|168=>109|53=>68|175=>121|46=>88|210=>124|127=>128|145=>131|143=>129|21=>21|171=>96|173=>99|212=>113|51=>102|20=>20|213=>114|232=>132|233=>133|80=>93|n=>n,fun|15=>4|16=>5|17=>1|18=>6|19=>7|n=>n⟩
theorem Tryz.Ao:Go.Proofs.LaysC.n172 Tryz.prog Tryz.Eu:= {
 mixed:=by kernel_rfl
 f129:=Tryz.func127.trans (congrArg some (by kernel_rfl))
 f171:=Tryz.func34.trans (congrArg some (by kernel_rfl))
 f172:=Tryz.func66.trans (congrArg some (by kernel_rfl))
 f205:=Tryz.func133.trans (congrArg some (by kernel_rfl))
 f243:=Tryz.func57.trans (congrArg some (by kernel_rfl))
 f244:=Tryz.func100.trans (congrArg some (by kernel_rfl))
 f245:=Tryz.func101.trans (congrArg some (by kernel_rfl))
 f246:=Tryz.func82.trans (congrArg some (by kernel_rfl))
 f247:=Tryz.func119.trans (congrArg some (by kernel_rfl))
 f279:=Tryz.func120.trans (congrArg some (by kernel_rfl))
 f280:=Tryz.func121.trans (congrArg some (by kernel_rfl))
 f281:=Tryz.func122.trans (congrArg some (by kernel_rfl))
 f282:=Tryz.func123.trans (congrArg some (by kernel_rfl))
 f283:=Tryz.func109.trans (congrArg some (by kernel_rfl))
 f284:=Tryz.func110.trans (congrArg some (by kernel_rfl))
 f285:=Tryz.func111.trans (congrArg some (by kernel_rfl))
 f286:=Tryz.func112.trans (congrArg some (by kernel_rfl))
 f287:=Tryz.func131.trans (congrArg some (by kernel_rfl))
 f316:=Tryz.func132.trans (congrArg some (by kernel_rfl))
 f317:=Tryz.func126.trans (congrArg some (by kernel_rfl))
 f318:=Tryz.func128.trans (congrArg some (by kernel_rfl))
 f319:=Tryz.func129.trans (congrArg some (by kernel_rfl))
 f320:=Tryz.func130.trans (congrArg some (by kernel_rfl))
 f321:=Tryz.func136.trans (congrArg some (by kernel_rfl))
 f322:=Tryz.func137.trans (congrArg some (by kernel_rfl))
 f337:=Tryz.func134.trans (congrArg some (by kernel_rfl))
 f338:=Tryz.func135.trans (congrArg some (by kernel_rfl))
 t0:=Tryz.underlying0
 a0:=Tryz.isAgg0
 z0:=Tryz.sizeOf0
 v0:=Tryz.zeroValue0
 t2:=Tryz.underlying2
 a2:=Tryz.isAgg2
 z2:=Tryz.sizeOf2
 v2:=Tryz.zeroValue2
 t3:=Tryz.underlying3
 a3:=Tryz.isAgg3
 z3:=Tryz.sizeOf3
 v3:=Tryz.zeroValue3
 t4:=Tryz.underlying4
 a4:=Tryz.isAgg4
 z4:=Tryz.sizeOf4
 v4:=Tryz.zeroValue4
 t5:=Tryz.underlying5
 a5:=Tryz.isAgg5
 z5:=Tryz.sizeOf5
 v5:=Tryz.zeroValue5
 t9:=Tryz.underlying9
 a9:=Tryz.isAgg9
 z9:=Tryz.sizeOf9
 v9:=Tryz.zeroValue9
 t20:=Tryz.underlying20
 a20:=Tryz.isAgg20
 z20:=Tryz.sizeOf20
 v20:=Tryz.zeroValue20
 t21:=Tryz.underlying21
 a21:=Tryz.isAgg21
 z21:=Tryz.sizeOf21
 v21:=Tryz.zeroValue21
 t37:=Tryz.underlying33
 a37:=Tryz.isAgg33
 z37:=Tryz.sizeOf33
 v37:=Tryz.zeroValue33
 t46:=Tryz.underlying88
 a46:=Tryz.isAgg88
 z46:=Tryz.sizeOf88
 v46:=Tryz.zeroValue88
 t51:=Tryz.underlying102
 a51:=Tryz.isAgg102
 z51:=Tryz.sizeOf102
 v51:=Tryz.zeroValue102
 t53:=Tryz.underlying68
 a53:=Tryz.isAgg68
 z53:=Tryz.sizeOf68
 v53:=Tryz.zeroValue68
 t75:=Tryz.underlying77
 a75:=Tryz.isAgg77
 z75:=Tryz.sizeOf77
 v75:=Tryz.zeroValue77
 t76:=Tryz.underlying78
 a76:=Tryz.isAgg78
 z76:=Tryz.sizeOf78
 v76:=Tryz.zeroValue78
 t85:=Tryz.underlying107
 a85:=Tryz.isAgg107
 z85:=Tryz.sizeOf107
 v85:=Tryz.zeroValue107
 t127:=Tryz.underlying128
 a127:=Tryz.isAgg128
 z127:=Tryz.sizeOf128
 v127:=Tryz.zeroValue128
 t143:=Tryz.underlying129
 a143:=Tryz.isAgg129
 z143:=Tryz.sizeOf129
 v143:=Tryz.zeroValue129
 t145:=Tryz.underlying131
 a145:=Tryz.isAgg131
 z145:=Tryz.sizeOf131
 v145:=Tryz.zeroValue131
 t167:=Tryz.underlying106
 a167:=Tryz.isAgg106
 z167:=Tryz.sizeOf106
 v167:=Tryz.zeroValue106
 t168:=Tryz.underlying109
 a168:=Tryz.isAgg109
 z168:=Tryz.sizeOf109
 v168:=Tryz.zeroValue109
 t171:=Tryz.underlying96
 a171:=Tryz.isAgg96
 z171:=Tryz.sizeOf96
 v171:=Tryz.zeroValue96
 t173:=Tryz.underlying99
 a173:=Tryz.isAgg99
 z173:=Tryz.sizeOf99
 v173:=Tryz.zeroValue99
 t175:=Tryz.underlying121
 a175:=Tryz.isAgg121
 z175:=Tryz.sizeOf121
 v175:=Tryz.zeroValue121
 t210:=Tryz.underlying124
 a210:=Tryz.isAgg124
 z210:=Tryz.sizeOf124
 v210:=Tryz.zeroValue124
 t212:=Tryz.underlying113
 a212:=Tryz.isAgg113
 z212:=Tryz.sizeOf113
 v212:=Tryz.zeroValue113
 t213:=Tryz.underlying114
 a213:=Tryz.isAgg114
 z213:=Tryz.sizeOf114
 t232:=Tryz.underlying132
 a232:=Tryz.isAgg132
 z232:=Tryz.sizeOf132
 v232:=Tryz.zeroValue132
 t233:=Tryz.underlying133
 a233:=Tryz.isAgg133
 z233:=Tryz.sizeOf133
 v233:=Tryz.zeroValue133
 g15:=by kernel_rfl
 g16:=by kernel_rfl
 g17:=by kernel_rfl
 g18:=by kernel_rfl
 g19:=by kernel_rfl
 t80:=Tryz.underlying93
 a80:=Tryz.isAgg93
 z80:=Tryz.sizeOf93
 v80:=Tryz.zeroValue93
 i0:=by kernel_rfl
 i2:=by kernel_rfl
 i3:=by kernel_rfl
 i4:=by kernel_rfl
 i5:=by kernel_rfl
 i9:=by kernel_rfl
 i20:=by kernel_rfl
 i21:=by kernel_rfl
 i37:=by kernel_rfl
 i46:=by kernel_rfl
 i51:=by kernel_rfl
 i53:=by kernel_rfl
 i75:=by kernel_rfl
 i76:=by kernel_rfl
 i80:=by kernel_rfl
 i85:=by kernel_rfl
 i127:=by kernel_rfl
 i143:=by kernel_rfl
 i145:=by kernel_rfl
 i167:=by kernel_rfl
 i168:=by kernel_rfl
 i171:=by kernel_rfl
 i173:=by kernel_rfl
 i175:=by kernel_rfl
 i210:=by kernel_rfl
 i212:=by kernel_rfl
 i232:=by kernel_rfl
 i233:=by kernel_rfl
 m15:=by kernel_rfl
 m16:=by kernel_rfl
 m17:=by kernel_rfl
 m18:=by kernel_rfl
 m19:=by kernel_rfl
 c0:=by kernel_rfl
 c2:=by kernel_rfl
 c3:=by kernel_rfl
 c4:=by kernel_rfl
 c5:=by kernel_rfl
 c9:=by kernel_rfl
 c20:=by kernel_rfl
 c21:=by kernel_rfl
 c37:=by kernel_rfl
 c46:=by kernel_rfl
 c51:=by kernel_rfl
 c53:=by kernel_rfl
 c75:=by kernel_rfl
 c76:=by kernel_rfl
 c80:=by kernel_rfl
 c85:=by kernel_rfl
 c127:=by kernel_rfl
 c143:=by kernel_rfl
 c145:=by kernel_rfl
 c167:=by kernel_rfl
 c168:=by kernel_rfl
 c171:=by kernel_rfl
 c173:=by kernel_rfl
 c175:=by kernel_rfl
 c210:=by kernel_rfl
 c212:=by kernel_rfl
 c213:=by kernel_rfl
 c232:=by kernel_rfl
 c233:=by kernel_rfl}
open Go.RowKit in
theorem Tryz.strconv_Atoi_ok (s:ByteArray) (hmax:s.size≤9223372036854775806) (v:Int) (h:Lib.atoiAll s.data.toList= .ok v) (w:World):
 Calls Tryz.prog 66 #[.string s] w fun e w'=>e= .returned (.tuple #[.int .i64 v, .nilIface])∧(w'=w∨∃t,w'=Lib.bytesWorld w 5 t):=Any.strconv_Atoi_ok Tryz.Ao s hmax v h w
open Go.RowKit in
theorem Tryz.strconv_Atoi_syntax (s:ByteArray) (hlim:s.size≤281474976710656) (h:Lib.atoiAll s.data.toList=Go.Lib.NumEnd.syntax) (ev:Value) (w:World) (hv:w.cell? ⟨4,0,none⟩=some ev) (hev:ev= .nilIface∨∃te pe,ev= .iface te pe):
 Calls Tryz.prog 66 #[.string s] w fun e w'=>∃N,e= .returned (.tuple #[.int .i64 (0), .iface 109 (.pointer (some ⟨N,0,none⟩))])∧w.heap.size≤N∧w'.heap[N]? =some (.cells #[.string ⟨#[65,116,111,105]⟩, .string s,ev] 124 (0,0))∧Below w.heap.size w w':=Any.strconv_Atoi_syntax Tryz.Ao s hlim h ev w hv hev
open Go.RowKit in
theorem Tryz.strconv_Atoi_range (s:ByteArray) (hlim:s.size≤281474976710656) (h:Lib.atoiAll s.data.toList= .range) (ev:Value) (w:World) (hv:w.cell? ⟨5,0,none⟩=some ev) (hev:ev= .nilIface∨∃te pe,ev= .iface te pe):
 Calls Tryz.prog 66 #[.string s] w fun e w'=>∃N,e= .returned (.tuple #[.int .i64 (Lib.atoiSat s.data.toList), .iface 109 (.pointer (some ⟨N,0,none⟩))])∧w.heap.size≤N∧w'.heap[N]? =some (.cells #[.string ⟨#[65,116,111,105]⟩, .string s,ev] 124 (0,0))∧Below w.heap.size w w':=Any.strconv_Atoi_range Tryz.Ao s hlim h ev w hv hev
def Tryz.GW:Go.Shelf.Ren:=⟨fun|145=>20|220=>41|219=>63|217=>88|225=>89|224=>90|267=>91|266=>115|314=>116|n=>n,fun|9=>9|4=>4|59=>46|3=>3|5=>5|46=>88|146=>103|51=>102|n=>n,fun|1=>0|n=>n⟩
theorem Tryz.TV:Go.Proofs.Lays.n145 Tryz.prog Tryz.GW:= {
 mixed:=by kernel_rfl
 f145:=Tryz.func20.trans (congrArg some (by kernel_rfl))
 f217:=Tryz.func88.trans (congrArg some (by kernel_rfl))
 f219:=Tryz.func63.trans (congrArg some (by kernel_rfl))
 f220:=Tryz.func41.trans (congrArg some (by kernel_rfl))
 f224:=Tryz.func90.trans (congrArg some (by kernel_rfl))
 f225:=Tryz.func89.trans (congrArg some (by kernel_rfl))
 f266:=Tryz.func115.trans (congrArg some (by kernel_rfl))
 f267:=Tryz.func91.trans (congrArg some (by kernel_rfl))
 f314:=Tryz.func116.trans (congrArg some (by kernel_rfl))
 t3:=Tryz.underlying3
 a3:=Tryz.isAgg3
 z3:=Tryz.sizeOf3
 v3:=Tryz.zeroValue3
 t4:=Tryz.underlying4
 a4:=Tryz.isAgg4
 z4:=Tryz.sizeOf4
 v4:=Tryz.zeroValue4
 t5:=Tryz.underlying5
 a5:=Tryz.isAgg5
 z5:=Tryz.sizeOf5
 v5:=Tryz.zeroValue5
 t9:=Tryz.underlying9
 a9:=Tryz.isAgg9
 z9:=Tryz.sizeOf9
 v9:=Tryz.zeroValue9
 t46:=Tryz.underlying88
 a46:=Tryz.isAgg88
 z46:=Tryz.sizeOf88
 v46:=Tryz.zeroValue88
 t51:=Tryz.underlying102
 a51:=Tryz.isAgg102
 z51:=Tryz.sizeOf102
 v51:=Tryz.zeroValue102
 t59:=Tryz.underlying46
 a59:=Tryz.isAgg46
 z59:=Tryz.sizeOf46
 v59:=Tryz.zeroValue46
 t146:=Tryz.underlying103
 a146:=Tryz.isAgg103
 z146:=Tryz.sizeOf103
 v146:=Tryz.zeroValue103
 g1:=by kernel_rfl}
open Go.RowKit Go.Lib in
theorem Tryz.strings_Cut (s sep:ByteArray) (m:Int) (w:World) (hs:s.size<4294967281) (hm:w.cell? ⟨0,0,none⟩=some (.int .i64 m)):
 Calls Tryz.prog 20 #[.string s, .string sep] w fun e w'=>e= .returned (.tuple #[.string ⟨(Lib.cut s.data.toList sep.data.toList).1.toArray⟩, .string ⟨(Lib.cut s.data.toList sep.data.toList).2.1.toArray⟩, .bool (Lib.cut s.data.toList sep.data.toList).2.2])∧∃n,w'=w.drewN n:=Any.strings_Cut Tryz.TV s sep m w hs hm
def Tryz.GX:Go.Shelf.Ren:=⟨fun|146=>47|221=>73|268=>104|138=>105|143=>106|195=>124|197=>86|218=>125|219=>63|260=>113|217=>88|225=>89|224=>90|267=>91|266=>115|314=>116|n=>n,fun|9=>9|31=>34|3=>3|4=>4|0=>0|105=>69|21=>21|5=>5|46=>88|119=>117|139=>120|138=>119|146=>103|51=>102|n=>n,fun|1=>0|3=>2|4=>3|n=>n⟩
theorem Tryz.TW:Go.Proofs.Lays.n146 Tryz.prog Tryz.GX:= {
 mixed:=by kernel_rfl
 f138:=Tryz.func105.trans (congrArg some (by kernel_rfl))
 f143:=Tryz.func106.trans (congrArg some (by kernel_rfl))
 f146:=Tryz.func47.trans (congrArg some (by kernel_rfl))
 f195:=Tryz.func124.trans (congrArg some (by kernel_rfl))
 f197:=Tryz.func86.trans (congrArg some (by kernel_rfl))
 f217:=Tryz.func88.trans (congrArg some (by kernel_rfl))
 f218:=Tryz.func125.trans (congrArg some (by kernel_rfl))
 f219:=Tryz.func63.trans (congrArg some (by kernel_rfl))
 f221:=Tryz.func73.trans (congrArg some (by kernel_rfl))
 f224:=Tryz.func90.trans (congrArg some (by kernel_rfl))
 f225:=Tryz.func89.trans (congrArg some (by kernel_rfl))
 f260:=Tryz.func113.trans (congrArg some (by kernel_rfl))
 f266:=Tryz.func115.trans (congrArg some (by kernel_rfl))
 f267:=Tryz.func91.trans (congrArg some (by kernel_rfl))
 f268:=Tryz.func104.trans (congrArg some (by kernel_rfl))
 f314:=Tryz.func116.trans (congrArg some (by kernel_rfl))
 t0:=Tryz.underlying0
 a0:=Tryz.isAgg0
 z0:=Tryz.sizeOf0
 v0:=Tryz.zeroValue0
 t3:=Tryz.underlying3
 a3:=Tryz.isAgg3
 z3:=Tryz.sizeOf3
 v3:=Tryz.zeroValue3
 t4:=Tryz.underlying4
 a4:=Tryz.isAgg4
 z4:=Tryz.sizeOf4
 v4:=Tryz.zeroValue4
 t5:=Tryz.underlying5
 a5:=Tryz.isAgg5
 z5:=Tryz.sizeOf5
 v5:=Tryz.zeroValue5
 t9:=Tryz.underlying9
 a9:=Tryz.isAgg9
 z9:=Tryz.sizeOf9
 v9:=Tryz.zeroValue9
 t21:=Tryz.underlying21
 a21:=Tryz.isAgg21
 z21:=Tryz.sizeOf21
 v21:=Tryz.zeroValue21
 t31:=Tryz.underlying34
 a31:=Tryz.isAgg34
 z31:=Tryz.sizeOf34
 v31:=Tryz.zeroValue34
 t46:=Tryz.underlying88
 a46:=Tryz.isAgg88
 z46:=Tryz.sizeOf88
 v46:=Tryz.zeroValue88
 t51:=Tryz.underlying102
 a51:=Tryz.isAgg102
 z51:=Tryz.sizeOf102
 v51:=Tryz.zeroValue102
 t105:=Tryz.underlying69
 a105:=Tryz.isAgg69
 z105:=Tryz.sizeOf69
 v105:=Tryz.zeroValue69
 t119:=Tryz.underlying117
 a119:=Tryz.isAgg117
 z119:=Tryz.sizeOf117
 t138:=Tryz.underlying119
 a138:=Tryz.isAgg119
 z138:=Tryz.sizeOf119
 v138:=Tryz.zeroValue119
 t139:=Tryz.underlying120
 a139:=Tryz.isAgg120
 z139:=Tryz.sizeOf120
 v139:=Tryz.zeroValue120
 t146:=Tryz.underlying103
 a146:=Tryz.isAgg103
 z146:=Tryz.sizeOf103
 v146:=Tryz.zeroValue103
 g1:=by kernel_rfl
 g3:=by kernel_rfl
 g4:=by kernel_rfl}
open Go.RowKit Go.Lib in
theorem Tryz.strings_Split (s sep:ByteArray) (m:Int) (w:World) (hs:s.size<4294967281) (hm:w.cell? ⟨0,0,none⟩=some (.int .i64 m)) (h1:1≤sep.size):
 Calls Tryz.prog 47 #[.string s, .string sep] w fun e w'=>
  e= .returned (.slice (some ⟨w.heap.size,0,none⟩) (Lib.countB s sep+1) (Lib.countB s sep+1))∧w'=w.alloc (.cells ((Lib.splitB sep 0 (Lib.countB s sep) s).map Value.string).toArray 9):=Any.strings_Split Tryz.TW (by kernel_rfl) s sep m w hs hm h1
def Tryz.GY:Go.Shelf.Ren:=⟨fun|161=>65|231=>97|227=>38|233=>98|235=>99|228=>60|197=>86|151=>62|260=>113|152=>87|137=>108|119=>114|224=>90|225=>89|217=>88|266=>115|n=>n,fun|9=>9|4=>4|3=>3|5=>5|117=>53|116=>52|0=>0|124=>56|105=>69|21=>21|119=>117|46=>88|139=>120|138=>119|n=>n,fun|3=>2|4=>3|n=>n⟩
theorem Tryz.TX:Go.Proofs.Lays.n161 Tryz.prog Tryz.GY:= {
 mixed:=by kernel_rfl
 f119:=Tryz.func114.trans (congrArg some (by kernel_rfl))
 f137:=Tryz.func108.trans (congrArg some (by kernel_rfl))
 f151:=Tryz.func62.trans (congrArg some (by kernel_rfl))
 f152:=Tryz.func87.trans (congrArg some (by kernel_rfl))
 f161:=Tryz.func65.trans (congrArg some (by kernel_rfl))
 f197:=Tryz.func86.trans (congrArg some (by kernel_rfl))
 f217:=Tryz.func88.trans (congrArg some (by kernel_rfl))
 f224:=Tryz.func90.trans (congrArg some (by kernel_rfl))
 f225:=Tryz.func89.trans (congrArg some (by kernel_rfl))
 f227:=Tryz.func38.trans (congrArg some (by kernel_rfl))
 f228:=Tryz.func60.trans (congrArg some (by kernel_rfl))
 f231:=Tryz.func97.trans (congrArg some (by kernel_rfl))
 f233:=Tryz.func98.trans (congrArg some (by kernel_rfl))
 f235:=Tryz.func99.trans (congrArg some (by kernel_rfl))
 f260:=Tryz.func113.trans (congrArg some (by kernel_rfl))
 f266:=Tryz.func115.trans (congrArg some (by kernel_rfl))
 t0:=Tryz.underlying0
 a0:=Tryz.isAgg0
 z0:=Tryz.sizeOf0
 v0:=Tryz.zeroValue0
 t3:=Tryz.underlying3
 a3:=Tryz.isAgg3
 z3:=Tryz.sizeOf3
 v3:=Tryz.zeroValue3
 t4:=Tryz.underlying4
 a4:=Tryz.isAgg4
 z4:=Tryz.sizeOf4
 v4:=Tryz.zeroValue4
 t5:=Tryz.underlying5
 a5:=Tryz.isAgg5
 z5:=Tryz.sizeOf5
 v5:=Tryz.zeroValue5
 t9:=Tryz.underlying9
 a9:=Tryz.isAgg9
 z9:=Tryz.sizeOf9
 v9:=Tryz.zeroValue9
 t21:=Tryz.underlying21
 a21:=Tryz.isAgg21
 z21:=Tryz.sizeOf21
 v21:=Tryz.zeroValue21
 t46:=Tryz.underlying88
 a46:=Tryz.isAgg88
 z46:=Tryz.sizeOf88
 v46:=Tryz.zeroValue88
 t105:=Tryz.underlying69
 a105:=Tryz.isAgg69
 z105:=Tryz.sizeOf69
 v105:=Tryz.zeroValue69
 t116:=Tryz.underlying52
 a116:=Tryz.isAgg52
 z116:=Tryz.sizeOf52
 t117:=Tryz.underlying53
 a117:=Tryz.isAgg53
 z117:=Tryz.sizeOf53
 v117:=Tryz.zeroValue53
 t119:=Tryz.underlying117
 a119:=Tryz.isAgg117
 z119:=Tryz.sizeOf117
 t124:=Tryz.underlying56
 a124:=Tryz.isAgg56
 z124:=Tryz.sizeOf56
 v124:=Tryz.zeroValue56
 t138:=Tryz.underlying119
 a138:=Tryz.isAgg119
 z138:=Tryz.sizeOf119
 v138:=Tryz.zeroValue119
 t139:=Tryz.underlying120
 a139:=Tryz.isAgg120
 z139:=Tryz.sizeOf120
 v139:=Tryz.zeroValue120
 g3:=by kernel_rfl
 g4:=by kernel_rfl}
open Go.RowKit in
theorem Tryz.strings_TrimLeft_one (s:ByteArray) (c:UInt8) (hc:c.toNat<128) (w:World):
 Calls Tryz.prog 65 #[.string s, .string ⟨#[c]⟩] w fun e w'=>e= .returned (.string ⟨(Lib.trimLeftB s.data.toList c).toArray⟩)∧w'=w:=Any.strings_TrimLeft_one Tryz.TX s c hc w
def Tryz.G0:Go.Shelf.Ren:=⟨fun|162=>19|232=>37|227=>38|234=>39|236=>40|228=>60|271=>61|151=>62|120=>85|197=>86|152=>87|260=>113|137=>108|119=>114|224=>90|225=>89|217=>88|266=>115|n=>n,fun|9=>9|4=>4|3=>3|5=>5|117=>53|116=>52|0=>0|124=>56|21=>21|105=>69|46=>88|119=>117|139=>120|138=>119|n=>n,fun|3=>2|4=>3|n=>n⟩
theorem Tryz.TY:Go.Proofs.Lays.n162 Tryz.prog Tryz.G0:= {
 mixed:=by kernel_rfl
 f119:=Tryz.func114.trans (congrArg some (by kernel_rfl))
 f120:=Tryz.func85.trans (congrArg some (by kernel_rfl))
 f137:=Tryz.func108.trans (congrArg some (by kernel_rfl))
 f151:=Tryz.func62.trans (congrArg some (by kernel_rfl))
 f152:=Tryz.func87.trans (congrArg some (by kernel_rfl))
 f162:=Tryz.func19.trans (congrArg some (by kernel_rfl))
 f197:=Tryz.func86.trans (congrArg some (by kernel_rfl))
 f217:=Tryz.func88.trans (congrArg some (by kernel_rfl))
 f224:=Tryz.func90.trans (congrArg some (by kernel_rfl))
 f225:=Tryz.func89.trans (congrArg some (by kernel_rfl))
 f227:=Tryz.func38.trans (congrArg some (by kernel_rfl))
 f228:=Tryz.func60.trans (congrArg some (by kernel_rfl))
 f232:=Tryz.func37.trans (congrArg some (by kernel_rfl))
 f234:=Tryz.func39.trans (congrArg some (by kernel_rfl))
 f236:=Tryz.func40.trans (congrArg some (by kernel_rfl))
 f260:=Tryz.func113.trans (congrArg some (by kernel_rfl))
 f266:=Tryz.func115.trans (congrArg some (by kernel_rfl))
 f271:=Tryz.func61.trans (congrArg some (by kernel_rfl))
 t0:=Tryz.underlying0
 a0:=Tryz.isAgg0
 z0:=Tryz.sizeOf0
 v0:=Tryz.zeroValue0
 t3:=Tryz.underlying3
 a3:=Tryz.isAgg3
 z3:=Tryz.sizeOf3
 v3:=Tryz.zeroValue3
 t4:=Tryz.underlying4
 a4:=Tryz.isAgg4
 z4:=Tryz.sizeOf4
 v4:=Tryz.zeroValue4
 t5:=Tryz.underlying5
 a5:=Tryz.isAgg5
 z5:=Tryz.sizeOf5
 v5:=Tryz.zeroValue5
 t9:=Tryz.underlying9
 a9:=Tryz.isAgg9
 z9:=Tryz.sizeOf9
 v9:=Tryz.zeroValue9
 t21:=Tryz.underlying21
 a21:=Tryz.isAgg21
 z21:=Tryz.sizeOf21
 v21:=Tryz.zeroValue21
 t46:=Tryz.underlying88
 a46:=Tryz.isAgg88
 z46:=Tryz.sizeOf88
 v46:=Tryz.zeroValue88
 t105:=Tryz.underlying69
 a105:=Tryz.isAgg69
 z105:=Tryz.sizeOf69
 v105:=Tryz.zeroValue69
 t116:=Tryz.underlying52
 a116:=Tryz.isAgg52
 z116:=Tryz.sizeOf52
 t117:=Tryz.underlying53
 a117:=Tryz.isAgg53
 z117:=Tryz.sizeOf53
 v117:=Tryz.zeroValue53
 t119:=Tryz.underlying117
 a119:=Tryz.isAgg117
 z119:=Tryz.sizeOf117
 t124:=Tryz.underlying56
 a124:=Tryz.isAgg56
 z124:=Tryz.sizeOf56
 v124:=Tryz.zeroValue56
 t138:=Tryz.underlying119
 a138:=Tryz.isAgg119
 z138:=Tryz.sizeOf119
 v138:=Tryz.zeroValue119
 t139:=Tryz.underlying120
 a139:=Tryz.isAgg120
 z139:=Tryz.sizeOf120
 v139:=Tryz.zeroValue120
 g3:=by kernel_rfl
 g4:=by kernel_rfl}
open Go.RowKit in
theorem Tryz.strings_TrimRight_one (s:ByteArray) (c:UInt8) (hc:c.toNat<128) (w:World) (hs:s.size≤9223372036854775807):
 Calls Tryz.prog 19 #[.string s, .string ⟨#[c]⟩] w fun e w'=>e= .returned (.string ⟨(Lib.trimRightB s.data.toList c).toArray⟩)∧w'=w:=Any.strings_TrimRight_one Tryz.TY s c hc w hs
def Tryz.G1:Go.Shelf.Ren:=⟨fun|160=>67|232=>37|231=>97|227=>38|234=>39|233=>98|236=>40|235=>99|228=>60|271=>61|151=>62|197=>86|120=>85|152=>87|260=>113|137=>108|119=>114|224=>90|225=>89|217=>88|266=>115|n=>n,fun|9=>9|4=>4|3=>3|5=>5|117=>53|116=>52|0=>0|124=>56|21=>21|105=>69|46=>88|119=>117|139=>120|138=>119|n=>n,fun|3=>2|4=>3|n=>n⟩
theorem Tryz.TZ:Go.Proofs.Lays.n160 Tryz.prog Tryz.G1:= {
 mixed:=by kernel_rfl
 f119:=Tryz.func114.trans (congrArg some (by kernel_rfl))
 f120:=Tryz.func85.trans (congrArg some (by kernel_rfl))
 f137:=Tryz.func108.trans (congrArg some (by kernel_rfl))
 f151:=Tryz.func62.trans (congrArg some (by kernel_rfl))
 f152:=Tryz.func87.trans (congrArg some (by kernel_rfl))
 f160:=Tryz.func67.trans (congrArg some (by kernel_rfl))
 f197:=Tryz.func86.trans (congrArg some (by kernel_rfl))
 f217:=Tryz.func88.trans (congrArg some (by kernel_rfl))
 f224:=Tryz.func90.trans (congrArg some (by kernel_rfl))
 f225:=Tryz.func89.trans (congrArg some (by kernel_rfl))
 f227:=Tryz.func38.trans (congrArg some (by kernel_rfl))
 f228:=Tryz.func60.trans (congrArg some (by kernel_rfl))
 f231:=Tryz.func97.trans (congrArg some (by kernel_rfl))
 f232:=Tryz.func37.trans (congrArg some (by kernel_rfl))
 f233:=Tryz.func98.trans (congrArg some (by kernel_rfl))
 f234:=Tryz.func39.trans (congrArg some (by kernel_rfl))
 f235:=Tryz.func99.trans (congrArg some (by kernel_rfl))
 f236:=Tryz.func40.trans (congrArg some (by kernel_rfl))
 f260:=Tryz.func113.trans (congrArg some (by kernel_rfl))
 f266:=Tryz.func115.trans (congrArg some (by kernel_rfl))
 f271:=Tryz.func61.trans (congrArg some (by kernel_rfl))
 t0:=Tryz.underlying0
 a0:=Tryz.isAgg0
 z0:=Tryz.sizeOf0
 v0:=Tryz.zeroValue0
 t3:=Tryz.underlying3
 a3:=Tryz.isAgg3
 z3:=Tryz.sizeOf3
 v3:=Tryz.zeroValue3
 t4:=Tryz.underlying4
 a4:=Tryz.isAgg4
 z4:=Tryz.sizeOf4
 v4:=Tryz.zeroValue4
 t5:=Tryz.underlying5
 a5:=Tryz.isAgg5
 z5:=Tryz.sizeOf5
 v5:=Tryz.zeroValue5
 t9:=Tryz.underlying9
 a9:=Tryz.isAgg9
 z9:=Tryz.sizeOf9
 v9:=Tryz.zeroValue9
 t21:=Tryz.underlying21
 a21:=Tryz.isAgg21
 z21:=Tryz.sizeOf21
 v21:=Tryz.zeroValue21
 t46:=Tryz.underlying88
 a46:=Tryz.isAgg88
 z46:=Tryz.sizeOf88
 v46:=Tryz.zeroValue88
 t105:=Tryz.underlying69
 a105:=Tryz.isAgg69
 z105:=Tryz.sizeOf69
 v105:=Tryz.zeroValue69
 t116:=Tryz.underlying52
 a116:=Tryz.isAgg52
 z116:=Tryz.sizeOf52
 t117:=Tryz.underlying53
 a117:=Tryz.isAgg53
 z117:=Tryz.sizeOf53
 v117:=Tryz.zeroValue53
 t119:=Tryz.underlying117
 a119:=Tryz.isAgg117
 z119:=Tryz.sizeOf117
 t124:=Tryz.underlying56
 a124:=Tryz.isAgg56
 z124:=Tryz.sizeOf56
 v124:=Tryz.zeroValue56
 t138:=Tryz.underlying119
 a138:=Tryz.isAgg119
 z138:=Tryz.sizeOf119
 v138:=Tryz.zeroValue119
 t139:=Tryz.underlying120
 a139:=Tryz.isAgg120
 z139:=Tryz.sizeOf120
 v139:=Tryz.zeroValue120
 g3:=by kernel_rfl
 g4:=by kernel_rfl}
end Go.Proofs
end
section
set_option maxRecDepth 100000
namespace Go.Proofs.cY
open Go Go.Am Go.Proofs
def CZ (cs:Array Value):Prop:=∃ev,cs= #[ev]∧(ev= .nilIface∨∃te pe,ev= .iface te pe)
instance wD:Tabs:=⟨[(0,fun cs=>∃m,cs= #[.int .i64 m]),(1,fun cs=>cs=(Lib.pow10Tab.map fun z=>Value.int .u64 z).toArray),(4,CZ),(5,CZ)]⟩
theorem aaw {F:Nat→Prop} {w:World} (hF:FL F w) {g:Nat} {p:Array Value→Prop} (hm:(g,p)∈Tabs.l) {v:Value} (hp:∀cs,p cs→cs[0]? =some v∨True):∃cs ty fr,w.heap[g]? =some (.cells cs ty fr)∧p cs:=(hF.HM _ hm).2
theorem cell_of {w:World} {g:Nat} {v:Value} {ty:TypeId} {fr:Nat×Nat} (h:w.heap[g]? =some (.cells #[v] ty fr)):w.cell? ⟨g,0,none⟩=some v:=by
 simp [World.cell?,h]
theorem Fp {F:Nat→Prop} {w:World} (hF:FL F w):∃m,w.cell? ⟨0,0,none⟩=some (.int .i64 m):=by
 obtain ⟨-,cs,ty,fr,h,m,rfl⟩:=hF.HM (0,fun cs=>∃m,cs= #[.int .i64 m]) (by simp [Tabs.l,wD])
 exact ⟨m,cell_of h⟩
theorem Fq {F:Nat→Prop} {w:World} (hF:FL F w) {g:Nat} (hm:(g,CZ)∈Tabs.l):∃ev,w.cell? ⟨g,0,none⟩=some ev∧(ev= .nilIface∨∃te pe,ev= .iface te pe):=by
 obtain ⟨-,cs,ty,fr,h,ev,rfl,he⟩:=hF.HM _ hm
 exact ⟨ev,cell_of h,he⟩
theorem args1 {γ:List Nat} {C:Nat→List Value} {vs:Array Value} {a:AV} {v:Value} (hl:vs.size=[a].length) (h:vs.getD 0 undef=v):vs= #[v]:=by
 apply Array.ext
 · simpa using hl
 · intro i h1 h2
   simp at h2;subst h2
   simpa [Array.getD_eq_getD_getElem?,Array.getElem?_eq_getElem h1] using h
theorem args2 {vs:Array Value} {a b:AV} {v u:Value} (hl:vs.size=[a,b].length) (h:vs.getD 0 undef=v) (h':vs.getD 1 undef=u):vs= #[v,u]:=by
 apply Array.ext
 · simpa using hl
 · intro i h1 h2
   have:i=0∨i=1:=by simp at h2;omega
   rcases this with rfl|rfl
   · simpa [Array.getD_eq_getD_getElem?,Array.getElem?_eq_getElem h1] using h
   · simpa [Array.getD_eq_getD_getElem?,Array.getElem?_eq_getElem h1] using h'
def strconv_Itoa (n:Int):Option (List UInt8):=if -9223372036854775808≤n∧n≤9223372036854775807 then some (Lib.itoa n) else none
theorem sC {i1:Int} {H0:AH} {r0:List UInt8} (h:strconv_Itoa i1=some r0):aF Tryz.prog 34 [(.int .i64 i1)] H0 fun v H'=>v=(.str r0)∧H'=H0:=by
 unfold strconv_Itoa at h
 obtain ⟨⟨h0,h1⟩,h⟩:=F8 h
 injection h with h
 subst h
 exact Jm i1 (by kernel_rfl) (fun F w hF=>Qx hF (g:=1) (by simp [Tabs.l,wD]) (by kernel_rfl)) (fun w ht=>Tryz.strconv_Itoa i1 h0 h1 w ht)
def strings_IndexByte (s:List UInt8) (c:UInt8):Option Int:=some (Lib.indexByte s c)
theorem uS {s1:List UInt8} {c2:UInt8} {H0:AH} {r0:Int} (h:strings_IndexByte s1 c2=some r0):aF Tryz.prog 108 [(.str s1),(b8 c2)] H0 fun v H'=>v=(.int .i64 r0)∧H'=H0:=by
 unfold strings_IndexByte at h
 injection h with h
 subst h
 refine aF.TR rfl (by simp) (by kernel_rfl) fun F C γ w vs hF hl hv=> ?_
 have h0:=(hv 0 _ rfl).cN
 have h1:=VR.cQ (hv 1 _ rfl)
 obtain rfl:=args2 hl h0 h1
 refine (Tryz.strings_IndexByte ⟨s1.toArray⟩ _ w).mono ?_
 rintro e w' ⟨rfl,rfl⟩
 refine ⟨_,rfl, ?_,by simp [TC],fun _ _=>rfl,Nat.le_refl _,rfl,rfl,rfl⟩
 have:(c2.toNat:Int).toNat.toUInt8=c2:=by simp
 rw [this]
 exact .int ..
def strconv_Atoi (s:List UInt8):Option (Int×Bool):=if s.length≤281474976710656 then some (match Lib.atoiAll s with| .ok v=>(v,false)|Go.Lib.NumEnd.syntax=>(0,true)| .range=>(Lib.atoiSat s,true)) else none
theorem strconv_Atoi_ok {s1:List UInt8} {H0:AH} {r0:Int} {r1:Bool} (h:strconv_Atoi s1=some (r0,r1)):aF Tryz.prog 66 [(.str s1)] H0 fun v H'=>v=(.bz [(.int .i64 r0),(dL r1)])∧H'=H0:=by
 unfold strconv_Atoi at h
 obtain ⟨hs,h⟩:=F8 h
 injection h with h
 refine aF.TR rfl (by simp) (by kernel_rfl) fun F C γ w vs hF hl hv=> ?_
 have h0:=(hv 0 _ rfl).cN
 obtain rfl:=args1 (γ:=γ) (C:=C) hl h0
 have hsz:(⟨s1.toArray⟩:ByteArray).size=s1.length:=by simp [ByteArray.size]
 have hd:(⟨s1.toArray⟩:ByteArray).data.toList=s1:=by simp
 rcases xu:Lib.atoiAll s1 with v|_|_
 · rw [xu] at h
   injection h with ha hb
   subst ha hb
   refine (Tryz.strconv_Atoi_ok ⟨s1.toArray⟩ (by omega) v (by rw [hd];exact xu) w).mono ?_
   rintro e w' ⟨rfl,hw⟩
   refine ⟨_,rfl, ?_, ?_, ?_⟩
   · refine .bz _ _ _ rfl fun i a hi=> ?_
     match i,hi with
     |0,hi=>injection hi with hi;subst hi;exact .int ..
     |1,hi=>injection hi with hi;subst hi;exact .v _ _ rfl
   · intro i a hi
     match i,hi with
     |0,hi=>injection hi with hi;subst hi;trivial
     |1,hi=>injection hi with hi;subst hi;trivial
   · rcases hw with rfl|⟨t,rfl⟩
     · exact ⟨fun _ _=>rfl,Nat.le_refl _,rfl,rfl,rfl⟩
     · exact ⟨fun b hb=>Lib.bytesWorld_at_old _ _ _ _ hb,by rw [Lib.bytesWorld_size];omega,rfl,rfl,rfl⟩
 · rw [xu] at h
   injection h with ha hb
   subst ha hb
   obtain ⟨ev,hc,he⟩:=Fq hF (g:=4) (by simp [Tabs.l,wD])
   refine (Tryz.strconv_Atoi_syntax ⟨s1.toArray⟩ (by omega) (by rw [hd];exact xu) ev w hc he).mono ?_
   rintro e w' ⟨N,rfl, -, -,hb⟩
   refine ⟨_,rfl, ?_, ?_,hb.block,hb.size,hb.os,hb.tape,hb.output⟩
   · refine .bz _ _ _ rfl fun i a hi=> ?_
     match i,hi with
     |0,hi=>injection hi with hi;subst hi;exact .int ..
     |1,hi=>injection hi with hi;subst hi;exact .dN ..
   · intro i a hi
     match i,hi with
     |0,hi=>injection hi with hi;subst hi;trivial
     |1,hi=>injection hi with hi;subst hi;trivial
 · rw [xu] at h
   injection h with ha hb
   subst ha hb
   obtain ⟨ev,hc,he⟩:=Fq hF (g:=5) (by simp [Tabs.l,wD])
   refine (Tryz.strconv_Atoi_range ⟨s1.toArray⟩ (by omega) (by rw [hd];exact xu) ev w hc he).mono ?_
   rintro e w' ⟨N,rfl, -, -,hb⟩
   refine ⟨_,rfl, ?_, ?_,hb.block,hb.size,hb.os,hb.tape,hb.output⟩
   · refine .bz _ _ _ rfl fun i a hi=> ?_
     match i,hi with
     |0,hi=>injection hi with hi;subst hi;simp only [hd];exact .int ..
     |1,hi=>injection hi with hi;subst hi;exact .dN ..
   · intro i a hi
     match i,hi with
     |0,hi=>injection hi with hi;subst hi;trivial
     |1,hi=>injection hi with hi;subst hi;trivial
theorem vD {sep:List UInt8} (h1:sep≠[]):∀(n:Nat) (l:List UInt8),Lib.count l sep=n→(Lib.splitK sep 0 n l).length=n+1
 |0,_,_=>rfl
 |n+1,l,h=>by
  rcases Lib.index_spec l sep with ⟨hi, -⟩|⟨i,hi, -, -, -⟩
  · rw [Lib.count_miss hi] at h;cases h
  · have hc:=Lib.count_hit h1 hi
    unfold Lib.splitK
    rw [if_neg (by rw [hi];simp),List.length_cons,vD h1 n _ (by rw [hi,Int.toNat_natCast];omega)]
def strings_Split (s sep:List UInt8):Option (List (List UInt8)):=if s.length<4294967281∧1≤sep.length then some (Lib.split s sep) else none
theorem iQ {s1 s2:List UInt8} {H0:AH} {r0:List (List UInt8)} (h:strings_Split s1 s2=some r0):aF Tryz.prog 47 [(.str s1),(.str s2)] H0 fun v H'=>v=(.sl .n 1 (ml AV.str r0))∧H'=H0:=by
 unfold strings_Split at h
 obtain ⟨⟨hs,hs2⟩,h⟩:=F8 h
 injection h with h
 subst h
 refine aF.TS (by kernel_rfl) fun F C γ w vs hF hl hv=> ?_
 obtain rfl:=args2 hl (hv 0 _ rfl).cN (hv 1 _ rfl).cN
 obtain ⟨m,hm⟩:=Fp hF
 have hsz:(⟨s1.toArray⟩:ByteArray).size=s1.length:=by simp [ByteArray.size]
 have adp:(⟨s2.toArray⟩:ByteArray).size=s2.length:=by simp [ByteArray.size]
 refine (Tryz.strings_Split ⟨s1.toArray⟩ ⟨s2.toArray⟩ m w (by omega) hm (by omega)).mono ?_
 rintro e w' ⟨rfl,rfl⟩
 have hd:(Lib.splitB ⟨s2.toArray⟩ 0 (Lib.countB ⟨s1.toArray⟩ ⟨s2.toArray⟩) ⟨s1.toArray⟩).map (·.data.toList)=Lib.split s1 s2:=by
  rw [Lib.splitB_data];simp [Lib.split,Lib.countB]
 have hlen:(Lib.split s1 s2).length=Lib.countB ⟨s1.toArray⟩ ⟨s2.toArray⟩+1:=by
  exact vD (by intro h;rw [h] at hs2;simp at hs2) _ _ rfl
 refine ⟨9,(0,0),by rw [hlen], ?_,by simp⟩
 rw [←hd,List.map_map]
 congr 3
def strings_Cut (s sep:List UInt8):Option (List UInt8×List UInt8×Bool):=if s.length<4294967281 then some (Lib.cut s sep) else none
theorem BB {s1 s2:List UInt8} {H0:AH} {r0 r1:List UInt8} {r2:Bool} (h:strings_Cut s1 s2=some (r0,r1,r2)):aF Tryz.prog 20 [(.str s1),(.str s2)] H0 fun v H'=>v=(.bz [(.str r0),(.str r1),(.bool r2)])∧H'=H0:=by
 unfold strings_Cut at h
 obtain ⟨hs,h⟩:=F8 h
 injection h with h
 refine aF.TR rfl (by simp) (by kernel_rfl) fun F C γ w vs hF hl hv=> ?_
 obtain rfl:=args2 hl (hv 0 _ rfl).cN (hv 1 _ rfl).cN
 obtain ⟨m,hm⟩:=Fp hF
 have hsz:(⟨s1.toArray⟩:ByteArray).size=s1.length:=by simp [ByteArray.size]
 refine (Tryz.strings_Cut ⟨s1.toArray⟩ ⟨s2.toArray⟩ m w (by omega) hm).mono ?_
 rintro e w' ⟨rfl,n,rfl⟩
 have hd1:(⟨s1.toArray⟩:ByteArray).data.toList=s1:=by simp
 have Ie:(⟨s2.toArray⟩:ByteArray).data.toList=s2:=by simp
 rw [hd1,Ie,h]
 refine ⟨_,rfl, ?_, ?_,fun _ _=>rfl,Nat.le_refl _,rfl,rfl,rfl⟩
 · refine .bz _ _ _ rfl fun i a hi=> ?_
   match i,hi with
   |0,hi=>injection hi with hi;subst hi;exact .str ..
   |1,hi=>injection hi with hi;subst hi;exact .str ..
   |2,hi=>injection hi with hi;subst hi;exact .bool ..
 · intro i a hi
   match i,hi with
   |0,hi=>injection hi with hi;subst hi;trivial
   |1,hi=>injection hi with hi;subst hi;trivial
   |2,hi=>injection hi with hi;subst hi;trivial
def fS (s c:List UInt8):Option (List UInt8):=if c=[32] then some (Lib.trimLeftB s 32) else none
theorem vE {s1 s2:List UInt8} {H0:AH} {r0:List UInt8} (h:fS s1 s2=some r0):aF Tryz.prog 65 [(.str s1),(.str s2)] H0 fun v H'=>v=(.str r0)∧H'=H0:=by
 unfold fS at h
 obtain ⟨hc,h⟩:=F8 h
 injection h with h
 subst h
 refine aF.Ci (by kernel_rfl) fun F C γ w vs hF hl hv=> ?_
 obtain rfl:=args2 hl (hv 0 _ rfl).cN (hv 1 _ rfl).cN
 have hsz:(⟨s1.toArray⟩:ByteArray).size=s1.length:=by simp [ByteArray.size]
 subst hc
 refine (Tryz.strings_TrimLeft_one ⟨s1.toArray⟩ 32 (by decide) w).mono ?_
 rintro e w' ⟨rfl,rfl⟩
 exact ⟨by simp,fun _ _=>rfl,Nat.le_refl _,rfl,rfl,rfl⟩
def fq (s c:List UInt8):Option (List UInt8):=if c=[32]∧s.length≤1000000000 then some (Lib.trimRightB s 32) else none
theorem uT {s1 s2:List UInt8} {H0:AH} {r0:List UInt8} (h:fq s1 s2=some r0):aF Tryz.prog 19 [(.str s1),(.str s2)] H0 fun v H'=>v=(.str r0)∧H'=H0:=by
 unfold fq at h
 obtain ⟨hc,h⟩:=F8 h
 injection h with h
 subst h
 refine aF.Ci (by kernel_rfl) fun F C γ w vs hF hl hv=> ?_
 obtain rfl:=args2 hl (hv 0 _ rfl).cN (hv 1 _ rfl).cN
 have hsz:(⟨s1.toArray⟩:ByteArray).size=s1.length:=by simp [ByteArray.size]
 obtain ⟨rfl,hlen⟩:=hc
 refine (Tryz.strings_TrimRight_one ⟨s1.toArray⟩ 32 (by decide) w (by omega)).mono ?_
 rintro e w' ⟨rfl,rfl⟩
 exact ⟨by simp,fun _ _=>rfl,Nat.le_refl _,rfl,rfl,rfl⟩
def kX:List UInt8:=[48,49,50,51,52,53,54,55,56,57]
def iG (s c:List UInt8):Option (List UInt8):=if c=kX∧s.length≤1000000000 then some (Lib.trimS s kX) else none
theorem Ap {s1 s2:List UInt8} {H0:AH} {r0:List UInt8} (h:iG s1 s2=some r0):aF Tryz.prog 67 [(.str s1),(.str s2)] H0 fun v H'=>v=(.str r0)∧H'=H0:=by
 unfold iG at h
 obtain ⟨hc,h2⟩:=F8 h
 obtain ⟨rfl,hlen⟩:=hc
 injection h2 with h2
 subst h2
 refine aF.Ci (by kernel_rfl) fun F C γ w vs hF hl hv=> ?_
 obtain rfl:=args2 hl (hv 0 _ rfl).cN (hv 1 _ rfl).cN
 have hsz:(⟨s1.toArray⟩:ByteArray).size=s1.length:=by simp [ByteArray.size]
 refine (Any.strings_Trim_laid Tryz.TZ (by kernel_rfl) ⟨s1.toArray⟩ ⟨#[48,49,50,51,52,53,54,55,56,57]⟩ w (by omega) (by decide) (ascii_of_all (by decide))).mono ?_
 rintro e w' ⟨rfl,hb⟩
 exact ⟨by simp [kX],hb.block,hb.size,hb.os,hb.tape,hb.output⟩
end Go.Proofs.cY
end
section
set_option maxRecDepth 100000
namespace Go.Proofs.cY
open Go Go.Am Go.Proofs
open Nat renaming reduceEqDiff→nA,reduceLT→nB,reduceLeDiff→nC,reduceAdd→nD,reduceSub→nE,reduceMul→nF,reduceBEq→nG
set_option maxHeartbeats 2000000
structure aC where
 ax:List UInt8
 domain:List UInt8
 deriving DecidableEq
structure aH where
 kind:Int
 arg:List UInt8
 path:aC
 size:Int
 deriving DecidableEq
structure aA where
 s:List UInt8
 cL:Int
 bad:Bool
 deriving DecidableEq
abbrev sD:av:=(.rg [(au 15 5),(aj 16 (.bin .geq (.t 15) (.c (b8 65)))),(au 17 16),(ay 18 (.mv (.t 5)) 17 true),(ay 19 (.bin .leq (.t 18) (.c (b8 90))) 17 true),(aj 20 (.pick (.t 17) (.t 19) (.c (.bool false))))])
abbrev qt:av:=(.seq (.rg [(aj 11 (.bin .lss (.t 10) (.t 9)))]) (.seq (.cond (.t 11) .skip (.exit 0)) (.seq (.blk 1 (.seq (.rg [(au 12 10),(aj 13 (.wI 1 (.t 8) (.t 10))),(aj 14 (.ld (.t 13) none)),(aR 4 12),(aR 5 14)]) (.seq (.sem (erase sD)) (.cond (.t 20) (.rg [(au 21 3),(au 22 4),(aj 23 (.wI 1 (.t 21) (.t 22))),(aj 24 (.ld (.t 23) none)),(aj 25 (.bin .or (.t 24) (.c (b8 32)))),(aj 26 (.wI 1 (.t 21) (.t 22))),(cZ (.st (.t 26) (.t 25) 1))]) .skip)))) (.rg [(aj 27 (.bin .add (.t 10) (.c (.int .i64 1)))),(au 10 27)]))))
abbrev Ev:av:=(.seq (.rg [(aj 2 (.aO (.c (.str []))))]) (.seq (.rg [(au 6 0),(aj 7 (.qn (.t 6))),(aR 3 7)]) (.seq (.seq (.rg [(au 8 3),(aj 9 (.len (.t 8))),(aj 10 (.mv (.c (.int .i64 0))))]) (.blk 0 (.loop (erase qt)))) (.seq (.rg [(au 28 3),(aj 29 (.mj .bs (.t 28))),(aR 2 29)]) .ret))))
theorem Ew:bQ Tryz.prog 22 30 [(.tmp 2)] (erase Ev):=⟨Tryz.f22,_,rfl,by decide,rfl,by kernel_rfl,rfl,rfl⟩
abbrev rQ:List Nat:=[0,2,3,4,5,8,9,10,11,20]
def fy (s1:List UInt8):(Int×(List UInt8))→Option (St (List UInt8) (List UInt8) (Int×(List UInt8)))
 |(t3,s4)=>
  (if (decide (t3<(s1.length:Int))) then
   (Al s1.length t3).bind fun j5=>
   (s4[j5]?).bind fun x6=>
   (if ((decide (65≤x6))&&(decide (x6≤90))) then
    (Fo s4 j5 (x6 ||| 32)).bind fun s8=>some (.cB ((IntKind.wrap .i64 (t3+1)),s8))
   else
    some (.cB ((IntKind.wrap .i64 (t3+1)),s4)))
  else
   some (.eg s4))
def fT (F:Nat) (s1:List UInt8):Option ((List UInt8)):=
 ((iter (fy s1) F (0,s1)).bind fun o12=>
 match o12 with
 | .inr T0=>
   (sub T0 0 (s1.length:Int)).bind fun gf=>some gf
 | .inl _=>none)
theorem zg {q7:Nat} {s1:List UInt8} {t3:Int} {x6:UInt8} {s4:List UInt8} {H0 H:AH} (hfr:Fr H0 H0.length [] H) (ai:H[q7]? =some (ml b8 s4)) (dZ:H0.length≤q7) {K:Exit→Env→AH→Prop}
 (kn:∀H':AH,Fr H0 H0.length [] H'→H'[q7]? =some (ml b8 s4)→K .normal [(3,(.cA q7 1 0 s1.length)),(4,(.int .i64 t3)),(8,(.cA q7 1 0 s1.length)),(9,(.int .i64 (s1.length:Int))),(10,(.int .i64 t3)),(20,(.bool ((decide (65≤x6))&&(decide (x6≤90)))))] H'):
 AX Tryz.prog rQ 30 H0.length (erase sD) K [(3,(.cA q7 1 0 s1.length)),(4,(.int .i64 t3)),(5,(b8 x6)),(8,(.cA q7 1 0 s1.length)),(9,(.int .i64 (s1.length:Int))),(10,(.int .i64 t3))] H:=by
 refine b7 fun K' hK=> ?_
 have hle:=hfr.le
 have aM:=aQ ai
 refine az ai ?_
 refine nj (fun hy4=> ?_) fun hy4=> ?_
 · refine az (aI hy4 ai) ?_
   exact hK _ _ _ _ _ (fI hy4) ak (kn _ hfr (ai.trans rfl))
 · refine az (aI hy4 ai) ?_
   exact hK _ _ _ _ _ (fI hy4) ak (kn _ hfr (ai.trans rfl))
theorem zh {F:Nat} {t3:Int} {s1:List UInt8} {s4:List UInt8} {q2:Nat} {H0 H:AH} (hfr:Fr H0 H0.length [] H) (ai:H[q2]? =some (ml b8 s4)) (dZ:H0.length≤q2) {K:Exit→Env→AH→Prop} {o:((List UInt8))⊕((List UInt8))}
 (h:iter (fy s1) F (t3,s4)=some o)
 (dD:∀o':(List UInt8),o= .inr o'→∀H':AH,Fr H0 H0.length [] H'→H'[q2]? =some (ml b8 o')→K (.exit 0) [(3,(.cA q2 1 0 s1.length))] H'):
 AX Tryz.prog rQ 30 H0.length (.loop (erase qt)) K [(3,(.cA q2 1 0 s1.length)),(8,(.cA q2 1 0 s1.length)),(9,(.int .i64 (s1.length:Int))),(10,(.int .i64 t3))] H:=by
 refine iY (fun s e H1=>match s with|(t3,s4)=>e=[(3,(.cA q2 1 0 s1.length)),(8,(.cA q2 1 0 s1.length)),(9,(.int .i64 (s1.length:Int))),(10,(.int .i64 t3))]∧Fr H0 H0.length [] H1∧H1[q2]? =some (ml b8 s4)) h ⟨rfl,hfr,ai⟩ ?_
 rintro K' ⟨t3,s4⟩ st e H ⟨rfl,hfr,ai⟩ h hN hB hR hX
 have hle:=hfr.le
 have aM:=aQ ai
 rw [fy.eq_1] at h
 refine az ai ?_
 refine bn h (fun hy1 h=> ?_) fun hy1 h=> ?_
 · obtain ⟨j5,hy2,h⟩:=aq h
   obtain ⟨x6,hy3,h⟩:=aq h
   refine az (aI hy2 (aI hy3 ai)) ?_
   refine bB ak (zg (q7:=q2) (s1:=s1) (t3:=t3) (x6:=x6) (s4:=s4) hfr (ai.trans rfl) ct ?_)
   intro H hfr ai
   have hle:=hfr.le
   have aM:=aQ ai
   refine az ai ?_
   refine bn h (fun bM h=> ?_) fun bM h=> ?_
   · obtain ⟨s8,cc,h⟩:=aq h
     refine az (aI hy2 (aI hy3 (aI hy2 (aI cc ai)))) ?_
     obtain rfl:=aB h
     exact hN _ rfl _ _ _ _ aJ ak ⟨rfl,(cj _ hfr),cD⟩
   · refine az ai ?_
     obtain rfl:=aB h
     exact hN _ rfl _ _ _ _ aJ ak ⟨rfl,hfr,(ai.trans rfl)⟩
 · refine az ai ?_
   obtain rfl:=aB h
   exact hX _ _ _ _ _ dB aJ ak (dD _ (hB _ rfl) _ hfr (ai.trans rfl))
theorem lB {F:Nat} {s1:List UInt8} {H0:AH} {aP:List UInt8} (h:fT F s1=some aP):
 aF Tryz.prog 22 [(.str s1)] H0 fun v H'=>v=(.str aP)∧H'=H0:=by
 refine nk Ew rQ [] fun hcl K0 aN H hH hfr=> ?_
 clear hH
 have hle:=hfr.le
 rw [fT.eq_1] at h
 refine ei ?_
 obtain ⟨q2,kU⟩:∃q:Nat,H.length=q:=⟨_,rfl⟩
 try rw [kU]
 obtain ⟨o12,cO,h⟩:=aq h
 refine bB ak (zh (q2:=q2) (Fr.app hfr) uR ct cO ?_)
 · rintro T0 rfl H hfr ai
   try dsimp only at h ai
   have hle:=hfr.le
   have aM:=aQ ai
   refine ei ?_
   obtain ⟨gf,cC,h⟩:=aq h
   refine az (aI cC ai) ?_
   obtain rfl:=aB h
   exact aN _ _ _ bk (aV hfr hcl (aX bf (.str gf)) bg aZ ⟨rfl,rfl⟩)
abbrev Jp:av:=(.seq (.rg [(aj 2 (.aO (.c (.str []))))]) (.seq (.seq (.rg [(au 3 0)]) (.blk 0 (.seq (.rg [(aj 5 (.bin .eql (.t 3) (.c (.int .i64 1)))),(aR 4 5)]) (.cond (.t 4) (.seq (.rg [(aj 2 (.aO (.c (.str [72,69,76,79]))))]) .ret) (.seq (.rg [(aj 7 (.bin .eql (.t 3) (.c (.int .i64 2)))),(aR 6 7)]) (.cond (.t 6) (.seq (.rg [(aj 2 (.aO (.c (.str [69,72,76,79]))))]) .ret) (.seq (.rg [(aj 9 (.bin .eql (.t 3) (.c (.int .i64 3)))),(aR 8 9)]) (.cond (.t 8) (.seq (.rg [(aj 2 (.aO (.c (.str [77,65,73,76]))))]) .ret) (.seq (.rg [(aj 11 (.bin .eql (.t 3) (.c (.int .i64 4)))),(aR 10 11)]) (.cond (.t 10) (.seq (.rg [(aj 2 (.aO (.c (.str [82,67,80,84]))))]) .ret) (.seq (.rg [(aj 13 (.bin .eql (.t 3) (.c (.int .i64 5)))),(aR 12 13)]) (.cond (.t 12) (.seq (.rg [(aj 2 (.aO (.c (.str [68,65,84,65]))))]) .ret) (.seq (.rg [(aj 15 (.bin .eql (.t 3) (.c (.int .i64 6)))),(aR 14 15)]) (.cond (.t 14) (.seq (.rg [(aj 2 (.aO (.c (.str [82,83,69,84]))))]) .ret) (.seq (.rg [(aj 17 (.bin .eql (.t 3) (.c (.int .i64 7)))),(aR 16 17)]) (.cond (.t 16) (.seq (.rg [(aj 2 (.aO (.c (.str [78,79,79,80]))))]) .ret) (.seq (.rg [(aj 19 (.bin .eql (.t 3) (.c (.int .i64 8)))),(aR 18 19)]) (.cond (.t 18) (.seq (.rg [(aj 2 (.aO (.c (.str [81,85,73,84]))))]) .ret) (.seq (.rg [(aj 21 (.bin .eql (.t 3) (.c (.int .i64 9)))),(aR 20 21)]) (.cond (.t 20) (.seq (.rg [(aj 2 (.aO (.c (.str [86,82,70,89]))))]) .ret) .skip)))))))))))))))))))) (.seq (.rg [(aj 2 (.aO (.c (.str []))))]) .ret)))
theorem Jq:bQ Tryz.prog 33 22 [(.tmp 2)] (erase Jp):=⟨Tryz.f33,_,rfl,by decide,rfl,by kernel_rfl,rfl,rfl⟩
abbrev Jr:List Nat:=[0,2,3,4,6,8,10,12,14,16,18,20]
def ow (nr:Int):Option ((List UInt8)):=
 (if (decide (nr=1)) then
  some ([72,69,76,79]:List UInt8)
 else
  (if (decide (nr=2)) then
   some ([69,72,76,79]:List UInt8)
  else
   (if (decide (nr=3)) then
    some ([77,65,73,76]:List UInt8)
   else
    (if (decide (nr=4)) then
     some ([82,67,80,84]:List UInt8)
    else
     (if (decide (nr=5)) then
      some ([68,65,84,65]:List UInt8)
     else
      (if (decide (nr=6)) then
       some ([82,83,69,84]:List UInt8)
      else
       (if (decide (nr=7)) then
        some ([78,79,79,80]:List UInt8)
       else
        (if (decide (nr=8)) then
         some ([81,85,73,84]:List UInt8)
        else
         (if (decide (nr=9)) then
          some ([86,82,70,89]:List UInt8)
         else
          some ([]:List UInt8))))))))))
theorem zi {nr:Int} {H0:AH} {aP:List UInt8} (h:ow nr=some aP):
 aF Tryz.prog 33 [(.int .i64 nr)] H0 fun v H'=>v=(.str aP)∧H'=H0:=by
 refine fL Jq Jr fun hcl K0 aN=> ?_
 rw [ow.eq_1] at h
 refine aD ?_
 refine bn h (fun hy1 h=> ?_) fun hy1 h=> ?_
 · refine aD ?_
   obtain rfl:=aB h
   exact aN _ _ _ bk (aK hcl (aX bf (.str ([72,69,76,79]:List UInt8))) bg aZ ⟨rfl,rfl⟩)
 · refine aD ?_
   refine bn h (fun hy2 h=> ?_) fun hy2 h=> ?_
   · refine aD ?_
     obtain rfl:=aB h
     exact aN _ _ _ bk (aK hcl (aX bf (.str ([69,72,76,79]:List UInt8))) bg aZ ⟨rfl,rfl⟩)
   · refine aD ?_
     refine bn h (fun hy3 h=> ?_) fun hy3 h=> ?_
     · refine aD ?_
       obtain rfl:=aB h
       exact aN _ _ _ bk (aK hcl (aX bf (.str ([77,65,73,76]:List UInt8))) bg aZ ⟨rfl,rfl⟩)
     · refine aD ?_
       refine bn h (fun hy4 h=> ?_) fun hy4 h=> ?_
       · refine aD ?_
         obtain rfl:=aB h
         exact aN _ _ _ bk (aK hcl (aX bf (.str ([82,67,80,84]:List UInt8))) bg aZ ⟨rfl,rfl⟩)
       · refine aD ?_
         refine bn h (fun bM h=> ?_) fun bM h=> ?_
         · refine aD ?_
           obtain rfl:=aB h
           exact aN _ _ _ bk (aK hcl (aX bf (.str ([68,65,84,65]:List UInt8))) bg aZ ⟨rfl,rfl⟩)
         · refine aD ?_
           refine bn h (fun cc h=> ?_) fun cc h=> ?_
           · refine aD ?_
             obtain rfl:=aB h
             exact aN _ _ _ bk (aK hcl (aX bf (.str ([82,83,69,84]:List UInt8))) bg aZ ⟨rfl,rfl⟩)
           · refine aD ?_
             refine bn h (fun cO h=> ?_) fun cO h=> ?_
             · refine aD ?_
               obtain rfl:=aB h
               exact aN _ _ _ bk (aK hcl (aX bf (.str ([78,79,79,80]:List UInt8))) bg aZ ⟨rfl,rfl⟩)
             · refine aD ?_
               refine bn h (fun cC h=> ?_) fun cC h=> ?_
               · refine aD ?_
                 obtain rfl:=aB h
                 exact aN _ _ _ bk (aK hcl (aX bf (.str ([81,85,73,84]:List UInt8))) bg aZ ⟨rfl,rfl⟩)
               · refine aD ?_
                 refine bn h (fun cX h=> ?_) fun cX h=> ?_
                 · refine aD ?_
                   obtain rfl:=aB h
                   exact aN _ _ _ bk (aK hcl (aX bf (.str ([86,82,70,89]:List UInt8))) bg aZ ⟨rfl,rfl⟩)
                 · refine aD ?_
                   obtain rfl:=aB h
                   exact aN _ _ _ bk (aK hcl (aX bf (.str ([]:List UInt8))) bg aZ ⟨rfl,rfl⟩)
abbrev ur:av:=(.seq (.seq (.rg [(au 4 3),(aj 5 (.bin .leq (.t 4) (.c (.int .i64 9))))]) (.cond (.t 5) .skip (.exit 0))) (.seq (.blk 1 (.seq (.rg [(au 8 3),(aj 9 (.call (.c (.fn 33 [])) [(.t 8)])),(aj 10 (.call (.c (.fn 22 [])) [(.t 9)])),(au 11 0),(aj 12 (.bin .eql (.t 10) (.t 11)))]) (.cond (.t 12) (.seq (.rg [(au 13 3),(aR 2 13)]) .ret) .skip))) (.rg [(au 6 3),(aj 7 (.bin .add (.t 6) (.c (.int .i64 1)))),(aR 3 7)])))
abbrev Js:av:=(.seq (.rg [(aj 2 (.aO (.c (.int .i64 0))))]) (.seq (.seq (.rg [(aj 3 (.aO (.c (.int .i64 1))))]) (.blk 0 (.loop (erase ur)))) (.seq (.rg [(aj 2 (.aO (.c (.int .i64 0))))]) .ret)))
theorem Jt:bQ Tryz.prog 21 14 [(.tmp 2)] (erase Js):=⟨Tryz.f21,_,rfl,by decide,rfl,by kernel_rfl,rfl,rfl⟩
abbrev Bm:List Nat:=[0,2,3,5,12]
def jv (F:Nat) (s1:List UInt8):(Int×Int)→Option (St Int Unit (Int×Int))
 |(t2,Ex)=>
  (if (decide (Ex≤9)) then
   (ow Ex).bind fun r4=>
   (fT F r4).bind fun r5=>
   (if (decide (r5=s1)) then
    some (.ret Ex)
   else
    some (.cB (t2,(IntKind.wrap .i64 (Ex+1)))))
  else
   some (.eg ()))
def sE (F:Nat) (s1:List UInt8):Option (Int):=
 ((iter (jv F s1) F (0,1)).bind fun o8=>
 match o8 with
 | .inr ()=>
   some 0
 | .inl r7=>
   some r7)
theorem BC {F:Nat} {Ex:Int} {s1:List UInt8} {t2:Int} {H:AH} {K:Exit→Env→AH→Prop} {o:(Int)⊕(Unit)}
 (h:iter (jv F s1) F (t2,Ex)=some o)
 (dD:∀o':Unit,o= .inr o'→K (.exit 0) [] H)
 (kr:∀o':Int,o= .inl o'→K .ret [(2,(.int .i64 o'))] H):
 AX Tryz.prog Bm 14 H.length (.loop (erase ur)) K [(0,(.str s1)),(2,(.int .i64 t2)),(3,(.int .i64 Ex))] H:=by
 refine iY (fun s e H1=>match s with|(t2,Ex)=>e=[(0,(.str s1)),(2,(.int .i64 t2)),(3,(.int .i64 Ex))]∧H1=H) h ⟨rfl,rfl⟩ ?_
 rintro K' ⟨t2,Ex⟩ st e H ⟨rfl,rfl⟩ h hN hB hR hX
 rw [jv.eq_1] at h
 refine aD ?_
 refine bn h (fun hy1 h=> ?_) fun hy1 h=> ?_
 · refine aD ?_
   obtain ⟨r4,hy2,h⟩:=aq h
   refine bE ak (zi hy2) ?_
   refine aD ?_
   obtain ⟨r5,hy3,h⟩:=aq h
   refine bE ak (lB hy3) ?_
   refine aD ?_
   refine bn h (fun hy4 h=> ?_) fun hy4 h=> ?_
   · refine aD ?_
     obtain rfl:=aB h
     exact hX _ _ _ _ _ dB aJ ak (kr _ (hR _ rfl))
   · refine aD ?_
     obtain rfl:=aB h
     exact hN _ rfl _ _ _ _ aJ ak ⟨rfl,rfl⟩
 · refine aD ?_
   obtain rfl:=aB h
   exact hX _ _ _ _ _ dB WE.nil ak (dD _ (hB _ rfl))
theorem G2 {F:Nat} {s1:List UInt8} {H0:AH} {aP:Int} (h:sE F s1=some aP):
 aF Tryz.prog 21 [(.str s1)] H0 fun v H'=>v=(.int .i64 aP)∧H'=H0:=by
 refine fL Jt Bm fun hcl K0 aN=> ?_
 rw [sE.eq_1] at h
 refine aD ?_
 obtain ⟨o8,bM,h⟩:=aq h
 refine bB ak (BC bM ?_ ?_)
 · rintro ⟨⟩ rfl
   try dsimp only at h
   refine aD ?_
   obtain rfl:=aB h
   exact aN _ _ _ bk (aK hcl (aX bf (.int .i64 0)) bg aZ ⟨rfl,rfl⟩)
 · rintro r7 rfl
   try dsimp only at h
   refine aD ?_
   obtain rfl:=aB h
   exact aN _ _ _ bk (aK hcl (aX bf (.int .i64 r7)) bg aZ ⟨rfl,rfl⟩)
abbrev jM:av:=(.rg [(au 3 0),(aj 4 (.iL (.t 3))),(aj 5 (.cR (.t 4) 2)),(aj 6 (.ld (.t 5) none)),(au 7 6),(ay 8 (.mv (.t 0)) 7 false),(ay 9 (.iL (.t 8)) 7 false),(ay 10 (.cR (.t 9) 1) 7 false),(ay 11 (.ld (.t 10) none) 7 false),(ay 12 (.mv (.t 0)) 7 false),(ay 13 (.iL (.t 12)) 7 false),(ay 14 (.cR (.t 13) 0) 7 false),(ay 15 (.ld (.t 14) none) 7 false),(ay 16 (.lens (.t 15)) 7 false),(ay 17 (.bin .geq (.t 11) (.t 16)) 7 false),(aj 18 (.pick (.t 7) (.c (.bool true)) (.t 17)))])
abbrev tQ:av:=(.seq (.rg [(aj 2 (.aO (.c (b8 0))))]) (.seq (.seq (.sem (erase jM)) (.cond (.t 18) (.seq (.rg [(aj 2 (.aO (.c (b8 0))))]) .ret) .skip)) (.seq (.rg [(au 19 0),(aj 20 (.iL (.t 19))),(aj 21 (.cR (.t 20) 0)),(aj 22 (.ld (.t 21) none)),(au 23 0),(aj 24 (.iL (.t 23))),(aj 25 (.cR (.t 24) 1)),(aj 26 (.ld (.t 25) none)),(aj 27 (.ixs (.t 22) (.t 26))),(aR 2 27)]) .ret)))
theorem tR:bQ Tryz.prog 117 28 [(.tmp 2)] (erase tQ):=⟨Tryz.f117,_,rfl,by decide,rfl,by kernel_rfl,rfl,rfl⟩
abbrev lC:List Nat:=[0,2,18]
def bw (x1:aA):Option (UInt8):=
 (if (x1.bad||(decide ((x1.s.length:Int)≤x1.cL))) then
  some 0
 else
  (idx x1.s x1.cL).bind fun x2=>some x2)
theorem oJ {x1:aA} {H:AH} {K:Exit→Env→AH→Prop}
 (kn:K .normal [(0,(.ep (.agg [(.str x1.s),(.int .i64 x1.cL),(.bool x1.bad)]) 0)),(18,(.bool (x1.bad||(decide ((x1.s.length:Int)≤x1.cL)))))] H):
 AX Tryz.prog lC 28 H.length (erase jM) K [(0,(.ep (.agg [(.str x1.s),(.int .i64 x1.cL),(.bool x1.bad)]) 0))] H:=by
 refine b7 fun K' hK=> ?_
 refine aD ?_
 refine nj (fun hy1=> ?_) fun hy1=> ?_
 · refine aW hy1 ?_
   exact hK _ _ _ _ _ (fI hy1) ak kn
 · refine aW hy1 ?_
   exact hK _ _ _ _ _ (fI hy1) ak kn
theorem ck {x1:aA} {H0:AH} {aP:UInt8} (h:bw x1=some aP):
 aF Tryz.prog 117 [(.ep (.agg [(.str x1.s),(.int .i64 x1.cL),(.bool x1.bad)]) 0)] H0 fun v H'=>v=(b8 aP)∧H'=H0:=by
 refine fL tR lC fun hcl K0 aN=> ?_
 rw [bw.eq_1] at h
 refine aD ?_
 refine bB ak (oJ (x1:=x1) ?_)
 refine aD ?_
 refine bn h (fun hy2 h=> ?_) fun hy2 h=> ?_
 · refine aD ?_
   obtain rfl:=aB h
   exact aN _ _ _ bk (aK hcl (aX bf (b8 0)) bg aZ ⟨rfl,rfl⟩)
 · obtain ⟨x2,hy3,h⟩:=aq h
   refine aW hy3 ?_
   obtain rfl:=aB h
   exact aN _ _ _ bk (aK hcl (aX bf (b8 x2)) bg aZ ⟨rfl,rfl⟩)
abbrev uU:av:=(.seq (.rg [(aj 4 (.aO (.c (.bool false))))]) (.seq (.seq (.rg [(au 5 0),(aj 6 (.call (.c (.fn 117 [])) [(.t 5)])),(au 7 1),(aj 8 (.bin .neq (.t 6) (.t 7)))]) (.cond (.t 8) (.seq (.rg [(aj 4 (.aO (.c (.bool false))))]) .ret) .skip)) (.seq (.rg [(au 9 0),(aj 10 (.iL (.t 9))),(aj 11 (.cR (.t 10) 1)),(aj 12 (.ld (.t 11) none)),(aj 13 (.bin .add (.t 12) (.c (.int .i64 1)))),(aj 14 (.iL (.t 9))),(aj 15 (.cR (.t 14) 1)),(cZ (.st (.t 15) (.t 13) 1))]) (.seq (.rg [(aj 4 (.aO (.c (.bool true))))]) .ret))))
theorem uV:bQ Tryz.prog 93 16 [(.tmp 4)] (erase uU):=⟨Tryz.f93,_,rfl,by decide,rfl,by kernel_rfl,rfl,rfl⟩
abbrev uW:List Nat:=[0,1,4,8]
def bD (x2:aA) (c3:UInt8):Option (Bool×aA):=
 (bw x2).bind fun r4=>
 (if (!decide (r4=c3)) then
  some (false,x2)
 else
  some (true,(aA.mk x2.s (IntKind.wrap .i64 (x2.cL+1)) x2.bad)))
theorem dO {x2:aA} {c3:UInt8} {q1:Nat} {H0:AH} (ai:H0[q1]? =some [(.str x2.s),(.int .i64 x2.cL),(.bool x2.bad)]) {aP:Bool} {eL:aA} (h:bD x2 c3=some (aP,eL)):
 aF Tryz.prog 93 [(.ptr q1 0),(b8 c3)] H0 fun v H'=>v=(.bool aP)∧H'=(H0.set q1 [(.str eL.s),(.int .i64 eL.cL),(.bool eL.bad)]):=by
 have aM:=aQ ai
 refine nk uV uW [q1] fun hcl K0 aN H hH hfr=> ?_
 rw [←hH] at ai
 clear hH
 have hle:=hfr.le
 have C3:=aQ ai
 rw [bD.eq_1] at h
 refine az ai ?_
 obtain ⟨r4,hy1,h⟩:=aq h
 refine Jn (ck hy1) (l9.cons (.one _ _ (gL.Bl (ai.trans rfl) Jo)) (l9.nil)) ?_
 refine az ai ?_
 refine bn h (fun hy2 h=> ?_) fun hy2 h=> ?_
 · refine az ai ?_
   obtain ⟨rfl,rfl⟩:=cE h
   exact aN _ _ _ bk (jZ hfr hcl (aX bf (.bool false)) bg aZ (ai.trans rfl) ct Es Er ⟨rfl,rfl⟩)
 · refine az ai ?_
   obtain ⟨rfl,rfl⟩:=cE h
   exact aN _ _ _ bk (jZ (cj _ hfr) hcl (aX bf (.bool true)) bg aZ cD ct Es Er ⟨rfl,rfl⟩)
abbrev Fs:av:=(.rg [(au 4 0),(au 5 0),(aj 6 (.iL (.t 5))),(aj 7 (.cR (.t 6) 2)),(aj 8 (.ld (.t 7) none)),(au 9 8),(ay 10 (.mv (.t 0)) 9 false),(ay 11 (.mv (.t 1)) 9 false),(ay 12 (.call (.c (.fn 93 [])) [(.t 10),(.t 11)]) 9 false),(ay 13 (.un .not (.t 12)) 9 false),(aj 14 (.pick (.t 9) (.c (.bool true)) (.t 13))),(aj 15 (.iL (.t 4))),(aj 16 (.cR (.t 15) 2)),(cZ (.st (.t 16) (.t 14) 1))])
abbrev vF:av:=(.rg [(au 4 0),(au 5 0),(aj 6 (.iL (.t 5))),(aj 7 (.cR (.t 6) 2)),(aj 8 (.ld (.t 7) none)),(au 9 8),(ay 10 (.mv (.t 0)) 9 false),(ay 11 (.mv (.t 1)) 9 false),(ay 12 (.call (.c (.fn 93 [])) [(.t 10),(.t 11)]) 9 false),(ay 13 (.un .not (.t 12)) 9 false),(aj 14 (.pick (.t 9) (.c (.bool true)) (.t 13))),(aj 15 (.iL (.t 4))),(aj 16 (.cR (.t 15) 2)),(cZ (.st (.t 16) (.t 14) 1))])
theorem vG:bQ Tryz.prog 92 17 [] (erase vF):=⟨Tryz.f92,_,rfl,by decide,rfl,by kernel_rfl,rfl,rfl⟩
abbrev vH:List Nat:=[0,1]
def bl (x2:aA) (c3:UInt8):Option (aA):=
 (if x2.bad then
  some (aA.mk x2.s x2.cL true)
 else
  (bD x2 c3).bind fun (r4,r5)=>some (aA.mk r5.s r5.cL (!r4)))
theorem dh {x2:aA} {c3:UInt8} {q1:Nat} {H0:AH} (ai:H0[q1]? =some [(.str x2.s),(.int .i64 x2.cL),(.bool x2.bad)]) {aP:aA} (h:bl x2 c3=some aP):
 aF Tryz.prog 92 [(.ptr q1 0),(b8 c3)] H0 fun v H'=>v=(.bz [])∧H'=(H0.set q1 [(.str aP.s),(.int .i64 aP.cL),(.bool aP.bad)]):=by
 have aM:=aQ ai
 refine nk vG vH [q1] fun hcl K0 aN H hH hfr=> ?_
 rw [←hH] at ai
 clear hH
 have hle:=hfr.le
 have C3:=aQ ai
 rw [bl.eq_1] at h
 refine az ai ?_
 refine bV h (fun hy1 h=> ?_) fun hy1 h=> ?_
 · refine az (aI hy1 ai) ?_
   obtain rfl:=aB h
   exact aN _ _ _ ZZ (jZ (cj _ hfr) hcl bf bg aZ cD ct Es Er ⟨rfl,rfl⟩)
 · refine az (aI hy1 ai) ?_
   obtain ⟨⟨r4,r5⟩,hy2,h⟩:=aq h
   dsimp only at h
   refine bE ak (dO (ai.trans rfl) hy2) ?_
   refine az ai ?_
   obtain rfl:=aB h
   exact aN _ _ _ ZZ (jZ (cj _ (cj _ hfr)) hcl bf bg aZ cD ct Es Er ⟨rfl,rfl⟩)
abbrev qu:av:=(.rg [(au 3 0),(aj 4 (.bin .or (.t 3) (.c (b8 32)))),(aj 5 (.bin .geq (.t 4) (.c (b8 97)))),(au 6 5),(ay 7 (.mv (.t 0)) 6 true),(ay 8 (.bin .or (.t 7) (.c (b8 32))) 6 true),(ay 9 (.bin .leq (.t 8) (.c (b8 122))) 6 true),(aj 10 (.pick (.t 6) (.t 9) (.c (.bool false)))),(au 11 10),(ay 12 (.mv (.t 0)) 11 false),(ay 13 (.bin .geq (.t 12) (.c (b8 48))) 11 false),(ay 14 (.mv (.t 13)) 11 false),(ay 15 (.mv (.t 0)) 14 true),(ay 16 (.bin .leq (.t 15) (.c (b8 57))) 14 true),(ay 17 (.pick (.t 14) (.t 16) (.c (.bool false))) 11 false),(aj 18 (.pick (.t 11) (.c (.bool true)) (.t 17))),(aR 2 18)])
abbrev C4:av:=(.seq (.rg [(aj 2 (.aO (.c (.bool false))))]) (.seq (.sem (erase qu)) .ret))
theorem C5:bQ Tryz.prog 103 19 [(.tmp 2)] (erase C4):=⟨Tryz.f103,_,rfl,by decide,rfl,by kernel_rfl,rfl,rfl⟩
abbrev vI:List Nat:=[0,2]
def gM (c1:UInt8):Option (Bool):=
 some (((decide (97≤(c1 ||| 32)))&&(decide ((c1 ||| 32)≤122)))||((decide (48≤c1))&&(decide (c1≤57))))
theorem xw {c1:UInt8} {H:AH} {K:Exit→Env→AH→Prop}
 (kn:K .normal [(2,(.bool (((decide (97≤(c1 ||| 32)))&&(decide ((c1 ||| 32)≤122)))||((decide (48≤c1))&&(decide (c1≤57))))))] H):
 AX Tryz.prog vI 19 H.length (erase qu) K [(0,(b8 c1)),(2,(.bool false))] H:=by
 refine b7 fun K' hK=> ?_
 refine aD ?_
 refine nj (fun hy1=> ?_) fun hy1=> ?_
 · refine aW hy1 ?_
   refine nj (fun hy2=> ?_) fun hy2=> ?_
   · refine aW hy2 ?_
     exact hK _ _ _ _ _ (fI (aI hy1 hy2)) ak kn
   · refine aW hy2 ?_
     refine nj (fun hy3=> ?_) fun hy3=> ?_
     · refine aW hy3 ?_
       exact hK _ _ _ _ _ (fI (aI hy1 (aI hy2 hy3))) ak kn
     · refine aW hy3 ?_
       exact hK _ _ _ _ _ (fI (aI hy1 (aI hy2 hy3))) ak kn
 · refine aW hy1 ?_
   refine nj (fun hy4=> ?_) fun hy4=> ?_
   · refine aW hy4 ?_
     exact hK _ _ _ _ _ (fI (aI hy1 hy4)) ak kn
   · refine aW hy4 ?_
     exact hK _ _ _ _ _ (fI (aI hy1 hy4)) ak kn
theorem nt {c1:UInt8} {H0:AH} {aP:Bool} (h:gM c1=some aP):
 aF Tryz.prog 103 [(b8 c1)] H0 fun v H'=>v=(.bool aP)∧H'=H0:=by
 refine fL C5 vI fun hcl K0 aN=> ?_
 rw [gM.eq_1] at h
 refine aD ?_
 refine bB ak (xw (c1:=c1) ?_)
 refine aD ?_
 obtain rfl:=aB h
 exact aN _ _ _ bk (aK hcl (aX bf (.bool (((decide (97≤(c1 ||| 32)))&&(decide ((c1 ||| 32)≤122)))||((decide (48≤c1))&&(decide (c1≤57)))))) bg aZ ⟨rfl,rfl⟩)
abbrev qv:av:=(.rg [(au 10 4),(aj 11 (.iq false (.t 10) (.c (.v .nilIface)))),(au 12 11),(ay 13 (.mv (.t 3)) 12 true),(ay 14 (.bin .geq (.t 13) (.c (.int .i64 0))) 12 true),(aj 15 (.pick (.t 12) (.t 14) (.c (.bool false)))),(au 16 15),(ay 17 (.mv (.t 3)) 16 true),(ay 18 (.bin .leq (.t 17) (.c (.int .i64 255))) 16 true),(aj 19 (.pick (.t 16) (.t 18) (.c (.bool false)))),(au 20 19),(ay 21 (.mv (.t 3)) 20 true),(ay 22 (.call (.c (.fn 34 [])) [(.t 21)]) 20 true),(ay 23 (.mv (.t 0)) 20 true),(ay 24 (.bin .eql (.t 22) (.t 23)) 20 true),(aj 25 (.pick (.t 20) (.t 24) (.c (.bool false)))),(aR 2 25)])
abbrev C6:av:=(.seq (.rg [(aj 2 (.aO (.c (.bool false))))]) (.seq (.rg [(au 6 0),(aj 7 (.call (.c (.fn 66 [])) [(.t 6)])),(au 5 7),(aj 8 (.ext (.t 5) 0)),(aj 9 (.ext (.t 5) 1)),(aR 3 8),(aR 4 9)]) (.seq (.sem (erase qv)) .ret)))
theorem C7:bQ Tryz.prog 69 26 [(.tmp 2)] (erase C6):=⟨Tryz.f69,_,rfl,by decide,rfl,by kernel_rfl,rfl,rfl⟩
abbrev vJ:List Nat:=[0,2,3,4]
def fM (r3:Bool) (r2:Int) (s1:List UInt8):Option (Bool):=
 (if (!r3) then
  (if (decide (0≤r2)) then
   (if (decide (r2≤255)) then
    (strconv_Itoa r2).bind fun r4=>some (decide (r4=s1))
   else
    some false)
  else
   some false)
 else
  some false)
def jx (s1:List UInt8):Option (Bool):=
 (strconv_Atoi s1).bind fun (r2,r3)=>(fM r3 r2 s1).bind fun t6=>
 some t6
theorem xx {r3:Bool} {r2:Int} {s1:List UInt8} {H:AH} {K:Exit→Env→AH→Prop} {t5:Bool}
 (h:fM r3 r2 s1=some t5)
 (kn:K .normal [(2,(.bool t5))] H):
 AX Tryz.prog vJ 26 H.length (erase qv) K [(0,(.str s1)),(2,(.bool false)),(3,(.int .i64 r2)),(4,(dL r3))] H:=by
 refine b7 fun K' hK=> ?_
 rw [fM.eq_1] at h
 refine aD ?_
 refine bV h (fun hy2 h=> ?_) fun hy2 h=> ?_
 · refine aW hy2 ?_
   refine bV h (fun hy3 h=> ?_) fun hy3 h=> ?_
   · refine aW hy3 ?_
     refine bV h (fun hy4 h=> ?_) fun hy4 h=> ?_
     · refine aW hy4 ?_
       obtain ⟨r4,bM,h⟩:=aq h
       refine bE ak (sC (i1:=r2) bM) ?_
       refine aD ?_
       obtain rfl:=aB h
       exact hK _ _ _ _ _ aJ ak kn
     · refine aW hy4 ?_
       obtain rfl:=aB h
       exact hK _ _ _ _ _ aJ ak kn
   · refine aW hy3 ?_
     obtain rfl:=aB h
     exact hK _ _ _ _ _ aJ ak kn
 · refine aW hy2 ?_
   obtain rfl:=aB h
   exact hK _ _ _ _ _ aJ ak kn
theorem BD {s1:List UInt8} {H0:AH} {aP:Bool} (h:jx s1=some aP):
 aF Tryz.prog 69 [(.str s1)] H0 fun v H'=>v=(.bool aP)∧H'=H0:=by
 refine fL C7 vJ fun hcl K0 aN=> ?_
 rw [jx.eq_1] at h
 refine aD ?_
 obtain ⟨⟨r2,r3⟩,hy1,h⟩:=aq h
 dsimp only at h
 refine bE ak (strconv_Atoi_ok (s1:=s1) hy1) ?_
 refine aD ?_
 obtain ⟨t6,cc,h⟩:=aq h
 refine bB ak (xx cc ?_)
 refine aD ?_
 obtain rfl:=aB h
 exact aN _ _ _ bk (aK hcl (aX bf (.bool t6)) bg aZ ⟨rfl,rfl⟩)
abbrev Aq:av:=(.seq (.rg [(aj 2 (.aO (.c (.bool false))))]) (.seq (.rg [(au 3 0),(aj 4 (.call (.c (.fn 69 [])) [(.t 3)])),(aj 5 (.un .not (.t 4))),(aR 2 5)]) .ret))
theorem As:bQ Tryz.prog 68 6 [(.tmp 2)] (erase Aq):=⟨Tryz.f68,_,rfl,by decide,rfl,by kernel_rfl,rfl,rfl⟩
abbrev Au:List Nat:=[0,2]
def iZ (x1:List UInt8):Option (Bool):=
 (jx x1).bind fun r2=>some (!r2)
theorem zj {x1:List UInt8} {H0:AH} {aP:Bool} (h:iZ x1=some aP):
 aF Tryz.prog 68 [(.str x1)] H0 fun v H'=>v=(.bool aP)∧H'=H0:=by
 refine fL As Au fun hcl K0 aN=> ?_
 rw [iZ.eq_1] at h
 refine aD ?_
 obtain ⟨r2,hy1,h⟩:=aq h
 refine bE ak (BD hy1) ?_
 refine aD ?_
 obtain rfl:=aB h
 exact aN _ _ _ bk (aK hcl (aX bf (.bool (!r2))) bg aZ ⟨rfl,rfl⟩)
abbrev jN:av:=(.seq (.rg [(aj 9 (.bin .lss (.t 8) (.t 7)))]) (.seq (.cond (.t 9) .skip (.exit 0)) (.seq (.blk 1 (.seq (.rg [(au 10 8),(aR 5 10)]) (.seq (.rg [(au 11 1),(au 12 0),(au 13 5),(aj 14 (.wI 1 (.t 12) (.t 13))),(aj 15 (.ld (.t 14) none)),(aj 16 (.call (.t 11) [(.t 15)]))]) (.cond (.t 16) (.seq (.rg [(au 17 5),(aR 4 17)]) .ret) .skip)))) (.rg [(aj 18 (.bin .add (.t 8) (.c (.int .i64 1)))),(au 8 18)]))))
abbrev uX:av:=(.seq (.rg [(aj 4 (.aO (.c (.int .i64 0))))]) (.seq (.seq (.rg [(au 6 0),(aj 7 (.len (.t 6))),(aj 8 (.mv (.c (.int .i64 0))))]) (.blk 0 (.loop (erase jN)))) (.seq (.rg [(aj 4 (.aO (.c (.int .i64 (-1)))))]) .ret)))
theorem uY:bQ Tryz.prog 72 19 [(.tmp 4)] (erase uX):=⟨Tryz.f72,_,rfl,by decide,rfl,by kernel_rfl,rfl,rfl⟩
abbrev mg:List Nat:=[0,1,4,5,7,8,9,16]
def cM (s1:List (List UInt8)):(Int×Int)→Option (St Int Unit (Int×Int))
 |(t2,t3)=>
  (if (decide (t3<(s1.length:Int))) then
   (idx s1 t3).bind fun x4=>
   (iZ x4).bind fun r5=>
   (if r5 then
    some (.ret t3)
   else
    some (.cB (t2,(IntKind.wrap .i64 (t3+1)))))
  else
   some (.eg ()))
def gj (F:Nat) (s1:List (List UInt8)):Option (Int):=
 ((iter (cM s1) F (0,0)).bind fun o8=>
 match o8 with
 | .inr ()=>
   some (-1)
 | .inl r7=>
   some r7)
theorem qc {F:Nat} {t3:Int} {s1:List (List UInt8)} {t2:Int} {H:AH} {K:Exit→Env→AH→Prop} {o:(Int)⊕(Unit)}
 (h:iter (cM s1) F (t2,t3)=some o)
 (dD:∀o':Unit,o= .inr o'→K (.exit 0) [] H)
 (kr:∀o':Int,o= .inl o'→K .ret [(4,(.int .i64 o'))] H):
 AX Tryz.prog mg 19 H.length (.loop (erase jN)) K [(0,(.sl .n 1 (ml AV.str s1))),(1,(.fn 68 [])),(4,(.int .i64 t2)),(7,(.int .i64 (s1.length:Int))),(8,(.int .i64 t3))] H:=by
 refine iY (fun s e H1=>match s with|(t2,t3)=>e=[(0,(.sl .n 1 (ml AV.str s1))),(1,(.fn 68 [])),(4,(.int .i64 t2)),(7,(.int .i64 (s1.length:Int))),(8,(.int .i64 t3))]∧H1=H) h ⟨rfl,rfl⟩ ?_
 rintro K' ⟨t2,t3⟩ st e H ⟨rfl,rfl⟩ h hN hB hR hX
 rw [cM.eq_1] at h
 refine aD ?_
 refine bn h (fun hy1 h=> ?_) fun hy1 h=> ?_
 · obtain ⟨x4,hy2,h⟩:=aq h
   refine aW hy2 ?_
   obtain ⟨r5,hy3,h⟩:=aq h
   refine bE ak (zj hy3) ?_
   refine aD ?_
   refine bn h (fun hy4 h=> ?_) fun hy4 h=> ?_
   · refine aD ?_
     obtain rfl:=aB h
     exact hX _ _ _ _ _ dB aJ ak (kr _ (hR _ rfl))
   · refine aD ?_
     obtain rfl:=aB h
     exact hN _ rfl _ _ _ _ aJ ak ⟨rfl,rfl⟩
 · refine aD ?_
   obtain rfl:=aB h
   exact hX _ _ _ _ _ dB WE.nil ak (dD _ (hB _ rfl))
theorem tS {F:Nat} {s1:List (List UInt8)} {H0:AH} {aP:Int} (h:gj F s1=some aP):
 aF Tryz.prog 72 [(.sl .n 1 (ml AV.str s1)),(.fn 68 [])] H0 fun v H'=>v=(.int .i64 aP)∧H'=H0:=by
 refine fL uY mg fun hcl K0 aN=> ?_
 rw [gj.eq_1] at h
 refine aD ?_
 obtain ⟨o8,bM,h⟩:=aq h
 refine bB ak (qc bM ?_ ?_)
 · rintro ⟨⟩ rfl
   try dsimp only at h
   refine aD ?_
   obtain rfl:=aB h
   exact aN _ _ _ bk (aK hcl (aX bf (.int .i64 (-1))) bg aZ ⟨rfl,rfl⟩)
 · rintro r7 rfl
   try dsimp only at h
   refine aD ?_
   obtain rfl:=aB h
   exact aN _ _ _ bk (aK hcl (aX bf (.int .i64 r7)) bg aZ ⟨rfl,rfl⟩)
abbrev rR:av:=(.seq (.rg [(aj 4 (.aO (.c (.bool false))))]) (.seq (.rg [(au 5 0),(au 6 1),(aj 7 (.call (.c (.fn 72 [])) [(.t 5),(.t 6)])),(aj 8 (.bin .geq (.t 7) (.c (.int .i64 0)))),(aR 4 8)]) .ret))
theorem rS:bQ Tryz.prog 46 9 [(.tmp 4)] (erase rR):=⟨Tryz.f46,_,rfl,by decide,rfl,by kernel_rfl,rfl,rfl⟩
abbrev rT:List Nat:=[0,1,4]
def dP (F:Nat) (s1:List (List UInt8)):Option (Bool):=
 (gj F s1).bind fun r2=>some (decide (0≤r2))
theorem qd {F:Nat} {s1:List (List UInt8)} {H0:AH} {aP:Bool} (h:dP F s1=some aP):
 aF Tryz.prog 46 [(.sl .n 1 (ml AV.str s1)),(.fn 68 [])] H0 fun v H'=>v=(.bool aP)∧H'=H0:=by
 refine fL rS rT fun hcl K0 aN=> ?_
 rw [dP.eq_1] at h
 refine aD ?_
 obtain ⟨r2,hy1,h⟩:=aq h
 refine bE ak (tS hy1) ?_
 refine aD ?_
 obtain rfl:=aB h
 exact aN _ _ _ bk (aK hcl (aX bf (.bool (decide (0≤r2)))) bg aZ ⟨rfl,rfl⟩)
abbrev oK:av:=(.rg [(au 3 0),(aj 4 (.call (.c (.fn 103 [])) [(.t 3)])),(au 5 4),(ay 6 (.mv (.t 0)) 5 false),(ay 7 (.bin .eql (.t 6) (.c (b8 45))) 5 false),(aj 8 (.pick (.t 5) (.c (.bool true)) (.t 7))),(aR 2 8)])
abbrev BE:av:=(.seq (.rg [(aj 2 (.aO (.c (.bool false))))]) (.seq (.sem (erase oK)) .ret))
theorem BF:bQ Tryz.prog 102 9 [(.tmp 2)] (erase BE):=⟨Tryz.f102,_,rfl,by decide,rfl,by kernel_rfl,rfl,rfl⟩
abbrev uu:List Nat:=[0,2]
def mA (c1:UInt8):Option (Bool):=
 (gM c1).bind fun r2=>(if r2 then
  some true
 else
  some (decide (c1=45)))
def j0 (c1:UInt8):Option (Bool):=
 (mA c1).bind fun t4=>
 some t4
theorem wK {c1:UInt8} {H:AH} {K:Exit→Env→AH→Prop} {t3:Bool}
 (h:mA c1=some t3)
 (kn:K .normal [(2,(.bool t3))] H):
 AX Tryz.prog uu 9 H.length (erase oK) K [(0,(b8 c1)),(2,(.bool false))] H:=by
 refine b7 fun K' hK=> ?_
 rw [mA.eq_1] at h
 refine aD ?_
 obtain ⟨r2,hy1,h⟩:=aq h
 refine bE ak (nt hy1) ?_
 refine aD ?_
 refine bV h (fun hy2 h=> ?_) fun hy2 h=> ?_
 · refine aW hy2 ?_
   obtain rfl:=aB h
   exact hK _ _ _ _ _ aJ ak kn
 · refine aW hy2 ?_
   obtain rfl:=aB h
   exact hK _ _ _ _ _ aJ ak kn
theorem Av {c1:UInt8} {H0:AH} {aP:Bool} (h:j0 c1=some aP):
 aF Tryz.prog 102 [(b8 c1)] H0 fun v H'=>v=(.bool aP)∧H'=H0:=by
 refine fL BF uu fun hcl K0 aN=> ?_
 rw [j0.eq_1] at h
 refine aD ?_
 obtain ⟨t4,hy3,h⟩:=aq h
 refine bB ak (wK hy3 ?_)
 refine aD ?_
 obtain rfl:=aB h
 exact aN _ _ _ bk (aK hcl (aX bf (.bool t4)) bg aZ ⟨rfl,rfl⟩)
abbrev nP:av:=(.seq (.rg [(aj 9 (.bin .lss (.t 8) (.t 7)))]) (.seq (.cond (.t 9) .skip (.exit 0)) (.seq (.blk 1 (.seq (.rg [(au 10 8),(aR 5 10)]) (.seq (.rg [(au 11 1),(au 12 0),(au 13 5),(aj 14 (.ixs (.t 12) (.t 13))),(aj 15 (.call (.t 11) [(.t 14)])),(aj 16 (.un .not (.t 15)))]) (.cond (.t 16) (.seq (.rg [(aj 4 (.aO (.c (.bool false))))]) .ret) .skip)))) (.rg [(aj 17 (.bin .add (.t 8) (.c (.int .i64 1)))),(au 8 17)]))))
abbrev BG:av:=(.seq (.rg [(aj 4 (.aO (.c (.bool false))))]) (.seq (.seq (.rg [(au 6 0),(aj 7 (.lens (.t 6))),(aj 8 (.mv (.c (.int .i64 0))))]) (.blk 0 (.loop (erase nP)))) (.seq (.rg [(aj 4 (.aO (.c (.bool true))))]) .ret)))
theorem BH:bQ Tryz.prog 54 18 [(.tmp 4)] (erase BG):=⟨Tryz.f54,_,rfl,by decide,rfl,by kernel_rfl,rfl,rfl⟩
abbrev uv:List Nat:=[0,1,4,5,7,8,9,16]
def eB (s1:List UInt8):(Bool×Int)→Option (St Bool Unit (Bool×Int))
 |(t2,t3)=>
  (if (decide (t3<(s1.length:Int))) then
   (idx s1 t3).bind fun x4=>
   (j0 x4).bind fun r5=>
   (if (!r5) then
    some (.ret false)
   else
    some (.cB (t2,(IntKind.wrap .i64 (t3+1)))))
  else
   some (.eg ()))
def j3 (F:Nat) (s1:List UInt8):Option (Bool):=
 ((iter (eB s1) F (false,0)).bind fun o8=>
 match o8 with
 | .inr ()=>
   some true
 | .inl r7=>
   some r7)
theorem wL {F:Nat} {t3:Int} {s1:List UInt8} {t2:Bool} {H:AH} {K:Exit→Env→AH→Prop} {o:(Bool)⊕(Unit)}
 (h:iter (eB s1) F (t2,t3)=some o)
 (dD:∀o':Unit,o= .inr o'→K (.exit 0) [] H)
 (kr:∀o':Bool,o= .inl o'→K .ret [(4,(.bool o'))] H):
 AX Tryz.prog uv 18 H.length (.loop (erase nP)) K [(0,(.str s1)),(1,(.fn 102 [])),(4,(.bool t2)),(7,(.int .i64 (s1.length:Int))),(8,(.int .i64 t3))] H:=by
 refine iY (fun s e H1=>match s with|(t2,t3)=>e=[(0,(.str s1)),(1,(.fn 102 [])),(4,(.bool t2)),(7,(.int .i64 (s1.length:Int))),(8,(.int .i64 t3))]∧H1=H) h ⟨rfl,rfl⟩ ?_
 rintro K' ⟨t2,t3⟩ st e H ⟨rfl,rfl⟩ h hN hB hR hX
 rw [eB.eq_1] at h
 refine aD ?_
 refine bn h (fun hy1 h=> ?_) fun hy1 h=> ?_
 · obtain ⟨x4,hy2,h⟩:=aq h
   refine aW hy2 ?_
   obtain ⟨r5,hy3,h⟩:=aq h
   refine bE ak (Av hy3) ?_
   refine aD ?_
   refine bn h (fun hy4 h=> ?_) fun hy4 h=> ?_
   · refine aD ?_
     obtain rfl:=aB h
     exact hX _ _ _ _ _ dB aJ ak (kr _ (hR _ rfl))
   · refine aD ?_
     obtain rfl:=aB h
     exact hN _ rfl _ _ _ _ aJ ak ⟨rfl,rfl⟩
 · refine aD ?_
   obtain rfl:=aB h
   exact hX _ _ _ _ _ dB WE.nil ak (dD _ (hB _ rfl))
theorem Aw {F:Nat} {s1:List UInt8} {H0:AH} {aP:Bool} (h:j3 F s1=some aP):
 aF Tryz.prog 54 [(.str s1),(.fn 102 [])] H0 fun v H'=>v=(.bool aP)∧H'=H0:=by
 refine fL BH uv fun hcl K0 aN=> ?_
 rw [j3.eq_1] at h
 refine aD ?_
 obtain ⟨o8,bM,h⟩:=aq h
 refine bB ak (wL bM ?_ ?_)
 · rintro ⟨⟩ rfl
   try dsimp only at h
   refine aD ?_
   obtain rfl:=aB h
   exact aN _ _ _ bk (aK hcl (aX bf (.bool true)) bg aZ ⟨rfl,rfl⟩)
 · rintro r7 rfl
   try dsimp only at h
   refine aD ?_
   obtain rfl:=aB h
   exact aN _ _ _ bk (aK hcl (aX bf (.bool r7)) bg aZ ⟨rfl,rfl⟩)
abbrev sF:av:=(.rg [(au 3 0),(aj 4 (.bin .neq (.t 3) (.c (.str [])))),(au 5 4),(ay 6 (.mv (.t 0)) 5 true),(ay 7 (.ixs (.t 6) (.c (.int .i64 0))) 5 true),(ay 8 (.bin .neq (.t 7) (.c (b8 45))) 5 true),(aj 9 (.pick (.t 5) (.t 8) (.c (.bool false)))),(au 10 9),(ay 11 (.mv (.t 0)) 10 true),(ay 12 (.mv (.t 0)) 10 true),(ay 13 (.lens (.t 12)) 10 true),(ay 14 (.bin .sub (.t 13) (.c (.int .i64 1))) 10 true),(ay 15 (.ixs (.t 11) (.t 14)) 10 true),(ay 16 (.bin .neq (.t 15) (.c (b8 45))) 10 true),(aj 17 (.pick (.t 10) (.t 16) (.c (.bool false)))),(au 18 17),(ay 19 (.mv (.t 0)) 18 true),(ay 20 (.call (.c (.fn 54 [])) [(.t 19),(.c (.fn 102 []))]) 18 true),(aj 21 (.pick (.t 18) (.t 20) (.c (.bool false)))),(aR 2 21)])
abbrev Ey:av:=(.seq (.rg [(aj 2 (.aO (.c (.bool false))))]) (.seq (.sem (erase sF)) .ret))
theorem Ez:bQ Tryz.prog 71 22 [(.tmp 2)] (erase Ey):=⟨Tryz.f71,_,rfl,by decide,rfl,by kernel_rfl,rfl,rfl⟩
abbrev w7:List Nat:=[0,2]
def lD (F:Nat) (s1:List UInt8):Option (Bool):=
 (if (!decide (s1=([]:List UInt8))) then
  (idx s1 0).bind fun x2=>
  (if (!decide (x2=45)) then
   (idx s1 (IntKind.wrap .i64 ((s1.length:Int) - 1))).bind fun x3=>
   (if (!decide (x3=45)) then
    (j3 F s1).bind fun r4=>some r4
   else
    some false)
  else
   some false)
 else
  some false)
def mR (F:Nat) (s1:List UInt8):Option (Bool):=
 (lD F s1).bind fun t6=>
 some t6
theorem zk {F:Nat} {s1:List UInt8} {H:AH} {K:Exit→Env→AH→Prop} {t5:Bool}
 (h:lD F s1=some t5)
 (kn:K .normal [(2,(.bool t5))] H):
 AX Tryz.prog w7 22 H.length (erase sF) K [(0,(.str s1)),(2,(.bool false))] H:=by
 refine b7 fun K' hK=> ?_
 rw [lD.eq_1] at h
 refine aD ?_
 refine bV h (fun hy1 h=> ?_) fun hy1 h=> ?_
 · obtain ⟨x2,hy2,h⟩:=aq h
   refine aW (aI hy1 hy2) ?_
   refine bV h (fun hy3 h=> ?_) fun hy3 h=> ?_
   · obtain ⟨x3,hy4,h⟩:=aq h
     refine aW (aI hy3 hy4) ?_
     refine bV h (fun bM h=> ?_) fun bM h=> ?_
     · refine aW bM ?_
       obtain ⟨r4,cc,h⟩:=aq h
       refine bE ak (Aw cc) ?_
       refine aD ?_
       obtain rfl:=aB h
       exact hK _ _ _ _ _ aJ ak kn
     · refine aW bM ?_
       obtain rfl:=aB h
       exact hK _ _ _ _ _ aJ ak kn
   · refine aW hy3 ?_
     obtain rfl:=aB h
     exact hK _ _ _ _ _ aJ ak kn
 · refine aW hy1 ?_
   obtain rfl:=aB h
   exact hK _ _ _ _ _ aJ ak kn
theorem C8 {F:Nat} {s1:List UInt8} {H0:AH} {aP:Bool} (h:mR F s1=some aP):
 aF Tryz.prog 71 [(.str s1)] H0 fun v H'=>v=(.bool aP)∧H'=H0:=by
 refine fL Ez w7 fun hcl K0 aN=> ?_
 rw [mR.eq_1] at h
 refine aD ?_
 obtain ⟨t6,cO,h⟩:=aq h
 refine bB ak (zk cO ?_)
 refine aD ?_
 obtain rfl:=aB h
 exact aN _ _ _ bk (aK hcl (aX bf (.bool t6)) bg aZ ⟨rfl,rfl⟩)
abbrev Ax:av:=(.seq (.rg [(aj 2 (.aO (.c (.bool false))))]) (.seq (.rg [(au 3 0),(aj 4 (.call (.c (.fn 71 [])) [(.t 3)])),(aj 5 (.un .not (.t 4))),(aR 2 5)]) .ret))
theorem Ay:bQ Tryz.prog 70 6 [(.tmp 2)] (erase Ax):=⟨Tryz.f70,_,rfl,by decide,rfl,by kernel_rfl,rfl,rfl⟩
abbrev Az:List Nat:=[0,2]
def ja (F:Nat) (x1:List UInt8):Option (Bool):=
 (mR F x1).bind fun r2=>some (!r2)
theorem zm {F:Nat} {x1:List UInt8} {H0:AH} {aP:Bool} (h:ja F x1=some aP):
 aF Tryz.prog 70 [(.str x1)] H0 fun v H'=>v=(.bool aP)∧H'=H0:=by
 refine fL Ay Az fun hcl K0 aN=> ?_
 rw [ja.eq_1] at h
 refine aD ?_
 obtain ⟨r2,hy1,h⟩:=aq h
 refine bE ak (C8 hy1) ?_
 refine aD ?_
 obtain rfl:=aB h
 exact aN _ _ _ bk (aK hcl (aX bf (.bool (!r2))) bg aZ ⟨rfl,rfl⟩)
abbrev jb:av:=(.seq (.rg [(aj 9 (.bin .lss (.t 8) (.t 7)))]) (.seq (.cond (.t 9) .skip (.exit 0)) (.seq (.blk 1 (.seq (.rg [(au 10 8),(aR 5 10)]) (.seq (.rg [(au 11 1),(au 12 0),(au 13 5),(aj 14 (.wI 1 (.t 12) (.t 13))),(aj 15 (.ld (.t 14) none)),(aj 16 (.call (.t 11) [(.t 15)]))]) (.cond (.t 16) (.seq (.rg [(au 17 5),(aR 4 17)]) .ret) .skip)))) (.rg [(aj 18 (.bin .add (.t 8) (.c (.int .i64 1)))),(au 8 18)]))))
abbrev tT:av:=(.seq (.rg [(aj 4 (.aO (.c (.int .i64 0))))]) (.seq (.seq (.rg [(au 6 0),(aj 7 (.len (.t 6))),(aj 8 (.mv (.c (.int .i64 0))))]) (.blk 0 (.loop (erase jb)))) (.seq (.rg [(aj 4 (.aO (.c (.int .i64 (-1)))))]) .ret)))
theorem tU:bQ Tryz.prog 72 19 [(.tmp 4)] (erase tT):=⟨Tryz.f72,_,rfl,by decide,rfl,by kernel_rfl,rfl,rfl⟩
abbrev lE:List Nat:=[0,1,4,5,7,8,9,16]
def cF (F:Nat) (s1:List (List UInt8)):(Int×Int)→Option (St Int Unit (Int×Int))
 |(t2,t3)=>
  (if (decide (t3<(s1.length:Int))) then
   (idx s1 t3).bind fun x4=>
   (ja F x4).bind fun r5=>
   (if r5 then
    some (.ret t3)
   else
    some (.cB (t2,(IntKind.wrap .i64 (t3+1)))))
  else
   some (.eg ()))
def fU (F:Nat) (s1:List (List UInt8)):Option (Int):=
 ((iter (cF F s1) F (0,0)).bind fun o8=>
 match o8 with
 | .inr ()=>
   some (-1)
 | .inl r7=>
   some r7)
theorem oL {F:Nat} {t3:Int} {s1:List (List UInt8)} {t2:Int} {H:AH} {K:Exit→Env→AH→Prop} {o:(Int)⊕(Unit)}
 (h:iter (cF F s1) F (t2,t3)=some o)
 (dD:∀o':Unit,o= .inr o'→K (.exit 0) [] H)
 (kr:∀o':Int,o= .inl o'→K .ret [(4,(.int .i64 o'))] H):
 AX Tryz.prog lE 19 H.length (.loop (erase jb)) K [(0,(.sl .n 1 (ml AV.str s1))),(1,(.fn 70 [])),(4,(.int .i64 t2)),(7,(.int .i64 (s1.length:Int))),(8,(.int .i64 t3))] H:=by
 refine iY (fun s e H1=>match s with|(t2,t3)=>e=[(0,(.sl .n 1 (ml AV.str s1))),(1,(.fn 70 [])),(4,(.int .i64 t2)),(7,(.int .i64 (s1.length:Int))),(8,(.int .i64 t3))]∧H1=H) h ⟨rfl,rfl⟩ ?_
 rintro K' ⟨t2,t3⟩ st e H ⟨rfl,rfl⟩ h hN hB hR hX
 rw [cF.eq_1] at h
 refine aD ?_
 refine bn h (fun hy1 h=> ?_) fun hy1 h=> ?_
 · obtain ⟨x4,hy2,h⟩:=aq h
   refine aW hy2 ?_
   obtain ⟨r5,hy3,h⟩:=aq h
   refine bE ak (zm hy3) ?_
   refine aD ?_
   refine bn h (fun hy4 h=> ?_) fun hy4 h=> ?_
   · refine aD ?_
     obtain rfl:=aB h
     exact hX _ _ _ _ _ dB aJ ak (kr _ (hR _ rfl))
   · refine aD ?_
     obtain rfl:=aB h
     exact hN _ rfl _ _ _ _ aJ ak ⟨rfl,rfl⟩
 · refine aD ?_
   obtain rfl:=aB h
   exact hX _ _ _ _ _ dB WE.nil ak (dD _ (hB _ rfl))
theorem sG {F:Nat} {s1:List (List UInt8)} {H0:AH} {aP:Int} (h:fU F s1=some aP):
 aF Tryz.prog 72 [(.sl .n 1 (ml AV.str s1)),(.fn 70 [])] H0 fun v H'=>v=(.int .i64 aP)∧H'=H0:=by
 refine fL tU lE fun hcl K0 aN=> ?_
 rw [fU.eq_1] at h
 refine aD ?_
 obtain ⟨o8,bM,h⟩:=aq h
 refine bB ak (oL bM ?_ ?_)
 · rintro ⟨⟩ rfl
   try dsimp only at h
   refine aD ?_
   obtain rfl:=aB h
   exact aN _ _ _ bk (aK hcl (aX bf (.int .i64 (-1))) bg aZ ⟨rfl,rfl⟩)
 · rintro r7 rfl
   try dsimp only at h
   refine aD ?_
   obtain rfl:=aB h
   exact aN _ _ _ bk (aK hcl (aX bf (.int .i64 r7)) bg aZ ⟨rfl,rfl⟩)
abbrev qe:av:=(.seq (.rg [(aj 4 (.aO (.c (.bool false))))]) (.seq (.rg [(au 5 0),(au 6 1),(aj 7 (.call (.c (.fn 72 [])) [(.t 5),(.t 6)])),(aj 8 (.bin .geq (.t 7) (.c (.int .i64 0)))),(aR 4 8)]) .ret))
theorem qf:bQ Tryz.prog 46 9 [(.tmp 4)] (erase qe):=⟨Tryz.f46,_,rfl,by decide,rfl,by kernel_rfl,rfl,rfl⟩
abbrev qg:List Nat:=[0,1,4]
def dF (F:Nat) (s1:List (List UInt8)):Option (Bool):=
 (fU F s1).bind fun r2=>some (decide (0≤r2))
theorem oM {F:Nat} {s1:List (List UInt8)} {H0:AH} {aP:Bool} (h:dF F s1=some aP):
 aF Tryz.prog 46 [(.sl .n 1 (ml AV.str s1)),(.fn 70 [])] H0 fun v H'=>v=(.bool aP)∧H'=H0:=by
 refine fL qf qg fun hcl K0 aN=> ?_
 rw [dF.eq_1] at h
 refine aD ?_
 obtain ⟨r2,hy1,h⟩:=aq h
 refine bE ak (sG hy1) ?_
 refine aD ?_
 obtain rfl:=aB h
 exact aN _ _ _ bk (aK hcl (aX bf (.bool (decide (0≤r2)))) bg aZ ⟨rfl,rfl⟩)
abbrev qw:av:=(.rg [(au 4 0),(aj 5 (.lens (.t 4))),(aj 6 (.bin .gtr (.t 5) (.c (.int .i64 1)))),(au 7 6),(ay 8 (.mv (.t 0)) 7 true),(ay 9 (.ixs (.t 8) (.c (.int .i64 0))) 7 true),(ay 10 (.bin .eql (.t 9) (.c (b8 91))) 7 true),(aj 11 (.pick (.t 7) (.t 10) (.c (.bool false)))),(au 12 11),(ay 13 (.mv (.t 0)) 12 true),(ay 14 (.mv (.t 0)) 12 true),(ay 15 (.lens (.t 14)) 12 true),(ay 16 (.bin .sub (.t 15) (.c (.int .i64 1))) 12 true),(ay 17 (.ixs (.t 13) (.t 16)) 12 true),(ay 18 (.bin .eql (.t 17) (.c (b8 93))) 12 true),(aj 19 (.pick (.t 12) (.t 18) (.c (.bool false))))])
abbrev qx:av:=(.rg [(au 26 3),(aj 27 (.len (.t 26))),(aj 28 (.bin .eql (.t 27) (.c (.int .i64 4)))),(au 29 28),(ay 30 (.mv (.t 3)) 29 true),(ay 31 (.call (.c (.fn 46 [])) [(.t 30),(.c (.fn 68 []))]) 29 true),(ay 32 (.un .not (.t 31)) 29 true),(aj 33 (.pick (.t 29) (.t 32) (.c (.bool false)))),(aR 2 33)])
abbrev C9:av:=(.seq (.rg [(aj 2 (.aO (.c (.bool false))))]) (.seq (.seq (.sem (erase qw)) (.cond (.t 19) (.seq (.rg [(au 20 0),(au 21 0),(aj 22 (.lens (.t 21))),(aj 23 (.bin .sub (.t 22) (.c (.int .i64 1)))),(aj 24 (.gT (.t 20) (some (.c (.int .i64 1))) (some (.t 23)))),(aj 25 (.call (.c (.fn 47 [])) [(.t 24),(.c (.str [46]))])),(aR 3 25)]) (.seq (.sem (erase qx)) .ret)) .skip)) (.seq (.rg [(au 34 0),(aj 35 (.call (.c (.fn 47 [])) [(.t 34),(.c (.str [46]))])),(aj 36 (.call (.c (.fn 46 [])) [(.t 35),(.c (.fn 70 []))])),(aj 37 (.un .not (.t 36))),(aR 2 37)]) .ret)))
theorem Da:bQ Tryz.prog 45 38 [(.tmp 2)] (erase C9):=⟨Tryz.f45,_,rfl,by decide,rfl,by kernel_rfl,rfl,rfl⟩
abbrev oN:List Nat:=[0,2,3,19]
def gW (s1:List UInt8):Option (Bool):=
 (if (decide (1<(s1.length:Int))) then
  (idx s1 0).bind fun x2=>
  (if (decide (x2=91)) then
   (idx s1 (IntKind.wrap .i64 ((s1.length:Int) - 1))).bind fun x3=>some (decide (x3=93))
  else
   some false)
 else
  some false)
def kE (F:Nat) (r7:List (List UInt8)):Option (Bool):=
 (if (decide ((r7.length:Int)=4)) then
  (dP F r7).bind fun r8=>some (!r8)
 else
  some false)
def jy (F:Nat) (s1:List UInt8):Option (Bool):=
 (gW s1).bind fun t5=>
 (if t5 then
  (sub s1 1 (IntKind.wrap .i64 ((s1.length:Int) - 1))).bind fun x6=>
  (strings_Split x6 ([46]:List UInt8)).bind fun r7=>(kE F r7).bind fun t10=>
  some t10
 else
  (strings_Split s1 ([46]:List UInt8)).bind fun mB=>(dF F mB).bind fun iM=>some (!iM))
theorem xy {s1:List UInt8} {H:AH} {K:Exit→Env→AH→Prop} {t4:Bool}
 (h:gW s1=some t4)
 (kn:K .normal [(0,(.str s1)),(19,(.bool t4))] H):
 AX Tryz.prog oN 38 H.length (erase qw) K [(0,(.str s1))] H:=by
 refine b7 fun K' hK=> ?_
 rw [gW.eq_1] at h
 refine aD ?_
 refine bV h (fun hy1 h=> ?_) fun hy1 h=> ?_
 · obtain ⟨x2,hy2,h⟩:=aq h
   refine aW (aI hy1 hy2) ?_
   refine bV h (fun hy3 h=> ?_) fun hy3 h=> ?_
   · obtain ⟨x3,hy4,h⟩:=aq h
     refine aW (aI hy3 hy4) ?_
     obtain rfl:=aB h
     exact hK _ _ _ _ _ aJ ak kn
   · refine aW hy3 ?_
     obtain rfl:=aB h
     exact hK _ _ _ _ _ aJ ak kn
 · refine aW hy1 ?_
   obtain rfl:=aB h
   exact hK _ _ _ _ _ aJ ak kn
theorem xA {F:Nat} {r7:List (List UInt8)} {H:AH} {K:Exit→Env→AH→Prop} {t9:Bool}
 (h:kE F r7=some t9)
 (kn:K .normal [(2,(.bool t9))] H):
 AX Tryz.prog oN 38 H.length (erase qx) K [(3,(.sl .n 1 (ml AV.str r7)))] H:=by
 refine b7 fun K' hK=> ?_
 rw [kE.eq_1] at h
 refine aD ?_
 refine bV h (fun cX h=> ?_) fun cX h=> ?_
 · refine aW cX ?_
   obtain ⟨r8,cx,h⟩:=aq h
   refine bE ak (qd cx) ?_
   refine aD ?_
   obtain rfl:=aB h
   exact hK _ _ _ _ _ aJ ak kn
 · refine aW cX ?_
   obtain rfl:=aB h
   exact hK _ _ _ _ _ aJ ak kn
theorem uw {F:Nat} {s1:List UInt8} {H0:AH} {aP:Bool} (h:jy F s1=some aP):
 aF Tryz.prog 45 [(.str s1)] H0 fun v H'=>v=(.bool aP)∧H'=H0:=by
 refine fL Da oN fun hcl K0 aN=> ?_
 rw [jy.eq_1] at h
 refine aD ?_
 obtain ⟨t5,bM,h⟩:=aq h
 refine bB ak (xy bM ?_)
 refine aD ?_
 refine bn h (fun cc h=> ?_) fun cc h=> ?_
 · obtain ⟨x6,cO,h⟩:=aq h
   refine aW cO ?_
   obtain ⟨r7,cC,h⟩:=aq h
   refine bE ak (iQ (s1:=x6) (s2:=([46]:List UInt8)) cC) ?_
   refine aD ?_
   obtain ⟨t10,cJ,h⟩:=aq h
   refine bB ak (xA cJ ?_)
   refine aD ?_
   obtain rfl:=aB h
   exact aN _ _ _ bk (aK hcl (aX bf (.bool t10)) bg aZ ⟨rfl,rfl⟩)
 · refine aD ?_
   obtain ⟨mB,cV,h⟩:=aq h
   refine bE ak (iQ (s1:=s1) (s2:=([46]:List UInt8)) cV) ?_
   refine aD ?_
   obtain ⟨iM,cS,h⟩:=aq h
   refine bE ak (oM cS) ?_
   refine aD ?_
   obtain rfl:=aB h
   exact aN _ _ _ bk (aK hcl (aX bf (.bool (!iM))) bg aZ ⟨rfl,rfl⟩)
abbrev jO:av:=(.rg [(au 12 4),(aj 13 (.call (.c (.fn 103 [])) [(.t 12)])),(au 14 13),(ay 15 (.mv (.t 4)) 14 false),(ay 16 (.bin .eql (.t 15) (.c (b8 45))) 14 false),(aj 17 (.pick (.t 14) (.c (.bool true)) (.t 16))),(au 18 17),(ay 19 (.mv (.t 4)) 18 false),(ay 20 (.bin .eql (.t 19) (.c (b8 46))) 18 false),(aj 21 (.pick (.t 18) (.c (.bool true)) (.t 20))),(au 22 21),(ay 23 (.mv (.t 4)) 22 false),(ay 24 (.bin .eql (.t 23) (.c (b8 91))) 22 false),(aj 25 (.pick (.t 22) (.c (.bool true)) (.t 24))),(au 26 25),(ay 27 (.mv (.t 4)) 26 false),(ay 28 (.bin .eql (.t 27) (.c (b8 93))) 26 false),(aj 29 (.pick (.t 26) (.c (.bool true)) (.t 28)))])
abbrev jc:av:=(.seq (.seq (.sem (erase jO)) (.cond (.t 29) .skip (.exit 0))) (.seq (.blk 1 (.rg [(au 32 0),(aj 33 (.iL (.t 32))),(aj 34 (.cR (.t 33) 1)),(aj 35 (.ld (.t 34) none)),(aj 36 (.bin .add (.t 35) (.c (.int .i64 1)))),(aj 37 (.iL (.t 32))),(aj 38 (.cR (.t 37) 1)),(cZ (.st (.t 38) (.t 36) 1))])) (.rg [(au 30 0),(aj 31 (.call (.c (.fn 117 [])) [(.t 30)])),(aR 4 31)])))
abbrev jP:av:=(.rg [(au 49 0),(au 50 0),(aj 51 (.iL (.t 50))),(aj 52 (.cR (.t 51) 2)),(aj 53 (.ld (.t 52) none)),(au 54 53),(ay 55 (.mv (.t 5)) 54 false),(ay 56 (.call (.c (.fn 45 [])) [(.t 55)]) 54 false),(ay 57 (.un .not (.t 56)) 54 false),(aj 58 (.pick (.t 54) (.c (.bool true)) (.t 57))),(aj 59 (.iL (.t 49))),(aj 60 (.cR (.t 59) 2)),(cZ (.st (.t 60) (.t 58) 1))])
abbrev tV:av:=(.seq (.rg [(aj 2 (.aO (.c (.str []))))]) (.seq (.rg [(au 6 0),(aj 7 (.iL (.t 6))),(aj 8 (.cR (.t 7) 1)),(aj 9 (.ld (.t 8) none)),(aR 3 9)]) (.seq (.seq (.rg [(au 10 0),(aj 11 (.call (.c (.fn 117 [])) [(.t 10)])),(aR 4 11)]) (.blk 0 (.loop (erase jc)))) (.seq (.rg [(au 39 0),(aj 40 (.iL (.t 39))),(aj 41 (.cR (.t 40) 0)),(aj 42 (.ld (.t 41) none)),(au 43 3),(au 44 0),(aj 45 (.iL (.t 44))),(aj 46 (.cR (.t 45) 1)),(aj 47 (.ld (.t 46) none)),(aj 48 (.gT (.t 42) (some (.t 43)) (some (.t 47)))),(aR 5 48)]) (.seq (.sem (erase jP)) (.seq (.rg [(au 61 5),(aR 2 61)]) .ret))))))
theorem tW:bQ Tryz.prog 96 62 [(.tmp 2)] (erase tV):=⟨Tryz.f96,_,rfl,by decide,rfl,by kernel_rfl,rfl,rfl⟩
abbrev e8:List Nat:=[0,2,3,4,5,29]
def dG (c4:UInt8):Option (Bool):=
 (gM c4).bind fun r6=>
 (if r6 then
  some true
 else
  (if (decide (c4=45)) then
   some true
  else
   (if (decide (c4=46)) then
    some true
   else
    (if (decide (c4=91)) then
     some true
    else
     some (decide (c4=93))))))
def dH:(UInt8×aA)→Option (St ((List UInt8)×aA) aA (UInt8×aA))
 |(c4,s5)=>
  (dG c4).bind fun t8=>
  (if t8 then
   (bw (aA.mk s5.s (IntKind.wrap .i64 (s5.cL+1)) s5.bad)).bind fun r9=>
   some (.cB (r9,(aA.mk s5.s (IntKind.wrap .i64 (s5.cL+1)) s5.bad)))
  else
   some (.eg s5))
def dI (F:Nat) (oO:aA) (rU:List UInt8):Option (aA):=
 (if oO.bad then
  some (aA.mk oO.s oO.cL true)
 else
  (jy F rU).bind fun mb=>some (aA.mk oO.s oO.cL (!mb)))
def bT (F:Nat) (x2:aA):Option ((List UInt8)×aA):=
 (bw x2).bind fun r3=>
 ((iter dH F (r3,x2)).bind fun Ju=>
 match Ju with
 | .inr oO=>
   (sub oO.s x2.cL oO.cL).bind fun rU=>
   (dI F oO rU).bind fun Mq=>
   some (rU,Mq)
 | .inl _=>none)
theorem oP {c4:UInt8} {q1:Nat} {x2:aA} {s5:aA} {H0 H:AH} (hfr:Fr H0 H0.length [q1] H) (ai:H[q1]? =some [(.str s5.s),(.int .i64 s5.cL),(.bool s5.bad)]) (dZ:q1<H0.length) {K:Exit→Env→AH→Prop} {t7:Bool}
 (h:dG c4=some t7)
 (kn:∀H':AH,Fr H0 H0.length [q1] H'→H'[q1]? =some [(.str s5.s),(.int .i64 s5.cL),(.bool s5.bad)]→K .normal [(0,(.ptr q1 0)),(3,(.int .i64 x2.cL)),(29,(.bool t7))] H'):
 AX Tryz.prog e8 62 H0.length (erase jO) K [(0,(.ptr q1 0)),(3,(.int .i64 x2.cL)),(4,(b8 c4))] H:=by
 refine b7 fun K' hK=> ?_
 have hle:=hfr.le
 have aM:=aQ ai
 rw [dG.eq_1] at h
 refine az ai ?_
 obtain ⟨r6,hy2,h⟩:=aq h
 refine bE ak (nt hy2) ?_
 refine az ai ?_
 refine bV h (fun hy3 h=> ?_) fun hy3 h=> ?_
 · refine az (aI hy3 ai) ?_
   obtain rfl:=aB h
   exact hK _ _ _ _ _ aJ ak (kn _ hfr (ai.trans rfl))
 · refine az (aI hy3 ai) ?_
   refine bV h (fun hy4 h=> ?_) fun hy4 h=> ?_
   · refine az (aI hy4 ai) ?_
     obtain rfl:=aB h
     exact hK _ _ _ _ _ aJ ak (kn _ hfr (ai.trans rfl))
   · refine az (aI hy4 ai) ?_
     refine bV h (fun bM h=> ?_) fun bM h=> ?_
     · refine az (aI bM ai) ?_
       obtain rfl:=aB h
       exact hK _ _ _ _ _ aJ ak (kn _ hfr (ai.trans rfl))
     · refine az (aI bM ai) ?_
       refine bV h (fun cc h=> ?_) fun cc h=> ?_
       · refine az (aI cc ai) ?_
         obtain rfl:=aB h
         exact hK _ _ _ _ _ aJ ak (kn _ hfr (ai.trans rfl))
       · refine az (aI cc ai) ?_
         obtain rfl:=aB h
         exact hK _ _ _ _ _ aJ ak (kn _ hfr (ai.trans rfl))
theorem oQ {F:Nat} {c4:UInt8} {s5:aA} {q1:Nat} {x2:aA} {H0 H:AH} (hfr:Fr H0 H0.length [q1] H) (ai:H[q1]? =some [(.str s5.s),(.int .i64 s5.cL),(.bool s5.bad)]) (dZ:q1<H0.length) {K:Exit→Env→AH→Prop} {o:((List UInt8)×aA)⊕(aA)}
 (h:iter dH F (c4,s5)=some o)
 (dD:∀o':aA,o= .inr o'→∀H':AH,Fr H0 H0.length [q1] H'→H'[q1]? =some [(.str o'.s),(.int .i64 o'.cL),(.bool o'.bad)]→K (.exit 0) [(0,(.ptr q1 0)),(3,(.int .i64 x2.cL))] H'):
 AX Tryz.prog e8 62 H0.length (.loop (erase jc)) K [(0,(.ptr q1 0)),(3,(.int .i64 x2.cL)),(4,(b8 c4))] H:=by
 refine iY (fun s e H1=>match s with|(c4,s5)=>e=[(0,(.ptr q1 0)),(3,(.int .i64 x2.cL)),(4,(b8 c4))]∧Fr H0 H0.length [q1] H1∧H1[q1]? =some [(.str s5.s),(.int .i64 s5.cL),(.bool s5.bad)]) h ⟨rfl,hfr,ai⟩ ?_
 rintro K' ⟨c4,s5⟩ st e H ⟨rfl,hfr,ai⟩ h hN hB hR hX
 have hle:=hfr.le
 have aM:=aQ ai
 rw [dH.eq_1] at h
 refine az ai ?_
 obtain ⟨t8,cO,h⟩:=aq h
 refine bB ak (oP (q1:=q1) (x2:=x2) (s5:=s5) hfr (ai.trans rfl) ct cO ?_)
 intro H hfr ai
 have hle:=hfr.le
 have aM:=aQ ai
 refine az ai ?_
 refine bn h (fun cC h=> ?_) fun cC h=> ?_
 · refine az ai ?_
   obtain ⟨r9,cX,h⟩:=aq h
   refine Jn (ck cX) (l9.cons (.one _ _ (gL.Bl cD Jo)) (l9.nil)) ?_
   refine az ai ?_
   obtain rfl:=aB h
   exact hN _ rfl _ _ _ _ aJ ak ⟨rfl,(cj _ hfr),cD⟩
 · refine az ai ?_
   obtain rfl:=aB h
   exact hX _ _ _ _ _ dB aJ ak (dD _ (hB _ rfl) _ hfr (ai.trans rfl))
theorem oR {F:Nat} {oO:aA} {rU:List UInt8} {q1:Nat} {H0 H:AH} (hfr:Fr H0 H0.length [q1] H) (ai:H[q1]? =some [(.str oO.s),(.int .i64 oO.cL),(.bool oO.bad)]) (dZ:q1<H0.length) {K:Exit→Env→AH→Prop} {gh:aA}
 (h:dI F oO rU=some gh)
 (kn:∀H':AH,Fr H0 H0.length [q1] H'→H'[q1]? =some [(.str gh.s),(.int .i64 gh.cL),(.bool gh.bad)]→K .normal [(5,(.str rU))] H'):
 AX Tryz.prog e8 62 H0.length (erase jP) K [(0,(.ptr q1 0)),(5,(.str rU))] H:=by
 refine b7 fun K' hK=> ?_
 have hle:=hfr.le
 have aM:=aQ ai
 rw [dI.eq_1] at h
 refine az ai ?_
 refine bV h (fun cV h=> ?_) fun cV h=> ?_
 · refine az (aI cV ai) ?_
   obtain rfl:=aB h
   exact hK _ _ _ _ _ aJ ak (kn _ (cj _ hfr) cD)
 · refine az (aI cV ai) ?_
   obtain ⟨mb,cS,h⟩:=aq h
   refine bE ak (uw cS) ?_
   refine az ai ?_
   obtain rfl:=aB h
   exact hK _ _ _ _ _ aJ ak (kn _ (cj _ hfr) cD)
theorem kY {F:Nat} {x2:aA} {q1:Nat} {H0:AH} (ai:H0[q1]? =some [(.str x2.s),(.int .i64 x2.cL),(.bool x2.bad)]) {aP:List UInt8} {eL:aA} (h:bT F x2=some (aP,eL)):
 aF Tryz.prog 96 [(.ptr q1 0)] H0 fun v H'=>v=(.str aP)∧H'=(H0.set q1 [(.str eL.s),(.int .i64 eL.cL),(.bool eL.bad)]):=by
 have aM:=aQ ai
 refine nk tW e8 [q1] fun hcl K0 aN H hH hfr=> ?_
 rw [←hH] at ai
 clear hH
 have hle:=hfr.le
 have C3:=aQ ai
 rw [bT.eq_1] at h
 refine az ai ?_
 obtain ⟨r3,hy1,h⟩:=aq h
 refine Jn (ck hy1) (l9.cons (.one _ _ (gL.Bl (ai.trans rfl) Jo)) (l9.nil)) ?_
 refine az ai ?_
 obtain ⟨Ju,cx,h⟩:=aq h
 refine bB ak (oQ (q1:=q1) (x2:=x2) hfr (ai.trans rfl) ct cx ?_)
 · rintro oO rfl H hfr ai
   try dsimp only at h ai
   have hle:=hfr.le
   have aM:=aQ ai
   refine az ai ?_
   obtain ⟨rU,cJ,h⟩:=aq h
   refine az (aI cJ ai) ?_
   obtain ⟨Mq,eI,h⟩:=aq h
   refine bB ak (oR (q1:=q1) hfr (ai.trans rfl) ct eI ?_)
   intro H hfr ai
   have hle:=hfr.le
   have aM:=aQ ai
   refine az ai ?_
   obtain ⟨rfl,rfl⟩:=cE h
   exact aN _ _ _ bk (jZ hfr hcl (aX bf (.str rU)) bg aZ (ai.trans rfl) ct Es Er ⟨rfl,rfl⟩)
abbrev j4:av:=(.rg [(au 3 0),(aj 4 (.call (.c (.fn 117 [])) [(.t 3)])),(aj 5 (.bin .eql (.t 4) (.c (b8 64)))),(au 6 5),(ay 7 (.mv (.t 2)) 6 false),(ay 8 (.un .not (.t 7)) 6 false),(aj 9 (.pick (.t 6) (.c (.bool true)) (.t 8)))])
abbrev jQ:av:=(.seq (.seq (.sem (erase j4)) (.cond (.t 9) .skip (.exit 0))) (.seq (.blk 1 (.seq (.rg [(au 10 0),(aj 11 (.call (.c (.fn 92 [])) [(.t 10),(.c (b8 64))]))]) (.seq (.rg [(au 12 0),(aj 13 (.call (.c (.fn 96 [])) [(.t 12)]))]) (.seq (.rg [(au 14 0),(aj 15 (.call (.c (.fn 93 [])) [(.t 14),(.c (b8 44))])),(aj 16 (.un .not (.t 15)))]) (.cond (.t 16) (.seq (.rg [(au 17 0),(aj 18 (.call (.c (.fn 92 [])) [(.t 17),(.c (b8 58))]))]) .ret) .skip))))) (.rg [(aj 2 (.aO (.c (.bool false))))])))
abbrev uZ:av:=(.seq (.rg [(aj 2 (.aO (.c (.bool true))))]) (.blk 0 (.loop (erase jQ))))
theorem u0:bQ Tryz.prog 94 19 [] (erase uZ):=⟨Tryz.f94,_,rfl,by decide,rfl,by kernel_rfl,rfl,rfl⟩
abbrev iN:List Nat:=[0,2,9,16]
def cw (s4:aA) (kF:Bool):Option (Bool):=
 (bw s4).bind fun r5=>
 (if (decide (r5=64)) then
  some true
 else
  some (!kF))
def bC (F:Nat):(Bool×aA)→Option (St aA aA (Bool×aA))
 |(kF,s4)=>
  (cw s4 kF).bind fun t7=>
  (if t7 then
   (bl s4 64).bind fun r8=>
   (bT F r8).bind fun (r9,dK)=>
   (bD dK 44).bind fun (mB,iM)=>
   (if (!mB) then
    (bl iM 58).bind fun mb=>some (.ret mb)
   else
    some (.cB (false,iM)))
  else
   some (.eg s4))
def c8 (F:Nat) (x2:aA):Option (aA):=
 ((iter (bC F) F (true,x2)).bind fun o18=>
 match o18 with
 | .inr Qz=>
   some Qz
 | .inl rV=>
   some rV)
theorem qh {s4:aA} {kF:Bool} {q1:Nat} {H0 H:AH} (hfr:Fr H0 H0.length [q1] H) (ai:H[q1]? =some [(.str s4.s),(.int .i64 s4.cL),(.bool s4.bad)]) (dZ:q1<H0.length) {K:Exit→Env→AH→Prop} {t6:Bool}
 (h:cw s4 kF=some t6)
 (kn:∀H':AH,Fr H0 H0.length [q1] H'→H'[q1]? =some [(.str s4.s),(.int .i64 s4.cL),(.bool s4.bad)]→K .normal [(0,(.ptr q1 0)),(9,(.bool t6))] H'):
 AX Tryz.prog iN 19 H0.length (erase j4) K [(0,(.ptr q1 0)),(2,(.bool kF))] H:=by
 refine b7 fun K' hK=> ?_
 have hle:=hfr.le
 have aM:=aQ ai
 rw [cw.eq_1] at h
 refine az ai ?_
 obtain ⟨r5,hy1,h⟩:=aq h
 refine Jn (ck hy1) (l9.cons (.one _ _ (gL.Bl (ai.trans rfl) Jo)) (l9.nil)) ?_
 refine az ai ?_
 refine bV h (fun hy2 h=> ?_) fun hy2 h=> ?_
 · refine az (aI hy2 ai) ?_
   obtain rfl:=aB h
   exact hK _ _ _ _ _ aJ ak (kn _ hfr (ai.trans rfl))
 · refine az (aI hy2 ai) ?_
   obtain rfl:=aB h
   exact hK _ _ _ _ _ aJ ak (kn _ hfr (ai.trans rfl))
theorem qi {F:Nat} {s4:aA} {kF:Bool} {q1:Nat} {H0 H:AH} (hfr:Fr H0 H0.length [q1] H) (ai:H[q1]? =some [(.str s4.s),(.int .i64 s4.cL),(.bool s4.bad)]) (dZ:q1<H0.length) {K:Exit→Env→AH→Prop} {o:(aA)⊕(aA)}
 (h:iter (bC F) F (kF,s4)=some o)
 (dD:∀o':aA,o= .inr o'→∀H':AH,Fr H0 H0.length [q1] H'→H'[q1]? =some [(.str o'.s),(.int .i64 o'.cL),(.bool o'.bad)]→K (.exit 0) [] H')
 (kr:∀o':aA,o= .inl o'→∀H':AH,Fr H0 H0.length [q1] H'→H'[q1]? =some [(.str o'.s),(.int .i64 o'.cL),(.bool o'.bad)]→K .ret [] H'):
 AX Tryz.prog iN 19 H0.length (.loop (erase jQ)) K [(0,(.ptr q1 0)),(2,(.bool kF))] H:=by
 refine iY (fun s e H1=>match s with|(kF,s4)=>e=[(0,(.ptr q1 0)),(2,(.bool kF))]∧Fr H0 H0.length [q1] H1∧H1[q1]? =some [(.str s4.s),(.int .i64 s4.cL),(.bool s4.bad)]) h ⟨rfl,hfr,ai⟩ ?_
 rintro K' ⟨kF,s4⟩ st e H ⟨rfl,hfr,ai⟩ h hN hB hR hX
 have hle:=hfr.le
 have aM:=aQ ai
 rw [bC.eq_1] at h
 refine az ai ?_
 obtain ⟨t7,hy3,h⟩:=aq h
 refine bB ak (qh (q1:=q1) hfr (ai.trans rfl) ct hy3 ?_)
 intro H hfr ai
 have hle:=hfr.le
 have aM:=aQ ai
 refine az ai ?_
 refine bn h (fun hy4 h=> ?_) fun hy4 h=> ?_
 · refine az ai ?_
   obtain ⟨r8,bM,h⟩:=aq h
   refine bE ak (dh (ai.trans rfl) bM) ?_
   refine az ai ?_
   obtain ⟨⟨r9,dK⟩,cc,h⟩:=aq h
   dsimp only at h
   refine bE ak (kY (q1:=q1) cD cc) ?_
   refine az ai ?_
   obtain ⟨⟨mB,iM⟩,cO,h⟩:=aq h
   dsimp only at h
   refine bE ak (dO (q1:=q1) cD cO) ?_
   refine az ai ?_
   refine bn h (fun cC h=> ?_) fun cC h=> ?_
   · refine az ai ?_
     obtain ⟨mb,cX,h⟩:=aq h
     refine bE ak (dh (q1:=q1) cD cX) ?_
     refine az ai ?_
     obtain rfl:=aB h
     exact hX _ _ _ _ _ dB WE.nil ak (kr _ (hR _ rfl) _ (cj _ (cj _ (cj _ (cj _ hfr)))) cD)
   · refine az ai ?_
     obtain rfl:=aB h
     exact hN _ rfl _ _ _ _ aJ ak ⟨rfl,(cj _ (cj _ (cj _ hfr))),cD⟩
 · refine az ai ?_
   obtain rfl:=aB h
   exact hX _ _ _ _ _ dB WE.nil ak (dD _ (hB _ rfl) _ hfr (ai.trans rfl))
theorem tX {F:Nat} {x2:aA} {q1:Nat} {H0:AH} (ai:H0[q1]? =some [(.str x2.s),(.int .i64 x2.cL),(.bool x2.bad)]) {aP:aA} (h:c8 F x2=some aP):
 aF Tryz.prog 94 [(.ptr q1 0)] H0 fun v H'=>v=(.bz [])∧H'=(H0.set q1 [(.str aP.s),(.int .i64 aP.cL),(.bool aP.bad)]):=by
 have aM:=aQ ai
 refine nk u0 iN [q1] fun hcl K0 aN H hH hfr=> ?_
 rw [←hH] at ai
 clear hH
 have hle:=hfr.le
 have C3:=aQ ai
 rw [c8.eq_1] at h
 refine az ai ?_
 obtain ⟨o18,cx,h⟩:=aq h
 refine bB ak (qi (q1:=q1) hfr (ai.trans rfl) ct cx ?_ ?_)
 · rintro Qz rfl H hfr ai
   try dsimp only at h ai
   have hle:=hfr.le
   have aM:=aQ ai
   refine az ai ?_
   obtain rfl:=aB h
   exact aN _ _ _ ZZ (jZ hfr hcl bf bg aZ (ai.trans rfl) ct Es Er ⟨rfl,rfl⟩)
 · rintro rV rfl H hfr ai
   try dsimp only at h ai
   have hle:=hfr.le
   have aM:=aQ ai
   refine az ai ?_
   obtain rfl:=aB h
   exact aN _ _ _ bk (jZ hfr hcl bf bg aZ (ai.trans rfl) ct Es Er ⟨rfl,rfl⟩)
abbrev oS:av:=(.rg [(au 3 0),(aj 4 (.bin .geq (.t 3) (.c (b8 32)))),(au 5 4),(ay 6 (.mv (.t 0)) 5 true),(ay 7 (.bin .leq (.t 6) (.c (b8 126))) 5 true),(aj 8 (.pick (.t 5) (.t 7) (.c (.bool false)))),(aR 2 8)])
abbrev BI:av:=(.seq (.rg [(aj 2 (.aO (.c (.bool false))))]) (.seq (.sem (erase oS)) .ret))
theorem BJ:bQ Tryz.prog 55 9 [(.tmp 2)] (erase BI):=⟨Tryz.f55,_,rfl,by decide,rfl,by kernel_rfl,rfl,rfl⟩
abbrev ux:List Nat:=[0,2]
def j7 (c1:UInt8):Option (Bool):=
 some ((decide (32≤c1))&&(decide (c1≤126)))
theorem wM {c1:UInt8} {H:AH} {K:Exit→Env→AH→Prop}
 (kn:K .normal [(2,(.bool ((decide (32≤c1))&&(decide (c1≤126)))))] H):
 AX Tryz.prog ux 9 H.length (erase oS) K [(0,(b8 c1)),(2,(.bool false))] H:=by
 refine b7 fun K' hK=> ?_
 refine aD ?_
 refine nj (fun hy1=> ?_) fun hy1=> ?_
 · refine aW hy1 ?_
   exact hK _ _ _ _ _ (fI hy1) ak kn
 · refine aW hy1 ?_
   exact hK _ _ _ _ _ (fI hy1) ak kn
theorem sH {c1:UInt8} {H0:AH} {aP:Bool} (h:j7 c1=some aP):
 aF Tryz.prog 55 [(b8 c1)] H0 fun v H'=>v=(.bool aP)∧H'=H0:=by
 refine fL BJ ux fun hcl K0 aN=> ?_
 rw [j7.eq_1] at h
 refine aD ?_
 refine bB ak (wM (c1:=c1) ?_)
 refine aD ?_
 obtain rfl:=aB h
 exact aN _ _ _ bk (aK hcl (aX bf (.bool ((decide (32≤c1))&&(decide (c1≤126))))) bg aZ ⟨rfl,rfl⟩)
abbrev jR:av:=(.rg [(au 7 0),(aj 8 (.iL (.t 7))),(aj 9 (.cR (.t 8) 2)),(aj 10 (.ld (.t 9) none)),(aj 11 (.un .not (.t 10))),(au 12 11),(ay 13 (.mv (.t 0)) 12 true),(ay 14 (.call (.c (.fn 93 [])) [(.t 13),(.c (b8 34))]) 12 true),(ay 15 (.un .not (.t 14)) 12 true),(aj 16 (.pick (.t 12) (.t 15) (.c (.bool false))))])
abbrev jd:av:=(.seq (.seq (.sem (erase jR)) (.cond (.t 16) .skip (.exit 0))) (.blk 1 (.seq (.rg [(au 17 0),(aj 18 (.call (.c (.fn 93 [])) [(.t 17),(.c (b8 92))]))]) (.seq (.rg [(au 19 0),(aj 20 (.call (.c (.fn 117 [])) [(.t 19)])),(aR 4 20)]) (.seq (.seq (.rg [(au 21 4),(aj 22 (.call (.c (.fn 55 [])) [(.t 21)])),(aj 23 (.un .not (.t 22)))]) (.cond (.t 23) (.seq (.rg [(au 24 0),(aj 25 (.iL (.t 24))),(aj 26 (.cR (.t 25) 2)),(cZ (.st (.t 26) (.c (.bool true)) 1))]) (.exit 0)) .skip)) (.seq (.rg [(au 27 0),(aj 28 (.iL (.t 27))),(aj 29 (.cR (.t 28) 1)),(aj 30 (.ld (.t 29) none)),(aj 31 (.bin .add (.t 30) (.c (.int .i64 1)))),(aj 32 (.iL (.t 27))),(aj 33 (.cR (.t 32) 1)),(cZ (.st (.t 33) (.t 31) 1))]) (.rg [(au 34 3),(au 35 4),(aj 36 (.ve 1 [(.t 35)])),(aj 37 (.app 1 1 (.t 34) (.t 36))),(aR 3 37)])))))))
abbrev jS:av:=(.rg [(au 38 0),(au 39 0),(aj 40 (.iL (.t 39))),(aj 41 (.cR (.t 40) 2)),(aj 42 (.ld (.t 41) none)),(au 43 42),(ay 44 (.mv (.t 3)) 43 false),(ay 45 (.len (.t 44)) 43 false),(ay 46 (.bin .eql (.t 45) (.c (.int .i64 0))) 43 false),(aj 47 (.pick (.t 43) (.c (.bool true)) (.t 46))),(aj 48 (.iL (.t 38))),(aj 49 (.cR (.t 48) 2)),(cZ (.st (.t 49) (.t 47) 1))])
abbrev tY:av:=(.seq (.rg [(aj 2 (.aO (.c (.str []))))]) (.seq (.rg [(aj 3 (.aO (.c (.sl .ex 1 []))))]) (.seq (.rg [(au 5 0),(aj 6 (.call (.c (.fn 92 [])) [(.t 5),(.c (b8 34))]))]) (.seq (.blk 0 (.loop (erase jd))) (.seq (.sem (erase jS)) (.seq (.rg [(au 50 3),(aj 51 (.mj .bs (.t 50))),(aR 2 51)]) .ret))))))
theorem tZ:bQ Tryz.prog 118 52 [(.tmp 2)] (erase tY):=⟨Tryz.f118,_,rfl,by decide,rfl,by kernel_rfl,rfl,rfl⟩
abbrev e9:List Nat:=[0,2,3,4,16,23]
def cT (s5:aA):Option (Bool×aA):=
 (if (!s5.bad) then
  (bD s5 34).bind fun (r6,r7)=>some ((!r6),r7)
 else
  some (false,s5))
def bH:((List UInt8)×aA)→Option (St ((List UInt8)×aA) ((List UInt8)×aA) ((List UInt8)×aA))
 |(b4,s5)=>
  (cT s5).bind fun (t10,oO)=>
  (if t10 then
   (bD oO 92).bind fun (iM,mb)=>
   (bw mb).bind fun iO=>
   (j7 iO).bind fun gv=>
   (if (!gv) then
    some (.eg (b4,(aA.mk mb.s mb.cL true)))
   else
    (eE 1 b4 ([iO]:List UInt8)).bind fun j8=>
    some (.cB (j8,(aA.mk mb.s (IntKind.wrap .i64 (mb.cL+1)) mb.bad))))
  else
   some (.eg (b4,oO)))
def dJ (AA:aA) (EA:List UInt8):Option (aA):=
 (if AA.bad then
  some (aA.mk AA.s AA.cL true)
 else
  some (aA.mk AA.s AA.cL (decide ((EA.length:Int)=0))))
def fV (F:Nat) (x2:aA):Option ((List UInt8)×aA):=
 (bl x2 34).bind fun r3=>
 ((iter bH F (([]:List UInt8),r3)).bind fun o23=>
 match o23 with
 | .inr (EA,AA)=>
   (dJ AA EA).bind fun s22=>
   some (EA,s22)
 | .inl _=>none)
theorem oT {s5:aA} {q1:Nat} {b4:List UInt8} {H0 H:AH} (hfr:Fr H0 H0.length [q1] H) (ai:H[q1]? =some [(.str s5.s),(.int .i64 s5.cL),(.bool s5.bad)]) (dZ:q1<H0.length) {K:Exit→Env→AH→Prop} {t8:Bool} {s9:aA}
 (h:cT s5=some (t8,s9))
 (kn:∀H':AH,Fr H0 H0.length [q1] H'→H'[q1]? =some [(.str s9.s),(.int .i64 s9.cL),(.bool s9.bad)]→K .normal [(0,(.ptr q1 0)),(3,(.sl .own 1 (ml b8 b4))),(16,(.bool t8))] H'):
 AX Tryz.prog e9 52 H0.length (erase jR) K [(0,(.ptr q1 0)),(3,(.sl .own 1 (ml b8 b4)))] H:=by
 refine b7 fun K' hK=> ?_
 have hle:=hfr.le
 have aM:=aQ ai
 rw [cT.eq_1] at h
 refine az ai ?_
 refine bV h (fun hy2 h=> ?_) fun hy2 h=> ?_
 · refine az (aI hy2 ai) ?_
   obtain ⟨⟨r6,r7⟩,hy3,h⟩:=aq h
   dsimp only at h
   refine bE ak (dO (ai.trans rfl) hy3) ?_
   refine az ai ?_
   obtain ⟨rfl,rfl⟩:=cE h
   exact hK _ _ _ _ _ aJ ak (kn _ (cj _ hfr) cD)
 · refine az (aI hy2 ai) ?_
   obtain ⟨rfl,rfl⟩:=cE h
   exact hK _ _ _ _ _ aJ ak (kn _ hfr (ai.trans rfl))
theorem oU {F:Nat} {s5:aA} {b4:List UInt8} {q1:Nat} {H0 H:AH} (hfr:Fr H0 H0.length [q1] H) (ai:H[q1]? =some [(.str s5.s),(.int .i64 s5.cL),(.bool s5.bad)]) (dZ:q1<H0.length) {K:Exit→Env→AH→Prop} {o:((List UInt8)×aA)⊕((List UInt8)×aA)}
 (h:iter bH F (b4,s5)=some o)
 (dD:∀o':(List UInt8)×aA,o= .inr o'→∀H':AH,Fr H0 H0.length [q1] H'→H'[q1]? =some [(.str o'.2.s),(.int .i64 o'.2.cL),(.bool o'.2.bad)]→K (.exit 0) [(0,(.ptr q1 0)),(3,(.sl .own 1 (ml b8 o'.1)))] H'):
 AX Tryz.prog e9 52 H0.length (.loop (erase jd)) K [(0,(.ptr q1 0)),(3,(.sl .own 1 (ml b8 b4)))] H:=by
 refine iY (fun s e H1=>match s with|(b4,s5)=>e=[(0,(.ptr q1 0)),(3,(.sl .own 1 (ml b8 b4)))]∧Fr H0 H0.length [q1] H1∧H1[q1]? =some [(.str s5.s),(.int .i64 s5.cL),(.bool s5.bad)]) h ⟨rfl,hfr,ai⟩ ?_
 rintro K' ⟨b4,s5⟩ st e H ⟨rfl,hfr,ai⟩ h hN hB hR hX
 have hle:=hfr.le
 have aM:=aQ ai
 rw [bH.eq_1] at h
 refine az ai ?_
 obtain ⟨⟨t10,oO⟩,hy4,h⟩:=aq h
 dsimp only at h
 refine bB ak (oT (q1:=q1) (b4:=b4) hfr (ai.trans rfl) ct hy4 ?_)
 intro H hfr ai
 have hle:=hfr.le
 have aM:=aQ ai
 refine az ai ?_
 refine bn h (fun bM h=> ?_) fun bM h=> ?_
 · refine az ai ?_
   obtain ⟨⟨iM,mb⟩,cc,h⟩:=aq h
   dsimp only at h
   refine bE ak (dO (ai.trans rfl) cc) ?_
   refine az ai ?_
   obtain ⟨iO,cO,h⟩:=aq h
   refine Jn (ck cO) (l9.cons (.one _ _ (gL.Bl cD Jo)) (l9.nil)) ?_
   refine az ai ?_
   obtain ⟨gv,cC,h⟩:=aq h
   refine bE ak (sH cC) ?_
   refine az ai ?_
   refine bn h (fun cX h=> ?_) fun cX h=> ?_
   · refine az ai ?_
     obtain rfl:=aB h
     exact hX _ _ _ _ _ dB aJ ak (dD _ (hB _ rfl) _ (cj _ (cj _ hfr)) cD)
   · obtain ⟨j8,cx,h⟩:=aq h
     have cJ:eE 1 (ml b8 b4) [(b8 iO)]=some (ml b8 j8):=mJ (f:=b8) cx
     refine az (aI cJ ai) ?_
     obtain rfl:=aB h
     exact hN _ rfl _ _ _ _ aJ ak ⟨rfl,(cj _ (cj _ hfr)),cD⟩
 · refine az ai ?_
   obtain rfl:=aB h
   exact hX _ _ _ _ _ dB aJ ak (dD _ (hB _ rfl) _ hfr (ai.trans rfl))
theorem oV {AA:aA} {EA:List UInt8} {q1:Nat} {H0 H:AH} (hfr:Fr H0 H0.length [q1] H) (ai:H[q1]? =some [(.str AA.s),(.int .i64 AA.cL),(.bool AA.bad)]) (dZ:q1<H0.length) {K:Exit→Env→AH→Prop} {n4:aA}
 (h:dJ AA EA=some n4)
 (kn:∀H':AH,Fr H0 H0.length [q1] H'→H'[q1]? =some [(.str n4.s),(.int .i64 n4.cL),(.bool n4.bad)]→K .normal [(3,(.sl .own 1 (ml b8 EA)))] H'):
 AX Tryz.prog e9 52 H0.length (erase jS) K [(0,(.ptr q1 0)),(3,(.sl .own 1 (ml b8 EA)))] H:=by
 refine b7 fun K' hK=> ?_
 have hle:=hfr.le
 have aM:=aQ ai
 rw [dJ.eq_1] at h
 refine az ai ?_
 refine bV h (fun cS h=> ?_) fun cS h=> ?_
 · refine az (aI cS ai) ?_
   obtain rfl:=aB h
   exact hK _ _ _ _ _ aJ ak (kn _ (cj _ hfr) cD)
 · refine az (aI cS ai) ?_
   obtain rfl:=aB h
   exact hK _ _ _ _ _ aJ ak (kn _ (cj _ hfr) cD)
theorem sI {F:Nat} {x2:aA} {q1:Nat} {H0:AH} (ai:H0[q1]? =some [(.str x2.s),(.int .i64 x2.cL),(.bool x2.bad)]) {aP:List UInt8} {eL:aA} (h:fV F x2=some (aP,eL)):
 aF Tryz.prog 118 [(.ptr q1 0)] H0 fun v H'=>v=(.str aP)∧H'=(H0.set q1 [(.str eL.s),(.int .i64 eL.cL),(.bool eL.bad)]):=by
 have aM:=aQ ai
 refine nk tZ e9 [q1] fun hcl K0 aN H hH hfr=> ?_
 rw [←hH] at ai
 clear hH
 have hle:=hfr.le
 have C3:=aQ ai
 rw [fV.eq_1] at h
 refine az ai ?_
 obtain ⟨r3,hy1,h⟩:=aq h
 refine bE ak (dh (ai.trans rfl) hy1) ?_
 refine az ai ?_
 obtain ⟨o23,cV,h⟩:=aq h
 refine bB ak (oU (q1:=q1) (cj _ hfr) cD ct cV ?_)
 · rintro ⟨EA,AA⟩ rfl H hfr ai
   try dsimp only at h ai
   have hle:=hfr.le
   have aM:=aQ ai
   refine az ai ?_
   obtain ⟨s22,eI,h⟩:=aq h
   refine bB ak (oV (q1:=q1) hfr (ai.trans rfl) ct eI ?_)
   intro H hfr ai
   have hle:=hfr.le
   have aM:=aQ ai
   refine az ai ?_
   obtain ⟨rfl,rfl⟩:=cE h
   exact aN _ _ _ bk (jZ hfr hcl (aX bf (.str EA)) bg aZ (ai.trans rfl) ct Es Er ⟨rfl,rfl⟩)
abbrev uy:av:=(.rg [(au 3 0),(aj 4 (.call (.c (.fn 103 [])) [(.t 3)])),(au 5 4),(ay 6 (.mv (.t 0)) 5 false),(ay 7 (.call (.c (.fn 108 [])) [(.c (.str [33,35,36,37,38,39,42,43,45,47,61,63,94,95,96,123,124,125,126])),(.t 6)]) 5 false),(ay 8 (.bin .geq (.t 7) (.c (.int .i64 0))) 5 false),(aj 9 (.pick (.t 5) (.c (.bool true)) (.t 8))),(aR 2 9)])
abbrev G3:av:=(.seq (.rg [(aj 2 (.aO (.c (.bool false))))]) (.seq (.sem (erase uy)) .ret))
theorem G4:bQ Tryz.prog 81 10 [(.tmp 2)] (erase G3):=⟨Tryz.f81,_,rfl,by decide,rfl,by kernel_rfl,rfl,rfl⟩
abbrev zn:List Nat:=[0,2]
def rW (c1:UInt8):Option (Bool):=
 (gM c1).bind fun r2=>
 (if r2 then
  some true
 else
  (strings_IndexByte ([33,35,36,37,38,39,42,43,45,47,61,63,94,95,96,123,124,125,126]:List UInt8) c1).bind fun r3=>some (decide (0≤r3)))
def mC (c1:UInt8):Option (Bool):=
 (rW c1).bind fun t5=>
 some t5
theorem AB {c1:UInt8} {H:AH} {K:Exit→Env→AH→Prop} {t4:Bool}
 (h:rW c1=some t4)
 (kn:K .normal [(2,(.bool t4))] H):
 AX Tryz.prog zn 10 H.length (erase uy) K [(0,(b8 c1)),(2,(.bool false))] H:=by
 refine b7 fun K' hK=> ?_
 rw [rW.eq_1] at h
 refine aD ?_
 obtain ⟨r2,hy1,h⟩:=aq h
 refine bE ak (nt hy1) ?_
 refine aD ?_
 refine bV h (fun hy2 h=> ?_) fun hy2 h=> ?_
 · refine aW hy2 ?_
   obtain rfl:=aB h
   exact hK _ _ _ _ _ aJ ak kn
 · refine aW hy2 ?_
   obtain ⟨r3,hy3,h⟩:=aq h
   refine bE ak (uS (s1:=([33,35,36,37,38,39,42,43,45,47,61,63,94,95,96,123,124,125,126]:List UInt8)) (c2:=c1) hy3) ?_
   refine aD ?_
   obtain rfl:=aB h
   exact hK _ _ _ _ _ aJ ak kn
theorem w9 {c1:UInt8} {H0:AH} {aP:Bool} (h:mC c1=some aP):
 aF Tryz.prog 81 [(b8 c1)] H0 fun v H'=>v=(.bool aP)∧H'=H0:=by
 refine fL G4 zn fun hcl K0 aN=> ?_
 rw [mC.eq_1] at h
 refine aD ?_
 obtain ⟨t5,hy4,h⟩:=aq h
 refine bB ak (AB hy4 ?_)
 refine aD ?_
 obtain rfl:=aB h
 exact aN _ _ _ bk (aK hcl (aX bf (.bool t5)) bg aZ ⟨rfl,rfl⟩)
abbrev mS:av:=(.seq (.rg [(aj 9 (.bin .lss (.t 8) (.t 7)))]) (.seq (.cond (.t 9) .skip (.exit 0)) (.seq (.blk 1 (.seq (.rg [(au 10 8),(aR 5 10)]) (.seq (.rg [(au 11 1),(au 12 0),(au 13 5),(aj 14 (.ixs (.t 12) (.t 13))),(aj 15 (.call (.t 11) [(.t 14)])),(aj 16 (.un .not (.t 15)))]) (.cond (.t 16) (.seq (.rg [(aj 4 (.aO (.c (.bool false))))]) .ret) .skip)))) (.rg [(aj 17 (.bin .add (.t 8) (.c (.int .i64 1)))),(au 8 17)]))))
abbrev AD:av:=(.seq (.rg [(aj 4 (.aO (.c (.bool false))))]) (.seq (.seq (.rg [(au 6 0),(aj 7 (.lens (.t 6))),(aj 8 (.mv (.c (.int .i64 0))))]) (.blk 0 (.loop (erase mS)))) (.seq (.rg [(aj 4 (.aO (.c (.bool true))))]) .ret)))
theorem AE:bQ Tryz.prog 54 18 [(.tmp 4)] (erase AD):=⟨Tryz.f54,_,rfl,by decide,rfl,by kernel_rfl,rfl,rfl⟩
abbrev sJ:List Nat:=[0,1,4,5,7,8,9,16]
def dQ (s1:List UInt8):(Bool×Int)→Option (St Bool Unit (Bool×Int))
 |(t2,t3)=>
  (if (decide (t3<(s1.length:Int))) then
   (idx s1 t3).bind fun x4=>
   (mC x4).bind fun r5=>
   (if (!r5) then
    some (.ret false)
   else
    some (.cB (t2,(IntKind.wrap .i64 (t3+1)))))
  else
   some (.eg ()))
def je (F:Nat) (s1:List UInt8):Option (Bool):=
 ((iter (dQ s1) F (false,0)).bind fun o8=>
 match o8 with
 | .inr ()=>
   some true
 | .inl r7=>
   some r7)
theorem vK {F:Nat} {t3:Int} {s1:List UInt8} {t2:Bool} {H:AH} {K:Exit→Env→AH→Prop} {o:(Bool)⊕(Unit)}
 (h:iter (dQ s1) F (t2,t3)=some o)
 (dD:∀o':Unit,o= .inr o'→K (.exit 0) [] H)
 (kr:∀o':Bool,o= .inl o'→K .ret [(4,(.bool o'))] H):
 AX Tryz.prog sJ 18 H.length (.loop (erase mS)) K [(0,(.str s1)),(1,(.fn 81 [])),(4,(.bool t2)),(7,(.int .i64 (s1.length:Int))),(8,(.int .i64 t3))] H:=by
 refine iY (fun s e H1=>match s with|(t2,t3)=>e=[(0,(.str s1)),(1,(.fn 81 [])),(4,(.bool t2)),(7,(.int .i64 (s1.length:Int))),(8,(.int .i64 t3))]∧H1=H) h ⟨rfl,rfl⟩ ?_
 rintro K' ⟨t2,t3⟩ st e H ⟨rfl,rfl⟩ h hN hB hR hX
 rw [dQ.eq_1] at h
 refine aD ?_
 refine bn h (fun hy1 h=> ?_) fun hy1 h=> ?_
 · obtain ⟨x4,hy2,h⟩:=aq h
   refine aW hy2 ?_
   obtain ⟨r5,hy3,h⟩:=aq h
   refine bE ak (w9 hy3) ?_
   refine aD ?_
   refine bn h (fun hy4 h=> ?_) fun hy4 h=> ?_
   · refine aD ?_
     obtain rfl:=aB h
     exact hX _ _ _ _ _ dB aJ ak (kr _ (hR _ rfl))
   · refine aD ?_
     obtain rfl:=aB h
     exact hN _ rfl _ _ _ _ aJ ak ⟨rfl,rfl⟩
 · refine aD ?_
   obtain rfl:=aB h
   exact hX _ _ _ _ _ dB WE.nil ak (dD _ (hB _ rfl))
theorem zo {F:Nat} {s1:List UInt8} {H0:AH} {aP:Bool} (h:je F s1=some aP):
 aF Tryz.prog 54 [(.str s1),(.fn 81 [])] H0 fun v H'=>v=(.bool aP)∧H'=H0:=by
 refine fL AE sJ fun hcl K0 aN=> ?_
 rw [je.eq_1] at h
 refine aD ?_
 obtain ⟨o8,bM,h⟩:=aq h
 refine bB ak (vK bM ?_ ?_)
 · rintro ⟨⟩ rfl
   try dsimp only at h
   refine aD ?_
   obtain rfl:=aB h
   exact aN _ _ _ bk (aK hcl (aX bf (.bool true)) bg aZ ⟨rfl,rfl⟩)
 · rintro r7 rfl
   try dsimp only at h
   refine aD ?_
   obtain rfl:=aB h
   exact aN _ _ _ bk (aK hcl (aX bf (.bool r7)) bg aZ ⟨rfl,rfl⟩)
abbrev oW:av:=(.rg [(au 3 0),(aj 4 (.bin .eql (.t 3) (.c (.str [])))),(au 5 4),(ay 6 (.mv (.t 0)) 5 false),(ay 7 (.call (.c (.fn 54 [])) [(.t 6),(.c (.fn 81 []))]) 5 false),(ay 8 (.un .not (.t 7)) 5 false),(aj 9 (.pick (.t 5) (.c (.bool true)) (.t 8))),(aR 2 9)])
abbrev BK:av:=(.seq (.rg [(aj 2 (.aO (.c (.bool false))))]) (.seq (.sem (erase oW)) .ret))
theorem BL:bQ Tryz.prog 80 10 [(.tmp 2)] (erase BK):=⟨Tryz.f80,_,rfl,by decide,rfl,by kernel_rfl,rfl,rfl⟩
abbrev uz:List Nat:=[0,2]
def jz (F:Nat) (x1:List UInt8):Option (Bool):=
 (if (decide (x1=([]:List UInt8))) then
  some true
 else
  (je F x1).bind fun r2=>some (!r2))
def j9 (F:Nat) (x1:List UInt8):Option (Bool):=
 (jz F x1).bind fun t4=>
 some t4
theorem wN {F:Nat} {x1:List UInt8} {H:AH} {K:Exit→Env→AH→Prop} {t3:Bool}
 (h:jz F x1=some t3)
 (kn:K .normal [(2,(.bool t3))] H):
 AX Tryz.prog uz 10 H.length (erase oW) K [(0,(.str x1)),(2,(.bool false))] H:=by
 refine b7 fun K' hK=> ?_
 rw [jz.eq_1] at h
 refine aD ?_
 refine bV h (fun hy1 h=> ?_) fun hy1 h=> ?_
 · refine aW hy1 ?_
   obtain rfl:=aB h
   exact hK _ _ _ _ _ aJ ak kn
 · refine aW hy1 ?_
   obtain ⟨r2,hy2,h⟩:=aq h
   refine bE ak (zo hy2) ?_
   refine aD ?_
   obtain rfl:=aB h
   exact hK _ _ _ _ _ aJ ak kn
theorem AF {F:Nat} {x1:List UInt8} {H0:AH} {aP:Bool} (h:j9 F x1=some aP):
 aF Tryz.prog 80 [(.str x1)] H0 fun v H'=>v=(.bool aP)∧H'=H0:=by
 refine fL BL uz fun hcl K0 aN=> ?_
 rw [j9.eq_1] at h
 refine aD ?_
 obtain ⟨t4,hy3,h⟩:=aq h
 refine bB ak (wN hy3 ?_)
 refine aD ?_
 obtain rfl:=aB h
 exact aN _ _ _ bk (aK hcl (aX bf (.bool t4)) bg aZ ⟨rfl,rfl⟩)
abbrev iR:av:=(.seq (.rg [(aj 9 (.bin .lss (.t 8) (.t 7)))]) (.seq (.cond (.t 9) .skip (.exit 0)) (.seq (.blk 1 (.seq (.rg [(au 10 8),(aR 5 10)]) (.seq (.rg [(au 11 1),(au 12 0),(au 13 5),(aj 14 (.wI 1 (.t 12) (.t 13))),(aj 15 (.ld (.t 14) none)),(aj 16 (.call (.t 11) [(.t 15)]))]) (.cond (.t 16) (.seq (.rg [(au 17 5),(aR 4 17)]) .ret) .skip)))) (.rg [(aj 18 (.bin .add (.t 8) (.c (.int .i64 1)))),(au 8 18)]))))
abbrev sK:av:=(.seq (.rg [(aj 4 (.aO (.c (.int .i64 0))))]) (.seq (.seq (.rg [(au 6 0),(aj 7 (.len (.t 6))),(aj 8 (.mv (.c (.int .i64 0))))]) (.blk 0 (.loop (erase iR)))) (.seq (.rg [(aj 4 (.aO (.c (.int .i64 (-1)))))]) .ret)))
theorem sL:bQ Tryz.prog 72 19 [(.tmp 4)] (erase sK):=⟨Tryz.f72,_,rfl,by decide,rfl,by kernel_rfl,rfl,rfl⟩
abbrev kZ:List Nat:=[0,1,4,5,7,8,9,16]
def cy (F:Nat) (s1:List (List UInt8)):(Int×Int)→Option (St Int Unit (Int×Int))
 |(t2,t3)=>
  (if (decide (t3<(s1.length:Int))) then
   (idx s1 t3).bind fun x4=>
   (j9 F x4).bind fun r5=>
   (if r5 then
    some (.ret t3)
   else
    some (.cB (t2,(IntKind.wrap .i64 (t3+1)))))
  else
   some (.eg ()))
def fF (F:Nat) (s1:List (List UInt8)):Option (Int):=
 ((iter (cy F s1) F (0,0)).bind fun o8=>
 match o8 with
 | .inr ()=>
   some (-1)
 | .inl r7=>
   some r7)
theorem n5 {F:Nat} {t3:Int} {s1:List (List UInt8)} {t2:Int} {H:AH} {K:Exit→Env→AH→Prop} {o:(Int)⊕(Unit)}
 (h:iter (cy F s1) F (t2,t3)=some o)
 (dD:∀o':Unit,o= .inr o'→K (.exit 0) [] H)
 (kr:∀o':Int,o= .inl o'→K .ret [(4,(.int .i64 o'))] H):
 AX Tryz.prog kZ 19 H.length (.loop (erase iR)) K [(0,(.sl .n 1 (ml AV.str s1))),(1,(.fn 80 [])),(4,(.int .i64 t2)),(7,(.int .i64 (s1.length:Int))),(8,(.int .i64 t3))] H:=by
 refine iY (fun s e H1=>match s with|(t2,t3)=>e=[(0,(.sl .n 1 (ml AV.str s1))),(1,(.fn 80 [])),(4,(.int .i64 t2)),(7,(.int .i64 (s1.length:Int))),(8,(.int .i64 t3))]∧H1=H) h ⟨rfl,rfl⟩ ?_
 rintro K' ⟨t2,t3⟩ st e H ⟨rfl,rfl⟩ h hN hB hR hX
 rw [cy.eq_1] at h
 refine aD ?_
 refine bn h (fun hy1 h=> ?_) fun hy1 h=> ?_
 · obtain ⟨x4,hy2,h⟩:=aq h
   refine aW hy2 ?_
   obtain ⟨r5,hy3,h⟩:=aq h
   refine bE ak (AF hy3) ?_
   refine aD ?_
   refine bn h (fun hy4 h=> ?_) fun hy4 h=> ?_
   · refine aD ?_
     obtain rfl:=aB h
     exact hX _ _ _ _ _ dB aJ ak (kr _ (hR _ rfl))
   · refine aD ?_
     obtain rfl:=aB h
     exact hN _ rfl _ _ _ _ aJ ak ⟨rfl,rfl⟩
 · refine aD ?_
   obtain rfl:=aB h
   exact hX _ _ _ _ _ dB WE.nil ak (dD _ (hB _ rfl))
theorem rX {F:Nat} {s1:List (List UInt8)} {H0:AH} {aP:Int} (h:fF F s1=some aP):
 aF Tryz.prog 72 [(.sl .n 1 (ml AV.str s1)),(.fn 80 [])] H0 fun v H'=>v=(.int .i64 aP)∧H'=H0:=by
 refine fL sL kZ fun hcl K0 aN=> ?_
 rw [fF.eq_1] at h
 refine aD ?_
 obtain ⟨o8,bM,h⟩:=aq h
 refine bB ak (n5 bM ?_ ?_)
 · rintro ⟨⟩ rfl
   try dsimp only at h
   refine aD ?_
   obtain rfl:=aB h
   exact aN _ _ _ bk (aK hcl (aX bf (.int .i64 (-1))) bg aZ ⟨rfl,rfl⟩)
 · rintro r7 rfl
   try dsimp only at h
   refine aD ?_
   obtain rfl:=aB h
   exact aN _ _ _ bk (aK hcl (aX bf (.int .i64 r7)) bg aZ ⟨rfl,rfl⟩)
abbrev oX:av:=(.seq (.rg [(aj 4 (.aO (.c (.bool false))))]) (.seq (.rg [(au 5 0),(au 6 1),(aj 7 (.call (.c (.fn 72 [])) [(.t 5),(.t 6)])),(aj 8 (.bin .geq (.t 7) (.c (.int .i64 0)))),(aR 4 8)]) .ret))
theorem oY:bQ Tryz.prog 46 9 [(.tmp 4)] (erase oX):=⟨Tryz.f46,_,rfl,by decide,rfl,by kernel_rfl,rfl,rfl⟩
abbrev oZ:List Nat:=[0,1,4]
def eF (F:Nat) (s1:List (List UInt8)):Option (Bool):=
 (fF F s1).bind fun r2=>some (decide (0≤r2))
theorem n6 {F:Nat} {s1:List (List UInt8)} {H0:AH} {aP:Bool} (h:eF F s1=some aP):
 aF Tryz.prog 46 [(.sl .n 1 (ml AV.str s1)),(.fn 80 [])] H0 fun v H'=>v=(.bool aP)∧H'=H0:=by
 refine fL oY oZ fun hcl K0 aN=> ?_
 rw [eF.eq_1] at h
 refine aD ?_
 obtain ⟨r2,hy1,h⟩:=aq h
 refine bE ak (rX hy1) ?_
 refine aD ?_
 obtain rfl:=aB h
 exact aN _ _ _ bk (aK hcl (aX bf (.bool (decide (0≤r2)))) bg aZ ⟨rfl,rfl⟩)
abbrev EB:av:=(.seq (.rg [(aj 2 (.aO (.c (.bool false))))]) (.seq (.rg [(au 3 0),(aj 4 (.call (.c (.fn 47 [])) [(.t 3),(.c (.str [46]))])),(aj 5 (.call (.c (.fn 46 [])) [(.t 4),(.c (.fn 80 []))])),(aj 6 (.un .not (.t 5))),(aR 2 6)]) .ret))
theorem EC:bQ Tryz.prog 56 7 [(.tmp 2)] (erase EB):=⟨Tryz.f56,_,rfl,by decide,rfl,by kernel_rfl,rfl,rfl⟩
abbrev ED:List Nat:=[0,2]
def k4 (F:Nat) (s1:List UInt8):Option (Bool):=
 (strings_Split s1 ([46]:List UInt8)).bind fun r2=>(eF F r2).bind fun r3=>some (!r3)
theorem vL {F:Nat} {s1:List UInt8} {H0:AH} {aP:Bool} (h:k4 F s1=some aP):
 aF Tryz.prog 56 [(.str s1)] H0 fun v H'=>v=(.bool aP)∧H'=H0:=by
 refine fL EC ED fun hcl K0 aN=> ?_
 rw [k4.eq_1] at h
 refine aD ?_
 obtain ⟨r2,hy1,h⟩:=aq h
 refine bE ak (iQ (s1:=s1) (s2:=([46]:List UInt8)) hy1) ?_
 refine aD ?_
 obtain ⟨r3,hy2,h⟩:=aq h
 refine bE ak (n6 hy2) ?_
 refine aD ?_
 obtain rfl:=aB h
 exact aN _ _ _ bk (aK hcl (aX bf (.bool (!r3))) bg aZ ⟨rfl,rfl⟩)
abbrev ke:av:=(.rg [(au 17 4),(aj 18 (.bin .eql (.t 17) (.c (b8 46)))),(au 19 18),(ay 20 (.mv (.t 4)) 19 false),(ay 21 (.bin .neq (.t 20) (.c (b8 0))) 19 false),(ay 22 (.mv (.t 21)) 19 false),(ay 23 (.mv (.t 4)) 22 true),(ay 24 (.call (.c (.fn 81 [])) [(.t 23)]) 22 true),(ay 25 (.pick (.t 22) (.t 24) (.c (.bool false))) 19 false),(aj 26 (.pick (.t 19) (.c (.bool true)) (.t 25)))])
abbrev jT:av:=(.seq (.seq (.sem (erase ke)) (.cond (.t 26) .skip (.exit 0))) (.seq (.blk 1 (.rg [(au 29 0),(aj 30 (.iL (.t 29))),(aj 31 (.cR (.t 30) 1)),(aj 32 (.ld (.t 31) none)),(aj 33 (.bin .add (.t 32) (.c (.int .i64 1)))),(aj 34 (.iL (.t 29))),(aj 35 (.cR (.t 34) 1)),(cZ (.st (.t 35) (.t 33) 1))])) (.rg [(au 27 0),(aj 28 (.call (.c (.fn 117 [])) [(.t 27)])),(aR 4 28)])))
abbrev kf:av:=(.rg [(au 46 0),(au 47 0),(aj 48 (.iL (.t 47))),(aj 49 (.cR (.t 48) 2)),(aj 50 (.ld (.t 49) none)),(au 51 50),(ay 52 (.mv (.t 5)) 51 false),(ay 53 (.call (.c (.fn 56 [])) [(.t 52)]) 51 false),(ay 54 (.un .not (.t 53)) 51 false),(aj 55 (.pick (.t 51) (.c (.bool true)) (.t 54))),(aj 56 (.iL (.t 46))),(aj 57 (.cR (.t 56) 2)),(cZ (.st (.t 57) (.t 55) 1))])
abbrev u6:av:=(.seq (.rg [(aj 2 (.aO (.c (.str []))))]) (.seq (.seq (.rg [(au 6 0),(aj 7 (.call (.c (.fn 117 [])) [(.t 6)])),(aj 8 (.bin .eql (.t 7) (.c (b8 34))))]) (.cond (.t 8) (.seq (.rg [(au 9 0),(aj 10 (.call (.c (.fn 118 [])) [(.t 9)])),(aR 2 10)]) .ret) .skip)) (.seq (.rg [(au 11 0),(aj 12 (.iL (.t 11))),(aj 13 (.cR (.t 12) 1)),(aj 14 (.ld (.t 13) none)),(aR 3 14)]) (.seq (.seq (.rg [(au 15 0),(aj 16 (.call (.c (.fn 117 [])) [(.t 15)])),(aR 4 16)]) (.blk 0 (.loop (erase jT)))) (.seq (.rg [(au 36 0),(aj 37 (.iL (.t 36))),(aj 38 (.cR (.t 37) 0)),(aj 39 (.ld (.t 38) none)),(au 40 3),(au 41 0),(aj 42 (.iL (.t 41))),(aj 43 (.cR (.t 42) 1)),(aj 44 (.ld (.t 43) none)),(aj 45 (.gT (.t 39) (some (.t 40)) (some (.t 44)))),(aR 5 45)]) (.seq (.sem (erase kf)) (.seq (.rg [(au 58 5),(aR 2 58)]) .ret)))))))
theorem u7:bQ Tryz.prog 95 59 [(.tmp 2)] (erase u6):=⟨Tryz.f95,_,rfl,by decide,rfl,by kernel_rfl,rfl,rfl⟩
abbrev fG:List Nat:=[0,2,3,4,5,8,26]
def dR (c7:UInt8):Option (Bool):=
 (if (decide (c7=46)) then
  some true
 else
  (if (!decide (c7=0)) then
   (mC c7).bind fun r9=>some r9
  else
   some false))
def dS:(UInt8×aA)→Option (St ((List UInt8)×aA) aA (UInt8×aA))
 |(c7,s8)=>
  (dR c7).bind fun t11=>
  (if t11 then
   (bw (aA.mk s8.s (IntKind.wrap .i64 (s8.cL+1)) s8.bad)).bind fun iM=>
   some (.cB (iM,(aA.mk s8.s (IntKind.wrap .i64 (s8.cL+1)) s8.bad)))
  else
   some (.eg s8))
def dU (F:Nat) (gh:aA) (nu:List UInt8):Option (aA):=
 (if gh.bad then
  some (aA.mk gh.s gh.cL true)
 else
  (k4 F nu).bind fun r16=>some (aA.mk gh.s gh.cL (!r16)))
def dc (F:Nat) (x2:aA):Option ((List UInt8)×aA):=
 (bw x2).bind fun r3=>
 (if (decide (r3=34)) then
  (fV F x2).bind fun (r4,r5)=>some (r4,r5)
 else
  (bw x2).bind fun r6=>
  ((iter dS F (r6,x2)).bind fun o19=>
  match o19 with
  | .inr gh=>
    (sub gh.s x2.cL gh.cL).bind fun nu=>
    (dU F gh nu).bind fun rY=>
    some (nu,rY)
  | .inl _=>none))
theorem qj {c7:UInt8} {q1:Nat} {x2:aA} {s8:aA} {H0 H:AH} (hfr:Fr H0 H0.length [q1] H) (ai:H[q1]? =some [(.str s8.s),(.int .i64 s8.cL),(.bool s8.bad)]) (dZ:q1<H0.length) {K:Exit→Env→AH→Prop} {t10:Bool}
 (h:dR c7=some t10)
 (kn:∀H':AH,Fr H0 H0.length [q1] H'→H'[q1]? =some [(.str s8.s),(.int .i64 s8.cL),(.bool s8.bad)]→K .normal [(0,(.ptr q1 0)),(3,(.int .i64 x2.cL)),(26,(.bool t10))] H'):
 AX Tryz.prog fG 59 H0.length (erase ke) K [(0,(.ptr q1 0)),(3,(.int .i64 x2.cL)),(4,(b8 c7))] H:=by
 refine b7 fun K' hK=> ?_
 have hle:=hfr.le
 have aM:=aQ ai
 rw [dR.eq_1] at h
 refine az ai ?_
 refine bV h (fun bM h=> ?_) fun bM h=> ?_
 · refine az (aI bM ai) ?_
   obtain rfl:=aB h
   exact hK _ _ _ _ _ aJ ak (kn _ hfr (ai.trans rfl))
 · refine az (aI bM ai) ?_
   refine bV h (fun cc h=> ?_) fun cc h=> ?_
   · refine az (aI cc ai) ?_
     obtain ⟨r9,cO,h⟩:=aq h
     refine bE ak (w9 cO) ?_
     refine az ai ?_
     obtain rfl:=aB h
     exact hK _ _ _ _ _ aJ ak (kn _ hfr (ai.trans rfl))
   · refine az (aI cc ai) ?_
     obtain rfl:=aB h
     exact hK _ _ _ _ _ aJ ak (kn _ hfr (ai.trans rfl))
theorem qk {F:Nat} {c7:UInt8} {s8:aA} {q1:Nat} {x2:aA} {H0 H:AH} (hfr:Fr H0 H0.length [q1] H) (ai:H[q1]? =some [(.str s8.s),(.int .i64 s8.cL),(.bool s8.bad)]) (dZ:q1<H0.length) {K:Exit→Env→AH→Prop} {o:((List UInt8)×aA)⊕(aA)}
 (h:iter dS F (c7,s8)=some o)
 (dD:∀o':aA,o= .inr o'→∀H':AH,Fr H0 H0.length [q1] H'→H'[q1]? =some [(.str o'.s),(.int .i64 o'.cL),(.bool o'.bad)]→K (.exit 0) [(0,(.ptr q1 0)),(3,(.int .i64 x2.cL))] H'):
 AX Tryz.prog fG 59 H0.length (.loop (erase jT)) K [(0,(.ptr q1 0)),(3,(.int .i64 x2.cL)),(4,(b8 c7))] H:=by
 refine iY (fun s e H1=>match s with|(c7,s8)=>e=[(0,(.ptr q1 0)),(3,(.int .i64 x2.cL)),(4,(b8 c7))]∧Fr H0 H0.length [q1] H1∧H1[q1]? =some [(.str s8.s),(.int .i64 s8.cL),(.bool s8.bad)]) h ⟨rfl,hfr,ai⟩ ?_
 rintro K' ⟨c7,s8⟩ st e H ⟨rfl,hfr,ai⟩ h hN hB hR hX
 have hle:=hfr.le
 have aM:=aQ ai
 rw [dS.eq_1] at h
 refine az ai ?_
 obtain ⟨t11,cC,h⟩:=aq h
 refine bB ak (qj (q1:=q1) (x2:=x2) (s8:=s8) hfr (ai.trans rfl) ct cC ?_)
 intro H hfr ai
 have hle:=hfr.le
 have aM:=aQ ai
 refine az ai ?_
 refine bn h (fun cX h=> ?_) fun cX h=> ?_
 · refine az ai ?_
   obtain ⟨iM,cx,h⟩:=aq h
   refine Jn (ck cx) (l9.cons (.one _ _ (gL.Bl cD Jo)) (l9.nil)) ?_
   refine az ai ?_
   obtain rfl:=aB h
   exact hN _ rfl _ _ _ _ aJ ak ⟨rfl,(cj _ hfr),cD⟩
 · refine az ai ?_
   obtain rfl:=aB h
   exact hX _ _ _ _ _ dB aJ ak (dD _ (hB _ rfl) _ hfr (ai.trans rfl))
theorem ql {F:Nat} {gh:aA} {nu:List UInt8} {q1:Nat} {H0 H:AH} (hfr:Fr H0 H0.length [q1] H) (ai:H[q1]? =some [(.str gh.s),(.int .i64 gh.cL),(.bool gh.bad)]) (dZ:q1<H0.length) {K:Exit→Env→AH→Prop} {rV:aA}
 (h:dU F gh nu=some rV)
 (kn:∀H':AH,Fr H0 H0.length [q1] H'→H'[q1]? =some [(.str rV.s),(.int .i64 rV.cL),(.bool rV.bad)]→K .normal [(5,(.str nu))] H'):
 AX Tryz.prog fG 59 H0.length (erase kf) K [(0,(.ptr q1 0)),(5,(.str nu))] H:=by
 refine b7 fun K' hK=> ?_
 have hle:=hfr.le
 have aM:=aQ ai
 rw [dU.eq_1] at h
 refine az ai ?_
 refine bV h (fun cS h=> ?_) fun cS h=> ?_
 · refine az (aI cS ai) ?_
   obtain rfl:=aB h
   exact hK _ _ _ _ _ aJ ak (kn _ (cj _ hfr) cD)
 · refine az (aI cS ai) ?_
   obtain ⟨r16,eI,h⟩:=aq h
   refine bE ak (vL eI) ?_
   refine az ai ?_
   obtain rfl:=aB h
   exact hK _ _ _ _ _ aJ ak (kn _ (cj _ hfr) cD)
theorem ua {F:Nat} {x2:aA} {q1:Nat} {H0:AH} (ai:H0[q1]? =some [(.str x2.s),(.int .i64 x2.cL),(.bool x2.bad)]) {aP:List UInt8} {eL:aA} (h:dc F x2=some (aP,eL)):
 aF Tryz.prog 95 [(.ptr q1 0)] H0 fun v H'=>v=(.str aP)∧H'=(H0.set q1 [(.str eL.s),(.int .i64 eL.cL),(.bool eL.bad)]):=by
 have aM:=aQ ai
 refine nk u7 fG [q1] fun hcl K0 aN H hH hfr=> ?_
 rw [←hH] at ai
 clear hH
 have hle:=hfr.le
 have C3:=aQ ai
 rw [dc.eq_1] at h
 refine az ai ?_
 obtain ⟨r3,hy1,h⟩:=aq h
 refine Jn (ck hy1) (l9.cons (.one _ _ (gL.Bl (ai.trans rfl) Jo)) (l9.nil)) ?_
 refine az ai ?_
 refine bn h (fun hy2 h=> ?_) fun hy2 h=> ?_
 · refine az ai ?_
   obtain ⟨⟨r4,r5⟩,hy3,h⟩:=aq h
   dsimp only at h
   refine bE ak (sI (ai.trans rfl) hy3) ?_
   refine az ai ?_
   obtain ⟨rfl,rfl⟩:=cE h
   exact aN _ _ _ bk (jZ (cj _ hfr) hcl (aX bf (.str r4)) bg aZ cD ct Es Er ⟨rfl,rfl⟩)
 · refine az ai ?_
   obtain ⟨r6,hy4,h⟩:=aq h
   refine Jn (ck hy4) (l9.cons (.one _ _ (gL.Bl (ai.trans rfl) Jo)) (l9.nil)) ?_
   refine az ai ?_
   obtain ⟨o19,cJ,h⟩:=aq h
   refine bB ak (qk (q1:=q1) (x2:=x2) hfr (ai.trans rfl) ct cJ ?_)
   · rintro gh rfl H hfr ai
     try dsimp only at h ai
     have hle:=hfr.le
     have aM:=aQ ai
     refine az ai ?_
     obtain ⟨nu,cV,h⟩:=aq h
     refine az (aI cV ai) ?_
     obtain ⟨rY,fW,h⟩:=aq h
     refine bB ak (ql (q1:=q1) hfr (ai.trans rfl) ct fW ?_)
     intro H hfr ai
     have hle:=hfr.le
     have aM:=aQ ai
     refine az ai ?_
     obtain ⟨rfl,rfl⟩:=cE h
     exact aN _ _ _ bk (jZ hfr hcl (aX bf (.str nu)) bg aZ (ai.trans rfl) ct Es Er ⟨rfl,rfl⟩)
abbrev G5:av:=(.seq (.rg [(aj 1 (.box (.t 0))),(aj 2 (.aO (.c (.bool false))))]) (.seq (.rg [(aj 3 (.ld (.t 1) (some 2))),(aj 4 (.build [(.str []),(.str [])] [])),(aj 5 (.seq [.s, .s] false (.t 3) (.t 4))),(aR 2 5)]) .ret))
theorem G6:bQ Tryz.prog 30 6 [(.tmp 2)] (erase G5):=⟨Tryz.f30,_,rfl,by decide,rfl,by kernel_rfl,rfl,rfl⟩
abbrev G7:List Nat:=[0,1,2]
def mD (a1:aC):Option (Bool):=
 some (decide (a1.ax=([]:List UInt8))&&decide (a1.domain=([]:List UInt8)))
theorem xb {a1:aC} {H0:AH} {aP:Bool} (h:mD a1=some aP):
 aF Tryz.prog 30 [(.agg [(.str a1.ax),(.str a1.domain)])] H0 fun v H'=>v=(.bool aP)∧H'=H0:=by
 refine nk G6 G7 [] fun hcl K0 aN H hH hfr=> ?_
 clear hH
 have hle:=hfr.le
 rw [mD.eq_1] at h
 refine ei ?_
 obtain rfl:=aB h
 exact aN _ _ _ bk (aV (Fr.app hfr) hcl (aX bf (.bool (decide (a1.ax=([]:List UInt8))&&decide (a1.domain=([]:List UInt8))))) bg aZ ⟨rfl,rfl⟩)
abbrev mh:av:=(.seq (.rg [(aj 9 (.bin .lss (.t 8) (.t 7)))]) (.seq (.cond (.t 9) .skip (.exit 0)) (.seq (.blk 1 (.seq (.rg [(au 10 8),(aR 5 10)]) (.seq (.rg [(au 11 1),(au 12 0),(au 13 5),(aj 14 (.ixs (.t 12) (.t 13))),(aj 15 (.call (.t 11) [(.t 14)])),(aj 16 (.un .not (.t 15)))]) (.cond (.t 16) (.seq (.rg [(aj 4 (.aO (.c (.bool false))))]) .ret) .skip)))) (.rg [(aj 17 (.bin .add (.t 8) (.c (.int .i64 1)))),(au 8 17)]))))
abbrev zp:av:=(.seq (.rg [(aj 4 (.aO (.c (.bool false))))]) (.seq (.seq (.rg [(au 6 0),(aj 7 (.lens (.t 6))),(aj 8 (.mv (.c (.int .i64 0))))]) (.blk 0 (.loop (erase mh)))) (.seq (.rg [(aj 4 (.aO (.c (.bool true))))]) .ret)))
theorem zq:bQ Tryz.prog 54 18 [(.tmp 4)] (erase zp):=⟨Tryz.f54,_,rfl,by decide,rfl,by kernel_rfl,rfl,rfl⟩
abbrev qy:List Nat:=[0,1,4,5,7,8,9,16]
def dz (s1:List UInt8):(Bool×Int)→Option (St Bool Unit (Bool×Int))
 |(t2,t3)=>
  (if (decide (t3<(s1.length:Int))) then
   (idx s1 t3).bind fun x4=>
   (j7 x4).bind fun r5=>
   (if (!r5) then
    some (.ret false)
   else
    some (.cB (t2,(IntKind.wrap .i64 (t3+1)))))
  else
   some (.eg ()))
def gX (F:Nat) (s1:List UInt8):Option (Bool):=
 ((iter (dz s1) F (false,0)).bind fun o8=>
 match o8 with
 | .inr ()=>
   some true
 | .inl r7=>
   some r7)
theorem u9 {F:Nat} {t3:Int} {s1:List UInt8} {t2:Bool} {H:AH} {K:Exit→Env→AH→Prop} {o:(Bool)⊕(Unit)}
 (h:iter (dz s1) F (t2,t3)=some o)
 (dD:∀o':Unit,o= .inr o'→K (.exit 0) [] H)
 (kr:∀o':Bool,o= .inl o'→K .ret [(4,(.bool o'))] H):
 AX Tryz.prog qy 18 H.length (.loop (erase mh)) K [(0,(.str s1)),(1,(.fn 55 [])),(4,(.bool t2)),(7,(.int .i64 (s1.length:Int))),(8,(.int .i64 t3))] H:=by
 refine iY (fun s e H1=>match s with|(t2,t3)=>e=[(0,(.str s1)),(1,(.fn 55 [])),(4,(.bool t2)),(7,(.int .i64 (s1.length:Int))),(8,(.int .i64 t3))]∧H1=H) h ⟨rfl,rfl⟩ ?_
 rintro K' ⟨t2,t3⟩ st e H ⟨rfl,rfl⟩ h hN hB hR hX
 rw [dz.eq_1] at h
 refine aD ?_
 refine bn h (fun hy1 h=> ?_) fun hy1 h=> ?_
 · obtain ⟨x4,hy2,h⟩:=aq h
   refine aW hy2 ?_
   obtain ⟨r5,hy3,h⟩:=aq h
   refine bE ak (sH hy3) ?_
   refine aD ?_
   refine bn h (fun hy4 h=> ?_) fun hy4 h=> ?_
   · refine aD ?_
     obtain rfl:=aB h
     exact hX _ _ _ _ _ dB aJ ak (kr _ (hR _ rfl))
   · refine aD ?_
     obtain rfl:=aB h
     exact hN _ rfl _ _ _ _ aJ ak ⟨rfl,rfl⟩
 · refine aD ?_
   obtain rfl:=aB h
   exact hX _ _ _ _ _ dB WE.nil ak (dD _ (hB _ rfl))
theorem xB {F:Nat} {s1:List UInt8} {H0:AH} {aP:Bool} (h:gX F s1=some aP):
 aF Tryz.prog 54 [(.str s1),(.fn 55 [])] H0 fun v H'=>v=(.bool aP)∧H'=H0:=by
 refine fL zq qy fun hcl K0 aN=> ?_
 rw [gX.eq_1] at h
 refine aD ?_
 obtain ⟨o8,bM,h⟩:=aq h
 refine bB ak (u9 bM ?_ ?_)
 · rintro ⟨⟩ rfl
   try dsimp only at h
   refine aD ?_
   obtain rfl:=aB h
   exact aN _ _ _ bk (aK hcl (aX bf (.bool true)) bg aZ ⟨rfl,rfl⟩)
 · rintro r7 rfl
   try dsimp only at h
   refine aD ?_
   obtain rfl:=aB h
   exact aN _ _ _ bk (aK hcl (aX bf (.bool r7)) bg aZ ⟨rfl,rfl⟩)
abbrev sM:av:=(.rg [(au 3 0),(aj 4 (.bin .neq (.t 3) (.c (.str [])))),(au 5 4),(ay 6 (.mv (.t 0)) 5 true),(ay 7 (.lens (.t 6)) 5 true),(ay 8 (.bin .leq (.t 7) (.c (.int .i64 64))) 5 true),(aj 9 (.pick (.t 5) (.t 8) (.c (.bool false)))),(au 10 9),(ay 11 (.mv (.t 0)) 10 true),(ay 12 (.call (.c (.fn 54 [])) [(.t 11),(.c (.fn 55 []))]) 10 true),(aj 13 (.pick (.t 10) (.t 12) (.c (.bool false)))),(aR 2 13)])
abbrev EE:av:=(.seq (.rg [(aj 2 (.aO (.c (.bool false))))]) (.seq (.sem (erase sM)) .ret))
theorem EG:bQ Tryz.prog 31 14 [(.tmp 2)] (erase EE):=⟨Tryz.f31,_,rfl,by decide,rfl,by kernel_rfl,rfl,rfl⟩
abbrev xd:List Nat:=[0,2]
def lF (F:Nat) (s1:List UInt8):Option (Bool):=
 (if (!decide (s1=([]:List UInt8))) then
  (if (decide ((s1.length:Int)≤64)) then
   (gX F s1).bind fun r2=>some r2
  else
   some false)
 else
  some false)
def mT (F:Nat) (s1:List UInt8):Option (Bool):=
 (lF F s1).bind fun t4=>
 some t4
theorem zu {F:Nat} {s1:List UInt8} {H:AH} {K:Exit→Env→AH→Prop} {t3:Bool}
 (h:lF F s1=some t3)
 (kn:K .normal [(2,(.bool t3))] H):
 AX Tryz.prog xd 14 H.length (erase sM) K [(0,(.str s1)),(2,(.bool false))] H:=by
 refine b7 fun K' hK=> ?_
 rw [lF.eq_1] at h
 refine aD ?_
 refine bV h (fun hy1 h=> ?_) fun hy1 h=> ?_
 · refine aW hy1 ?_
   refine bV h (fun hy2 h=> ?_) fun hy2 h=> ?_
   · refine aW hy2 ?_
     obtain ⟨r2,hy3,h⟩:=aq h
     refine bE ak (xB hy3) ?_
     refine aD ?_
     obtain rfl:=aB h
     exact hK _ _ _ _ _ aJ ak kn
   · refine aW hy2 ?_
     obtain rfl:=aB h
     exact hK _ _ _ _ _ aJ ak kn
 · refine aW hy1 ?_
   obtain rfl:=aB h
   exact hK _ _ _ _ _ aJ ak kn
theorem Db {F:Nat} {s1:List UInt8} {H0:AH} {aP:Bool} (h:mT F s1=some aP):
 aF Tryz.prog 31 [(.str s1)] H0 fun v H'=>v=(.bool aP)∧H'=H0:=by
 refine fL EG xd fun hcl K0 aN=> ?_
 rw [mT.eq_1] at h
 refine aD ?_
 obtain ⟨t4,hy4,h⟩:=aq h
 refine bB ak (zu hy4 ?_)
 refine aD ?_
 obtain rfl:=aB h
 exact aN _ _ _ bk (aK hcl (aX bf (.bool t4)) bg aZ ⟨rfl,rfl⟩)
abbrev AG:av:=(.seq (.rg [(aj 2 (.aO (.c (.bool false))))]) (.seq (.rg [(au 3 0),(aj 4 (.lens (.t 3))),(aj 5 (.bin .gtr (.t 4) (.c (.int .i64 63)))),(aR 2 5)]) .ret))
theorem AI:bQ Tryz.prog 44 6 [(.tmp 2)] (erase AG):=⟨Tryz.f44,_,rfl,by decide,rfl,by kernel_rfl,rfl,rfl⟩
abbrev AJ:List Nat:=[0,2]
def jf (x1:List UInt8):Option (Bool):=
 some (decide (63<(x1.length:Int)))
theorem zw {x1:List UInt8} {H0:AH} {aP:Bool} (h:jf x1=some aP):
 aF Tryz.prog 44 [(.str x1)] H0 fun v H'=>v=(.bool aP)∧H'=H0:=by
 refine fL AI AJ fun hcl K0 aN=> ?_
 rw [jf.eq_1] at h
 refine aD ?_
 obtain rfl:=aB h
 exact aN _ _ _ bk (aK hcl (aX bf (.bool (decide (63<(x1.length:Int))))) bg aZ ⟨rfl,rfl⟩)
abbrev gY:av:=(.seq (.rg [(aj 9 (.bin .lss (.t 8) (.t 7)))]) (.seq (.cond (.t 9) .skip (.exit 0)) (.seq (.blk 1 (.seq (.rg [(au 10 8),(aR 5 10)]) (.seq (.rg [(au 11 1),(au 12 0),(au 13 5),(aj 14 (.wI 1 (.t 12) (.t 13))),(aj 15 (.ld (.t 14) none)),(aj 16 (.call (.t 11) [(.t 15)]))]) (.cond (.t 16) (.seq (.rg [(au 17 5),(aR 4 17)]) .ret) .skip)))) (.rg [(aj 18 (.bin .add (.t 8) (.c (.int .i64 1)))),(au 8 18)]))))
abbrev rZ:av:=(.seq (.rg [(aj 4 (.aO (.c (.int .i64 0))))]) (.seq (.seq (.rg [(au 6 0),(aj 7 (.len (.t 6))),(aj 8 (.mv (.c (.int .i64 0))))]) (.blk 0 (.loop (erase gY)))) (.seq (.rg [(aj 4 (.aO (.c (.int .i64 (-1)))))]) .ret)))
theorem sg:bQ Tryz.prog 72 19 [(.tmp 4)] (erase rZ):=⟨Tryz.f72,_,rfl,by decide,rfl,by kernel_rfl,rfl,rfl⟩
abbrev kg:List Nat:=[0,1,4,5,7,8,9,16]
def cr (s1:List (List UInt8)):(Int×Int)→Option (St Int Unit (Int×Int))
 |(t2,t3)=>
  (if (decide (t3<(s1.length:Int))) then
   (idx s1 t3).bind fun x4=>
   (jf x4).bind fun r5=>
   (if r5 then
    some (.ret t3)
   else
    some (.cB (t2,(IntKind.wrap .i64 (t3+1)))))
  else
   some (.eg ()))
def fc (F:Nat) (s1:List (List UInt8)):Option (Int):=
 ((iter (cr s1) F (0,0)).bind fun o8=>
 match o8 with
 | .inr ()=>
   some (-1)
 | .inl r7=>
   some r7)
theorem nv {F:Nat} {t3:Int} {s1:List (List UInt8)} {t2:Int} {H:AH} {K:Exit→Env→AH→Prop} {o:(Int)⊕(Unit)}
 (h:iter (cr s1) F (t2,t3)=some o)
 (dD:∀o':Unit,o= .inr o'→K (.exit 0) [] H)
 (kr:∀o':Int,o= .inl o'→K .ret [(4,(.int .i64 o'))] H):
 AX Tryz.prog kg 19 H.length (.loop (erase gY)) K [(0,(.sl .n 1 (ml AV.str s1))),(1,(.fn 44 [])),(4,(.int .i64 t2)),(7,(.int .i64 (s1.length:Int))),(8,(.int .i64 t3))] H:=by
 refine iY (fun s e H1=>match s with|(t2,t3)=>e=[(0,(.sl .n 1 (ml AV.str s1))),(1,(.fn 44 [])),(4,(.int .i64 t2)),(7,(.int .i64 (s1.length:Int))),(8,(.int .i64 t3))]∧H1=H) h ⟨rfl,rfl⟩ ?_
 rintro K' ⟨t2,t3⟩ st e H ⟨rfl,rfl⟩ h hN hB hR hX
 rw [cr.eq_1] at h
 refine aD ?_
 refine bn h (fun hy1 h=> ?_) fun hy1 h=> ?_
 · obtain ⟨x4,hy2,h⟩:=aq h
   refine aW hy2 ?_
   obtain ⟨r5,hy3,h⟩:=aq h
   refine bE ak (zw hy3) ?_
   refine aD ?_
   refine bn h (fun hy4 h=> ?_) fun hy4 h=> ?_
   · refine aD ?_
     obtain rfl:=aB h
     exact hX _ _ _ _ _ dB aJ ak (kr _ (hR _ rfl))
   · refine aD ?_
     obtain rfl:=aB h
     exact hN _ rfl _ _ _ _ aJ ak ⟨rfl,rfl⟩
 · refine aD ?_
   obtain rfl:=aB h
   exact hX _ _ _ _ _ dB WE.nil ak (dD _ (hB _ rfl))
theorem qm {F:Nat} {s1:List (List UInt8)} {H0:AH} {aP:Int} (h:fc F s1=some aP):
 aF Tryz.prog 72 [(.sl .n 1 (ml AV.str s1)),(.fn 44 [])] H0 fun v H'=>v=(.int .i64 aP)∧H'=H0:=by
 refine fL sg kg fun hcl K0 aN=> ?_
 rw [fc.eq_1] at h
 refine aD ?_
 obtain ⟨o8,bM,h⟩:=aq h
 refine bB ak (nv bM ?_ ?_)
 · rintro ⟨⟩ rfl
   try dsimp only at h
   refine aD ?_
   obtain rfl:=aB h
   exact aN _ _ _ bk (aK hcl (aX bf (.int .i64 (-1))) bg aZ ⟨rfl,rfl⟩)
 · rintro r7 rfl
   try dsimp only at h
   refine aD ?_
   obtain rfl:=aB h
   exact aN _ _ _ bk (aK hcl (aX bf (.int .i64 r7)) bg aZ ⟨rfl,rfl⟩)
abbrev n7:av:=(.seq (.rg [(aj 4 (.aO (.c (.bool false))))]) (.seq (.rg [(au 5 0),(au 6 1),(aj 7 (.call (.c (.fn 72 [])) [(.t 5),(.t 6)])),(aj 8 (.bin .geq (.t 7) (.c (.int .i64 0)))),(aR 4 8)]) .ret))
theorem n8:bQ Tryz.prog 46 9 [(.tmp 4)] (erase n7):=⟨Tryz.f46,_,rfl,by decide,rfl,by kernel_rfl,rfl,rfl⟩
abbrev n9:List Nat:=[0,1,4]
def c6 (F:Nat) (s1:List (List UInt8)):Option (Bool):=
 (fc F s1).bind fun r2=>some (decide (0≤r2))
theorem ny {F:Nat} {s1:List (List UInt8)} {H0:AH} {aP:Bool} (h:c6 F s1=some aP):
 aF Tryz.prog 46 [(.sl .n 1 (ml AV.str s1)),(.fn 44 [])] H0 fun v H'=>v=(.bool aP)∧H'=H0:=by
 refine fL n8 n9 fun hcl K0 aN=> ?_
 rw [c6.eq_1] at h
 refine aD ?_
 obtain ⟨r2,hy1,h⟩:=aq h
 refine bE ak (qm hy1) ?_
 refine aD ?_
 obtain rfl:=aB h
 exact aN _ _ _ bk (aK hcl (aX bf (.bool (decide (0≤r2)))) bg aZ ⟨rfl,rfl⟩)
abbrev qz:av:=(.rg [(au 4 0),(aj 5 (.lens (.t 4))),(aj 6 (.bin .leq (.t 5) (.c (.int .i64 255)))),(au 7 6),(ay 8 (.mv (.t 0)) 7 true),(ay 9 (.call (.c (.fn 45 [])) [(.t 8)]) 7 true),(aj 10 (.pick (.t 7) (.t 9) (.c (.bool false)))),(au 11 10),(ay 12 (.mv (.t 0)) 11 true),(ay 13 (.call (.c (.fn 47 [])) [(.t 12),(.c (.str [46]))]) 11 true),(ay 14 (.mv (.t 3)) 11 true),(ay 15 (.call (.c (.fn 46 [])) [(.t 13),(.t 14)]) 11 true),(ay 16 (.un .not (.t 15)) 11 true),(aj 17 (.pick (.t 11) (.t 16) (.c (.bool false)))),(aR 2 17)])
abbrev Dc:av:=(.seq (.rg [(aj 2 (.aO (.c (.bool false))))]) (.seq (.rg [(aj 3 (.aO (.c (.fn 44 []))))]) (.seq (.sem (erase qz)) .ret)))
theorem Dd:bQ Tryz.prog 25 18 [(.tmp 2)] (erase Dc):=⟨Tryz.f25,_,rfl,by decide,rfl,by kernel_rfl,rfl,rfl⟩
abbrev vM:List Nat:=[0,2,3]
def kG (F:Nat) (s1:List UInt8):Option (Bool):=
 (if (decide ((s1.length:Int)≤255)) then
  (jy F s1).bind fun r2=>
  (if r2 then
   (strings_Split s1 ([46]:List UInt8)).bind fun r3=>(c6 F r3).bind fun r4=>some (!r4)
  else
   some false)
 else
  some false)
def gN (F:Nat) (s1:List UInt8):Option (Bool):=
 (kG F s1).bind fun t6=>
 some t6
theorem xC {F:Nat} {s1:List UInt8} {H:AH} {K:Exit→Env→AH→Prop} {t5:Bool}
 (h:kG F s1=some t5)
 (kn:K .normal [(2,(.bool t5))] H):
 AX Tryz.prog vM 18 H.length (erase qz) K [(0,(.str s1)),(2,(.bool false)),(3,(.fn 44 []))] H:=by
 refine b7 fun K' hK=> ?_
 rw [kG.eq_1] at h
 refine aD ?_
 refine bV h (fun hy1 h=> ?_) fun hy1 h=> ?_
 · refine aW hy1 ?_
   obtain ⟨r2,hy2,h⟩:=aq h
   refine bE ak (uw hy2) ?_
   refine aD ?_
   refine bV h (fun hy3 h=> ?_) fun hy3 h=> ?_
   · refine aW hy3 ?_
     obtain ⟨r3,hy4,h⟩:=aq h
     refine bE ak (iQ (s1:=s1) (s2:=([46]:List UInt8)) hy4) ?_
     refine aD ?_
     obtain ⟨r4,bM,h⟩:=aq h
     refine bE ak (ny bM) ?_
     refine aD ?_
     obtain rfl:=aB h
     exact hK _ _ _ _ _ aJ ak kn
   · refine aW hy3 ?_
     obtain rfl:=aB h
     exact hK _ _ _ _ _ aJ ak kn
 · refine aW hy1 ?_
   obtain rfl:=aB h
   exact hK _ _ _ _ _ aJ ak kn
theorem uA {F:Nat} {s1:List UInt8} {H0:AH} {aP:Bool} (h:gN F s1=some aP):
 aF Tryz.prog 25 [(.str s1)] H0 fun v H'=>v=(.bool aP)∧H'=H0:=by
 refine fL Dd vM fun hcl K0 aN=> ?_
 rw [gN.eq_1] at h
 refine aD ?_
 obtain ⟨t6,cc,h⟩:=aq h
 refine bB ak (xC cc ?_)
 refine aD ?_
 obtain rfl:=aB h
 exact aN _ _ _ bk (aK hcl (aX bf (.bool t6)) bg aZ ⟨rfl,rfl⟩)
abbrev uB:av:=(.rg [(au 17 3),(au 18 5),(aj 19 (.ixs (.t 17) (.t 18))),(aj 20 (.bin .eql (.t 19) (.c (b8 34)))),(au 21 20),(ay 22 (.mv (.t 3)) 21 false),(ay 23 (.mv (.t 5)) 21 false),(ay 24 (.ixs (.t 22) (.t 23)) 21 false),(ay 25 (.bin .eql (.t 24) (.c (b8 92))) 21 false),(aj 26 (.pick (.t 21) (.c (.bool true)) (.t 25)))])
abbrev sN:av:=(.seq (.rg [(aj 15 (.bin .lss (.t 14) (.t 13)))]) (.seq (.cond (.t 15) .skip (.exit 0)) (.seq (.blk 1 (.seq (.rg [(au 16 14),(aR 5 16)]) (.seq (.seq (.sem (erase uB)) (.cond (.t 26) (.rg [(au 27 4),(aj 28 (.ve 1 [(.c (b8 92))])),(aj 29 (.app 1 1 (.t 27) (.t 28))),(aR 4 29)]) .skip)) (.rg [(au 30 4),(au 31 3),(au 32 5),(aj 33 (.ixs (.t 31) (.t 32))),(aj 34 (.ve 1 [(.t 33)])),(aj 35 (.app 1 1 (.t 30) (.t 34))),(aR 4 35)])))) (.rg [(aj 36 (.bin .add (.t 14) (.c (.int .i64 1)))),(au 14 36)]))))
abbrev G8:av:=(.seq (.rg [(aj 1 (.box (.t 0))),(aj 2 (.aO (.c (.str []))))]) (.seq (.rg [(aj 6 (.cR (.t 1) 0)),(aj 7 (.ld (.t 6) none)),(aR 3 7)]) (.seq (.seq (.rg [(au 8 3),(aj 9 (.call (.c (.fn 56 [])) [(.t 8)])),(aj 10 (.un .not (.t 9)))]) (.cond (.t 10) (.seq (.rg [(aj 11 (.ve 1 [(.c (b8 34))])),(aR 4 11)]) (.seq (.seq (.rg [(au 12 3),(aj 13 (.lens (.t 12))),(aj 14 (.mv (.c (.int .i64 0))))]) (.blk 0 (.loop (erase sN)))) (.rg [(au 37 4),(aj 38 (.ve 1 [(.c (b8 34))])),(aj 39 (.app 1 1 (.t 37) (.t 38))),(aj 40 (.mj .bs (.t 39))),(aR 3 40)]))) .skip)) (.seq (.rg [(au 41 3),(aj 42 (.bin .add (.c (.str [60])) (.t 41))),(aj 43 (.bin .add (.t 42) (.c (.str [64])))),(aj 44 (.cR (.t 1) 1)),(aj 45 (.ld (.t 44) none)),(aj 46 (.bin .add (.t 43) (.t 45))),(aj 47 (.bin .add (.t 46) (.c (.str [62])))),(aR 2 47)]) .ret))))
theorem G9:bQ Tryz.prog 32 48 [(.tmp 2)] (erase G8):=⟨Tryz.f32,_,rfl,by decide,rfl,by kernel_rfl,rfl,rfl⟩
abbrev uc:List Nat:=[0,1,2,3,4,5,10,13,14,15,26]
def mK (a1:aC) (t5:Int):Option (Bool):=
 (idx a1.ax t5).bind fun x7=>
 (if (decide (x7=34)) then
  some true
 else
  some (decide (x7=92)))
def ga (a1:aC):((List UInt8)×Int)→Option (St (List UInt8) (List UInt8) ((List UInt8)×Int))
 |(b4,t5)=>
  (if (decide (t5<(a1.ax.length:Int))) then
   (mK a1 t5).bind fun t9=>
   (if t9 then
    (eE 1 b4 ([92]:List UInt8)).bind fun wO=>
    (idx a1.ax t5).bind fun gf=>
    (eE 1 wO ([gf]:List UInt8)).bind fun rU=>some (.cB (rU,(IntKind.wrap .i64 (t5+1))))
   else
    (idx a1.ax t5).bind fun kj=>
    (eE 1 b4 ([kj]:List UInt8)).bind fun Mr=>some (.cB (Mr,(IntKind.wrap .i64 (t5+1)))))
  else
   some (.eg b4))
def mE (F:Nat) (a1:aC):Option ((List UInt8)):=
 (k4 F a1.ax).bind fun r2=>
 (if (!r2) then
  ((iter (ga a1) F (([34]:List UInt8),0)).bind fun o22=>
  match o22 with
  | .inr Z0=>
    (eE 1 Z0 ([34]:List UInt8)).bind fun mF=>
    (cat ([60]:List UInt8) mF).bind fun He=>
    (cat He ([64]:List UInt8)).bind fun AK=>
    (cat AK a1.domain).bind fun nH=>(cat nH ([62]:List UInt8)).bind fun EH=>some EH
  | .inl _=>none)
 else
  (cat ([60]:List UInt8) a1.ax).bind fun Jv=>
  (cat Jv ([64]:List UInt8)).bind fun Jw=>
  (cat Jw a1.domain).bind fun De=>(cat De ([62]:List UInt8)).bind fun Z1=>some Z1)
theorem AL {a1:aC} {t5:Int} {q6:Nat} {b4:List UInt8} {H0 H:AH} (hfr:Fr H0 H0.length [] H) (ai:H[q6]? =some [(.str a1.ax),(.str a1.domain)]) (dZ:H0.length≤q6) {K:Exit→Env→AH→Prop} {t8:Bool}
 (h:mK a1 t5=some t8)
 (kn:∀H':AH,Fr H0 H0.length [] H'→H'[q6]? =some [(.str a1.ax),(.str a1.domain)]→K .normal [(1,(.ptr q6 0)),(3,(.str a1.ax)),(4,(.sl .own 1 (ml b8 b4))),(5,(.int .i64 t5)),(13,(.int .i64 (a1.ax.length:Int))),(14,(.int .i64 t5)),(26,(.bool t8))] H'):
 AX Tryz.prog uc 48 H0.length (erase uB) K [(1,(.ptr q6 0)),(3,(.str a1.ax)),(4,(.sl .own 1 (ml b8 b4))),(5,(.int .i64 t5)),(13,(.int .i64 (a1.ax.length:Int))),(14,(.int .i64 t5))] H:=by
 refine b7 fun K' hK=> ?_
 have hle:=hfr.le
 have aM:=aQ ai
 rw [mK.eq_1] at h
 obtain ⟨x7,hy4,h⟩:=aq h
 refine az (aI hy4 ai) ?_
 refine bV h (fun bM h=> ?_) fun bM h=> ?_
 · refine az (aI bM ai) ?_
   obtain rfl:=aB h
   exact hK _ _ _ _ _ aJ ak (kn _ hfr (ai.trans rfl))
 · refine az (aI bM (aI hy4 ai)) ?_
   obtain rfl:=aB h
   exact hK _ _ _ _ _ aJ ak (kn _ hfr (ai.trans rfl))
theorem AM {F:Nat} {t5:Int} {a1:aC} {b4:List UInt8} {q3:Nat} {H0 H:AH} (hfr:Fr H0 H0.length [] H) (ai:H[q3]? =some [(.str a1.ax),(.str a1.domain)]) (dZ:H0.length≤q3) {K:Exit→Env→AH→Prop} {o:((List UInt8))⊕((List UInt8))}
 (h:iter (ga a1) F (b4,t5)=some o)
 (dD:∀o':(List UInt8),o= .inr o'→∀H':AH,Fr H0 H0.length [] H'→H'[q3]? =some [(.str a1.ax),(.str a1.domain)]→K (.exit 0) [(1,(.ptr q3 0)),(4,(.sl .own 1 (ml b8 o')))] H'):
 AX Tryz.prog uc 48 H0.length (.loop (erase sN)) K [(1,(.ptr q3 0)),(3,(.str a1.ax)),(4,(.sl .own 1 (ml b8 b4))),(13,(.int .i64 (a1.ax.length:Int))),(14,(.int .i64 t5))] H:=by
 refine iY (fun s e H1=>match s with|(b4,t5)=>e=[(1,(.ptr q3 0)),(3,(.str a1.ax)),(4,(.sl .own 1 (ml b8 b4))),(13,(.int .i64 (a1.ax.length:Int))),(14,(.int .i64 t5))]∧Fr H0 H0.length [] H1∧H1[q3]? =some [(.str a1.ax),(.str a1.domain)]) h ⟨rfl,hfr,ai⟩ ?_
 rintro K' ⟨b4,t5⟩ st e H ⟨rfl,hfr,ai⟩ h hN hB hR hX
 have hle:=hfr.le
 have aM:=aQ ai
 rw [ga.eq_1] at h
 refine az ai ?_
 refine bn h (fun hy3 h=> ?_) fun hy3 h=> ?_
 · refine az ai ?_
   obtain ⟨t9,cc,h⟩:=aq h
   refine bB ak (AL (b4:=b4) (q6:=q3) hfr (ai.trans rfl) ct cc ?_)
   intro H hfr ai
   have hle:=hfr.le
   have aM:=aQ ai
   refine az ai ?_
   refine bn h (fun cO h=> ?_) fun cO h=> ?_
   · obtain ⟨wO,cC,h⟩:=aq h
     have cX:eE 1 (ml b8 b4) [(b8 92)]=some (ml b8 wO):=mJ (f:=b8) cC
     obtain ⟨gf,cx,h⟩:=aq h
     obtain ⟨rU,cJ,h⟩:=aq h
     have cV:eE 1 (ml b8 wO) [(b8 gf)]=some (ml b8 rU):=mJ (f:=b8) cJ
     refine az (aI cX (aI cx (aI cV ai))) ?_
     obtain rfl:=aB h
     exact hN _ rfl _ _ _ _ aJ ak ⟨rfl,hfr,(ai.trans rfl)⟩
   · obtain ⟨kj,cS,h⟩:=aq h
     obtain ⟨Mr,eI,h⟩:=aq h
     have fW:eE 1 (ml b8 b4) [(b8 kj)]=some (ml b8 Mr):=mJ (f:=b8) eI
     refine az (aI cS (aI fW ai)) ?_
     obtain rfl:=aB h
     exact hN _ rfl _ _ _ _ aJ ak ⟨rfl,hfr,(ai.trans rfl)⟩
 · refine az ai ?_
   obtain rfl:=aB h
   exact hX _ _ _ _ _ dB aJ ak (dD _ (hB _ rfl) _ hfr (ai.trans rfl))
theorem xe {F:Nat} {a1:aC} {H0:AH} {aP:List UInt8} (h:mE F a1=some aP):
 aF Tryz.prog 32 [(.agg [(.str a1.ax),(.str a1.domain)])] H0 fun v H'=>v=(.str aP)∧H'=H0:=by
 refine nk G9 uc [] fun hcl K0 aN H hH hfr=> ?_
 clear hH
 have hle:=hfr.le
 rw [mE.eq_1] at h
 refine ei ?_
 obtain ⟨r2,hy1,h⟩:=aq h
 refine bE ak (vL hy1) ?_
 refine ei ?_
 refine bn h (fun hy2 h=> ?_) fun hy2 h=> ?_
 · refine ei ?_
   obtain ⟨q3,Df⟩:∃q:Nat,H.length=q:=⟨_,rfl⟩
   try rw [Df]
   obtain ⟨o22,eM,h⟩:=aq h
   refine bB ak (AM (q3:=q3) (Fr.app hfr) uR ct eM ?_)
   · rintro Z0 rfl H hfr ai
     try dsimp only at h ai
     have hle:=hfr.le
     have aM:=aQ ai
     refine ei ?_
     obtain ⟨mF,ko,h⟩:=aq h
     have jg:eE 1 (ml b8 Z0) [(b8 34)]=some (ml b8 mF):=mJ (f:=b8) ko
     obtain ⟨He,gZ,h⟩:=aq h
     obtain ⟨AK,kq,h⟩:=aq h
     obtain ⟨nH,jh,h⟩:=aq h
     obtain ⟨EH,ku,h⟩:=aq h
     refine az (aI jg (aI gZ (aI kq (aI jh (aI ku ai))))) ?_
     obtain rfl:=aB h
     exact aN _ _ _ bk (aV hfr hcl (aX bf (.str EH)) bg aZ ⟨rfl,rfl⟩)
 · obtain ⟨Jv,lG,h⟩:=aq h
   obtain ⟨Jw,jU,h⟩:=aq h
   obtain ⟨De,kz,h⟩:=aq h
   obtain ⟨Z1,mU,h⟩:=aq h
   refine az (aI lG (aI jU (aI kz mU))) ?_
   obtain rfl:=aB h
   exact aN _ _ _ bk (aV (Fr.app hfr) hcl (aX bf (.str Z1)) bg aZ ⟨rfl,rfl⟩)
abbrev sO:av:=(.rg [(aj 3 (.ld (.t 1) (some 2))),(aj 4 (.call (.c (.fn 30 [])) [(.t 3)])),(au 5 4),(ay 6 (.cR (.t 1) 0) 5 false),(ay 7 (.ld (.t 6) none) 5 false),(ay 8 (.call (.c (.fn 31 [])) [(.t 7)]) 5 false),(ay 9 (.mv (.t 8)) 5 false),(ay 10 (.cR (.t 1) 1) 9 true),(ay 11 (.ld (.t 10) none) 9 true),(ay 12 (.call (.c (.fn 25 [])) [(.t 11)]) 9 true),(ay 13 (.pick (.t 9) (.t 12) (.c (.bool false))) 5 false),(ay 14 (.mv (.t 13)) 5 false),(ay 15 (.ld (.t 1) (some 2)) 14 true),(ay 16 (.call (.c (.fn 32 [])) [(.t 15)]) 14 true),(ay 17 (.lens (.t 16)) 14 true),(ay 18 (.bin .leq (.t 17) (.c (.int .i64 256))) 14 true),(ay 19 (.pick (.t 14) (.t 18) (.c (.bool false))) 5 false),(aj 20 (.pick (.t 5) (.c (.bool true)) (.t 19))),(aR 2 20)])
abbrev EI:av:=(.seq (.rg [(aj 1 (.box (.t 0))),(aj 2 (.aO (.c (.bool false))))]) (.seq (.sem (erase sO)) .ret))
theorem EJ:bQ Tryz.prog 10 21 [(.tmp 2)] (erase EI):=⟨Tryz.f10,_,rfl,by decide,rfl,by kernel_rfl,rfl,rfl⟩
abbrev xg:List Nat:=[0,1,2]
def lH (F:Nat) (a1:aC):Option (Bool):=
 (mD a1).bind fun r3=>
 (if r3 then
  some true
 else
  (mT F a1.ax).bind fun r4=>
  (if r4 then
   (gN F a1.domain).bind fun r5=>
   (if r5 then
    (mE F a1).bind fun r6=>some (decide ((r6.length:Int)≤256))
   else
    some false)
  else
   some false))
def k5 (F:Nat) (a1:aC):Option (Bool):=
 (lH F a1).bind fun t8=>
 some t8
theorem zx {F:Nat} {a1:aC} {q2:Nat} {H0 H:AH} (hfr:Fr H0 H0.length [] H) (ai:H[q2]? =some [(.str a1.ax),(.str a1.domain)]) (dZ:H0.length≤q2) {K:Exit→Env→AH→Prop} {t7:Bool}
 (h:lH F a1=some t7)
 (kn:∀H':AH,Fr H0 H0.length [] H'→H'[q2]? =some [(.str a1.ax),(.str a1.domain)]→K .normal [(2,(.bool t7))] H'):
 AX Tryz.prog xg 21 H0.length (erase sO) K [(1,(.ptr q2 0)),(2,(.bool false))] H:=by
 refine b7 fun K' hK=> ?_
 have hle:=hfr.le
 have aM:=aQ ai
 rw [lH.eq_1] at h
 refine az ai ?_
 obtain ⟨r3,hy1,h⟩:=aq h
 refine bE ak (xb hy1) ?_
 refine az ai ?_
 refine bV h (fun hy2 h=> ?_) fun hy2 h=> ?_
 · refine az (aI hy2 ai) ?_
   obtain rfl:=aB h
   exact hK _ _ _ _ _ aJ ak (kn _ hfr (ai.trans rfl))
 · refine az (aI hy2 ai) ?_
   obtain ⟨r4,hy3,h⟩:=aq h
   refine bE ak (Db hy3) ?_
   refine az ai ?_
   refine bV h (fun hy4 h=> ?_) fun hy4 h=> ?_
   · refine az (aI hy4 ai) ?_
     obtain ⟨r5,bM,h⟩:=aq h
     refine bE ak (uA bM) ?_
     refine az ai ?_
     refine bV h (fun cc h=> ?_) fun cc h=> ?_
     · refine az (aI cc ai) ?_
       obtain ⟨r6,cO,h⟩:=aq h
       refine bE ak (xe cO) ?_
       refine az ai ?_
       obtain rfl:=aB h
       exact hK _ _ _ _ _ aJ ak (kn _ hfr (ai.trans rfl))
     · refine az (aI cc ai) ?_
       obtain rfl:=aB h
       exact hK _ _ _ _ _ aJ ak (kn _ hfr (ai.trans rfl))
   · refine az (aI hy4 ai) ?_
     obtain rfl:=aB h
     exact hK _ _ _ _ _ aJ ak (kn _ hfr (ai.trans rfl))
theorem vN {F:Nat} {a1:aC} {H0:AH} {aP:Bool} (h:k5 F a1=some aP):
 aF Tryz.prog 10 [(.agg [(.str a1.ax),(.str a1.domain)])] H0 fun v H'=>v=(.bool aP)∧H'=H0:=by
 refine nk EJ xg [] fun hcl K0 aN H hH hfr=> ?_
 clear hH
 have hle:=hfr.le
 rw [k5.eq_1] at h
 refine ei ?_
 obtain ⟨q2,kU⟩:∃q:Nat,H.length=q:=⟨_,rfl⟩
 try rw [kU]
 obtain ⟨t8,cC,h⟩:=aq h
 refine bB ak (zx (q2:=q2) (Fr.app hfr) uR ct cC ?_)
 intro H hfr ai
 have hle:=hfr.le
 have aM:=aQ ai
 refine az ai ?_
 obtain rfl:=aB h
 exact aN _ _ _ bk (aV hfr hcl (aX bf (.bool t8)) bg aZ ⟨rfl,rfl⟩)
abbrev uC:av:=(.cond (.t 14) (.seq (.rg [(au 15 5),(aj 16 (.call (.c (.fn 94 [])) [(.t 15)]))]) (.seq (.rg [(au 17 5),(aj 18 (.call (.c (.fn 95 [])) [(.t 17)])),(aj 19 (.cR (.t 6) 0)),(cZ (.st (.t 19) (.t 18) 1))]) (.seq (.rg [(au 20 5),(aj 21 (.call (.c (.fn 92 [])) [(.t 20),(.c (b8 64))]))]) (.seq (.rg [(au 22 5),(aj 23 (.call (.c (.fn 96 [])) [(.t 22)])),(aj 24 (.cR (.t 6) 1)),(cZ (.st (.t 24) (.t 23) 1))]) (.rg [(au 25 5),(aj 26 (.call (.c (.fn 92 [])) [(.t 25),(.c (b8 62))]))]))))) .skip)
abbrev uD:av:=(.rg [(aj 38 (.Ea (.t 6) (some 2))),(au 39 0),(au 40 5),(aj 41 (.iL (.t 40))),(aj 42 (.cR (.t 41) 1)),(aj 43 (.Ea (.t 42) none)),(aj 44 (.gT (.t 39) (some (.t 43)) none)),(cZ (.st (.t 2) (.t 38) 2)),(aR 3 44),(aj 4 (.aO (.c (.int .i64 0))))])
abbrev Hf:av:=(.seq (.rg [(aj 2 (.alloc [(.str []),(.str [])])),(aj 3 (.aO (.c (.str [])))),(aj 4 (.aO (.c (.int .i64 0))))]) (.seq (.rg [(au 7 0),(aj 8 (.build [(.str []),(.int .i64 0),(.bool false)] [(0,(1,(.t 7)))])),(aj 9 (.box (.t 8))),(aR 5 9)]) (.seq (.rg [(au 10 5),(aj 11 (.call (.c (.fn 92 [])) [(.t 10),(.c (b8 60))]))]) (.seq (.rg [(aj 6 (.alloc [(.str []),(.str [])]))]) (.seq (.seq (.rg [(au 12 5),(aj 13 (.call (.c (.fn 93 [])) [(.t 12),(.c (b8 62))])),(aj 14 (.un .not (.t 13)))]) (.sem (erase uC))) (.seq (.blk 0 (.seq (.rg [(au 28 5),(aj 29 (.iL (.t 28))),(aj 30 (.cR (.t 29) 2)),(aj 31 (.ld (.t 30) none)),(aR 27 31)]) (.cond (.t 27) (.seq (.rg [(aj 32 (.build [(.str []),(.str [])] [])),(cZ (.st (.t 2) (.t 32) 2)),(aj 3 (.aO (.c (.str [])))),(aj 4 (.aO (.c (.int .i64 3))))]) .ret) (.seq (.rg [(aj 34 (.ld (.t 6) (some 2))),(aj 35 (.call (.c (.fn 10 [])) [(.t 34)])),(aj 36 (.un .not (.t 35))),(aR 33 36)]) (.cond (.t 33) (.seq (.rg [(aj 37 (.build [(.str []),(.str [])] [])),(cZ (.st (.t 2) (.t 37) 2)),(aj 3 (.aO (.c (.str [])))),(aj 4 (.aO (.c (.int .i64 5))))]) .ret) .skip))))) (.seq (.sem (erase uD)) .ret)))))))
theorem Hg:bQ Tryz.prog 64 45 [(.cell 2 24),(.tmp 3),(.tmp 4)] (erase Hf):=⟨Tryz.f64,_,rfl,by decide,rfl,by kernel_rfl,rfl,rfl⟩
abbrev ud:List Nat:=[0,2,3,4,5,6,14,27,33]
def fj (F:Nat) (r3:Bool) (r4:aA):Option (aA×aC):=
 (if (!r3) then
  (c8 F r4).bind fun r8=>
  (dc F r8).bind fun (r9,dK)=>
  (bl dK 64).bind fun mB=>
  (bT F mB).bind fun (iM,mb)=>
  (bl mb 62).bind fun iO=>some (iO,(aC.mk r9 iM))
 else
  some (r4,(aC.mk ([]:List UInt8) ([]:List UInt8))))
def kA (s1:List UInt8) (rV:aA) (rY:aC):Option ((List UInt8)×Int×aC):=
 (sub s1 rV.cL (s1.length:Int)).bind fun EH=>some (EH,0,rY)
def o5 (F:Nat) (s1:List UInt8):Option (aC×(List UInt8)×Int):=
 (bl (aA.mk s1 0 false) 60).bind fun r2=>
 (bD r2 62).bind fun (r3,r4)=>
 (fj F r3 r4).bind fun (rV,rY)=>
 (if rV.bad then
  some ((aC.mk ([]:List UInt8) ([]:List UInt8)),([]:List UInt8),3)
 else
  (k5 F rY).bind fun Jx=>
  (if (!Jx) then
   some ((aC.mk ([]:List UInt8) ([]:List UInt8)),([]:List UInt8),5)
  else
   (kA s1 rV rY).bind fun (t25,t26,QA)=>
   some (QA,t25,t26)))
theorem AN {F:Nat} {r3:Bool} {r4:aA} {s1:List UInt8} {q5:Nat} {q6:Nat} {q7:Nat} {H0 H:AH} (hfr:Fr H0 H0.length [] H) (ai:H[q5]? =some [(.str ([]:List UInt8)),(.str ([]:List UInt8))]) (aS:H[q6]? =some [(.str r4.s),(.int .i64 r4.cL),(.bool r4.bad)]) (cm:H[q7]? =some [(.str ([]:List UInt8)),(.str ([]:List UInt8))]) (dZ:H0.length≤q5) (hi1:H0.length≤q6) (hi2:q5≠q6) (hi3:H0.length≤q7) (hi4:q5≠q7) (hi5:q6≠q7) {K:Exit→Env→AH→Prop} {Mq:aA} {Qz:aC}
 (h:fj F r3 r4=some (Mq,Qz))
 (kn:∀H':AH,Fr H0 H0.length [] H'→H'[q5]? =some [(.str ([]:List UInt8)),(.str ([]:List UInt8))]→H'[q6]? =some [(.str Mq.s),(.int .i64 Mq.cL),(.bool Mq.bad)]→H'[q7]? =some [(.str Qz.ax),(.str Qz.domain)]→K .normal [(0,(.str s1)),(2,(.ptr q5 0)),(5,(.ptr q6 0)),(6,(.ptr q7 0))] H'):
 AX Tryz.prog ud 45 H0.length (erase uC) K [(0,(.str s1)),(2,(.ptr q5 0)),(5,(.ptr q6 0)),(6,(.ptr q7 0)),(14,(.bool (!r3)))] H:=by
 refine b7 fun K' hK=> ?_
 have hle:=hfr.le
 have aM:=aQ ai
 have mG:=aQ aS
 have Dg:=aQ cm
 rw [fj.eq_1] at h
 refine az (aI ai (aI aS cm)) ?_
 refine bn h (fun hy3 h=> ?_) fun hy3 h=> ?_
 · refine az (aI ai (aI aS cm)) ?_
   obtain ⟨r8,hy4,h⟩:=aq h
   refine bE ak (tX (aS.trans rfl) hy4) ?_
   refine az (aI ai (aI aS cm)) ?_
   obtain ⟨⟨r9,dK⟩,bM,h⟩:=aq h
   dsimp only at h
   refine bE ak (ua (q1:=q6) cD bM) ?_
   refine az (aI ai (aI aS cm)) ?_
   obtain ⟨mB,cc,h⟩:=aq h
   refine bE ak (dh (q1:=q6) (mz cD) cc) ?_
   refine az (aI ai (aI aS cm)) ?_
   obtain ⟨⟨iM,mb⟩,cO,h⟩:=aq h
   dsimp only at h
   refine bE ak (kY (q1:=q6) cD cO) ?_
   refine az (aI ai (aI aS cm)) ?_
   obtain ⟨iO,cC,h⟩:=aq h
   refine bE ak (dh (q1:=q6) (mz cD) cC) ?_
   refine az (aI ai (aI aS cm)) ?_
   obtain ⟨rfl,rfl⟩:=cE h
   exact hK _ _ _ _ _ aJ ak (kn _ (cj _ (cj _ (cj _ (cj _ (cj _ (cj _ (cj _ hfr))))))) (mz (mz (mz (mz (mz (mz (mz (ai.trans rfl)))))))) cD (mz cD))
 · refine az (aI ai (aI aS cm)) ?_
   obtain ⟨rfl,rfl⟩:=cE h
   exact hK _ _ _ _ _ aJ ak (kn _ hfr (ai.trans rfl) (aS.trans rfl) (cm.trans rfl))
theorem AO {s1:List UInt8} {rV:aA} {rY:aC} {QB:Nat} {H0 H:AH} (hfr:Fr H0 H0.length [] H) (ai:H[QB]? =some [(.str ([]:List UInt8)),(.str ([]:List UInt8))]) (dZ:H0.length≤QB) {K:Exit→Env→AH→Prop} {t22:List UInt8} {t23:Int} {Z2:aC}
 (h:kA s1 rV rY=some (t22,t23,Z2))
 (kn:∀H':AH,Fr H0 H0.length [] H'→H'[QB]? =some [(.str Z2.ax),(.str Z2.domain)]→K .normal [(2,(.ptr QB 0)),(3,(.str t22)),(4,(.int .i64 t23))] H'):
 AX Tryz.prog ud 45 H0.length (erase uD) K [(0,(.str s1)),(2,(.ptr QB 0)),(5,(.ep (.agg [(.str rV.s),(.int .i64 rV.cL),(.bool rV.bad)]) 0)),(6,(.ep (.agg [(.str rY.ax),(.str rY.domain)]) 0))] H:=by
 refine b7 fun K' hK=> ?_
 have hle:=hfr.le
 have aM:=aQ ai
 rw [kA.eq_1] at h
 obtain ⟨EH,cS,h⟩:=aq h
 refine az (aI cS ai) ?_
 obtain ⟨rfl,rfl,rfl⟩:=oI h
 exact hK _ _ _ _ _ aJ ak (kn _ (cj _ hfr) cD)
theorem EL {F:Nat} {s1:List UInt8} {H0:AH} {aP:aC} {eL:List UInt8} {Jy:Int} (h:o5 F s1=some (aP,eL,Jy)):
 aF Tryz.prog 64 [(.str s1)] H0 fun v H'=>v=(.bz [(.agg [(.str aP.ax),(.str aP.domain)]),(.str eL),(.int .i64 Jy)])∧H'=H0:=by
 refine nk Hg ud [] fun hcl K0 aN H hH hfr=> ?_
 clear hH
 have hle:=hfr.le
 rw [o5.eq_1] at h
 refine ei ?_
 obtain ⟨r2,hy1,h⟩:=aq h
 refine bE ak (dh (q1:=(H.length+1)) uR hy1) ?_
 refine ei ?_
 obtain ⟨⟨r3,r4⟩,hy2,h⟩:=aq h
 dsimp only at h
 refine bE ak (dO (q1:=(H.length+1)) (BA cD) hy2) ?_
 refine ei ?_
 obtain ⟨q6,xD⟩:∃q:Nat,(H.length+1)=q:=⟨_,rfl⟩
 try rw [xD]
 obtain ⟨q7,Ms⟩:∃q:Nat,(H.length+2)=q:=⟨_,rfl⟩
 try rw [Ms]
 obtain ⟨q5,Dh⟩:∃q:Nat,H.length=q:=⟨_,rfl⟩
 try rw [Dh]
 try rw [show q5+1=q6 from by omega]
 try rw [show q6+1=q7 from by omega]
 obtain ⟨⟨rV,rY⟩,cX,h⟩:=aq h
 dsimp only at h
 refine bB ak (AN (s1:=s1) (q5:=q5) (q6:=q6) (q7:=q7) (cj _ (Fr.app (cj _ (Fr.app (Fr.app hfr))))) (mz (BA (mz (BA uR)))) cD (mz uR) ct ct ct ct ct ct cX ?_)
 intro H hfr ai aS cm
 have hle:=hfr.le
 have aM:=aQ ai
 have mG:=aQ aS
 have Dg:=aQ cm
 refine az (aI ai (aI aS cm)) ?_
 refine bn h (fun cx h=> ?_) fun cx h=> ?_
 · refine az (aI ai (aI aS cm)) ?_
   obtain ⟨rfl,rfl,rfl⟩:=oI h
   exact aN _ _ _ bk (aV (cj _ hfr) hcl (bh (cs:=[(.str ([]:List UInt8)),(.str ([]:List UInt8))]) (v:=(.agg [(.str ([]:List UInt8)),(.str ([]:List UInt8))])) (by kernel_rfl) (n:=(some 2)) (by kernel_rfl) rfl cD (by simp [bG,bF,dM,aU,AV.flat,bX,cz,AV.br,Tg.sh]) (aX (aX bf (.int .i64 3)) (.str ([]:List UInt8)))) bg aZ ⟨rfl,rfl⟩)
 · refine az (aI ai (aI aS cm)) ?_
   obtain ⟨Jx,cJ,h⟩:=aq h
   refine bE ak (vN cJ) ?_
   refine az (aI ai (aI aS cm)) ?_
   refine bn h (fun cV h=> ?_) fun cV h=> ?_
   · refine az (aI ai (aI aS cm)) ?_
     obtain ⟨rfl,rfl,rfl⟩:=oI h
     exact aN _ _ _ bk (aV (cj _ hfr) hcl (bh (cs:=[(.str ([]:List UInt8)),(.str ([]:List UInt8))]) (v:=(.agg [(.str ([]:List UInt8)),(.str ([]:List UInt8))])) (by kernel_rfl) (n:=(some 2)) (by kernel_rfl) rfl cD (by simp [bG,bF,dM,aU,AV.flat,bX,cz,AV.br,Tg.sh]) (aX (aX bf (.int .i64 5)) (.str ([]:List UInt8)))) bg aZ ⟨rfl,rfl⟩)
   · refine az (aI ai (aI aS cm)) ?_
     refine W0 ?_
     apply AX.freeze (s:=q7) (cs:=[(.str rY.ax),(.str rY.domain)]) (by exact (cm.trans rfl)) (gV.same (gV.same (gV.nil))) (by simp) rfl
     · repeat (first|exact FZ.nil|apply FZ.ep|apply FZ.same)
     apply AX.freeze (s:=q6) (cs:=[(.str rV.s),(.int .i64 rV.cL),(.bool rV.bad)]) (by exact (mz (aS.trans rfl))) (gV.same (gV.same (gV.same (gV.nil)))) (by simp) rfl
     · repeat (first|exact FZ.nil|apply FZ.ep|apply FZ.same)
     refine ZY ?_
     obtain ⟨⟨t25,t26,QA⟩,eI,h⟩:=aq h
     dsimp only at h
     refine bB ak (AO (QB:=q5) (cj _ (cj _ hfr)) (mz (mz (ai.trans rfl))) ct eI ?_)
     intro H hfr ai
     have hle:=hfr.le
     have aM:=aQ ai
     refine az ai ?_
     obtain ⟨rfl,rfl,rfl⟩:=oI h
     exact aN _ _ _ bk (aV hfr hcl (bh (cs:=[(.str QA.ax),(.str QA.domain)]) (v:=(.agg [(.str QA.ax),(.str QA.domain)])) (by kernel_rfl) (n:=(some 2)) (by kernel_rfl) rfl (ai.trans rfl) (by simp [bG,bF,dM,aU,AV.flat,bX,cz,AV.br,Tg.sh]) (aX (aX bf (.int .i64 t26)) (.str t25))) bg aZ ⟨rfl,rfl⟩)
abbrev vO:av:=(.rg [(au 10 0),(aj 11 (.lens (.t 10))),(au 12 1),(aj 13 (.lens (.t 12))),(aj 14 (.bin .lss (.t 11) (.t 13))),(au 15 14),(ay 16 (.mv (.t 0)) 15 false),(ay 17 (.mv (.t 1)) 15 false),(ay 18 (.lens (.t 17)) 15 false),(ay 19 (.gT (.t 16) none (some (.t 18))) 15 false),(ay 20 (.call (.c (.fn 22 [])) [(.t 19)]) 15 false),(ay 21 (.mv (.t 1)) 15 false),(ay 22 (.bin .neq (.t 20) (.t 21)) 15 false),(aj 23 (.pick (.t 15) (.c (.bool true)) (.t 22)))])
abbrev Jz:av:=(.seq (.rg [(aj 4 (.alloc [(.str []),(.str [])])),(aj 5 (.aO (.c (.str [])))),(aj 6 (.aO (.c (.bool false))))]) (.seq (.seq (.sem (erase vO)) (.cond (.t 23) (.seq (.rg [(aj 24 (.build [(.str []),(.str [])] [])),(cZ (.st (.t 4) (.t 24) 2)),(aj 5 (.aO (.c (.str [])))),(aj 6 (.aO (.c (.bool false))))]) .ret) .skip)) (.seq (.rg [(au 26 0),(au 27 1),(aj 28 (.lens (.t 27))),(aj 29 (.gT (.t 26) (some (.t 28)) none)),(aj 30 (.call (.c (.fn 65 [])) [(.t 29),(.c (.str [32]))])),(aj 31 (.call (.c (.fn 64 [])) [(.t 30)])),(au 25 31),(aj 32 (.ext (.t 25) 0)),(aj 33 (.ext (.t 25) 1)),(aj 34 (.ext (.t 25) 2)),(aj 7 (.alloc [(.str []),(.str [])])),(cZ (.st (.t 7) (.t 32) 2)),(aR 8 33),(aR 9 34)]) (.seq (.rg [(aj 35 (.ld (.t 7) (some 2))),(au 36 8),(au 37 9),(aj 38 (.bin .eql (.t 37) (.c (.int .i64 0)))),(cZ (.st (.t 4) (.t 35) 2)),(aR 5 36),(aR 6 38)]) .ret))))
theorem JA:bQ Tryz.prog 42 39 [(.cell 4 24),(.tmp 5),(.tmp 6)] (erase Jz):=⟨Tryz.f42,_,rfl,by decide,rfl,by kernel_rfl,rfl,rfl⟩
abbrev Bn:List Nat:=[0,1,4,5,6,7,8,9,23]
def lI (F:Nat) (s1:List UInt8) (jA:List UInt8):Option (Bool):=
 (if (decide ((s1.length:Int)<(jA.length:Int))) then
  some true
 else
  (sub s1 0 (jA.length:Int)).bind fun x4=>
  (fT F x4).bind fun r5=>some (!decide (r5=jA)))
def ox (F:Nat) (s1:List UInt8) (jA:List UInt8):Option (aC×(List UInt8)×Bool):=
 (lI F s1 jA).bind fun t7=>
 (if t7 then
  some ((aC.mk ([]:List UInt8) ([]:List UInt8)),([]:List UInt8),false)
 else
  (sub s1 (jA.length:Int) (s1.length:Int)).bind fun x8=>
  (fS x8 ([32]:List UInt8)).bind fun r9=>
  (o5 F r9).bind fun (dK,mB,iM)=>some (dK,mB,(decide (iM=0))))
theorem BM {F:Nat} {s1:List UInt8} {jA:List UInt8} {q3:Nat} {H0 H:AH} (hfr:Fr H0 H0.length [] H) (ai:H[q3]? =some [(.str ([]:List UInt8)),(.str ([]:List UInt8))]) (dZ:H0.length≤q3) {K:Exit→Env→AH→Prop} {t6:Bool}
 (h:lI F s1 jA=some t6)
 (kn:∀H':AH,Fr H0 H0.length [] H'→H'[q3]? =some [(.str ([]:List UInt8)),(.str ([]:List UInt8))]→K .normal [(0,(.str s1)),(1,(.str jA)),(4,(.ptr q3 0)),(23,(.bool t6))] H'):
 AX Tryz.prog Bn 39 H0.length (erase vO) K [(0,(.str s1)),(1,(.str jA)),(4,(.ptr q3 0))] H:=by
 refine b7 fun K' hK=> ?_
 have hle:=hfr.le
 have aM:=aQ ai
 rw [lI.eq_1] at h
 refine az ai ?_
 refine bV h (fun hy1 h=> ?_) fun hy1 h=> ?_
 · refine az (aI hy1 ai) ?_
   obtain rfl:=aB h
   exact hK _ _ _ _ _ aJ ak (kn _ hfr (ai.trans rfl))
 · obtain ⟨x4,hy2,h⟩:=aq h
   refine az (aI hy1 (aI hy2 ai)) ?_
   obtain ⟨r5,hy3,h⟩:=aq h
   refine bE ak (lB hy3) ?_
   refine az ai ?_
   obtain rfl:=aB h
   exact hK _ _ _ _ _ aJ ak (kn _ hfr (ai.trans rfl))
theorem zy {F:Nat} {s1:List UInt8} {jA:List UInt8} {H0:AH} {aP:aC} {eL:List UInt8} {Jy:Bool} (h:ox F s1 jA=some (aP,eL,Jy)):
 aF Tryz.prog 42 [(.str s1),(.str jA)] H0 fun v H'=>v=(.bz [(.agg [(.str aP.ax),(.str aP.domain)]),(.str eL),(.bool Jy)])∧H'=H0:=by
 refine nk JA Bn [] fun hcl K0 aN H hH hfr=> ?_
 clear hH
 have hle:=hfr.le
 rw [ox.eq_1] at h
 refine ei ?_
 obtain ⟨q3,Df⟩:∃q:Nat,H.length=q:=⟨_,rfl⟩
 try rw [Df]
 obtain ⟨t7,hy4,h⟩:=aq h
 refine bB ak (BM (q3:=q3) (Fr.app hfr) uR ct hy4 ?_)
 intro H hfr ai
 have hle:=hfr.le
 have aM:=aQ ai
 refine az ai ?_
 refine bn h (fun bM h=> ?_) fun bM h=> ?_
 · refine az ai ?_
   obtain ⟨rfl,rfl,rfl⟩:=oI h
   exact aN _ _ _ bk (aV (cj _ hfr) hcl (bh (cs:=[(.str ([]:List UInt8)),(.str ([]:List UInt8))]) (v:=(.agg [(.str ([]:List UInt8)),(.str ([]:List UInt8))])) (by kernel_rfl) (n:=(some 2)) (by kernel_rfl) rfl cD (by simp [bG,bF,dM,aU,AV.flat,bX,cz,AV.br,Tg.sh]) (aX (aX bf (.bool false)) (.str ([]:List UInt8)))) bg aZ ⟨rfl,rfl⟩)
 · obtain ⟨x8,cc,h⟩:=aq h
   refine az (aI cc ai) ?_
   obtain ⟨r9,cO,h⟩:=aq h
   refine bE ak (vE (s1:=x8) (s2:=([32]:List UInt8)) cO) ?_
   refine az ai ?_
   obtain ⟨⟨dK,mB,iM⟩,cC,h⟩:=aq h
   dsimp only at h
   refine bE ak (EL cC) ?_
   refine az ai ?_
   obtain ⟨rfl,rfl,rfl⟩:=oI h
   exact aN _ _ _ bk (aV (cj _ (cj _ (Fr.app hfr))) hcl (bh (cs:=[(.str dK.ax),(.str dK.domain)]) (v:=(.agg [(.str dK.ax),(.str dK.domain)])) (by kernel_rfl) (n:=(some 2)) (by kernel_rfl) rfl cD (by simp [bG,bF,dM,aU,AV.flat,bX,cz,AV.br,Tg.sh]) (aX (aX bf (.bool (decide (iM=0)))) (.str mB))) bg aZ ⟨rfl,rfl⟩)
abbrev vP:av:=(.rg [(au 7 0),(aj 8 (.lens (.t 7))),(aj 9 (.bin .lss (.t 8) (.c (.int .i64 6)))),(au 10 9),(ay 11 (.mv (.t 0)) 10 false),(ay 12 (.gT (.t 11) none (some (.c (.int .i64 6)))) 10 false),(ay 13 (.call (.c (.fn 22 [])) [(.t 12)]) 10 false),(ay 14 (.bin .neq (.t 13) (.c (.str [32,115,105,122,101,61]))) 10 false),(aj 15 (.pick (.t 10) (.c (.bool true)) (.t 14)))])
abbrev vQ:av:=(.rg [(au 23 5),(au 24 6),(aj 25 (.iq false (.t 24) (.c (.v .nilIface)))),(au 26 25),(ay 27 (.mv (.t 4)) 26 true),(ay 28 (.lens (.t 27)) 26 true),(ay 29 (.bin .leq (.t 28) (.c (.int .i64 9))) 26 true),(aj 30 (.pick (.t 26) (.t 29) (.c (.bool false)))),(au 31 30),(ay 32 (.mv (.t 4)) 31 true),(ay 33 (.call (.c (.fn 67 [])) [(.t 32),(.c (.str [48,49,50,51,52,53,54,55,56,57]))]) 31 true),(ay 34 (.bin .eql (.t 33) (.c (.str []))) 31 true),(aj 35 (.pick (.t 31) (.t 34) (.c (.bool false)))),(aR 2 23),(aR 3 35)])
abbrev JB:av:=(.seq (.rg [(aj 2 (.aO (.c (.int .i64 0)))),(aj 3 (.aO (.c (.bool false))))]) (.seq (.seq (.sem (erase vP)) (.cond (.t 15) (.seq (.rg [(aj 2 (.aO (.c (.int .i64 0)))),(aj 3 (.aO (.c (.bool false))))]) .ret) .skip)) (.seq (.rg [(au 16 0),(aj 17 (.gT (.t 16) (some (.c (.int .i64 6))) none)),(aR 4 17)]) (.seq (.rg [(au 19 4),(aj 20 (.call (.c (.fn 66 [])) [(.t 19)])),(au 18 20),(aj 21 (.ext (.t 18) 0)),(aj 22 (.ext (.t 18) 1)),(aR 5 21),(aR 6 22)]) (.seq (.sem (erase vQ)) .ret)))))
theorem JC:bQ Tryz.prog 43 36 [(.tmp 2),(.tmp 3)] (erase JB):=⟨Tryz.f43,_,rfl,by decide,rfl,by kernel_rfl,rfl,rfl⟩
abbrev vR:List Nat:=[0,2,3,4,5,6,15]
def lJ (F:Nat) (s1:List UInt8):Option (Bool):=
 (if (decide ((s1.length:Int)<6)) then
  some true
 else
  (sub s1 0 6).bind fun x2=>
  (fT F x2).bind fun r3=>
  some (!decide (r3=([32,115,105,122,101,61]:List UInt8))))
def oa (r8:Bool) (x6:List UInt8) (r7:Int):Option (Int×Bool):=
 (if (!r8) then
  (if (decide ((x6.length:Int)≤9)) then
   (iG x6 ([48,49,50,51,52,53,54,55,56,57]:List UInt8)).bind fun r9=>some (r7,(decide (r9=([]:List UInt8))))
  else
   some (r7,false))
 else
  some (r7,false))
def sP (F:Nat) (s1:List UInt8):Option (Int×Bool):=
 (lJ F s1).bind fun t5=>
 (if t5 then
  some (0,false)
 else
  (sub s1 6 (s1.length:Int)).bind fun x6=>
  (strconv_Atoi x6).bind fun (r7,r8)=>
  (oa r8 x6 r7).bind fun (t12,t13)=>
  some (t12,t13))
theorem BN {F:Nat} {s1:List UInt8} {H:AH} {K:Exit→Env→AH→Prop} {t4:Bool}
 (h:lJ F s1=some t4)
 (kn:K .normal [(0,(.str s1)),(15,(.bool t4))] H):
 AX Tryz.prog vR 36 H.length (erase vP) K [(0,(.str s1))] H:=by
 refine b7 fun K' hK=> ?_
 rw [lJ.eq_1] at h
 refine aD ?_
 refine bV h (fun hy1 h=> ?_) fun hy1 h=> ?_
 · refine aW hy1 ?_
   obtain rfl:=aB h
   exact hK _ _ _ _ _ aJ ak kn
 · obtain ⟨x2,hy2,h⟩:=aq h
   refine aW (aI hy1 hy2) ?_
   obtain ⟨r3,hy3,h⟩:=aq h
   refine bE ak (lB hy3) ?_
   refine aD ?_
   obtain rfl:=aB h
   exact hK _ _ _ _ _ aJ ak kn
theorem BO {r8:Bool} {x6:List UInt8} {r7:Int} {H:AH} {K:Exit→Env→AH→Prop} {t10:Int} {t11:Bool}
 (h:oa r8 x6 r7=some (t10,t11))
 (kn:K .normal [(2,(.int .i64 t10)),(3,(.bool t11))] H):
 AX Tryz.prog vR 36 H.length (erase vQ) K [(4,(.str x6)),(5,(.int .i64 r7)),(6,(dL r8))] H:=by
 refine b7 fun K' hK=> ?_
 rw [oa.eq_1] at h
 refine aD ?_
 refine bV h (fun cC h=> ?_) fun cC h=> ?_
 · refine aW cC ?_
   refine bV h (fun cX h=> ?_) fun cX h=> ?_
   · refine aW cX ?_
     obtain ⟨r9,cx,h⟩:=aq h
     refine bE ak (Ap (s1:=x6) (s2:=([48,49,50,51,52,53,54,55,56,57]:List UInt8)) cx) ?_
     refine aD ?_
     obtain ⟨rfl,rfl⟩:=cE h
     exact hK _ _ _ _ _ aJ ak kn
   · refine aW cX ?_
     obtain ⟨rfl,rfl⟩:=cE h
     exact hK _ _ _ _ _ aJ ak kn
 · refine aW cC ?_
   obtain ⟨rfl,rfl⟩:=cE h
   exact hK _ _ _ _ _ aJ ak kn
theorem Hh {F:Nat} {s1:List UInt8} {H0:AH} {aP:Int} {eL:Bool} (h:sP F s1=some (aP,eL)):
 aF Tryz.prog 43 [(.str s1)] H0 fun v H'=>v=(.bz [(.int .i64 aP),(.bool eL)])∧H'=H0:=by
 refine fL JC vR fun hcl K0 aN=> ?_
 rw [sP.eq_1] at h
 refine aD ?_
 obtain ⟨t5,hy4,h⟩:=aq h
 refine bB ak (BN hy4 ?_)
 refine aD ?_
 refine bn h (fun bM h=> ?_) fun bM h=> ?_
 · refine aD ?_
   obtain ⟨rfl,rfl⟩:=cE h
   exact aN _ _ _ bk (aK hcl (aX (aX bf (.bool false)) (.int .i64 0)) bg aZ ⟨rfl,rfl⟩)
 · obtain ⟨x6,cc,h⟩:=aq h
   refine aW cc ?_
   obtain ⟨⟨r7,r8⟩,cO,h⟩:=aq h
   dsimp only at h
   refine bE ak (strconv_Atoi_ok (s1:=x6) cO) ?_
   refine aD ?_
   obtain ⟨⟨t12,t13⟩,cJ,h⟩:=aq h
   dsimp only at h
   refine bB ak (BO cJ ?_)
   refine aD ?_
   obtain ⟨rfl,rfl⟩:=cE h
   exact aN _ _ _ bk (aK hcl (aX (aX bf (.bool t13)) (.int .i64 t12)) bg aZ ⟨rfl,rfl⟩)
abbrev vS:av:=(.cond (.t 18) (.rg [(au 20 5),(aj 21 (.call (.c (.fn 43 [])) [(.t 20)])),(au 19 21),(aj 22 (.ext (.t 19) 0)),(aj 23 (.ext (.t 19) 1)),(aR 7 22),(aR 8 23)]) .skip)
abbrev vT:av:=(.rg [(au 25 6),(aj 26 (.un .not (.t 25))),(au 27 26),(ay 28 (.mv (.t 5)) 27 false),(ay 29 (.bin .neq (.t 28) (.c (.str []))) 27 false),(ay 30 (.mv (.t 29)) 27 false),(ay 31 (.mv (.t 5)) 30 true),(ay 32 (.ixs (.t 31) (.c (.int .i64 0))) 30 true),(ay 33 (.bin .neq (.t 32) (.c (b8 32))) 30 true),(ay 34 (.pick (.t 30) (.t 33) (.c (.bool false))) 27 false),(aj 35 (.pick (.t 27) (.c (.bool true)) (.t 34))),(aR 24 35)])
abbrev JD:av:=(.seq (.rg [(aj 2 (.alloc [(.int .i64 0),(.str []),(.str []),(.str []),(.int .i64 0)])),(aj 3 (.aO (.c (.int .i64 0))))]) (.seq (.rg [(au 10 0),(aj 11 (.call (.c (.fn 42 [])) [(.t 10),(.c (.str [32,102,114,111,109,58]))])),(au 9 11),(aj 12 (.ext (.t 9) 0)),(aj 13 (.ext (.t 9) 1)),(aj 14 (.ext (.t 9) 2)),(aj 4 (.alloc [(.str []),(.str [])])),(cZ (.st (.t 4) (.t 12) 2)),(aR 5 13),(aR 6 14)]) (.seq (.rg [(au 15 5),(aj 16 (.bin .eql (.t 15) (.c (.str [])))),(aj 7 (.aO (.c (.int .i64 (-1))))),(aR 8 16)]) (.seq (.seq (.rg [(au 17 8),(aj 18 (.un .not (.t 17)))]) (.sem (erase vS))) (.seq (.blk 0 (.seq (.sem (erase vT)) (.cond (.t 24) (.seq (.rg [(aj 36 (.build [(.int .i64 0),(.str []),(.str []),(.str []),(.int .i64 0)] [])),(cZ (.st (.t 2) (.t 36) 5)),(aj 3 (.aO (.c (.int .i64 501))))]) .ret) (.seq (.rg [(au 38 8),(aj 39 (.un .not (.t 38))),(aR 37 39)]) (.cond (.t 37) (.seq (.rg [(aj 40 (.build [(.int .i64 0),(.str []),(.str []),(.str []),(.int .i64 0)] [])),(cZ (.st (.t 2) (.t 40) 5)),(aj 3 (.aO (.c (.int .i64 555))))]) .ret) .skip))))) (.seq (.rg [(aj 41 (.ld (.t 4) (some 2))),(au 42 7),(aj 43 (.build [(.int .i64 0),(.str []),(.str []),(.str []),(.int .i64 0)] [(0,(1,(.c (.int .i64 3)))),(2,(2,(.t 41))),(4,(1,(.t 42)))])),(cZ (.st (.t 2) (.t 43) 5)),(aj 3 (.aO (.c (.int .i64 0))))]) .ret))))))
theorem JE:bQ Tryz.prog 23 44 [(.cell 2 26),(.tmp 3)] (erase JD):=⟨Tryz.f23,_,rfl,by decide,rfl,by kernel_rfl,rfl,rfl⟩
abbrev vU:List Nat:=[0,2,3,4,5,6,7,8,18,24,37]
def ob (F:Nat) (r3:List UInt8):Option (Int×Bool):=
 (if (!(decide (r3=([]:List UInt8)))) then
  (sP F r3).bind fun (r7,r8)=>some (r7,r8)
 else
  some ((-1),(decide (r3=([]:List UInt8)))))
def oc (r4:Bool) (r3:List UInt8):Option (Bool):=
 (if (!r4) then
  some true
 else
  (if (!decide (r3=([]:List UInt8))) then
   (idx r3 0).bind fun nu=>some (!decide (nu=32))
  else
   some false))
def sQ (F:Nat) (s1:List UInt8):Option (aH×Int):=
 (ox F s1 ([32,102,114,111,109,58]:List UInt8)).bind fun (r2,r3,r4)=>
 (ob F r3).bind fun (sR,Di)=>
 (oc r4 r3).bind fun t17=>
 (if t17 then
  some ((aH.mk 0 ([]:List UInt8) (aC.mk ([]:List UInt8) ([]:List UInt8)) 0),501)
 else
  (if (!Di) then
   some ((aH.mk 0 ([]:List UInt8) (aC.mk ([]:List UInt8) ([]:List UInt8)) 0),555)
  else
   some ((aH.mk 3 ([]:List UInt8) r2 sR),0)))
theorem BP {F:Nat} {r3:List UInt8} {q5:Nat} {q6:Nat} {r4:Bool} {r2:aC} {H0 H:AH} (hfr:Fr H0 H0.length [] H) (ai:H[q5]? =some [(.int .i64 0),(.str ([]:List UInt8)),(.str ([]:List UInt8)),(.str ([]:List UInt8)),(.int .i64 0)]) (aS:H[q6]? =some [(.str r2.ax),(.str r2.domain)]) (dZ:H0.length≤q5) (hi1:H0.length≤q6) (hi2:q5≠q6) {K:Exit→Env→AH→Prop} {QC:Int} {XS:Bool}
 (h:ob F r3=some (QC,XS))
 (kn:∀H':AH,Fr H0 H0.length [] H'→H'[q5]? =some [(.int .i64 0),(.str ([]:List UInt8)),(.str ([]:List UInt8)),(.str ([]:List UInt8)),(.int .i64 0)]→H'[q6]? =some [(.str r2.ax),(.str r2.domain)]→K .normal [(2,(.ptr q5 0)),(4,(.ptr q6 0)),(5,(.str r3)),(6,(.bool r4)),(7,(.int .i64 QC)),(8,(.bool XS))] H'):
 AX Tryz.prog vU 44 H0.length (erase vS) K [(2,(.ptr q5 0)),(4,(.ptr q6 0)),(5,(.str r3)),(6,(.bool r4)),(7,(.int .i64 (-1))),(8,(.bool (decide (r3=([]:List UInt8))))),(18,(.bool (!(decide (r3=([]:List UInt8))))))] H:=by
 refine b7 fun K' hK=> ?_
 have hle:=hfr.le
 have aM:=aQ ai
 have mG:=aQ aS
 rw [ob.eq_1] at h
 refine az (aI ai aS) ?_
 refine bn h (fun hy2 h=> ?_) fun hy2 h=> ?_
 · refine az (aI ai aS) ?_
   obtain ⟨⟨r7,r8⟩,hy3,h⟩:=aq h
   dsimp only at h
   refine bE ak (Hh hy3) ?_
   refine az (aI ai aS) ?_
   obtain ⟨rfl,rfl⟩:=cE h
   exact hK _ _ _ _ _ aJ ak (kn _ hfr (ai.trans rfl) (aS.trans rfl))
 · refine az (aI ai aS) ?_
   obtain ⟨rfl,rfl⟩:=cE h
   exact hK _ _ _ _ _ aJ ak (kn _ hfr (ai.trans rfl) (aS.trans rfl))
theorem BQ {r4:Bool} {r3:List UInt8} {mc:Nat} {xE:Nat} {sR:Int} {Di:Bool} {r2:aC} {H0 H:AH} (hfr:Fr H0 H0.length [] H) (ai:H[mc]? =some [(.int .i64 0),(.str ([]:List UInt8)),(.str ([]:List UInt8)),(.str ([]:List UInt8)),(.int .i64 0)]) (aS:H[xE]? =some [(.str r2.ax),(.str r2.domain)]) (dZ:H0.length≤mc) (hi1:H0.length≤xE) (hi2:mc≠xE) {K:Exit→Env→AH→Prop} {t16:Bool}
 (h:oc r4 r3=some t16)
 (kn:∀H':AH,Fr H0 H0.length [] H'→H'[mc]? =some [(.int .i64 0),(.str ([]:List UInt8)),(.str ([]:List UInt8)),(.str ([]:List UInt8)),(.int .i64 0)]→H'[xE]? =some [(.str r2.ax),(.str r2.domain)]→K .normal [(2,(.ptr mc 0)),(4,(.ptr xE 0)),(7,(.int .i64 sR)),(8,(.bool Di)),(24,(.bool t16))] H'):
 AX Tryz.prog vU 44 H0.length (erase vT) K [(2,(.ptr mc 0)),(4,(.ptr xE 0)),(5,(.str r3)),(6,(.bool r4)),(7,(.int .i64 sR)),(8,(.bool Di))] H:=by
 refine b7 fun K' hK=> ?_
 have hle:=hfr.le
 have aM:=aQ ai
 have mG:=aQ aS
 rw [oc.eq_1] at h
 refine az (aI ai aS) ?_
 refine bV h (fun bM h=> ?_) fun bM h=> ?_
 · refine az (aI bM (aI ai aS)) ?_
   obtain rfl:=aB h
   exact hK _ _ _ _ _ aJ ak (kn _ hfr (ai.trans rfl) (aS.trans rfl))
 · refine az (aI bM (aI ai aS)) ?_
   refine bV h (fun cc h=> ?_) fun cc h=> ?_
   · obtain ⟨nu,cO,h⟩:=aq h
     refine az (aI cc (aI cO (aI ai aS))) ?_
     obtain rfl:=aB h
     exact hK _ _ _ _ _ aJ ak (kn _ hfr (ai.trans rfl) (aS.trans rfl))
   · refine az (aI cc (aI ai aS)) ?_
     obtain rfl:=aB h
     exact hK _ _ _ _ _ aJ ak (kn _ hfr (ai.trans rfl) (aS.trans rfl))
theorem Hi {F:Nat} {s1:List UInt8} {H0:AH} {aP:aH} {eL:Int} (h:sQ F s1=some (aP,eL)):
 aF Tryz.prog 23 [(.str s1)] H0 fun v H'=>v=(.bz [(.agg [(.int .i64 aP.kind),(.str aP.arg),(.str aP.path.ax),(.str aP.path.domain),(.int .i64 aP.size)]),(.int .i64 eL)])∧H'=H0:=by
 refine nk JE vU [] fun hcl K0 aN H hH hfr=> ?_
 clear hH
 have hle:=hfr.le
 rw [sQ.eq_1] at h
 refine ei ?_
 obtain ⟨⟨r2,r3,r4⟩,hy1,h⟩:=aq h
 dsimp only at h
 refine bE ak (zy hy1) ?_
 refine ei ?_
 obtain ⟨q6,xD⟩:∃q:Nat,(H.length+1)=q:=⟨_,rfl⟩
 try rw [xD]
 obtain ⟨q5,Dh⟩:∃q:Nat,H.length=q:=⟨_,rfl⟩
 try rw [Dh]
 try rw [show q5+1=q6 from by omega]
 obtain ⟨⟨sR,Di⟩,hy4,h⟩:=aq h
 dsimp only at h
 refine bB ak (BP (r4:=r4) (r2:=r2) (q5:=q5) (q6:=q6) (cj _ (Fr.app (Fr.app hfr))) (mz (BA uR)) cD ct ct ct hy4 ?_)
 intro H hfr ai aS
 have hle:=hfr.le
 have aM:=aQ ai
 have mG:=aQ aS
 refine az (aI ai aS) ?_
 obtain ⟨t17,cC,h⟩:=aq h
 refine bB ak (BQ (sR:=sR) (Di:=Di) (r2:=r2) (mc:=q5) (xE:=q6) hfr (ai.trans rfl) (aS.trans rfl) ct ct ct cC ?_)
 intro H hfr ai aS
 have hle:=hfr.le
 have aM:=aQ ai
 have mG:=aQ aS
 refine az (aI ai aS) ?_
 refine bn h (fun cX h=> ?_) fun cX h=> ?_
 · refine az (aI ai aS) ?_
   obtain ⟨rfl,rfl⟩:=cE h
   exact aN _ _ _ bk (aV (cj _ hfr) hcl (bh (cs:=[(.int .i64 0),(.str ([]:List UInt8)),(.str ([]:List UInt8)),(.str ([]:List UInt8)),(.int .i64 0)]) (v:=(.agg [(.int .i64 0),(.str ([]:List UInt8)),(.str ([]:List UInt8)),(.str ([]:List UInt8)),(.int .i64 0)])) (by kernel_rfl) (n:=(some 5)) (by kernel_rfl) rfl cD (by simp [bG,bF,dM,aU,AV.flat,bX,cz,AV.br,Tg.sh]) (aX bf (.int .i64 501))) bg aZ ⟨rfl,rfl⟩)
 · refine az (aI ai aS) ?_
   refine bn h (fun cx h=> ?_) fun cx h=> ?_
   · refine az (aI ai aS) ?_
     obtain ⟨rfl,rfl⟩:=cE h
     exact aN _ _ _ bk (aV (cj _ hfr) hcl (bh (cs:=[(.int .i64 0),(.str ([]:List UInt8)),(.str ([]:List UInt8)),(.str ([]:List UInt8)),(.int .i64 0)]) (v:=(.agg [(.int .i64 0),(.str ([]:List UInt8)),(.str ([]:List UInt8)),(.str ([]:List UInt8)),(.int .i64 0)])) (by kernel_rfl) (n:=(some 5)) (by kernel_rfl) rfl cD (by simp [bG,bF,dM,aU,AV.flat,bX,cz,AV.br,Tg.sh]) (aX bf (.int .i64 555))) bg aZ ⟨rfl,rfl⟩)
   · refine az (aI ai aS) ?_
     obtain ⟨rfl,rfl⟩:=cE h
     exact aN _ _ _ bk (aV (cj _ hfr) hcl (bh (cs:=[(.int .i64 3),(.str ([]:List UInt8)),(.str r2.ax),(.str r2.domain),(.int .i64 sR)]) (v:=(.agg [(.int .i64 3),(.str ([]:List UInt8)),(.str r2.ax),(.str r2.domain),(.int .i64 sR)])) (by kernel_rfl) (n:=(some 5)) (by kernel_rfl) rfl cD (by simp [bG,bF,dM,aU,AV.flat,bX,cz,AV.br,Tg.sh]) (aX bf (.int .i64 0))) bg aZ ⟨rfl,rfl⟩)
abbrev vV:av:=(.rg [(au 14 6),(aj 15 (.un .not (.t 14))),(au 16 15),(ay 17 (.ld (.t 4) (some 2)) 16 false),(ay 18 (.build [(.str []),(.str [])] []) 16 false),(ay 19 (.seq [.s, .s] false (.t 17) (.t 18)) 16 false),(aj 20 (.pick (.t 16) (.c (.bool true)) (.t 19))),(au 21 20),(ay 22 (.mv (.t 5)) 21 false),(ay 23 (.bin .neq (.t 22) (.c (.str []))) 21 false),(ay 24 (.mv (.t 23)) 21 false),(ay 25 (.mv (.t 5)) 24 true),(ay 26 (.ixs (.t 25) (.c (.int .i64 0))) 24 true),(ay 27 (.bin .neq (.t 26) (.c (b8 32))) 24 true),(ay 28 (.pick (.t 24) (.t 27) (.c (.bool false))) 21 false),(aj 29 (.pick (.t 21) (.c (.bool true)) (.t 28))),(aR 13 29)])
abbrev JF:av:=(.seq (.rg [(aj 2 (.alloc [(.int .i64 0),(.str []),(.str []),(.str []),(.int .i64 0)])),(aj 3 (.aO (.c (.int .i64 0))))]) (.seq (.rg [(au 8 0),(aj 9 (.call (.c (.fn 42 [])) [(.t 8),(.c (.str [32,116,111,58]))])),(au 7 9),(aj 10 (.ext (.t 7) 0)),(aj 11 (.ext (.t 7) 1)),(aj 12 (.ext (.t 7) 2)),(aj 4 (.alloc [(.str []),(.str [])])),(cZ (.st (.t 4) (.t 10) 2)),(aR 5 11),(aR 6 12)]) (.seq (.blk 0 (.seq (.sem (erase vV)) (.cond (.t 13) (.seq (.rg [(aj 30 (.build [(.int .i64 0),(.str []),(.str []),(.str []),(.int .i64 0)] [])),(cZ (.st (.t 2) (.t 30) 5)),(aj 3 (.aO (.c (.int .i64 501))))]) .ret) (.seq (.rg [(au 32 5),(aj 33 (.bin .neq (.t 32) (.c (.str [])))),(aR 31 33)]) (.cond (.t 31) (.seq (.rg [(aj 34 (.build [(.int .i64 0),(.str []),(.str []),(.str []),(.int .i64 0)] [])),(cZ (.st (.t 2) (.t 34) 5)),(aj 3 (.aO (.c (.int .i64 555))))]) .ret) .skip))))) (.seq (.rg [(aj 35 (.ld (.t 4) (some 2))),(aj 36 (.build [(.int .i64 0),(.str []),(.str []),(.str []),(.int .i64 0)] [(0,(1,(.c (.int .i64 4)))),(2,(2,(.t 35)))])),(cZ (.st (.t 2) (.t 36) 5)),(aj 3 (.aO (.c (.int .i64 0))))]) .ret))))
theorem JG:bQ Tryz.prog 24 37 [(.cell 2 26),(.tmp 3)] (erase JF):=⟨Tryz.f24,_,rfl,by decide,rfl,by kernel_rfl,rfl,rfl⟩
abbrev Bo:List Nat:=[0,2,3,4,5,6,13,31]
def od (r4:Bool) (r2:aC) (r3:List UInt8):Option (Bool):=
 (if (!r4) then
  some true
 else
  (if (decide (r2.ax=([]:List UInt8))&&decide (r2.domain=([]:List UInt8))) then
   some true
  else
   (if (!decide (r3=([]:List UInt8))) then
    (idx r3 0).bind fun x7=>some (!decide (x7=32))
   else
    some false)))
def sS (F:Nat) (s1:List UInt8):Option (aH×Int):=
 (ox F s1 ([32,116,111,58]:List UInt8)).bind fun (r2,r3,r4)=>
 (od r4 r2 r3).bind fun t9=>
 (if t9 then
  some ((aH.mk 0 ([]:List UInt8) (aC.mk ([]:List UInt8) ([]:List UInt8)) 0),501)
 else
  (if (!decide (r3=([]:List UInt8))) then
   some ((aH.mk 0 ([]:List UInt8) (aC.mk ([]:List UInt8) ([]:List UInt8)) 0),555)
  else
   some ((aH.mk 4 ([]:List UInt8) r2 0),0)))
theorem BR {r4:Bool} {r2:aC} {r3:List UInt8} {q5:Nat} {q6:Nat} {H0 H:AH} (hfr:Fr H0 H0.length [] H) (ai:H[q5]? =some [(.int .i64 0),(.str ([]:List UInt8)),(.str ([]:List UInt8)),(.str ([]:List UInt8)),(.int .i64 0)]) (aS:H[q6]? =some [(.str r2.ax),(.str r2.domain)]) (dZ:H0.length≤q5) (hi1:H0.length≤q6) (hi2:q5≠q6) {K:Exit→Env→AH→Prop} {t8:Bool}
 (h:od r4 r2 r3=some t8)
 (kn:∀H':AH,Fr H0 H0.length [] H'→H'[q5]? =some [(.int .i64 0),(.str ([]:List UInt8)),(.str ([]:List UInt8)),(.str ([]:List UInt8)),(.int .i64 0)]→H'[q6]? =some [(.str r2.ax),(.str r2.domain)]→K .normal [(2,(.ptr q5 0)),(4,(.ptr q6 0)),(5,(.str r3)),(13,(.bool t8))] H'):
 AX Tryz.prog Bo 37 H0.length (erase vV) K [(2,(.ptr q5 0)),(4,(.ptr q6 0)),(5,(.str r3)),(6,(.bool r4))] H:=by
 refine b7 fun K' hK=> ?_
 have hle:=hfr.le
 have aM:=aQ ai
 have mG:=aQ aS
 rw [od.eq_1] at h
 refine az (aI ai aS) ?_
 refine bV h (fun hy2 h=> ?_) fun hy2 h=> ?_
 · refine az (aI hy2 (aI ai aS)) ?_
   obtain rfl:=aB h
   exact hK _ _ _ _ _ aJ ak (kn _ hfr (ai.trans rfl) (aS.trans rfl))
 · refine az (aI hy2 (aI ai aS)) ?_
   refine bV h (fun hy3 h=> ?_) fun hy3 h=> ?_
   · refine az (aI hy3 (aI ai aS)) ?_
     obtain rfl:=aB h
     exact hK _ _ _ _ _ aJ ak (kn _ hfr (ai.trans rfl) (aS.trans rfl))
   · refine az (aI hy3 (aI ai aS)) ?_
     refine bV h (fun hy4 h=> ?_) fun hy4 h=> ?_
     · obtain ⟨x7,bM,h⟩:=aq h
       refine az (aI hy4 (aI bM (aI ai aS))) ?_
       obtain rfl:=aB h
       exact hK _ _ _ _ _ aJ ak (kn _ hfr (ai.trans rfl) (aS.trans rfl))
     · refine az (aI hy4 (aI ai aS)) ?_
       obtain rfl:=aB h
       exact hK _ _ _ _ _ aJ ak (kn _ hfr (ai.trans rfl) (aS.trans rfl))
theorem Hj {F:Nat} {s1:List UInt8} {H0:AH} {aP:aH} {eL:Int} (h:sS F s1=some (aP,eL)):
 aF Tryz.prog 24 [(.str s1)] H0 fun v H'=>v=(.bz [(.agg [(.int .i64 aP.kind),(.str aP.arg),(.str aP.path.ax),(.str aP.path.domain),(.int .i64 aP.size)]),(.int .i64 eL)])∧H'=H0:=by
 refine nk JG Bo [] fun hcl K0 aN H hH hfr=> ?_
 clear hH
 have hle:=hfr.le
 rw [sS.eq_1] at h
 refine ei ?_
 obtain ⟨⟨r2,r3,r4⟩,hy1,h⟩:=aq h
 dsimp only at h
 refine bE ak (zy hy1) ?_
 refine ei ?_
 obtain ⟨q6,xD⟩:∃q:Nat,(H.length+1)=q:=⟨_,rfl⟩
 try rw [xD]
 obtain ⟨q5,Dh⟩:∃q:Nat,H.length=q:=⟨_,rfl⟩
 try rw [Dh]
 try rw [show q5+1=q6 from by omega]
 obtain ⟨t9,cc,h⟩:=aq h
 refine bB ak (BR (q5:=q5) (q6:=q6) (cj _ (Fr.app (Fr.app hfr))) (mz (BA uR)) cD ct ct ct cc ?_)
 intro H hfr ai aS
 have hle:=hfr.le
 have aM:=aQ ai
 have mG:=aQ aS
 refine az (aI ai aS) ?_
 refine bn h (fun cO h=> ?_) fun cO h=> ?_
 · refine az (aI ai aS) ?_
   obtain ⟨rfl,rfl⟩:=cE h
   exact aN _ _ _ bk (aV (cj _ hfr) hcl (bh (cs:=[(.int .i64 0),(.str ([]:List UInt8)),(.str ([]:List UInt8)),(.str ([]:List UInt8)),(.int .i64 0)]) (v:=(.agg [(.int .i64 0),(.str ([]:List UInt8)),(.str ([]:List UInt8)),(.str ([]:List UInt8)),(.int .i64 0)])) (by kernel_rfl) (n:=(some 5)) (by kernel_rfl) rfl cD (by simp [bG,bF,dM,aU,AV.flat,bX,cz,AV.br,Tg.sh]) (aX bf (.int .i64 501))) bg aZ ⟨rfl,rfl⟩)
 · refine az (aI ai aS) ?_
   refine bn h (fun cC h=> ?_) fun cC h=> ?_
   · refine az (aI ai aS) ?_
     obtain ⟨rfl,rfl⟩:=cE h
     exact aN _ _ _ bk (aV (cj _ hfr) hcl (bh (cs:=[(.int .i64 0),(.str ([]:List UInt8)),(.str ([]:List UInt8)),(.str ([]:List UInt8)),(.int .i64 0)]) (v:=(.agg [(.int .i64 0),(.str ([]:List UInt8)),(.str ([]:List UInt8)),(.str ([]:List UInt8)),(.int .i64 0)])) (by kernel_rfl) (n:=(some 5)) (by kernel_rfl) rfl cD (by simp [bG,bF,dM,aU,AV.flat,bX,cz,AV.br,Tg.sh]) (aX bf (.int .i64 555))) bg aZ ⟨rfl,rfl⟩)
   · refine az (aI ai aS) ?_
     obtain ⟨rfl,rfl⟩:=cE h
     exact aN _ _ _ bk (aV (cj _ hfr) hcl (bh (cs:=[(.int .i64 4),(.str ([]:List UInt8)),(.str r2.ax),(.str r2.domain),(.int .i64 0)]) (v:=(.agg [(.int .i64 4),(.str ([]:List UInt8)),(.str r2.ax),(.str r2.domain),(.int .i64 0)])) (by kernel_rfl) (n:=(some 5)) (by kernel_rfl) rfl cD (by simp [bG,bF,dM,aU,AV.flat,bX,cz,AV.br,Tg.sh]) (aX bf (.int .i64 0))) bg aZ ⟨rfl,rfl⟩)
end Go.Proofs.cY
end
