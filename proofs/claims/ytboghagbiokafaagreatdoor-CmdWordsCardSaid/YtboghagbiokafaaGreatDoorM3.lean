import Derived.Test.YtboghagbiokafaaGreatDoorM2
import Derived.Shelf.Strconv.Itoa3
import Derived.Shelf.Strings.Trim
import Derived.Shelf.Small.Utf8
import Derived.Shelf.Small.Strs
import Derived.Shelf.Utf8.RuneCount
import Derived.Shelf.Strconv.Atoi
import Derived.Shelf.Strconv.Itoa0
import Derived.Shelf.Strconv.Itoa1
import Derived.Shelf.LaysM
import Derived.Shelf.Strconv.Itoa2
import Derived.Shelf.Strconv.AtoiErrFast
import Derived.Shelf.Strconv.ParseIntEmpty
import Derived.Shelf.Strconv.AtoiFail
import Derived.Shelf.Strconv.Clone
import Derived.Shelf.Strconv.SyntaxError
import Derived.Shelf.LaysC
import Derived.Shelf.Strconv.ToError
import Derived.Shelf.Strconv.Lower
import Derived.Shelf.Strconv.ParseUint10
import Derived.Shelf.Strconv.ParseUint10Empty
import Derived.Shelf.Strconv.ParseUint10Any
import Derived.Shelf.Strconv.ParseInt10
import Derived.Shelf.Strconv.AtoiLong
import Derived.Shelf.Strconv.AtoiInnerAll
import Derived.Shelf.Strconv.RangeError
import Derived.Shelf.Strconv.ToErrorRange
import Derived.Shelf.Strconv.AtoiAll
import Derived.Shelf.Strconv.ErrVarAll
import Derived.Shelf.Strings.Search1
import Derived.Shelf.Strings.Search2
import Derived.Shelf.Strings.Search3
import Derived.Shelf.Strings.Cut
import Derived.Shelf.Strings.Count
import Derived.Shelf.Strings.Shaped
import Derived.Shelf.Strings.Split
import Derived.Shelf.Strings.SplitShaped
import Derived.Shelf.Unicode.Decode
import Derived.Shelf.Strings.Runes
import Derived.Shelf.Strings.RuneCount
import Derived.Shelf.Strings.AsciiSet
import Derived.Shelf.Strings.Explode
import Derived.Shelf.Unicode.DecodeSlow
import Derived.Shelf.Unicode.DecodeAny
import Derived.Shelf.Unicode.DecodeLast
import Derived.Test.YtboghagbiokafaaGreatDoorProg
import Derived.Lib.Split
import Derived.Shelf.Strings.SlTrimAscii
set_option linter.unusedSimpArgs false
set_option linter.unusedVariables false
set_option linter.unusedSectionVars false
set_option linter.defProp false
section
namespace Go.Am
open Go
variable [Tabs]
def EK (k:Nat) (xs:List AV):Prop:=∀(i:Nat) (a:AV),xs[i]? =some a→a.cells.length=k∧bU a.cells=true∧fz a.cells=true∧aS a.cells=true
theorem EK.ml {α:Type} {f:α→AV} {k:Nat} (h:∀x,(f x).cells.length=k∧bU (f x).cells=true∧fz (f x).cells=true∧aS (f x).cells=true) (l:List α):EK k (ml f l):=by
 intro i a hi
 simp only [Am.ml,List.getElem?_map,Option.map_eq_some_iff] at hi
 obtain ⟨x, -,rfl⟩:=hi
 exact h x
def fla (xs:List AV):List AV:=(xs.map fun a=>a.cells.map AV.s1).flatten
theorem kJ (a:AV) (xs:List AV):fla (a::xs)=a.cells.map AV.s1++fla xs:=rfl
theorem I5 (xs ys:List AV):fla (xs++ys)=fla xs++fla ys:=by simp [fla]
theorem EK.tail {k:Nat} {a:AV} {xs:List AV} (h:EK k (a::xs)):EK k xs:=fun i b hb=>h (i+1) b (by simpa using hb)
theorem k9 {k:Nat}:∀ {xs:List AV},EK k xs→(fla xs).length=xs.length*k:=by
 intro xs
 induction xs with
 |nil=>intro _;simp [fla]
 |cons a r ih=>intro h;rw [kJ,List.length_append,List.length_map,ih h.tail,(h 0 a rfl).1,List.length_cons,Nat.succ_mul];omega
theorem I6 {k:Nat}:∀ {xs:List AV},EK k xs→∀(i j:Nat) (a:AV),xs[i]? =some a→j<k→(fla xs)[i*k+j]? =(a.cells.map AV.s1)[j]? :=by
 intro xs
 induction xs with
 |nil=>intro _ i j a h;simp at h
 |cons y r ih=>
  intro h i j a hi hj
  have hy:=(h 0 y rfl).1
  rw [kJ]
  cases i with
  |zero=>
   simp at hi;subst hi
   rw [List.getElem?_append_left (by simp;omega)];simp
  |succ i=>
   rw [List.getElem?_append_right (by simp only [List.length_map,hy,Nat.succ_mul];omega)]
   rw [show (i+1)*k+j - (y.cells.map AV.s1).length=i*k+j by simp only [List.length_map,hy,Nat.succ_mul];omega]
   exact ih h.tail i j a (by simpa using hi) hj
theorem Tc {k:Nat}:∀ {xs:List AV},EK k xs→∀(i j:Nat) (a a' w:AV),xs[i]? =some a→j<k→a'.cells.map AV.s1=(a.cells.map AV.s1).set j w→fla (xs.set i a')=(fla xs).set (i*k+j) w:=by
 intro xs
 induction xs with
 |nil=>intro _ i j a a' w h;simp at h
 |cons y r ih=>
  intro h i j a a' w hi hj hw
  have hy:=(h 0 y rfl).1
  cases i with
  |zero=>
   simp at hi;subst hi
   rw [List.set_cons_zero,kJ,kJ,hw,List.set_append_left _ _ (by simp;omega)];simp
  |succ i=>
   rw [List.set_cons_succ,kJ,kJ,ih h.tail i j a a' w (by simpa using hi) hj hw,List.set_append_right _ _ (by simp only [List.length_map,hy,Nat.succ_mul];omega)]
   rw [show (i+1)*k+j - (y.cells.map AV.s1).length=i*k+j by simp only [List.length_map,hy,Nat.succ_mul];omega]
theorem Ze (a:AV):a.s1.s1=a.s1:=by cases a<;>rfl
theorem V4 (xs:List AV):(fla xs).map AV.s1=fla xs:=by
 unfold fla
 rw [List.map_flatten,List.map_map]
 congr 1
 apply List.map_congr_left
 intro a _
 simp [List.map_map,Function.comp_def,Ze]
theorem CM {k:Nat}:∀ {xs:List AV},EK k xs→∀(q:Nat) (a:AV),(fla xs)[q]? =some a→a.flat=true∧a.np=true∧a.gT=true:=by
 intro xs
 induction xs with
 |nil=>intro _ q a h;simp [fla] at h
 |cons y r ih=>
  intro h q a hq
  rw [kJ] at hq
  by_cases hlt:q<(y.cells.map AV.s1).length
  · rw [List.getElem?_append_left hlt,List.getElem?_map,Option.map_eq_some_iff] at hq
    obtain ⟨z,hz,rfl⟩:=hq
    have h1:=iu (h 0 y rfl).2.2.2 hz
    have h2:=tw (h 0 y rfl).2.2.1 hz
    have h3:z.gT=true:=by
     have:=(h 0 y rfl).2.1
     generalize y.cells=l at this hz
     clear hlt
     induction l generalizing q with
     |nil=>simp at hz
     |cons b l ihl=>
      simp only [bU,Bool.and_eq_true] at this
      cases q with
      |zero=>simp at hz;subst hz;exact this.1
      |succ q=>exact ihl q this.2 (by simpa using hz)
    cases z<;>simp_all [AV.s1,AV.flat,AV.np,AV.gT]
  · rw [List.getElem?_append_right (by omega)] at hq
    exact ih h.tail _ a hq
theorem I7 {l:List AV} (h:∀(q:Nat) (a:AV),l[q]? =some a→a.flat=true):aS l=true:=by
 induction l with
 |nil=>rfl
 |cons a r ih=>simp only [aS,Bool.and_eq_true];exact ⟨h 0 a rfl,ih fun q b hb=>h (q+1) b (by simpa using hb)⟩
theorem jM (k:Nat) (xs:List AV) (c:Nat):js k xs c=fla xs++List.replicate ((c - xs.length)*k) .un:=rfl
theorem zd {k c:Nat} {xs:List AV} (h:EK k xs) (hc:xs.length≤c):(js k xs c).length=c*k:=by
 rw [jM,List.length_append,k9 h,List.length_replicate, ←Nat.add_mul];congr 1;omega
theorem Ak {k c:Nat} {xs:List AV} (h:EK k xs):(js k xs c).take (xs.length*k)=fla xs:=by
 rw [jM,List.take_append_of_le_length (by rw [k9 h];exact Nat.le_refl _),List.take_of_length_le (by rw [k9 h];exact Nat.le_refl _)]
theorem Td {k c i j:Nat} {xs:List AV} {a:AV} (h:EK k xs) (hi:xs[i]? =some a) (hj:j<k):(js k xs c)[i*k+j]? =(a.cells.map AV.s1)[j]? :=by
 have hlt:i<xs.length:=(List.getElem?_eq_some_iff.1 hi).1
 have:(i+1)*k≤xs.length*k:=Nat.mul_le_mul_right _ hlt
 rw [Nat.succ_mul] at this
 rw [jM,List.getElem?_append_left (by rw [k9 h];omega),I6 h i j a hi hj]
theorem P0 {k c i j:Nat} {xs:List AV} {a a' w:AV} (h:EK k xs) (hi:xs[i]? =some a) (hj:j<k) (hw:a'.cells.map AV.s1=(a.cells.map AV.s1).set j w):
 over (js k xs c) (i*k+j) [w]=some (js k (xs.set i a') c):=by
 have hlt:i<xs.length:=(List.getElem?_eq_some_iff.1 hi).1
 have hm:(i+1)*k≤xs.length*k:=Nat.mul_le_mul_right _ hlt
 rw [Nat.succ_mul] at hm
 have hl:=k9 h
 unfold over
 rw [if_pos (by rw [jM,List.length_append,hl,List.length_singleton];omega)]
 congr 1
 rw [jM k (xs.set i a'),List.length_set,Tc h i j a a' w hi hj hw,jM]
 rw [←List.set_append_left _ _ (by rw [hl];omega)]
 rw [List.set_eq_take_append_cons_drop,if_pos (by rw [List.length_append,hl];omega)]
 simp
def GF (k n0 q:Nat) (xs:List AV) (c:Nat) (ah:AH):Prop:=
 (c=0∧xs=[])∨(n0≤q∧0<c∧xs.length≤c∧ah[q]? =some (js k xs c))
theorem GF.lt {k n0 q c:Nat} {xs:List AV} {ah:AH} (h:GF k n0 q xs c ah) (hc:0<c):q<ah.length∧n0≤q:=by
 rcases h with ⟨h, -⟩|⟨h1, -, -,h2⟩
 · omega
 · exact ⟨(List.getElem?_eq_some_iff.1 h2).1,h1⟩
theorem GF.nil {k n0 q:Nat} {ah:AH}:GF k n0 q [] 0 ah:= .inl ⟨rfl,rfl⟩
theorem GF.at {k n0 q c i:Nat} {xs:List AV} {ah:AH} {a:AV} (h:GF k n0 q xs c ah) (hi:xs[i]? =some a):n0≤q∧ah[q]? =some (js k xs c):=by
 rcases h with ⟨-,rfl⟩|⟨h1, -, -,h2⟩
 · simp at hi
 · exact ⟨h1,h2⟩
theorem GF.of {k n0 q c:Nat} {xs:List AV} {ah aE:AH} (h:GF k n0 q xs c ah) (he:q<ah.length→n0≤q→aE[q]? =ah[q]?):GF k n0 q xs c aE:=by
 rcases h with h|⟨h1,h2,h3,h4⟩
 · exact .inl h
 · exact .inr ⟨h1,h2,h3,by rw [he (List.getElem?_eq_some_iff.1 h4).1 h1];exact h4⟩
theorem GF.set {k n0 q c i:Nat} {xs:List AV} {ah:AH} {a a':AV} (h:GF k n0 q xs c ah) (hi:xs[i]? =some a):GF k n0 q (xs.set i a') c (ah.set q (js k (xs.set i a') c)):=by
 rcases h with ⟨-,rfl⟩|⟨h1,h2,h3,h4⟩
 · simp at hi
 · exact .inr ⟨h1,h2,by simpa using h3,List.getElem?_set_self (List.getElem?_eq_some_iff.1 h4).1⟩
section
variable {P:Program} {L:List Nat} {N n0:Nat} {e:Env} {ah:AH} {t:List It} {Q:Exit→Env→AH→Prop} {r:List aL} {d:Option Nat} {g:Option (Nat×Bool)}
theorem Te {α:Type} {f:α→AV} {k b q c n1:Nat} {x y:Ar} {tg:Tg} {X Y Z:List α} {ys:List AV} (hf:∀x,(f x).cells.length=k∧bU (f x).cells=true∧fz (f x).cells=true∧aS (f x).cells=true)
 (hk0:0<k) (hx:ev e x= .ck q k X.length c) (hy:ev e y= .sl tg k ys) (hys:ys=ml f Y) (hY:Y≠[]) (hz:eN b X Y=some Z) (hG:GF k n1 q (ml f X) c ah) (hn:n1≤ah.length)
 (hK:∀q' c' aE,GF k n1 q' (ml f Z) c' aE→(∀s,s<ah.length→s<n1∨(0<c→s≠q)→aE[s]? =ah[s]?)→ah.length≤aE.length→(q'=q∨ah.length≤q')→
  U P L N n0 (.ops r::t) Q .normal (aG L e d (.ck q' k Z.length c')) aE):
 UG P L N n0 ⟨d, .kB k b x y,g⟩ r t Q e ah (some true):=by
 subst hys
 obtain ⟨hc,hZ⟩:=FT hz
 injection hZ with hZ
 subst hZ
 have eX:=EK.ml hf X
 have eY:=EK.ml hf Y
 have eXY:EK k (ml f (X++Y)):=EK.ml hf _
 have hap:ml f (X++Y)=ml f X++ml f Y:=by simp [ml]
 have lX:(ml f X).length=X.length:=by simp [ml]
 have lY:(ml f Y).length=Y.length:=by simp [ml]
 have hyp:0<Y.length:=List.length_pos_iff.2 hY
 show nW L d k b x y e ah fun e ah=>U P L N n0 (.ops r::t) Q .normal e ah
 unfold nW
 rw [hx,hy]
 refine ⟨rfl,rfl,by simpa [ml] using hY,by rw [lY];exact hc.1,by rw [lY];exact hc.2, ?_⟩
 have lXY:(X++Y).length=X.length+Y.length:=List.length_append
 rcases hG with ⟨rfl,hX⟩|⟨h1,h2,h3,h4⟩
 · have hX:X=[]:=by simpa [ml] using hX
   subst hX
   refine .inl ⟨rfl,rfl,fun c' bV=> ?_⟩
   rw [lY] at bV ⊢
   have:=hK ah.length c' (ah++[js k (ml f Y) c']) (.inr ⟨hn,by omega,by simpa [ml] using bV,by simp⟩) (fun s hs _=>List.getElem?_append_left hs) (by simp) (.inr (Nat.le_refl _))
   simpa using this
 · rw [lX] at h3
   have hlt:=(List.getElem?_eq_some_iff.1 h4).1
   refine .inr ⟨_,h4,fun h0=> ?_,zd eX (by rw [lX];exact h3),h3, ?_,fun hr=> ?_,fun hr c' bV=> ?_⟩
   · have:=zd eX (c:=c) (by rw [lX];exact h3)
     rw [h0] at this
     have h5:=Nat.mul_pos h2 hk0
     simp at this
     omega
   · rw [←lX,Ak eX];exact I7 fun q a hq=>(CM eX q a hq).1
   · rw [lY] at hr ⊢
     have e1:(js k (ml f X) c).take (X.length*k)++((ml f Y).map fun a=>a.cells.map AV.s1).flatten++(js k (ml f X) c).drop ((X.length+Y.length)*k)=js k (ml f (X++Y)) c:=by
      have t1:=Ak (c:=c) eX
      rw [lX] at t1
      rw [t1,jM k (ml f (X++Y)),hap,I5]
      show fla (ml f X)++fla (ml f Y)++_=_
      congr 1
      rw [jM,List.drop_append,List.drop_of_length_le (by rw [k9 eX,lX];exact Nat.mul_le_mul_right _ (by omega)),List.nil_append,List.drop_replicate]
      congr 1
      rw [k9 eX,List.length_append,lX,lY, ←Nat.sub_mul, ←Nat.sub_mul]
      congr 1
      omega
     rw [e1]
     have:=hK q c (ah.set q (js k (ml f (X++Y)) c)) (.inr ⟨h1,h2,by simpa [ml] using hr,List.getElem?_set_self hlt⟩) (fun s hs hq=>List.getElem?_set_ne (hq.elim (fun h=>by omega) (fun h=>Ne.symm (h h2)))) (by simp) (.inl rfl)
     rw [lXY] at this
     exact this
   · rw [lY] at bV hr ⊢
     have e1:((js k (ml f X) c).take (X.length*k)).map AV.s1++js k (ml f Y) (c' - X.length)=js k (ml f (X++Y)) c':=by
      have t1:=Ak (c:=c) eX
      rw [lX] at t1
      rw [t1,V4,jM,jM,hap,I5,List.append_assoc]
      congr 3
      rw [List.length_append,lX,lY];congr 1;omega
     rw [e1]
     have:=hK ah.length c' (ah++[js k (ml f (X++Y)) c']) (.inr ⟨hn,by omega,by simpa [ml] using bV,by simp⟩) (fun s hs _=>List.getElem?_append_left hs) (by simp) (.inr (Nat.le_refl _))
     rw [lXY] at this
     exact this
theorem Zf {q k n c:Nat}:M4 L e ah d (.ck q k n c)=some (aG L e d (.int .i64 n),ah):=rfl
theorem abj {q k n c:Nat} {ki:IntKind} {i:Int}:y9 L e ah d k (.ck q k n c) (.int ki i)=(Aj n i).map fun j=>(aG L e d (.ptr q (j*k)),ah):=by
 simp only [y9,Aj,and_true]
 split<;>simp
theorem Zg {k m s p:Nat} {ki:IntKind} {i:Int}:HX L e ah d k m (.ptr s p) (.int ki i)=(Aj m i).map fun j=>(aG L e d (.ptr s (p+j*k)),ah):=by
 simp only [HX,Aj]
 split<;>simp
theorem Zh {k m p:Nat} {a:AV} {ki:IntKind} {i:Int}:HX L e ah d k m (.ep a p) (.int ki i)=(Aj m i).map fun j=>(aG L e d (.ep a (p+j*k)),ah):=by
 simp only [HX,Aj]
 split<;>simp
theorem Zi {k:Nat}:HY L e ah d k (.sl .ex k [])=some (aG L e d (.ck 0 k 0 0),ah):=by simp [HY]
theorem Zj {s k n c j:Nat}:HY L e ah d j (.ck s k n c)=some (aG L e d (.ck s k n c),ah):=rfl
theorem Zk {u k j:Nat} {xs:List AV}:HY L e ah d j (.sl (.fr (.tmp u)) k xs)=MU L e ah d u k xs (Am.get e u):=rfl
theorem V5 {u k:Nat} {xs zs:List AV}:MU L e ah d u k xs (.sl .own k zs)=some (aG L (put e u (.sl .n k zs)) d (.sl .own k xs),ah):=by simp [MU]
end
theorem Wx.acP {s k n m c:Nat} (h:n=m):Wx (.ck s k n c) (.ck s k m c):=by subst h;exact .same (by simp)
theorem Wx.ck {s k n c:Nat}:Wx (.ck s k n c) (.ck s k n c):= .same (by simp)
def WG:=And.intro @Zk<|And.intro @V5<|And.intro @Vq<|And.intro @Vr<|And.intro @Vs<|And.intro @Vt<|And.intro @Vu<|And.intro @Vv<|And.intro @Vw<|And.intro @Vx<|And.intro @Vy<|And.intro @Vz<|And.intro @VA<|And.intro @VB<|And.intro @VC<|And.intro @VD<|And.intro @VE<|And.intro @VF<|And.intro @RZ<|And.intro @R0<|And.intro @R1<|And.intro @R2<|And.intro @Zf<|And.intro @abj<|And.intro @Zg<|And.intro @Zh<|And.intro @Zi<|And.intro @Zj<|And.intro @Ya<|And.intro @Yb<|And.intro @Nat.add_zero<|And.intro @Nat.zero_add @Nat.mul_one
section
variable {P:Program} {L:List Nat} {N n0:Nat} {F:Nat→Prop} {γ:List Nat} {C:Nat→List Value} {e e':Env} {ah:AH} {ts:Array Value} {w:World} {Q K:Exit→Env→AH→Prop}
theorem VR.one' {x:AV} {u:Value} (hx:VR C γ x u) (hk:x.gT=true):u.oneCell'=true:=by
 cases hx<;>first|rfl|cases hk|skip
 rename_i hs
 cases u<;>first|rfl|cases hs
theorem SR.Xe (h:SR L N F γ C e ah ts w) {s k n1 c:Nat} {xs:List AV} (hkp:0<k) (hk:EK k xs) (hG:GF k n1 s xs c ah)
 (he:∀t,get e' t=get e t∨(get e t= .ck s k xs.length c∧get e' t= .sl .n k xs)):∃C',SR L N F γ C' e' (if c=0 then ah else ah.set s []) ts w∧Ext F C w C' w:=by
 rcases hG with ⟨rfl,rfl⟩|⟨-,hc0,hcl,hs⟩
 · refine ⟨C, ?_,Ext.refl ..⟩
   rw [if_pos rfl]
   have hbk:∀p b,blk γ e' ah ts w p b→blk γ e ah ts w p b:=by
    intro p b hp
    cases p with
    |tmp t=>
     simp only [blk] at hp ⊢
     rcases he t with h1|⟨h1,h2⟩
     · rwa [h1] at hp
     · rw [h2] at hp;simp [bO] at hp
    |obj s=>exact hp
    |cell s i=>exact hp
   refine ⟨h.mem,h.sz,fun t=> ?_,fun p q b hp hq=>h.dU p q b (hbk p b hp) (hbk q b hq),fun p b hp=>h.nf p b (hbk p b hp),h.jF,fun t l k' xs' ht=> ?_⟩
   · rcases he t with h1|⟨h1,h2⟩
     · rw [h1];exact h.env t
     · rw [h2]
       have hv:=(h.env t).1
       rw [h1] at hv
       obtain ⟨a,hv, -⟩:=hv.u6
       rw [hv]
       exact ⟨.rE ..,by simp [TC]⟩
   · rcases he t with h1|⟨h1,h2⟩
     · rw [h1] at ht
       have hf:=h.fr t l k' xs' ht
       cases l with
       |tmp u=>
        refine ⟨hf.1,fun hu=>hf.2 ?_⟩
        rcases he u with g1|⟨g1,g2⟩
        · rwa [g1] at hu
        · rw [g2] at hu;cases hu
       |cell s' o=>exact hf
     · rw [h2] at ht;cases ht
 rw [if_neg (by omega)]
 have hlt:s<γ.length:=by rw [h.mem.len];exact (List.getElem?_eq_some_iff.1 hs).1
 obtain ⟨b,hb⟩:∃b,γ[s]? =some b:=⟨_,List.getElem?_eq_getElem hlt⟩
 obtain ⟨vs,ty,hh,hsz,hcell⟩:=h.mem.obj s b _ hs hb
 have yV:blk γ e ah ts w (.obj s) b:=hb
 have hk0:js k xs c≠[]:=by
  intro h0
  have:=zd (c:=c) hk hcl
  rw [h0] at this
  have h5:=Nat.mul_pos hc0 hkp
  simp at this
  omega
 have HB:=h.mem.ua s b _ hs hk0 hb
 refine ⟨fun x=>if x=b then vs.toList.take (xs.length*k) else C x, ?_⟩
 generalize xm:(fun x=>if x=b then vs.toList.take (xs.length*k) else C x)=C'
 have c0:C' b=vs.toList.take (xs.length*k):=by rw [←xm];simp
 have c1:∀x,x≠b→C' x=C x:=fun x hx=>by rw [←xm];simp [hx]
 have hgl:=zd (c:=c) hk hcl
 have hmul:xs.length*k≤c*k:=Nat.mul_le_mul_right _ hcl
 have hvl:(C' b).length=xs.length*k:=by rw [c0,List.length_take,show vs.toList.length=vs.size from Array.length_toList];omega
 have hpre:∀x,C x <+: C' x:=by
  intro x
  by_cases hx:x=b
  · subst hx;rw [HB];exact List.nil_prefix
  · rw [c1 x hx];exact List.prefix_refl _
 have hset:∀(s':Nat),s'≠s→(ah.set s [])[s']? =ah[s']? :=fun s' hn=>List.getElem?_set_ne (Ne.symm hn)
 have gV:(ah.set s [])[s]? =some []:=List.getElem?_set_self (by rw [←h.mem.len];exact hlt)
 have xo:∀(s':Nat),γ[s']? =some b→s'=s:=fun s' hs'=>by
  have:=h.dU (.obj s') (.obj s) b hs' hb;injection this
 have hbk:∀p x,blk γ e' (ah.set s []) ts w p x→blk γ e ah ts w p x:=by
  intro p x hp
  cases p with
  |obj s'=>exact hp
  |cell s' i=>
   obtain ⟨ds,a,b0,h1,h2,h3,h4⟩:=hp
   by_cases hn:s'=s
   · subst hn;rw [gV] at h1;injection h1 with h1;subst h1;simp at h2
   · rw [hset s' hn] at h1;exact ⟨ds,a,b0,h1,h2,h3,h4⟩
  |tmp t=>
   simp only [blk] at hp ⊢
   rcases he t with h1|⟨h1,h2⟩
   · rwa [h1] at hp
   · rw [h2] at hp;simp [bO] at hp
 have nZ:∀(a:AV) (v:Value),TC w C a v→(∀x,bO a v=some x→x≠b)→TC w C' a v:=fun a v ht hn=>ht.mono fun x hx=>⟨rfl,c1 x (hn x hx)⟩
 refine ⟨⟨⟨by simp [h.mem.len],fun s' x ds h1 h2=> ?_,fun x hx=> ?_,fun s' x ds h1 h0 h2=> ?_,fun s' x ds us ty' fr h1 h2 h3=> ?_⟩,h.sz,fun t=> ?_,fun p q x hp hq=>h.dU p q x (hbk p x hp) (hbk q x hq),fun p x hp=>h.nf p x (hbk p x hp),h.jF,fun t l k xs ht=> ?_⟩,
  ⟨hpre,fun x hx=>⟨rfl,c1 x (fun e=>h.nf _ _ yV (e▸hx))⟩,Nat.le_refl _,rfl,rfl,rfl⟩⟩
 · by_cases hn:s'=s
   · subst hn
     rw [gV] at h1;injection h1 with h1;subst h1
     rw [hb] at h2;injection h2 with h2;subst h2
     exact ⟨vs,ty,hh,by simp,by simp⟩
   · rw [hset s' hn] at h1
     obtain ⟨us,ty',g1,g2,g3⟩:=h.mem.obj s' x ds h1 h2
     refine ⟨us,ty',g1,g2,fun i a hi=>⟨(g3 i a hi).1.mono hpre _ (fun _ _ h=>h),nZ _ _ (g3 i a hi).2 fun y hy e=> ?_⟩⟩
     subst e
     obtain ⟨v,hv, -, -⟩:=cellAt h.mem h1 hi h2
     have J8:v=us.getD i undef:=by
      have hlt:i<us.size:=Nat.lt_of_lt_of_le (List.getElem?_eq_some_iff.1 hi).1 g2
      rw [dm g1,Array.getElem?_eq_getElem hlt] at hv
      simp [Array.getD_eq_getD_getElem?,Array.getElem?_eq_getElem hlt,Option.some.inj hv]
     have:blk γ e ah ts w (.cell s' i) y:=⟨ds,a,x,h1,hi,h2,by rw [hv,J8];exact hy⟩
     have:=h.dU _ _ _ this yV
     cases this
 · by_cases Tb:x=b
   · subst Tb;exact ⟨vs,ty.1,ty.2,hh,by rw [c0];exact List.take_prefix _ _⟩
   · rw [c1 x Tb] at hx ⊢;exact h.mem.u7 x hx
 · have hn:s'≠s:=by
    rintro rfl
    rw [gV] at h1;injection h1 with h1;exact h0 h1.symm
   rw [hset s' hn] at h1
   rw [c1 x (fun e=>hn (xo s' (e▸h2)))]
   exact h.mem.ua s' x ds h1 h0 h2
 · by_cases hn:s'=s
   · subst hn
     rw [gV] at h1;injection h1 with h1;subst h1
     intro i hi;simp at hi
   · rw [hset s' hn] at h1
     exact h.mem.Cj s' x ds us ty' fr h1 h2 h3
 · rcases he t with h1|⟨h1,h2⟩
   · rw [h1]
     refine ⟨(h.env t).1.mono hpre _ (fun _ _ h=>h),nZ _ _ (h.env t).2 fun y hy e=> ?_⟩
     subst e
     have:=h.dU (.tmp t) (.obj s) y hy yV
     cases this
   · have hv:=(h.env t).1
     rw [h1] at hv
     obtain ⟨ad,hv,hnc,hcase⟩:=hv.u6
     have hcase:ad=some ⟨b,0,none⟩:=by
      rcases hcase with ⟨-,h0⟩|⟨b',hb',e⟩
      · omega
      · rw [hb] at hb';injection hb' with hb';subst hb';exact e
     subst hcase
     rw [h2,hv]
     have hval:∀q,q<xs.length*k→(C' b).getD q undef=vs.getD q undef:=by
      intro q hq
      rw [c0]
      simp [List.getD_eq_getElem?_getD,Array.getD_eq_getD_getElem?,List.getElem?_take_of_lt hq]
     have mZ:∀q a,(fla xs)[q]? =some a→VR C γ a (vs.getD q undef):=by
      intro q a hq
      refine (hcell q a ?_).1
      rw [jM,List.getElem?_append_left (List.getElem?_eq_some_iff.1 hq).1];exact hq
     have hfl:=k9 hk
     refine ⟨.sl _ _ _ _ _ _ _ _ rfl hnc (fun i a hi=>(hk i a hi).1) (by omega) (fun q _ hq=> ?_) (fun i a hi j y hj=> ?_),by simp [TC]⟩
     · rw [Nat.zero_add] at hq
       rw [hval q hq]
       have Q8:(fla xs)[q]? =some ((fla xs)[q]'(by omega)):=List.getElem?_eq_getElem (by omega)
       have h3:=mZ q _ Q8
       have h4:=(CM hk q _ Q8).2.2
       exact VR.one' h3 h4
     · have hlt':i<xs.length:=(List.getElem?_eq_some_iff.1 hi).1
       have QF:j<k:=by rw [←(hk i a hi).1];exact (List.getElem?_eq_some_iff.1 hj).1
       have hm:(i+1)*k≤xs.length*k:=Nat.mul_le_mul_right _ hlt'
       rw [Nat.succ_mul] at hm
       rw [Nat.zero_add,hval _ (by omega)]
       have hg:=I6 hk i j a hi QF
       rw [List.getElem?_map,hj] at hg
       have h3:=mZ _ _ hg
       have hnp:=tw (hk i a hi).2.2.1 hj
       have h4:VR C [] y.s1 (vs.getD (i*k+j) undef):=h3.np (CM hk _ _ hg).2.1
       have h5:VR C' [] y.s1 (vs.getD (i*k+j) undef):=h4.mono hpre [] (fun _ _ h=>h)
       cases y with
       |sl t k xs=>exact h5.iT _
       |_=>exact h5
 · rcases he t with h1|⟨h1,h2⟩
   · have hf:=h.fr t l k xs (by rw [←h1];exact ht)
     cases l with
     |tmp u=>
      refine ⟨hf.1,fun hu=>hf.2 ?_⟩
      rcases he u with g1|⟨g1,g2⟩
      · rwa [g1] at hu
      · rw [g2] at hu;cases hu
     |cell s' o=>
      intro ds a x g1 g2 g3 g4
      by_cases hn:s'=s
      · subst hn;rw [gV] at g1;injection g1 with g1;subst g1;simp at g2
      · rw [hset s' hn] at g1;exact hf ds a x g1 g2 g3 g4
   · rw [h2] at ht;cases ht
end
end Go.Am
namespace Go.Am
open Go
variable [Tabs]
section
variable {P:Program} {L:List Nat} {N n0:Nat} {e e':Env} {ah:AH} {K:Exit→Env→AH→Prop}
inductive FG (s k c:Nat) (xs:List AV):Env→Env→Prop
 |nil:FG s k c xs [] []
 |same (i:Nat) (a:AV) (r r':Env):FG s k c xs r r'→FG s k c xs ((i,a)::r) ((i,a)::r')
 |lay (i n:Nat) (r r':Env):n=xs.length→FG s k c xs r r'→FG s k c xs ((i, .ck s k n c)::r) ((i, .sl .n k xs)::r')
theorem FG.get {s k c:Nat} {xs:List AV} {e e':Env} (h:FG s k c xs e e') (t:Nat):Am.get e' t=Am.get e t∨(Am.get e t= .ck s k xs.length c∧Am.get e' t= .sl .n k xs):=by
 induction h with
 |nil=>exact .inl rfl
 |same i a r r' _ ih=>
  simp only [Am.get]
  by_cases hi:i=t
  · simp [hi]
  · simpa [hi] using ih
 |lay i n r r' hn _ ih=>
  simp only [Am.get]
  by_cases hi:i=t
  · exact .inr ⟨by simp [hi,hn],by simp [hi]⟩
  · simpa [hi] using ih
theorem AX.Xe {c0:av} {s k n1 c:Nat} {xs:List AV} (hkp:0<k) (hk:EK k xs) (hG:GF k n1 s xs c ah) (he:FG s k c xs e e')
 (h:∀H',(∀s',s'<n1∨(0<c→s'≠s)→H'[s']? =ah[s']?)→H'.length=ah.length→AX P L N n0 c0 K e' H'):AX P L N n0 c0 K e ah:=by
 intro c' bV F γ C ts w jK hn
 obtain ⟨C',h1,h2⟩:=jK.Xe hkp hk hG he.get
 have hsame:∀s',s'<n1∨(0<c→s'≠s)→(if c=0 then ah else ah.set s [])[s']? =ah[s']? :=by
  intro s' hs'
  rcases hG with ⟨rfl, -⟩|⟨g1,g2, -, -⟩
  · rw [if_pos rfl]
  · rw [if_neg (by omega),List.getElem?_set_ne]
    rcases hs' with h|h
    · omega
    · exact Ne.symm (h g2)
 refine wp_mono (h _ hsame (by split<;>simp) c' bV F γ C' ts w h1 hn) ?_
 rintro x a w' ⟨q1,q2,e2,si,γ2,C2,q3,q4,q5,q6⟩
 exact ⟨q1,q2,e2,si,γ2,C2,q3,q4,q5,h2.trans q6⟩
end
end Go.Am
namespace Go.Am
open Go
variable [Tabs]
def EF {α:Type} (k:Nat) (f:α→AV):Prop:=∀x,(f x).cells.length=k∧bU (f x).cells=true∧fz (f x).cells=true∧aS (f x).cells=true
section
variable {α:Type} {f:α→AV} {k c j o n q:Nat} {X:List α} {x x':α} {w:AV} {ah:AH}
theorem ze (h:X[j]? =some x):(ml f X)[j]? =some (f x):=by simp [ml,h]
theorem M7:(ml f X).set j (f x')=ml f (X.set j x'):=by simp [ml,List.map_set]
theorem P1 (he:EF k f) (h:X[j]? =some x) (ho:o<k):(js k (ml f X) c)[j*k+o]? =((f x).cells.map AV.s1)[o]? :=Td (EK.ml he X) (ze h) ho
theorem Zl (he:EF k f) (h:X[j]? =some x) (ho:0<k):(js k (ml f X) c)[j*k]? =((f x).cells.map AV.s1)[0]? :=P1 (o:=0) he h ho
theorem L3 (he:EF k f) (h:X[j]? =some x) (ho:o<k) (hw:(f x').cells.map AV.s1=((f x).cells.map AV.s1).set o w):over (js k (ml f X) c) (j*k+o) [w]=some (js k (ml f (X.set j x')) c):=by
 rw [P0 (EK.ml he X) (ze h) ho hw,M7]
theorem Xf (he:EF k f) (h:X[j]? =some x) (ho:0<k) (hw:(f x').cells.map AV.s1=((f x).cells.map AV.s1).set 0 w):over (js k (ml f X) c) (j*k) [w]=some (js k (ml f (X.set j x')) c):=L3 (o:=0) he h ho hw
theorem GF.acQ (h:GF k n q (ml f X) c ah) (hj:X[j]? =some x):GF k n q (ml f (X.set j x')) c (ah.set q (js k (ml f (X.set j x')) c)):=by
 have:=h.set (a':=f x') (ze hj)
 rwa [M7] at this
theorem GF.atM (h:GF k n q (ml f X) c ah) (hj:X[j]? =some x):ah[q]? =some (js k (ml f X) c):=(h.at (ze hj)).2
theorem GF.geM (h:GF k n q (ml f X) c ah) (hj:X[j]? =some x):n≤q:=(h.at (ze hj)).1
end
theorem Fr.grow {H0 H H':AH} {S:List Nat} {n q c:Nat} (h:Fr H0 n S H) (hs:∀s,s<H.length→s<n∨(0<c→s≠q)→H'[s]? =H[s]?) (hl:H.length≤H'.length):Fr H0 n S H':=
 ⟨Nat.le_trans h.le hl,fun j hj CL=>(hs j (Nat.lt_of_lt_of_le hj h.le) (.inl hj)).trans (h.eq j hj CL)⟩
theorem Fr.lay {H0 H H':AH} {S:List Nat} {n q c:Nat} (h:Fr H0 n S H) (hs:∀s,s<n∨(0<c→s≠q)→H'[s]? =H[s]?) (hl:H'.length=H.length):Fr H0 n S H':=
 ⟨by rw [hl];exact h.le,fun j hj CL=>(hs j (.inl hj)).trans (h.eq j hj CL)⟩
end Go.Am
end
section
namespace Go.Am
open Go
variable [Tabs]
theorem abk {e:Env} {n:Nat}:ev e (.t n)=Am.get e n:=rfl
theorem abl {e:Env} {a:AV}:ev e (.c a)=a:=rfl
theorem Tf {e:Env} {n:Int}:bI e n none= .int .i64 n:=rfl
theorem Th {e:Env} {n:Int} {x:Ar}:bI e n (some x)=ev e x:=rfl
def WU:=And.intro @XP<|And.intro @UZ<|And.intro @XQ<|And.intro @U0<|And.intro @XR<|And.intro @XS<|And.intro @aao<|And.intro @U1<|And.intro @XT<|And.intro @U2<|And.intro @U3<|And.intro @Rr<|And.intro @Rs<|And.intro @Rt<|And.intro @NP<|And.intro @NQ<|And.intro @Kk<|And.intro @XU<|And.intro @Ru<|And.intro @NR<|And.intro @Rv<|And.intro @NS<|And.intro @XV<|And.intro @Va<|And.intro @Vb<|And.intro @NT<|And.intro @Vc<|And.intro @aat<|And.intro @XZ<|And.intro @Vd<|And.intro @Rw<|And.intro @X0<|And.intro @Rx<|And.intro @X1<|And.intro @Yk<|And.intro @X2<|And.intro @X3<|And.intro @M6<|And.intro @aau<|And.intro @S7<|And.intro @Xd<|And.intro @X4<|And.intro @aav<|And.intro @aaw<|And.intro @X5<|And.intro @aax<|And.intro @X6<|And.intro @X7<|And.intro @X8<|And.intro @X9<|And.intro @Vh<|And.intro @Yc<|And.intro @Yd<|And.intro @S6<|And.intro @S4<|And.intro @M5<|And.intro @Yg<|And.intro @Vi<|@Vj
def WV:=And.intro @abk<|And.intro @abl<|And.intro @MX<|And.intro @MY<|And.intro @Vl<|And.intro @Vm<|And.intro @RL<|And.intro @Vn<|And.intro @RM<|And.intro @Vo<|And.intro @RN<|And.intro @Tf<|And.intro @Th<|And.intro @RO<|And.intro @RP<|And.intro @Yl<|And.intro @Ym<|And.intro @RQ<|And.intro @RR<|And.intro @W6<|And.intro @RS<|And.intro @RT<|And.intro @RU<|And.intro @RV<|And.intro @RW<|And.intro @RX<|And.intro @RY<|And.intro @Yn<|And.intro @Yo<|And.intro @Yp<|And.intro @Yq<|And.intro @Yr<|And.intro @Ys<|And.intro @aaE<|And.intro @Yt<|And.intro @Yu<|And.intro @Yv<|And.intro @Yw<|And.intro @Yx<|And.intro @Yy<|And.intro @Yz<|And.intro @YA<|And.intro @aaF<|And.intro @aaG<|And.intro @aaH<|And.intro @aaI<|And.intro @YB<|And.intro @YC<|And.intro @YD<|And.intro @YE<|And.intro @YF<|And.intro @YG<|And.intro @aaJ<|And.intro @aaK<|And.intro @aaL<|And.intro @YH<|And.intro @YI<|And.intro @YJ<|And.intro @Kp<|And.intro @F0<|And.intro @Bh<|And.intro @Q_i<|And.intro @Q_s<|And.intro @Q_b<|And.intro @Q_n<|And.intro @aaN<|And.intro @aaO<|And.intro @aaP<|And.intro @aaQ<|And.intro @M1<|And.intro @YK<|And.intro @YL<|And.intro @YM<|And.intro @MW<|And.intro @FU<|And.intro @H9<|And.intro @FV<|And.intro @YN<|And.intro @za<|And.intro @zb<|And.intro @Ye<|And.intro @Yf<|And.intro @bD<|@bE
theorem AX.Ti {P:Program} {L:List Nat} {N n0:Nat} {K:Exit→Env→AH→Prop} {e:Env} {ah:AH} {m c:av} (hm:erase m=c) (ho:pX N c=true) (h:U P L N n0 [.code m] K .normal e ah):AX P L N n0 c K e ah:=by
 subst hm
 exact fun c' bV=>nS c' m _ e ah bV ho h
theorem Wx.Zm {a b:Bool} (h:a=b):Wx (.bool a) (.bool b):=by subst h;exact Wx.bool
theorem Wx.abm {k:IntKind} {a b:Int} (h:a=b):Wx (.int k a) (.int k b):=by subst h;exact Wx.int
theorem Wx.acR {a b:List UInt8} (h:a=b):Wx (.str a) (.str b):=by subst h;exact Wx.str
theorem fK.acS {ah:AH} {q:Nat} {cs:List AV} (hq:ah[q]? =some cs):fK ah (ah.set q cs):=by
 rw [NX hq];exact fK.refl _
theorem L4 {α:Type} {f:α→AV} {xs:List α} {i:Int} {x:α} (h:idx xs i=some x):idx (ml f xs) i=some (f x):=by rw [MW,h];rfl
theorem acw {α:Type} {f:α→AV} {xs ys:List α} {i j:Int} (h:sub xs i j=some ys):sub (ml f xs) i j=some (ml f ys):=by rw [FU,h];rfl
theorem ab4 {α:Type} {f:α→AV} {xs ys:List α} {i j m:Int} (h:Bi xs i j m=some ys):Bi (ml f xs) i j m=some (ml f ys):=by rw [H9,h];rfl
end Go.Am
namespace Go.Am
open Go
variable [Tabs]
section
variable {P:Program} {L:List Nat} {N n0:Nat} {e:Env} {ah:AH} {t:List It} {Q:Exit→Env→AH→Prop} {r:List aL}
theorem abn {a b:av} {B:Bool} (h:B=true) (hk:U P L N n0 (.code a::t) Q .normal e ah):UC P L N n0 a b t Q e ah (.bool B):=by subst h;exact hk
theorem abo {a b:av} {B:Bool} (h:B=false) (hk:U P L N n0 (.code b::t) Q .normal e ah):UC P L N n0 a b t Q e ah (.bool B):=by subst h;exact hk
theorem acy {o:aL} {B want:Bool} (h:B=want) (hk:UG P L N n0 o r t Q e ah (some true)):UG P L N n0 o r t Q e ah (some (B==want)):=by subst h;simpa using hk
theorem Tj {o:aL} {B want:Bool} (h:B= !want) (hk:U P L N n0 (.ops r::t) Q .normal (n7 e o.d) ah):UG P L N n0 o r t Q e ah (some (B==want)):=by
 subst h;cases want<;>exact hk
theorem acz {o:aL} {B:Bool} (h:B=false) (hk:U P L N n0 (.ops r::t) Q .normal (n7 e o.d) ah):UG P L N n0 o r t Q e ah (some (B==true)):=Tj h hk
theorem acA {o:aL} {B:Bool} (h:B=true) (hk:U P L N n0 (.ops r::t) Q .normal (n7 e o.d) ah):UG P L N n0 o r t Q e ah (some (B==false)):=Tj h hk
end
theorem ab5 (B:Bool):B=true∨B=false:=by cases B<;>simp
theorem bq1:(true==true)=true:=rfl
theorem bq2:(true==false)=false:=rfl
theorem bq3:(false==true)=false:=rfl
theorem bq4:(false==false)=true:=rfl
def WB:=And.intro @bq1<|And.intro @bq2<|And.intro @bq3<|And.intro @bq4<|And.intro @Bool.and_true<|And.intro @Bool.true_and<|And.intro @Bool.and_false<|And.intro @Bool.false_and<|And.intro @Bool.or_true<|And.intro @Bool.true_or<|And.intro @Bool.or_false<|And.intro @Bool.false_or<|And.intro @Bool.not_true<|And.intro @Bool.not_false<|And.intro @decide_true<|And.intro @decide_false<|And.intro @and_true<|And.intro @true_and<|And.intro @and_self<|And.intro @and_false<|And.intro @false_and<|And.intro @Nat.zero_add<|And.intro @Nat.add_zero<|And.intro @Nat.succ_ne_zero<|And.intro @Nat.lt_irrefl<|And.intro @Bool.false_eq_true<|And.intro @List.contains_cons.{0}<|And.intro @List.contains_nil.{0}<|And.intro @List.take_succ_cons.{0}<|And.intro @List.take_zero.{0}<|And.intro @List.drop_succ_cons.{0}<|And.intro @List.drop_zero.{0}<|And.intro @List.length_cons.{0}<|And.intro @List.length_nil.{0}<|And.intro @List.getElem?_cons_zero.{0}<|And.intro @List.getElem?_cons_succ.{0}<|And.intro @List.getElem?_nil.{0}<|And.intro @List.cons_append.{0}<|And.intro @List.nil_append.{0}<|And.intro @List.append_nil.{0}<|And.intro @List.all_cons.{0}<|And.intro @List.all_nil.{0}<|And.intro @List.set_cons_zero.{0}<|And.intro @List.set_cons_succ.{0}<|And.intro @List.isEmpty_cons.{0}<|And.intro @List.isEmpty_nil.{0}<|And.intro @List.map_cons.{0,0}<|And.intro @List.map_nil.{0,0}<|And.intro @Option.map_some.{0,0}<|And.intro @Option.map_none.{0,0}<|@Option.bind_some.{0,0}
end Go.Am
namespace Go.Am
open Go
variable [Tabs]
section
variable {P:Program} {e':Env} {H0 H':AH} {rs:List ResultVar} {vs:List AV} {r':AV} {R:AV→AH→Prop}
theorem aK (hcl:ko H0.length H0) (hr:fJ P e' H0 rs=some vs) (hc:Cl H0.length (fin vs)) (hw:Wx (fin vs) r') (hR:R r' H0):vt P H0 rs R e' H0:=
 ⟨vs,r',H0,hr,hw,hR, .inl ⟨hc,by rw [List.take_length];exact hcl,Nat.le_refl _,by rw [List.take_length];exact fK.refl _⟩⟩
theorem aT (hf:Fr H0 H0.length [] H') (hcl:ko H0.length H0) (hr:fJ P e' H' rs=some vs) (hc:Cl H0.length (fin vs)) (hw:Wx (fin vs) r') (hR:R r' H0):vt P H0 rs R e' H':=
 ⟨vs,r',H0,hr,hw,hR, .inl ⟨hc,by rw [hf.Xa];exact hcl,hf.le,by rw [hf.Xa];exact fK.refl _⟩⟩
theorem abp (hr:fJ P e' H' rs=some vs) (hw:Wx (fin vs) r') {aE:AH} (hh:fK H' aE) (hR:R r' aE):vt P H0 rs R e' H':=
 ⟨vs,r',aE,hr,hw,hR, .inr hh⟩
theorem iX {s:Nat} {c c':List AV} (hf:Fr H0 H0.length [s] H') (hcl:ko H0.length H0) (hr:fJ P e' H' rs=some vs) (hc:Cl H0.length (fin vs)) (hw:Wx (fin vs) r')
 (hs:H'[s]? =some c) (hl:s<H0.length) (Tk:∀a∈c,Cl H0.length a) (Zn:vq c c') (hR:R r' (H0.set s c')):vt P H0 rs R e' H':=by
 refine ⟨vs,r',H0.set s c',hr,hw,hR, .inl ⟨hc,by rw [hf.Xb hs hl];exact hcl.set Tk,hf.le, ?_⟩⟩
 rw [hf.Xb hs hl]
 have:=fK.set (ah:=H0.set s c) (q:=s) (cs':=c') (h_eq hl) Zn
 rwa [List.set_set] at this
theorem fK.trans {a b c:AH} (h1:fK a b) (h2:∀(s:Nat) (cs':List AV),c[s]? =some cs'→∃cs,b[s]? =some cs∧(cs'=cs∨(vq cs cs'∧a[s]? =some cs))) (hl:c.length=b.length):fK a c:=by
 refine ⟨by rw [hl,h1.1],fun s cs' hs=> ?_⟩
 obtain ⟨cs,hb,rfl|⟨hw,ha⟩⟩:=h2 s cs' hs
 · exact h1.2 s _ hb
 · exact ⟨cs,ha, .inr hw⟩
theorem fK.abr {ah:AH} {q q2:Nat} {cs cs' ds ds':List AV} (hne:q≠q2) (hq:ah[q]? =some cs) (hc:vq cs cs') (D5:ah[q2]? =some ds) (hd:vq ds ds'):fK ah ((ah.set q cs').set q2 ds'):=by
 refine fK.trans (fK.set hq hc) (fun s es hs=> ?_) (by simp)
 rw [List.getElem?_set] at hs
 split at hs
 · rename_i h;subst h
   split at hs
   · injection hs with hs;subst hs
     exact ⟨ds,by rw [List.getElem?_set_ne hne];exact D5, .inr ⟨hd,D5⟩⟩
   · cases hs
 · exact ⟨es,hs, .inl rfl⟩
theorem abt {s s2:Nat} {c c' d d':List AV} (hf:Fr H0 H0.length [s,s2] H') (hcl:ko H0.length H0) (hr:fJ P e' H' rs=some vs) (hc:Cl H0.length (fin vs)) (hw:Wx (fin vs) r')
 (hs:H'[s]? =some c) (hl:s<H0.length) (Tk:∀a∈c,Cl H0.length a) (Zn:vq c c') (hs2:H'[s2]? =some d) (Bv:s2<H0.length) (abu:∀a∈d,Cl H0.length a) (abv:vq d d') (hne:s≠s2)
 (hR:R r' ((H0.set s c').set s2 d')):vt P H0 rs R e' H':=by
 refine ⟨vs,r',(H0.set s c').set s2 d',hr,hw,hR, .inl ⟨hc,by rw [hf.Xc hs hs2 hl Bv hne];exact (hcl.set Tk).set abu,hf.le, ?_⟩⟩
 rw [hf.Xc hs hs2 hl Bv hne]
 have:=fK.abr (ah:=(H0.set s c).set s2 d) (q:=s) (q2:=s2) (cs:=c) (cs':=c') (ds:=d) (ds':=d') hne (by rw [List.getElem?_set_ne (Ne.symm hne)];exact h_eq hl) Zn (h_eq (by simpa using Bv)) abv
 have e1:(((H0.set s c).set s2 d).set s c').set s2 d'=(H0.set s c').set s2 d':=by
  rw [List.set_comm d c' (Ne.symm hne),List.set_set,List.set_set]
 rwa [e1] at this
end
theorem Fr.trans {ah H H':AH} {n0:Nat} {S S2:List Nat} (h:Fr ah n0 S H) (h2:Fr H H.length S2 H') (hs:∀s∈S2,s∈S∨n0≤s):Fr ah n0 S H':=by
 have h3:=h.le
 refine ⟨Nat.le_trans h.le h2.le,fun j hj CL=> ?_⟩
 rw [h2.eq j (by omega),h.eq j hj CL]
 intro hm
 rcases hs j hm with h4|h4
 · exact CL h4
 · omega
end Go.Am
namespace Go.Am
open Go
variable [Tabs]
theorem Xg {P:Program} {L:List Nat} {N n0:Nat} {e:Env} {ah:AH} {t:List It} {Q:Exit→Env→AH→Prop} {r:List aL} {d:Option Nat} {f:Nat} {zq zq':List AV} {bQ HE:AH} {V:AV}
 (h:aF P f zq' bQ fun v H'=>v=V∧H'=HE) (hw:WL zq zq') (hh:fK ah bQ) (hk:U P L N n0 (.ops r::t) Q .normal (aG L (vm e) d V.df) HE):UK P L N n0 f zq d r t Q e ah:=by
 refine W5 h hw hh ?_
 rintro _ _ ⟨rfl,rfl⟩
 exact hk
end Go.Am
namespace Go.Am
open Go
variable [Tabs]
def WW:=And.intro WG<|And.intro WM<|And.intro WU<|And.intro WV<|And.intro WB<|And.intro WA0<|And.intro WA1<|And.intro WA2<|And.intro WA3<|And.intro WA4<|And.intro WA5 WA6
def WH:=And.intro @h_eq<|And.intro @W9<|And.intro @R4 @M3
theorem tg1:Tg.sh .ex= .ex:=rfl
theorem Vp:Tg.sh .own= .n:=rfl
theorem tg3:Tg.sh .n= .n:=rfl
end Go.Am
end
section
namespace Go.Am
open Go
variable [Tabs]
theorem SR.M8 {L:List Nat} {N:Nat} {F:Nat→Prop} {γ:List Nat} {C:Nat→List Value} {e:Env} {ah:AH} {ts:Array Value} {w:World} (h:SR L N F γ C e ah ts w) {r:AV} {v:Value} (hv:VR C γ r v) (ht:TC w C r v)
 (ho:r.bN=false) (hf:∀l k xs,r≠ .sl (.fr l) k xs):SR [] 1 F γ C [(0,r)] ah #[v] w:=by
 have hbk:∀p b,blk γ [(0,r)] ah #[v] w p b→blk γ e ah ts w p b∧∀t,p≠ .tmp t:=by
  intro p b hp
  cases p with
  |obj s=>exact ⟨hp,by simp⟩
  |cell s i=>exact ⟨hp,by simp⟩
  |tmp t=>
   simp only [blk,get] at hp
   split at hp
   · rename_i h0;subst h0;rw [gA _ ho] at hp;cases hp
   · simp [bO] at hp
 refine ⟨h.mem,rfl,fun t=> ?_,fun p q b hp hq=>h.dU p q b (hbk p b hp).1 (hbk q b hq).1,fun p b hp=>h.nf p b (hbk p b hp).1,h.jF,fun t l k xs htl=> ?_⟩
 · by_cases h0:0=t
   · subst h0;simp only [get,if_true];exact ⟨hv,ht⟩
   · simp only [get,if_neg h0];exact ⟨.un ..,by generalize (#[v]:Array Value).getD t undef=u;cases u<;>trivial⟩
 · simp only [get] at htl
   split at htl
   · exact absurd htl (hf l k xs)
   · cases htl
theorem aF.Ca {P:Program} {f:Nat} {args:List AV} {ah:AH} {l:List UInt8} (hc:iy P f=true)
 (h:∀(F:Nat→Prop) (C:Nat→List Value) (γ:List Nat) (w:World) (vs:Array Value),FL F w→vs.size=args.length→(∀(i:Nat) (a:AV),args[i]? =some a→VR C γ a (vs.getD i undef))→
  Calls P f vs w fun en w'=>en= .returned (.string ⟨l.toArray⟩)∧(∀b,b<w.heap.size→w'.heap[b]? =w.heap[b]?)∧w.heap.size≤w'.heap.size∧jJ w w'):
 aF P f args ah fun r aE=>r= .str l∧aE=ah:=by
 refine ⟨hc,fun F γ C w vs hs=> ?_⟩
 refine (h F C γ w vs hs.jF hs.sz fun i a hi=> ?_).mono ?_
 · have:=(hs.env i).1
   rw [dZ] at this
   simpa [hi] using this
 · rintro en w' ⟨rfl,h1,h2,h3⟩
   have hg:=hs.grow (C':=C) h1 h2 (fun _ _=>rfl) (fun b hb hne=>by
    exfalso
    obtain ⟨vs',ty,fr,hh, -⟩:=hs.mem.u7 b hne
    have:b<w.heap.size:=by
     rcases Nat.lt_or_ge b w.heap.size with h4|h4
     · exact h4
     · rw [Array.getElem?_eq_none h4] at hh;cases hh
    omega) h3
   exact ⟨.str l, .string ⟨l.toArray⟩,ah,γ,C,rfl,⟨rfl,rfl⟩,List.prefix_refl _,hg.1.M8 (.str ..) (by simp [TC]) rfl (by simp),hg.2⟩
theorem aF.Tl {P:Program} {f:Nat} {args:List AV} {ah:AH} {r:AV} (ho:r.bN=false) (hf:∀l k xs,r≠ .sl (.fr l) k xs) (hc:iy P f=true)
 (h:∀(F:Nat→Prop) (C:Nat→List Value) (γ:List Nat) (w:World) (vs:Array Value),FL F w→vs.size=args.length→(∀(i:Nat) (a:AV),args[i]? =some a→VR C γ a (vs.getD i undef))→
  Calls P f vs w fun en w'=>∃v,en= .returned v∧VR C γ r v∧TC w' C r v∧(∀b,b<w.heap.size→w'.heap[b]? =w.heap[b]?)∧w.heap.size≤w'.heap.size∧jJ w w'):
 aF P f args ah fun r' aE=>r'=r∧aE=ah:=by
 refine ⟨hc,fun F γ C w vs hs=> ?_⟩
 refine (h F C γ w vs hs.jF hs.sz fun i a hi=> ?_).mono ?_
 · have:=(hs.env i).1
   rw [dZ] at this
   simpa [hi] using this
 · rintro en w' ⟨v,rfl,hv,ht,h1,h2,h3⟩
   have hg:=hs.grow (C':=C) h1 h2 (fun _ _=>rfl) (fun b hb hne=>by
    exfalso
    obtain ⟨vs',ty,fr,hh, -⟩:=hs.mem.u7 b hne
    have:b<w.heap.size:=by
     rcases Nat.lt_or_ge b w.heap.size with h4|h4
     · exact h4
     · rw [Array.getElem?_eq_none h4] at hh;cases hh
    omega) h3
   exact ⟨r,v,ah,γ,C,rfl,⟨rfl,rfl⟩,List.prefix_refl _,hg.1.M8 hv ht ho hf,hg.2⟩
theorem aF.Tm {P:Program} {f:Nat} {args:List AV} {ah:AH} {ps:List (List UInt8)} (hc:iy P f=true)
 (h:∀(F:Nat→Prop) (C:Nat→List Value) (γ:List Nat) (w:World) (vs:Array Value),FL F w→vs.size=args.length→(∀(i:Nat) (a:AV),args[i]? =some a→VR C γ a (vs.getD i undef))→
  Calls P f vs w fun en w'=>∃t fr,en= .returned (.slice (some ⟨w.heap.size,0,none⟩) ps.length ps.length)∧w'=w.alloc (.cells (ps.map fun l=>Value.string ⟨l.toArray⟩).toArray t fr)∧fr.2≤fr.1):
 aF P f args ah fun r' aE=>r'= .sl .n 1 (ml .str ps)∧aE=ah:=by
 refine ⟨hc,fun F γ C w vs hs=> ?_⟩
 refine (h F C γ w vs hs.jF hs.sz fun i a hi=> ?_).mono ?_
 · have:=(hs.env i).1
   rw [dZ] at this
   simpa [hi] using this
 · rintro en w' ⟨t,fr,rfl,rfl,hfr⟩
   obtain ⟨C', -,he,hg,hv⟩:=vj (w':=w.alloc (.cells (ps.map fun l=>Value.string ⟨l.toArray⟩).toArray t fr)) (ds:=[]) hs (d:=none) (by simp) (cs:=(ps.map fun l=>Value.string ⟨l.toArray⟩).toArray) (t:=t) (fr:=fr)
    (Bu:=ps.map fun l=>Value.string ⟨l.toArray⟩) (xs:=ml .str ps) (k:=1) (n:=ps.length) (c:=ps.length)
    (fun b hb=>by show (w.heap.push _)[b]? =_;rw [Array.getElem?_push_lt hb,Array.getElem?_eq_getElem hb]) (by show (w.heap.push _).size=_;simp) (by show (w.heap.push _)[w.heap.size]? =_;simp)
    (by simp) (by simp only [List.mem_map];rintro v ⟨l, -,rfl⟩;rfl) (by simp) (by simp [ml]) (Nat.le_refl _) (by simp) (by intro i _;omega)
    (by intro i a hi;simp only [ml,List.getElem?_map,Option.map_eq_some_iff] at hi;obtain ⟨l, -,rfl⟩:=hi;rfl)
    (by
     intro i a hi j y hj
     simp only [ml,List.getElem?_map,Option.map_eq_some_iff] at hi
     obtain ⟨l,hl,rfl⟩:=hi
     cases j with
     |succ j=>simp [AV.cells] at hj
     |zero=>
      simp only [AV.cells,List.getElem?_cons_zero,Option.some.injEq] at hj
      subst hj
      simp only [Nat.mul_one,Nat.add_zero,List.getD_eq_getElem?_getD,List.getElem?_map,hl,Option.map_some,Option.getD_some]
      exact .str ..)
   exact ⟨.sl .n 1 (ml .str ps),_,ah,γ,C',rfl,⟨rfl,rfl⟩,List.prefix_refl _,hg.M8 (hv.iT _) (by simp [TC]) rfl (by simp),he⟩
theorem I8 {P:Program} {f:Nat} {ah:AH} (n:Int) (hc:iy P f=true) (htab:∀F w,FL F w→Lib.TabIs P w "internal/strconv.uint64pow10" .u64 Lib.pow10Tab)
 (abw:∀w,Lib.TabIs P w "internal/strconv.uint64pow10" .u64 Lib.pow10Tab→Calls P f #[.int .i64 n] w fun e w'=>e= .returned (.string ⟨(Lib.itoa n).toArray⟩)∧∃k os,w'=Go.Sort.grow (w.drewN k) os):
 aF P f [.int .i64 n] ah fun r aE=>r= .str (Lib.itoa n)∧aE=ah:=by
 refine aF.Ca hc fun F C γ w vs hF hl hv=> ?_
 have h0:=(hv 0 _ rfl).cJ
 have hvs:vs= #[.int .i64 n]:=by
  apply Array.ext
  · simpa using hl
  · intro i h1 h2
    simp at h2;subst h2
    simpa [Array.getD_eq_getD_getElem?,Array.getElem?_eq_getElem h1] using h0
 subst hvs
 refine (abw w (htab F w hF)).mono ?_
 rintro e w' ⟨rfl,k,os,rfl⟩
 refine ⟨rfl,fun b hb=> ?_, ?_,rfl,rfl,rfl⟩
 · show (w.heap++os)[b]? =_
   rw [Array.getElem?_append_left hb]
 · show w.heap.size≤(w.heap++os).size
   simp
theorem P2 {P:Program} {w:World} {F:Nat→Prop} {name:String} {k:IntKind} {zs:List Int} {g:Nat} (hF:FL F w) (hm:(g,fun cs=>cs=(zs.map fun z=>Value.int k z).toArray)∈Tabs.l) (hg:P.globalNamed name=some g):Lib.TabIs P w name k zs:=by
 obtain ⟨-,cs,ty,fr,h,hcs⟩:=hF.Hw _ hm
 simp only at h hcs
 subst hcs
 unfold Lib.TabIs World.var?
 rw [hg]
 simp [h]
end Go.Am
end
section
namespace Go.Am
open Go
variable [Tabs]
def AV.zf:AV→Bool
 | .int _ _| .bool _| .str _| .v _=>true
 |_=>false
def GB:List AV→Bool
 |[]=>true
 |a::r=>a.zf&&GB r
def AV.GC:AV→Bool
 | .agg cs=>GB cs
 |a=>a.zf
def Cb:List AV→Bool
 |[]=>true
 |a::r=>a.GC&&Cb r
def AV.Ed:AV→Bool
 | .bx cs=>Cb cs
 |a=>a.GC
theorem tC {l:List AV} (h:GB l=true) {i:Nat} {a:AV} (hi:l[i]? =some a):a.zf=true:=by
 induction l generalizing i with
 |nil=>simp at hi
 |cons b r ih=>
  simp only [GB,Bool.and_eq_true] at h
  cases i with
  |zero=>simp at hi;subst hi;exact h.1
  |succ i=>exact ih h.2 (by simpa using hi)
theorem Bj {l:List AV} (h:Cb l=true) {i:Nat} {a:AV} (hi:l[i]? =some a):a.GC=true:=by
 induction l generalizing i with
 |nil=>simp at hi
 |cons b r ih=>
  simp only [Cb,Bool.and_eq_true] at h
  cases i with
  |zero=>simp at hi;subst hi;exact h.1
  |succ i=>exact ih h.2 (by simpa using hi)
theorem VR.zf {C C':Nat→List Value} {γ γ':List Nat} {a:AV} {v:Value} (h:VR C γ a v) (hs:a.zf=true):VR C' γ' a v:=by
 cases h with
 |v _ _ hv=>exact .v _ _ hv
 |int=>exact .int ..
 |bool=>exact .bool ..
 |str=>exact .str ..
 |_=>cases hs
theorem VR.GC {C C':Nat→List Value} {γ γ':List Nat} {a:AV} {v:Value} (h:VR C γ a v) (hs:a.GC=true):VR C' γ' a v:=by
 cases h with
 |agg _ cs vs h1 h2=>exact .agg _ _ _ h1 fun i a hi=>(h2 i a hi).zf (tC hs hi)
 |v _ _ hv=>exact .v _ _ hv
 |int=>exact .int ..
 |bool=>exact .bool ..
 |str=>exact .str ..
 |_=>cases hs
theorem VR.Ed {C C':Nat→List Value} {γ γ':List Nat} {a:AV} {v:Value} (h:VR C γ a v) (hs:a.Ed=true):VR C' γ' a v:=by
 cases h with
 |bx _ cs vs h1 h2=>exact .bx _ _ _ h1 fun i a hi=>(h2 i a hi).GC (Bj hs hi)
 |agg _ cs vs h1 h2=>exact .agg _ _ _ h1 fun i a hi=>(h2 i a hi).zf (tC hs hi)
 |v _ _ hv=>exact .v _ _ hv
 |int=>exact .int ..
 |bool=>exact .bool ..
 |str=>exact .str ..
 |_=>cases hs
theorem jE.zf {a:AV} (hs:a.zf=true) (v:Value):jE a v:=by
 cases a<;>first|(cases hs;done)|(cases v<;>trivial)
theorem Fy.GC {a:AV} (hs:a.GC=true) (v:Value):Fy a v:=by
 cases a with
 |agg cs=>cases v<;>first|trivial|exact fun i a hi=>jE.zf (tC hs hi) _
 |_=>first|(cases hs;done)|(cases v<;>trivial)
theorem TC.Ed {w:World} {C:Nat→List Value} {a:AV} (hs:a.Ed=true) (v:Value):TC w C a v:=by
 cases a with
 |bx cs=>cases v<;>first|trivial|exact fun i a hi=>Fy.GC (Bj hs hi) _
 |agg cs=>cases v<;>first|trivial|exact fun i a hi=>jE.zf (tC hs hi) _
 |_=>first|(cases hs;done)|(cases v<;>trivial)
theorem Tn {a:AV} (hs:a.Ed=true):a.bN=false:=by
 cases a<;>first|rfl|cases hs
theorem V6 {a:AV} (hs:a.Ed=true) (l:Loc) (k:Nat) (xs:List AV):a≠ .sl (.fr l) k xs:=by
 rintro rfl;cases hs
inductive ga (ah:AH):AV→AV→Prop
 |same (a):a.zf=true→ga ah a a
 |ep (a p):ga ah (.ep a p) (.ep a p)
 |sl (t k xs):ga ah (.sl t k xs) (.sl .n k xs)
 |ptr (s o:Nat) (cs cs':List AV):ah[s]? =some cs→cs'.length=cs.length→(∀(i:Nat) (a a':AV),cs[i]? =some a→cs'[i]? =some a'→ga ah a a')→ga ah (.ptr s o) (.ep (.agg cs') o)
inductive PE (ah:AH):AV→AV→Prop
 |one (a a'):ga ah a a'→PE ah a a'
 |fn (f:Nat) (cs:List AV):PE ah (.fn f []) (.fn f [])
 |agg (cs cs':List AV):cs'.length=cs.length→(∀(i:Nat) (a a':AV),cs[i]? =some a→cs'[i]? =some a'→ga ah a a')→PE ah (.agg cs) (.agg cs')
def CN (w:World) (b:Nat):List Value:=match w.heap[b]? with|some (.cells vs _ _)=>vs.toList|_=>[]
open Classical in
noncomputable def Cx (w:World) (γ:List Nat) (C:Nat→List Value):Nat→List Value:=fun b=>if b∈γ then CN w b else C b
section
variable {L:List Nat} {N:Nat} {F:Nat→Prop} {γ:List Nat} {C:Nat→List Value} {e:Env} {ah:AH} {ts:Array Value} {w:World}
theorem M9 (h:Mem γ C ah w) (b:Nat):C b <+: Cx w γ C b:=by
 unfold Cx
 split
 · rename_i hb
   by_cases hne:C b=[]
   · rw [hne];exact List.nil_prefix
   · obtain ⟨vs,ty,fr,hh,hp⟩:=h.u7 b hne
     unfold CN;rw [hh];exact hp
 · exact List.prefix_refl _
theorem Na {s b:Nat} {vs:Array Value} {ty:TypeId} {fr:Nat×Nat} (hs:γ[s]? =some b) (hb:w.heap[b]? =some (.cells vs ty fr)):Cx w γ C b=vs.toList:=by
 unfold Cx CN
 rw [if_pos (List.mem_of_getElem? hs),hb]
theorem VR.V7 {C:Nat→List Value} {γ:List Nat} {t:Tg} {k:Nat} {xs:List AV} {v:Value} (h:VR C γ (.sl t k xs) v) (γ':List Nat):VR C γ' (.sl .n k xs) v:=by
 cases h with
 |rE=>exact .rE ..
 |sl _ _ _ _ b o n c hn hc hk hl ho hx=>exact .sl _ _ _ _ _ _ _ _ hn hc hk hl ho hx
theorem ga.vr (hm:Mem γ C ah w) {a a':AV} (hp:ga ah a a'):∀ {v:Value},VR C γ a v→VR (Cx w γ C) [] a' v:=by
 induction hp with
 |same a hs=>intro v h;exact h.zf hs
 |ep a p=>
  intro v h
  have h':=h.np rfl
  exact h'.mono (M9 hm) [] (fun _ _ h=>h)
 |sl t k xs=>
  intro v h
  exact (h.V7 []).mono (M9 hm) [] (fun _ _ h=>h)
 |ptr s o cs cs' hs hl hc ih=>
  intro v h
  obtain ⟨b,hb,rfl⟩:=h.gU
  obtain ⟨vs,ty,hh,hsz,hcell⟩:=hm.obj s b cs hs hb
  have hx:Cx w γ C b=vs.toList:=Na hb hh
  suffices hS:VR (Cx w γ C) [] (.ep (.agg cs') o) (.pointer (some ⟨b,0+o,none⟩)) by rwa [Nat.zero_add] at hS
  refine VR.ep [] (.agg cs') o b 0 (by rw [hx];simpa [AV.cells,hl] using hsz) fun j a' hj=> ?_
  simp only [AV.cells] at hj
  have hlt:j<cs.length:=by rw [←hl];exact (List.getElem?_eq_some_iff.1 hj).1
  have h0:cs[j]? =some cs[j]:=List.getElem?_eq_getElem hlt
  have:=ih j _ _ h0 hj (hcell j _ h0).1
  rw [hx,Nat.zero_add]
  have e1:vs.toList.getD j undef=vs.getD j undef:=by simp [List.getD_eq_getElem?_getD,Array.getD_eq_getD_getElem?]
  rw [e1];exact this
theorem ga.flat {a a':AV} (hp:ga ah a a') (v:Value):jE a' v∧a'.plain=true:=by
 cases hp with
 |same _ hs=>exact ⟨jE.zf hs v,by cases a<;>first|rfl|cases hs⟩
 |ep=>exact ⟨by cases v<;>trivial,rfl⟩
 |sl=>exact ⟨Fz ..,rfl⟩
 |ptr=>exact ⟨by cases v<;>trivial,rfl⟩
theorem PE.vr (hm:Mem γ C ah w) {a a':AV} (hp:PE ah a a') {v:Value} (h:VR C γ a v):VR (Cx w γ C) [] a' v:=by
 cases hp with
 |one _ _ h1=>exact h1.vr hm h
 |fn f cs=>
  obtain ⟨vs,rfl,h1,h2⟩:=h.Fv
  exact .fn _ _ _ _ h1 (by simp)
 |agg cs cs' hl hc=>
  obtain ⟨vs,rfl,h1,h2⟩:=h.k8
  refine .agg _ _ _ (by omega) fun i a' hi=> ?_
  have hlt:i<cs.length:=by rw [←hl];exact (List.getElem?_eq_some_iff.1 hi).1
  have h0:cs[i]? =some cs[i]:=List.getElem?_eq_getElem hlt
  exact (hc i _ _ h0 hi).vr hm (h2 i _ h0)
theorem PE.tc {a a':AV} (hp:PE ah a a') {C':Nat→List Value} (v:Value):TC w C' a' v∧a'.plain=true:=by
 cases hp with
 |one _ _ h1=>
  cases h1 with
  |same _ hs=>exact ⟨by cases a<;>first|(cases hs;done)|(cases v<;>trivial),by cases a<;>first|rfl|cases hs⟩
  |ep=>exact ⟨by cases v<;>trivial,rfl⟩
  |sl=>exact ⟨by cases v<;>trivial,rfl⟩
  |ptr=>exact ⟨by cases v<;>trivial,rfl⟩
 |fn=>exact ⟨by cases v<;>trivial,rfl⟩
 |agg cs cs' hl hc=>
  refine ⟨?_,rfl⟩
  cases v with
  |agg vs=>
   intro i a' hi
   have hlt:i<cs.length:=by rw [←hl];exact (List.getElem?_eq_some_iff.1 hi).1
   exact ((hc i _ _ (List.getElem?_eq_getElem hlt) hi).flat _).1
  |_=>trivial
def kq (ah:AH):List AV→List AV→Prop
 |[],[]=>True
 |a::r,a'::r'=>PE ah a a'∧kq ah r r'
 |_,_=>False
theorem kq.len:∀ {xs ys:List AV},kq ah xs ys→ys.length=xs.length:=by
 intro xs
 induction xs with
 |nil=>intro ys h;cases ys with|nil=>rfl|cons=>exact h.elim
 |cons a r ih=>intro ys h;cases ys with|nil=>exact h.elim|cons a' r'=>simp [ih h.2]
theorem kq.get:∀ {xs ys:List AV},kq ah xs ys→∀(i:Nat) (a a':AV),xs[i]? =some a→ys[i]? =some a'→PE ah a a':=by
 intro xs
 induction xs with
 |nil=>intro ys _ i a a' h;simp at h
 |cons a r ih=>
  intro ys h i b b' h1 h2
  cases ys with
  |nil=>exact h.elim
  |cons a' r'=>
   rcases i with _|i
   · simp at h1 h2;subst h1;subst h2;exact h.1
   · exact ih h.2 i b b' (by simpa using h1) (by simpa using h2)
def mQ (ah:AH):List AV→List AV→Prop
 |[],[]=>True
 |a::r,a'::r'=>ga ah a a'∧mQ ah r r'
 |_,_=>False
theorem mQ.len:∀ {xs ys:List AV},mQ ah xs ys→ys.length=xs.length:=by
 intro xs
 induction xs with
 |nil=>intro ys h;cases ys with|nil=>rfl|cons=>exact h.elim
 |cons a r ih=>intro ys h;cases ys with|nil=>exact h.elim|cons a' r'=>simp [ih h.2]
theorem mQ.get:∀ {xs ys:List AV},mQ ah xs ys→∀(i:Nat) (a a':AV),xs[i]? =some a→ys[i]? =some a'→ga ah a a':=by
 intro xs
 induction xs with
 |nil=>intro ys _ i a a' h;simp at h
 |cons a r ih=>
  intro ys h i b b' h1 h2
  cases ys with
  |nil=>exact h.elim
  |cons a' r'=>
   rcases i with _|i
   · simp at h1 h2;subst h1;subst h2;exact h.1
   · exact ih h.2 i b b' (by simpa using h1) (by simpa using h2)
theorem kq.nil:kq ah [] []:=trivial
theorem kq.cons {a a':AV} {r r':List AV} (h:PE ah a a') (hr:kq ah r r'):kq ah (a::r) (a'::r'):=⟨h,hr⟩
theorem mQ.nil:mQ ah [] []:=trivial
theorem mQ.cons {a a':AV} {r r':List AV} (h:ga ah a a') (hr:mQ ah r r'):mQ ah (a::r) (a'::r'):=⟨h,hr⟩
theorem ga.int {k:IntKind} {i:Int}:ga ah (.int k i) (.int k i):= .same _ rfl
theorem ga.b8 {c:UInt8}:ga ah (Am.b8 c) (Am.b8 c):= .same _ rfl
theorem ga.bool {b:Bool}:ga ah (.bool b) (.bool b):= .same _ rfl
theorem ga.str {l:List UInt8}:ga ah (.str l) (.str l):= .same _ rfl
theorem ga.v {x:Value}:ga ah (.v x) (.v x):= .same _ rfl
theorem ga.Bk {s o:Nat} {cs cs':List AV} (hs:ah[s]? =some cs) (h:mQ ah cs cs'):ga ah (.ptr s o) (.ep (.agg cs') o):= .ptr _ _ _ _ hs h.len h.get
theorem PE.acT {cs cs':List AV} (h:mQ ah cs cs'):PE ah (.agg cs) (.agg cs'):= .agg _ _ h.len h.get
theorem aF.ofE {P:Program} {f:Nat} {args args':List AV} {R:AV→Prop} (h:aF P f args' [] fun r aE=>R r∧aE=[]) (hp:kq ah args args') (hs:∀r,R r→r.Ed=true):
 aF P f args ah fun r aE=>R r∧aE=ah:=by
 refine ⟨h.1,fun F γ C w vs jK=> ?_⟩
 have NI:∀(l:List AV) (t:Nat),get (eE 0 l) t=(l[t]?).getD .un:=fun l t=>by rw [dZ];simp
 have Nb:∀t,VR (Cx w γ C) [] (get (eE 0 args') t) (vs.getD t undef)∧TC w (Cx w γ C) (get (eE 0 args') t) (vs.getD t undef)∧(get (eE 0 args') t).plain=true:=by
  intro t
  rw [NI]
  cases ht:args'[t]? with
  |none=>exact ⟨.un ..,by cases vs.getD t undef<;>trivial,rfl⟩
  |some a'=>
   have hlt:t<args.length:=by rw [←hp.len];exact (List.getElem?_eq_some_iff.1 ht).1
   have h0:args[t]? =some args[t]:=List.getElem?_eq_getElem hlt
   have h1:=(jK.env t).1
   rw [NI,h0] at h1
   have hpe:=hp.get t _ _ h0 ht
   exact ⟨hpe.vr jK.mem h1,hpe.tc _⟩
 have hnb:∀p b,¬blk [] (eE 0 args') [] vs w p b:=by
  intro p b hb
  cases p with
  |obj s=>simp [blk] at hb
  |cell s i=>obtain ⟨cs,a,b0,h1, -⟩:=hb;simp at h1
  |tmp t=>simp only [blk] at hb;rw [gA _ (fY (Nb t).2.2)] at hb;cases hb
 have hs0:SR [] args'.length (fun b=>b<w.heap.size) [] (Cx w γ C) (eE 0 args') [] vs w:=by
  refine ⟨⟨rfl,fun s b cs h1=>by simp at h1,fun b hne=> ?_,fun s b cs h1=>by simp at h1,fun s b cs us ty fr h1=>by simp at h1⟩,by rw [jK.sz,hp.len],fun t=>⟨(Nb t).1,(Nb t).2.1⟩,fun p q b h1=>absurd h1 (hnb p b),fun p b h1=>absurd h1 (hnb p b),
   ⟨fun b hb=>hb,fun e he=>⟨jK.jF.lt _ (jK.jF.Hw e he).1,(jK.jF.Hw e he).2⟩⟩,fun t l k xs ht=>absurd ht (wz (Nb t).2.2 l k xs)⟩
  by_cases hb:b∈γ
  · obtain ⟨s,hsb⟩:=List.getElem?_of_mem hb
    have hlt:s<ah.length:=by rw [←jK.mem.len];exact (List.getElem?_eq_some_iff.1 hsb).1
    obtain ⟨xs,ty,hh, -⟩:=jK.mem.obj s b _ (List.getElem?_eq_getElem hlt) hsb
    exact ⟨xs,ty.1,ty.2,hh,by rw [Na hsb hh];exact List.prefix_refl _⟩
  · have:Cx w γ C b=C b:=by unfold Cx;rw [if_neg hb]
    rw [this] at hne ⊢
    exact jK.mem.u7 b hne
 refine (h.2 _ [] (Cx w γ C) w vs hs0).mono ?_
 rintro en w' ⟨r,v,aE,γ',Xs,rfl,⟨hR,rfl⟩,hγ,abx,hx⟩
 have hold:∀b,b<w.heap.size→w'.heap[b]? =w.heap[b]? :=fun b hb=>(hx.keep b hb).1
 have hg:=jK.grow (w':=w') (C':=C) hold hx.size (fun _ _=>rfl) (fun b hb hne=>by
  exfalso
  obtain ⟨vs',ty,fr,hh, -⟩:=jK.mem.u7 b hne
  exact absurd (vg hh) (by omega)) hx.out
 have hv:=(abx.env 0).1
 simp only [get,if_true] at hv
 have hsc:=hs r hR
 exact ⟨r,v,ah,γ,C,rfl,⟨hR,rfl⟩,List.prefix_refl _,hg.1.M8 (hv.Ed hsc) (TC.Ed hsc _) (Tn hsc) (V6 hsc),hg.2⟩
end
end Go.Am
end
section
set_option maxRecDepth 100000
namespace Go.Am
open Go
open Nat renaming reduceEqDiff→nA,reduceLT→nB,reduceLeDiff→nC,reduceAdd→nD,reduceSub→nE,reduceMul→nF,reduceBEq→nG
variable [Tabs]
theorem Zo {P:Program} {L:List Nat} {N n0:Nat} {e:Env} {ah:AH} {t:List It} {Q:Exit→Env→AH→Prop} {r:List aL} {d:Option Nat} {g:Option (Nat×Bool)} {n:Bool} {x:Ar} {tg:Tg} {k:Nat} {xs:List AV}
 (hx:ev e x= .sl tg k xs) (h1:xs=[]→∀b,U P L N n0 (.ops r::t) Q .normal (aG L e d (.bool b)) ah) (h2:xs≠[]→U P L N n0 (.ops r::t) Q .normal (aG L e d (.bool n)) ah):
 UG P L N n0 ⟨d, .nq n x,g⟩ r t Q e ah (some true):=by
 show Cf L d n x e ah _
 unfold Cf
 rw [hx]
 exact ⟨h1,h2⟩
def Cc (k b:Nat):av:= .seq (.rg [⟨some 2, .aO (.c (.sl .ex k [])),none⟩]) (.seq (.seq (.rg [⟨some 3, .mv (.t 0),none⟩,⟨some 4, .nq false (.t 3),none⟩]) (.cond (.t 4) (.seq (.rg [⟨some 2, .aO (.c (.sl .ex k [])),none⟩]) .ret) .skip))
 (.seq (.rg [⟨some 5, .rX k [],none⟩,⟨some 6, .mv (.t 0),none⟩,⟨some 7, .app k b (.t 5) (.t 6),none⟩,⟨some 2, .aO (.t 7),none⟩]) .ret))
theorem V8 {P:Program} {f k b:Nat} {xs ys:List AV} {H0:AH} (hF:bM P f 8 [.tmp 2] (Cc k b)) (hz:eN b [] xs=some ys):aF P f [.sl .n k xs] H0 fun v H'=>v= .sl .own k ys∧H'=H0:=by
 refine aF.Yi hF (m:=Cc k b) rfl [0,2,4] rfl (by simp) fun hcl K0 aN=> ?_
 refine AX.Ti (m:=Cc k b) rfl rfl ?_
 have hys:ys=xs:=by unfold eN at hz;split at hz<;>simp_all
 subst hys
 simp only [WW, ↓reduceIte,nA,nB,nC,nD,nE,nF,nG,reduceCtorEq,Cc]
 have step:U P [0,2,4] 8 H0.length [.code .skip, .code (.seq (.rg [⟨some 5, .rX k [],none⟩,⟨some 6, .mv (.t 0),none⟩,⟨some 7, .app k b (.t 5) (.t 6),none⟩,⟨some 2, .aO (.t 7),none⟩]) .ret)] K0 .normal
  [(0, .sl .n k ys),(2, .sl .ex k []),(4, .bool false)] H0:=by
  simp only [WW, ↓reduceIte,nA,nB,nC,nD,nE,nF,nG,reduceCtorEq,hz,List.all_nil,List.map_nil]
  refine aN _ _ _ (.inr rfl) ?_
  exact aK hcl (wB (a:= .sl .own k ys) rfl rfl Ai) (by simp [fin,AV.df]) Wx.oo (r':= .sl .own k ys) ⟨rfl,rfl⟩
 refine Zo (by rfl) (fun h0 b=> ?_) (fun h0=> ?_)
 · subst h0
   simp only [WW, ↓reduceIte,nA,nB,nC,nD,nE,nF,nG,reduceCtorEq]
   cases b
   · refine abo rfl ?_
     exact step
   · refine abn rfl ?_
     simp only [WW, ↓reduceIte,nA,nB,nC,nD,nE,nF,nG,reduceCtorEq]
     refine aN _ _ _ (.inr rfl) ?_
     exact aK hcl (wB (a:= .sl .ex k []) rfl rfl Ai) (by simp [fin,AV.df]) (Wx.own ..) (r':= .sl .own k []) ⟨rfl,rfl⟩
 · simp only [WW, ↓reduceIte,nA,nB,nC,nD,nE,nF,nG,reduceCtorEq,hz,List.all_nil,List.map_nil]
   refine aN _ _ _ (.inr rfl) ?_
   exact aK hcl (wB (a:= .sl .own k ys) rfl rfl Ai) (by simp [fin,AV.df]) Wx.oo (r':= .sl .own k ys) ⟨rfl,rfl⟩
end Go.Am
namespace Go.Am
open Go
variable [Tabs]
theorem SR.Xh {L:List Nat} {N:Nat} {F:Nat→Prop} {γ:List Nat} {C:Nat→List Value} {e:Env} {ah:AH} {ts:Array Value} {w:World} (h:SR L N F γ C e ah ts w) {r:AV} {v:Value} (hr:Am.get e 0=r) (hv:ts.getD 0 undef=v)
 (hf:∀l k xs,r≠ .sl (.fr l) k xs):SR [] 1 F γ C [(0,r)] ah #[v] w:=by
 subst hr;subst hv
 have hbk:∀p b,blk γ [(0,Am.get e 0)] ah #[ts.getD 0 undef] w p b→blk γ e ah ts w p b:=by
  intro p b hp
  cases p with
  |obj s=>exact hp
  |cell s i=>exact hp
  |tmp t=>
   simp only [blk,Am.get] at hp ⊢
   split at hp
   · rename_i h0;subst h0;exact hp
   · simp [bO] at hp
 refine ⟨h.mem,rfl,fun t=> ?_,fun p q b hp hq=>h.dU p q b (hbk p b hp) (hbk q b hq),fun p b hp=>h.nf p b (hbk p b hp),h.jF,fun t l k xs htl=> ?_⟩
 · by_cases h0:0=t
   · subst h0;simp only [Am.get,if_true];exact h.env 0
   · simp only [Am.get,if_neg h0];exact ⟨.un ..,by generalize (#[ts.getD 0 undef]:Array Value).getD t undef=u;cases u<;>trivial⟩
 · simp only [Am.get] at htl
   split at htl
   · exact absurd htl (hf l k xs)
   · cases htl
theorem Xi {P:Program} {f:Nat} {n:Int} {H0:AH} {el:TypeId} {z:Value} (hc:iy P f=true) (hz:z.cells.size=1) (h0:0≤n)
 (hroom:∀(base:Option Addr) (w:World),n=0→Calls P f #[.slice base 0 0, .int .i64 n] w fun e w'=>e= .returned (.slice base 0 0)∧w'=w)
 (hgrow:∀(base:Option Addr) (w:World),0<n→Calls P f #[.slice base 0 0, .int .i64 n] w fun e w'=>e= .returned (.slice (some ⟨w.heap.size,0,none⟩) 0 (grownCap w n.toNat 0 el))∧
  w'=w.drew.alloc (.cells ((#[]:Array Value)++Builtin.zeroCells z.cells n.toNat++Builtin.zeroCells z.cells (grownCap w n.toNat 0 el - n.toNat)) el)):
 aF P f [.sl .ex 1 [], .int .i64 n] H0 fun v H'=>v= .sl .own 1 []∧H'=H0:=by
 refine ⟨hc,fun F γ C w vs hs=> ?_⟩
 have h1:=hs.env 0
 have h2:=(hs.env 1).1
 rw [dZ] at h1 h2
 simp only [Nat.zero_le,if_true,Nat.sub_zero,List.getElem?_cons_zero,Option.getD_some] at h1
 simp only [Nat.zero_le,if_true,Nat.sub_zero,List.getElem?_cons_succ,List.getElem?_cons_zero,Option.getD_some] at h2
 obtain ⟨a,c,e1, -⟩:=h1.1.eF
 rw [e1] at h1
 have hc0:c=0:=h1.2
 subst hc0
 have e2:=h2.cJ
 have hvs:vs= #[.slice a 0 0, .int .i64 n]:=by
  have hsz:vs.size=2:=hs.sz
  apply Array.ext
  · simpa using hsz
  · intro i g1 g2
    have:i=0∨i=1:=by omega
    rcases this with rfl|rfl
    · simpa [Array.getD_eq_getD_getElem?,Array.getElem?_eq_getElem g1] using e1
    · simpa [Array.getD_eq_getD_getElem?,Array.getElem?_eq_getElem g1] using e2
 by_cases hn:n=0
 · rw [hvs]
   refine (hroom a w hn).mono ?_
   rintro en w' ⟨rfl,rfl⟩
   have hw:SR [] 2 F γ C (Am.put (eE 0 [.sl .ex 1 [], .int .i64 n]) 0 (.sl .own 1 [])) H0 vs w':=by
    refine hs.wx ⟨fun t=> ?_,fK.refl _⟩
    rw [eD]
    split
    · rename_i ht;subst ht
      rw [dZ]
      exact Wx.own _ _
    · refine Wx.same fun l k xs=> ?_
      rw [dZ]
      match t with
      |0=>simp
      |1=>simp
      |t+2=>simp
   exact ⟨.sl .own 1 [],_,H0,γ,C,rfl,⟨rfl,rfl⟩,List.prefix_refl _,hw.Xh (by rw [eD];simp) (by rw [hvs];rfl) (by simp),Ext.refl ..⟩
 · have hpos:0<n:=by omega
   rw [hvs]
   refine (hgrow a w hpos).mono ?_
   rintro en w' ⟨rfl,rfl⟩
   generalize hcap:grownCap w n.toNat 0 el=cap
   have hge:n.toNat≤cap:=by rw [←hcap];exact grownCap_ge w _ _ _
   generalize hrow:(#[]:Array Value)++Builtin.zeroCells z.cells n.toNat++Builtin.zeroCells z.cells (cap - n.toNat)=row
   have hrl:row.size=cap:=by
    rw [←hrow];simp only [Array.size_append,size_zeroCells,hz];simp;omega
   obtain ⟨q1,q2,q3⟩:=heap_alloc w.drew (.cells row el)
   obtain ⟨C',g1,g2, -, -⟩:=vj (ds:=[]) (w':=w.drew.alloc (.cells row el)) (d:=some 0) (Bu:=[]) (xs:=[]) (k:=1) (n:=0) (c:=cap)
    hs (by intro x hx;injection hx with hx;subst hx;simp) q2 q3 q1 (by simp) (by simp) (by simp) rfl (Nat.zero_le _) (by omega) (fun q hq=>by simp) (by simp) (by simp)
   refine ⟨.sl .own 1 [],_,H0,γ,C',rfl,⟨rfl,rfl⟩,List.prefix_refl _,g1.Xh ?_ ?_ (by simp),g2⟩
   · simp [Am.aG,eD,AV.bN,AV.df]
   · rw [hvs];rfl
end Go.Am
end
section
set_option maxRecDepth 100000
namespace Go.Am
open Go
open Nat renaming reduceEqDiff→nA,reduceLT→nB,reduceLeDiff→nC,reduceAdd→nD,reduceSub→nE,reduceMul→nF,reduceBEq→nG
variable [Tabs]
theorem cq {p:Prop} (h:p:=by first|assumption|omega|(simp only [za,zb]<;>omega)):p:=h
section
variable {H T:AH} {q s:Nat} {c c':List AV}
theorem cA (h:q<H.length:=by first|assumption|omega|(simp only [za,zb]<;>omega)) (hc:c=c':=by rfl):(H.set q c)[q]? =some c':=hc▸h_eq h
theorem lf {r:Option (List AV)} (hx:H[q]? =r) (h:s≠q:=by first|assumption|omega|(simp only [za,zb]<;>omega)):(H.set s c)[q]? =r:=(W9 h).trans hx
theorem CO {r:Option (List AV)} (hx:H[q]? =r) (h:q<H.length:=by first|assumption|omega|(simp only [za,zb]<;>omega)):(H++T)[q]? =r:=(R4 h).trans hx
theorem uH (h:q=H.length:=by first|assumption|omega|(simp only [za,zb]<;>omega)) (hc:c=c':=by rfl):(H++[c])[q]? =some c':=hc▸M3 h
theorem bW {ah:AH} {n0:Nat} {S:List Nat} (s:Nat) (h:Fr ah n0 S H) (hs:s∈S∨n0≤s:=by first|exact .inr (by first|assumption|omega|(simp only [za,zb]<;>omega))|exact .inl (by simp)):Fr ah n0 S (H.set s c):=Fr.set h hs
end
theorem ak {H:AH}:fK H H:=fK.refl _
theorem aC {g g':Prop} (k:g') (h:g=g':=by
 first|(conv=>lhs;simp only [WW, ↓reduceIte,nA,nB,nC,nD,nE,nF,nG,reduceCtorEq])|rfl):g:=h▸k
theorem aV {p g g':Prop} (f:p) (k:g') (h:p→g=g':=by
 intro f;first|(conv=>lhs;simp only [WW, ↓reduceIte,nA,nB,nC,nD,nE,nF,nG,reduceCtorEq,f])|rfl):g:=h f▸k
theorem cN {g g':Prop} (k:g') (h:g=g':=by
 first|(conv=>lhs;simp (disch:=first|assumption|omega|(simp only [za,zb]<;>omega)|fail) only [WW,WH, ↓reduceIte,nA,nB,nC,nD,nE,nF,nG,reduceCtorEq])|rfl):g:=h▸k
theorem az {p g g':Prop} (f:p) (k:g') (h:p→g=g':=by
 intro f;first|(conv=>lhs;simp (disch:=first|assumption|omega|(simp only [za,zb]<;>omega)|fail) only [WW,WH, ↓reduceIte,nA,nB,nC,nD,nE,nF,nG,reduceCtorEq,f])|rfl):g:=h f▸k
structure GZ (p:Prop):Prop where
 out:p
section
variable {P:Program} {L:List Nat} {N n0:Nat} {e:Env} {ah:AH} {t:List It} {Q:Exit→Env→AH→Prop} {r:List aL}
theorem bR {β:Type} {x y:Option β} {z:β} {o:aL} {B want:Bool} (h:(if B=true then x else y)=some z) (k1:B=true→x=some z→GZ (UG P L N n0 o r t Q e ah (some (true==want))))
 (k2:B=false→y=some z→GZ (UG P L N n0 o r t Q e ah (some (false==want)))):GZ (UG P L N n0 o r t Q e ah (some (B==want))):=by
 cases B
 · exact k2 rfl h
 · exact k1 rfl h
theorem kK {o:aL} {B want:Bool} (k1:B=true→GZ (UG P L N n0 o r t Q e ah (some (true==want))))
 (k2:B=false→GZ (UG P L N n0 o r t Q e ah (some (false==want)))):GZ (UG P L N n0 o r t Q e ah (some (B==want))):=by
 cases B
 · exact k2 rfl
 · exact k1 rfl
theorem bl {β:Type} {x y:Option β} {z:β} {a b:av} {B:Bool} (h:(if B=true then x else y)=some z) (k1:B=true→x=some z→GZ (U P L N n0 (.code a::t) Q .normal e ah))
 (k2:B=false→y=some z→GZ (U P L N n0 (.code b::t) Q .normal e ah)):GZ (UC P L N n0 a b t Q e ah (.bool B)):=by
 cases B
 · exact k2 rfl h
 · exact k1 rfl h
end
def AV.aby:AV→Bool
 | .sl (.fr _) _ _=>false
 |_=>true
theorem Wx.Zp {a:AV} (h:a.aby=true):Wx a a:= .same fun l k xs e=>by subst e;cases h
theorem Wx.gsZ {s k n n' c:Nat} (h:n=n'):Wx (.ck s k n c) (.ck s k n' c):=by subst h;exact Wx.Zp rfl
theorem wAZ {cs cs':List AV} (h:gm cs cs':=by repeat (first|exact gm.nil|apply gm.same|apply gm.n)):gm cs cs':=h
theorem wBZ {cs cs':List AV} (h:nc cs cs':=by repeat (first|exact nc.nil|apply nc.same|apply nc.n|refine nc.agg wAZ ?_)):nc cs cs':=h
theorem aX {a a':AV} (h:Wx a a':=by
 first|exact Wx.Zp rfl|exact Wx.n|exact Wx.own .. |exact Wx.un _|exact Wx.agg wAZ|exact Wx.err|exact Wx.gsZ (by simp)|exact Wx.aaD wBZ):Wx a a':=h
theorem aJ {e e1:Env} (h:WE e e1:=by
 repeat (refine WE.cons aX ?_)
 exact WE.nil):WE e e1:=h
theorem eG {p:Prop} {e e1:Env} (f:p) (h:p→WE e e1:=by
 intro f
 repeat (refine WE.cons (by first|exact aX|exact Wx.Zm (by simp only [f,WB])|exact Wx.abm (by simp only [f,WB])|exact Wx.epE (by simp only [f])) ?_)
 exact WE.nil):WE e e1:=h f
theorem wlZ {a a':List AV} (h:WL a a':=by
 repeat (refine WL.cons aX ?_)
 exact WL.nil):WL a a':=h
theorem Ee {a a':List AV} (h:vq a a':=by
 repeat (refine vq.cons aX ?_)
 exact vq.nil):vq a a':=h
theorem c6 {x:Exit} (h:x≠ .normal:=by simp):x≠ .normal:=h
section
variable {P:Program} {L:List Nat} {N n0:Nat} {e:Env} {ah:AH} {t:List It} {Q:Exit→Env→AH→Prop} {r:List aL} {d:Option Nat} {f:Nat}
theorem bB {zs zs':List AV} {bQ HE:AH} {V:AV} (hh:fK ah bQ) (h:aF P f zs' bQ fun v H'=>v=V∧H'=HE) (hk:GZ (U P L N n0 (.ops r::t) Q .normal (aG L (vm e) d V.df) HE))
 (hw:WL zs zs':=by
 repeat (refine WL.cons aX ?_)
 exact WL.nil):GZ (UK P L N n0 f zs d r t Q e ah):=⟨Xg h hw hh hk.out⟩
theorem uXZ {zs zs':List AV} {bQ:AH} {R:AV→AH→Prop} (hh:fK ah bQ) (h:aF P f zs' bQ R) (hk:∀v aE,R v aE→GZ (U P L N n0 (.ops r::t) Q .normal (aG L (vm e) d v.df) aE))
 (hw:WL zs zs':=by
 repeat (refine WL.cons aX ?_)
 exact WL.nil):GZ (UK P L N n0 f zs d r t Q e ah):=⟨W5 h hw hh fun v aE hR=>(hk v aE hR).out⟩
theorem I9 {zs zs':List AV} {V:AV} (h:aF P f zs' [] fun v H'=>v=V∧H'=[]) (hp:kq ah zs zs') (hk:GZ (U P L N n0 (.ops r::t) Q .normal (aG L (vm e) d V.df) ah)) (hs:V.Ed=true:=by rfl) (hw:WL zs zs:=by
 repeat (refine WL.cons (Wx.Zp rfl) ?_)
 exact WL.nil):GZ (UK P L N n0 f zs d r t Q e ah):=
 ⟨Xg (aF.ofE h hp (by rintro _ rfl;exact hs)) hw (fK.refl _) hk.out⟩
theorem Ja {cs cs':List AV} (h:mQ ah cs cs':=by
 repeat (first|exact mQ.nil|refine mQ.cons (by first|exact ga.int|exact ga.b8|exact ga.bool|exact ga.str|exact ga.v|exact .sl _ _ _|exact .ep _ _) ?_)):mQ ah cs cs':=h
theorem V9 {c:av} (h:AX P L N n0 c (fun x e ah=>GZ (U P L N n0 t Q x e ah)) e ah):GZ (UX P L N n0 c t Q e ah):=⟨Yh (AX.mono h fun _ _ _ h=>h.out)⟩
theorem Zq {c:av} (h:GZ (UX P L N n0 c t Q e ah)):AX P L N n0 c (fun x e ah=>GZ (U P L N n0 t Q x e ah)) e ah:=AX.mono h.out fun _ _ _ h=>⟨h⟩
theorem bz {c:av} {e1:Env} {bQ:AH} (hh:fK ah bQ) (h:AX P L N n0 c (fun x e ah=>GZ (U P L N n0 t Q x e ah)) e1 bQ) (he:WE e e1:=by
 repeat (refine WE.cons aX ?_)
 exact WE.nil):GZ (UX P L N n0 c t Q e ah):=V9 (AX.weak he hh h)
theorem gaZ {α:Type} {f:α→AV} {k b q c n1:Nat} {x y:Ar} {tg:Tg} {X Y Z:List α} {ys:List AV} {g:Option (Nat×Bool)} (hf:∀x,(f x).cells.length=k∧bU (f x).cells=true∧fz (f x).cells=true∧aS (f x).cells=true)
 (hk0:0<k) (hx:ev e x= .ck q k X.length c) (hy:ev e y= .sl tg k ys) (hys:ys=ml f Y) (hY:Y≠[]) (hz:eN b X Y=some Z) (hG:GF k n1 q (ml f X) c ah) (hn:n1≤ah.length)
 (hK:∀q' c' aE,GF k n1 q' (ml f Z) c' aE→(∀s,s<ah.length→s<n1∨(0<c→s≠q)→aE[s]? =ah[s]?)→ah.length≤aE.length→(q'=q∨ah.length≤q')→
  GZ (U P L N n0 (.ops r::t) Q .normal (aG L e d (.ck q' k Z.length c')) aE)):
 GZ (UG P L N n0 ⟨d, .kB k b x y,g⟩ r t Q e ah (some true)):=⟨Te hf hk0 hx hy hys hY hz hG hn fun q' c' aE h1 h2 h3 h4=>(hK q' c' aE h1 h2 h3 h4).out⟩
end
theorem aA {α:Type} {a b:α} (h:some a=some b):a=b:=Option.some.inj h
theorem cw {α β:Type} {a b:α} {c d:β} (h:some (a,c)=some (b,d)):a=b∧c=d:=Prod.mk.inj (Option.some.inj h)
theorem n9 {α β γ:Type} {a b:α} {c d:β} {e f:γ} (h:some (a,c,e)=some (b,d,f)):a=b∧c=d∧e=f:=by
 obtain ⟨h1,h2⟩:=cw h;exact ⟨h1,Prod.mk.inj h2⟩
theorem abz {α β γ δ:Type} {a b:α} {c d:β} {e f:γ} {g i:δ} (h:some (a,c,e,g)=some (b,d,f,i)):a=b∧c=d∧e=f∧g=i:=by
 obtain ⟨h1,h2,h3⟩:=n9 h;exact ⟨h1,h2,Prod.mk.inj h3⟩
theorem abA {α β γ δ ε:Type} {a b:α} {c d:β} {e f:γ} {g i:δ} {j k:ε} (h:some (a,c,e,g,j)=some (b,d,f,i,k)):a=b∧c=d∧e=f∧g=i∧j=k:=by
 obtain ⟨h1,h2,h3,h4⟩:=abz h;exact ⟨h1,h2,h3,Prod.mk.inj h4⟩
theorem acU {α β γ δ ε ζ:Type} {a b:α} {c d:β} {e f:γ} {g i:δ} {j k:ε} {l m:ζ} (h:some (a,c,e,g,j,l)=some (b,d,f,i,k,m)):a=b∧c=d∧e=f∧g=i∧j=k∧l=m:=by
 obtain ⟨h1,h2,h3,h4,h5⟩:=abA h;exact ⟨h1,h2,h3,h4,Prod.mk.inj h5⟩
theorem bf {P:Program} {e:Env} {ah:AH}:fJ P e ah []=some []:=rfl
theorem aW {P:Program} {e:Env} {ah:AH} {t:Nat} {rs:List ResultVar} {vs:List AV} (hr:fJ P e ah rs=some vs) (a:AV) (h:Am.get e t=a:=by rfl) (ht:a.ew=false:=by rfl):fJ P e ah (.tmp t::rs)=some (a::vs):=wB h ht hr
theorem bg {n:Nat} {a:AV} (h:Cl n a:=by first|(simp [fin,W8,W7,cu,M1];done)|(simp [fin,AV.df,AV.sh,AV.br,W8,W7,cu,M1];done)):Cl n a:=h
theorem Ef {n:Nat} {c:List AV} (h:∀a∈c,Cl n a:=by simp [M1];try omega):∀a∈c,Cl n a:=h
theorem aI {p q:Prop} (a:p) (b:q):p∧q:=⟨a,b⟩
theorem bk:Exit.ret= .normal∨Exit.ret= .ret:= .inr rfl
theorem Zr:Exit.normal= .normal∨Exit.normal= .ret:= .inl rfl
theorem lH {P:Program} {N f:Nat} {rs:List ResultVar} {m:av} (hF:bM P f N rs (erase m)) (L:List Nat) {args:List AV} {R:AV→AH→Prop} {H0:AH} (S:List Nat)
 (h:ko H0.length H0→∀K0:Exit→Env→AH→Prop,(∀x e' H,x= .normal∨x= .ret→vt P H0 rs R e' H→GZ (K0 x e' H))→
  ∀H,H=H0→Fr H0 H0.length S H→GZ (U P L N H0.length [.code m] K0 .normal (eE 0 args) H)) (ho:pX N (erase m)=true:=by kernel_rfl) (hN:args.length≤N:=by simp):aF P f args H0 R:=by
 refine aF.Yi hF (m:=m) rfl L ho hN fun hcl K0 aN=> ?_
 refine AX.Ti (m:=m) rfl ho ?_
 exact (h hcl K0 (fun x e' H h1 h2=>⟨aN x e' H h1 h2⟩) H0 rfl (Fr.refl H0 S)).out
theorem fe {P:Program} {N f:Nat} {rs:List ResultVar} {m:av} (hF:bM P f N rs (erase m)) (L:List Nat) {args:List AV} {R:AV→AH→Prop} {H0:AH}
 (h:ko H0.length H0→∀K0:Exit→Env→AH→Prop,(∀x e' H,x= .normal∨x= .ret→vt P H0 rs R e' H→GZ (K0 x e' H))→
  GZ (U P L N H0.length [.code m] K0 .normal (eE 0 args) H0)) (ho:pX N (erase m)=true:=by kernel_rfl) (hN:args.length≤N:=by simp):aF P f args H0 R:=by
 refine aF.Yi hF (m:=m) rfl L ho hN fun hcl K0 aN=> ?_
 exact AX.Ti (m:=m) rfl ho (h hcl K0 (fun x e' H h1 h2=>⟨aN x e' H h1 h2⟩)).out
theorem bT {P:Program} {L:List Nat} {N n0:Nat} {e:Env} {ah:AH} {K:Exit→Env→AH→Prop} {m:av}
 (h:∀K':Exit→Env→AH→Prop,(∀x e ah e1 bQ,WE e e1→fK ah bQ→K x e1 bQ→GZ (K' x e ah))→GZ (U P L N n0 [.code m] K' .normal e ah)) (ho:pX N (erase m)=true:=by kernel_rfl):AX P L N n0 (erase m) K e ah:=
 AX.go rfl ho fun K' hK=>(h K' fun x e ah e1 bQ h1 h2 h3=>⟨hK x e ah e1 bQ h1 h2 h3⟩).out
theorem gH {P:Program} {L:List Nat} {N n0:Nat} {e:Env} {ah:AH} {K:Exit→Env→AH→Prop} {m:av} {ρ τ σ:Type} {body:σ→Option (St ρ τ σ)} (J:σ→Env→AH→Prop) {F:Nat} {s0:σ} {o:ρ⊕τ} (hit:Am.iter body F s0=some o) (h0:J s0 e ah)
 (round:∀(K':Exit→Env→AH→Prop) s st e ah,J s e ah→body s=some st→
 (∀s',st= .cU s'→∀e' aE e1 bQ,WE e' e1→fK aE bQ→J s' e1 bQ→GZ (K' .normal e' aE))→
 (∀t,st= .dW t→o= .inr t)→(∀r,st= .ret r→o= .inl r)→
 (∀x e' aE e1 bQ,x≠ .normal→WE e' e1→fK aE bQ→K x e1 bQ→GZ (K' x e' aE))→GZ (U P L N n0 [.code m] K' .normal e ah)) (ho:pX N (erase m)=true:=by kernel_rfl):AX P L N n0 (.loop (erase m)) K e ah:=
 AX.iter rfl ho J hit h0 fun K' s st e ah h1 h2 h3 h4 h5 h6=>(round K' s st e ah h1 h2 (fun s' h e' aE e1 bQ g1 g2 g3=>⟨h3 s' h e' aE e1 bQ g1 g2 g3⟩) h4 h5 fun x e' aE e1 bQ hx g1 g2 g3=>⟨h6 x e' aE e1 bQ hx g1 g2 g3⟩).out
abbrev aj (d:Nat) (p:fc):aL:=⟨some d,p,none⟩
abbrev ax (d:Nat) (p:fc) (g:Nat) (w:Bool):aL:=⟨some d,p,some (g,w)⟩
abbrev cS (p:fc):aL:=⟨none,p,none⟩
abbrev au (d x:Nat):aL:=⟨some d, .mv (.t x),none⟩
abbrev aQ (d x:Nat):aL:=⟨some d, .aO (.t x),none⟩
end Go.Am
end
section
namespace Go.Proofs
open Go.Shelf
def Tryz.GD:Go.Shelf.Ren:=⟨fun|137=>108|217=>88|266=>115|n=>n,fun|9=>9|5=>5|3=>3|n=>n,fun|n=>n⟩
theorem Tryz.To:Go.Proofs.Lays.n137 Tryz.prog Tryz.GD:= {
 mixed:=by kernel_rfl
 f137:=Tryz.func108.trans (congrArg some (by kernel_rfl))
 f217:=Tryz.func88.trans (congrArg some (by kernel_rfl))
 f266:=Tryz.func115.trans (congrArg some (by kernel_rfl))
 t3:=Tryz.underlying3
 a3:=Tryz.isAgg3
 z3:=Tryz.sizeOf3
 v3:=Tryz.zeroValue3
 t5:=Tryz.underlying5
 a5:=Tryz.isAgg5
 z5:=Tryz.sizeOf5
 v5:=Tryz.zeroValue5
 t9:=Tryz.underlying9
 a9:=Tryz.isAgg9
 z9:=Tryz.sizeOf9
 v9:=Tryz.zeroValue9}
open Go.RowKit in
theorem Tryz.strings_IndexByte (s:ByteArray) (c:Int) (w:World):
 Calls Tryz.prog 108 #[.string s, .int .u8 c] w fun e w'=>e= .returned (.int .i64 (Lib.indexByte s.data.toList c.toNat.toUInt8))∧w'=w:=Any.strings_IndexByte Tryz.To s c w
def Tryz.Eg:Go.Shelf.Ren:=⟨fun|171=>34|243=>57|246=>82|283=>109|284=>110|285=>111|286=>112|129=>127|317=>126|318=>128|319=>129|320=>130|337=>134|338=>135|n=>n,fun|3=>3|9=>9|2=>2|4=>4|171=>96|0=>0|53=>68|37=>33|5=>5|173=>99|212=>113|51=>102|20=>20|213=>114|46=>88|232=>132|233=>133|n=>n,fun|17=>1|18=>6|19=>7|n=>n⟩
theorem Tryz.P3:Go.Proofs.LaysM.n171 Tryz.prog Tryz.Eg:= {
 mixed:=by kernel_rfl
 f129:=Tryz.func127.trans (congrArg some (by kernel_rfl))
 f171:=Tryz.func34.trans (congrArg some (by kernel_rfl))
 f243:=Tryz.func57.trans (congrArg some (by kernel_rfl))
 f246:=Tryz.func82.trans (congrArg some (by kernel_rfl))
 f283:=Tryz.func109.trans (congrArg some (by kernel_rfl))
 f284:=Tryz.func110.trans (congrArg some (by kernel_rfl))
 f285:=Tryz.func111.trans (congrArg some (by kernel_rfl))
 f286:=Tryz.func112.trans (congrArg some (by kernel_rfl))
 f317:=Tryz.func126.trans (congrArg some (by kernel_rfl))
 f318:=Tryz.func128.trans (congrArg some (by kernel_rfl))
 f319:=Tryz.func129.trans (congrArg some (by kernel_rfl))
 f320:=Tryz.func130.trans (congrArg some (by kernel_rfl))
 f337:=Tryz.func134.trans (congrArg some (by kernel_rfl))
 f338:=Tryz.func135.trans (congrArg some (by kernel_rfl))
 t0:=Tryz.underlying0
 a0:=Tryz.isAgg0
 z0:=Tryz.sizeOf0
 v0:=Tryz.zeroValue0
 t2:=Tryz.underlying2
 a2:=Tryz.isAgg2
 z2:=Tryz.sizeOf2
 v2:=Tryz.zeroValue2
 t3:=Tryz.underlying3
 a3:=Tryz.isAgg3
 z3:=Tryz.sizeOf3
 v3:=Tryz.zeroValue3
 t4:=Tryz.underlying4
 a4:=Tryz.isAgg4
 z4:=Tryz.sizeOf4
 v4:=Tryz.zeroValue4
 t5:=Tryz.underlying5
 a5:=Tryz.isAgg5
 z5:=Tryz.sizeOf5
 v5:=Tryz.zeroValue5
 t9:=Tryz.underlying9
 a9:=Tryz.isAgg9
 z9:=Tryz.sizeOf9
 v9:=Tryz.zeroValue9
 t20:=Tryz.underlying20
 a20:=Tryz.isAgg20
 z20:=Tryz.sizeOf20
 v20:=Tryz.zeroValue20
 t37:=Tryz.underlying33
 a37:=Tryz.isAgg33
 z37:=Tryz.sizeOf33
 v37:=Tryz.zeroValue33
 t46:=Tryz.underlying88
 a46:=Tryz.isAgg88
 z46:=Tryz.sizeOf88
 v46:=Tryz.zeroValue88
 t51:=Tryz.underlying102
 a51:=Tryz.isAgg102
 z51:=Tryz.sizeOf102
 v51:=Tryz.zeroValue102
 t53:=Tryz.underlying68
 a53:=Tryz.isAgg68
 z53:=Tryz.sizeOf68
 v53:=Tryz.zeroValue68
 t171:=Tryz.underlying96
 a171:=Tryz.isAgg96
 z171:=Tryz.sizeOf96
 v171:=Tryz.zeroValue96
 t173:=Tryz.underlying99
 a173:=Tryz.isAgg99
 z173:=Tryz.sizeOf99
 v173:=Tryz.zeroValue99
 t212:=Tryz.underlying113
 a212:=Tryz.isAgg113
 z212:=Tryz.sizeOf113
 v212:=Tryz.zeroValue113
 t213:=Tryz.underlying114
 a213:=Tryz.isAgg114
 z213:=Tryz.sizeOf114
 t232:=Tryz.underlying132
 a232:=Tryz.isAgg132
 z232:=Tryz.sizeOf132
 v232:=Tryz.zeroValue132
 t233:=Tryz.underlying133
 a233:=Tryz.isAgg133
 z233:=Tryz.sizeOf133
 v233:=Tryz.zeroValue133
 g17:=by kernel_rfl
 g18:=by kernel_rfl
 g19:=by kernel_rfl
 i0:=by kernel_rfl
 i2:=by kernel_rfl
 i3:=by kernel_rfl
 i4:=by kernel_rfl
 i5:=by kernel_rfl
 i9:=by kernel_rfl
 i20:=by kernel_rfl
 i37:=by kernel_rfl
 i46:=by kernel_rfl
 i51:=by kernel_rfl
 i53:=by kernel_rfl
 i171:=by kernel_rfl
 i173:=by kernel_rfl
 i212:=by kernel_rfl
 i232:=by kernel_rfl
 i233:=by kernel_rfl
 m17:=by kernel_rfl
 m18:=by kernel_rfl
 m19:=by kernel_rfl}
open Go.RowKit Go.Sort Go.Lib in
theorem Tryz.strconv_Itoa (n:Int) (h0: -9223372036854775808≤n) (h1:n≤9223372036854775807) (w:World) (htab:Lib.TabIs Tryz.prog w "internal/strconv.uint64pow10" .u64 Lib.pow10Tab):
 Calls Tryz.prog 34 #[.int .i64 n] w fun e w'=>e= .returned (.string ⟨(Lib.itoa n).toArray⟩)∧∃k os,w'=grow (w.drewN k) os:=Any.strconv_Itoa Tryz.P3 n h0 h1 w htab
def Tryz.Eh:Go.Shelf.Ren:=⟨fun|172=>66|244=>100|245=>101|247=>119|279=>120|280=>121|281=>122|282=>123|287=>131|316=>132|171=>34|205=>133|321=>136|322=>137|243=>57|246=>82|283=>109|284=>110|285=>111|286=>112|129=>127|317=>126|318=>128|319=>129|320=>130|337=>134|338=>135|n=>n,fun|9=>9|3=>3|75=>77|76=>78|4=>4|5=>5|167=>106|37=>33|0=>0|85=>107|2=>2|168=>109|53=>68|175=>121|46=>88|210=>124|127=>128|145=>131|143=>129|21=>21|171=>96|173=>99|212=>113|51=>102|20=>20|213=>114|232=>132|233=>133|80=>93|n=>n,fun|15=>4|16=>5|17=>1|18=>6|19=>7|n=>n⟩
theorem Tryz.Al:Go.Proofs.LaysC.n172 Tryz.prog Tryz.Eh:= {
 mixed:=by kernel_rfl
 f129:=Tryz.func127.trans (congrArg some (by kernel_rfl))
 f171:=Tryz.func34.trans (congrArg some (by kernel_rfl))
 f172:=Tryz.func66.trans (congrArg some (by kernel_rfl))
 f205:=Tryz.func133.trans (congrArg some (by kernel_rfl))
 f243:=Tryz.func57.trans (congrArg some (by kernel_rfl))
 f244:=Tryz.func100.trans (congrArg some (by kernel_rfl))
 f245:=Tryz.func101.trans (congrArg some (by kernel_rfl))
 f246:=Tryz.func82.trans (congrArg some (by kernel_rfl))
 f247:=Tryz.func119.trans (congrArg some (by kernel_rfl))
 f279:=Tryz.func120.trans (congrArg some (by kernel_rfl))
 f280:=Tryz.func121.trans (congrArg some (by kernel_rfl))
 f281:=Tryz.func122.trans (congrArg some (by kernel_rfl))
 f282:=Tryz.func123.trans (congrArg some (by kernel_rfl))
 f283:=Tryz.func109.trans (congrArg some (by kernel_rfl))
 f284:=Tryz.func110.trans (congrArg some (by kernel_rfl))
 f285:=Tryz.func111.trans (congrArg some (by kernel_rfl))
 f286:=Tryz.func112.trans (congrArg some (by kernel_rfl))
 f287:=Tryz.func131.trans (congrArg some (by kernel_rfl))
 f316:=Tryz.func132.trans (congrArg some (by kernel_rfl))
 f317:=Tryz.func126.trans (congrArg some (by kernel_rfl))
 f318:=Tryz.func128.trans (congrArg some (by kernel_rfl))
 f319:=Tryz.func129.trans (congrArg some (by kernel_rfl))
 f320:=Tryz.func130.trans (congrArg some (by kernel_rfl))
 f321:=Tryz.func136.trans (congrArg some (by kernel_rfl))
 f322:=Tryz.func137.trans (congrArg some (by kernel_rfl))
 f337:=Tryz.func134.trans (congrArg some (by kernel_rfl))
 f338:=Tryz.func135.trans (congrArg some (by kernel_rfl))
 t0:=Tryz.underlying0
 a0:=Tryz.isAgg0
 z0:=Tryz.sizeOf0
 v0:=Tryz.zeroValue0
 t2:=Tryz.underlying2
 a2:=Tryz.isAgg2
 z2:=Tryz.sizeOf2
 v2:=Tryz.zeroValue2
 t3:=Tryz.underlying3
 a3:=Tryz.isAgg3
 z3:=Tryz.sizeOf3
 v3:=Tryz.zeroValue3
 t4:=Tryz.underlying4
 a4:=Tryz.isAgg4
 z4:=Tryz.sizeOf4
 v4:=Tryz.zeroValue4
 t5:=Tryz.underlying5
 a5:=Tryz.isAgg5
 z5:=Tryz.sizeOf5
 v5:=Tryz.zeroValue5
 t9:=Tryz.underlying9
 a9:=Tryz.isAgg9
 z9:=Tryz.sizeOf9
 v9:=Tryz.zeroValue9
 t20:=Tryz.underlying20
 a20:=Tryz.isAgg20
 z20:=Tryz.sizeOf20
 v20:=Tryz.zeroValue20
 t21:=Tryz.underlying21
 a21:=Tryz.isAgg21
 z21:=Tryz.sizeOf21
 v21:=Tryz.zeroValue21
 t37:=Tryz.underlying33
 a37:=Tryz.isAgg33
 z37:=Tryz.sizeOf33
 v37:=Tryz.zeroValue33
 t46:=Tryz.underlying88
 a46:=Tryz.isAgg88
 z46:=Tryz.sizeOf88
 v46:=Tryz.zeroValue88
 t51:=Tryz.underlying102
 a51:=Tryz.isAgg102
 z51:=Tryz.sizeOf102
 v51:=Tryz.zeroValue102
 t53:=Tryz.underlying68
 a53:=Tryz.isAgg68
 z53:=Tryz.sizeOf68
 v53:=Tryz.zeroValue68
 t75:=Tryz.underlying77
 a75:=Tryz.isAgg77
 z75:=Tryz.sizeOf77
 v75:=Tryz.zeroValue77
 t76:=Tryz.underlying78
 a76:=Tryz.isAgg78
 z76:=Tryz.sizeOf78
 v76:=Tryz.zeroValue78
 t85:=Tryz.underlying107
 a85:=Tryz.isAgg107
 z85:=Tryz.sizeOf107
 v85:=Tryz.zeroValue107
 t127:=Tryz.underlying128
 a127:=Tryz.isAgg128
 z127:=Tryz.sizeOf128
 v127:=Tryz.zeroValue128
 t143:=Tryz.underlying129
 a143:=Tryz.isAgg129
 z143:=Tryz.sizeOf129
 v143:=Tryz.zeroValue129
 t145:=Tryz.underlying131
 a145:=Tryz.isAgg131
 z145:=Tryz.sizeOf131
 v145:=Tryz.zeroValue131
 t167:=Tryz.underlying106
 a167:=Tryz.isAgg106
 z167:=Tryz.sizeOf106
 v167:=Tryz.zeroValue106
 t168:=Tryz.underlying109
 a168:=Tryz.isAgg109
 z168:=Tryz.sizeOf109
 v168:=Tryz.zeroValue109
 t171:=Tryz.underlying96
 a171:=Tryz.isAgg96
 z171:=Tryz.sizeOf96
 v171:=Tryz.zeroValue96
 t173:=Tryz.underlying99
 a173:=Tryz.isAgg99
 z173:=Tryz.sizeOf99
 v173:=Tryz.zeroValue99
 t175:=Tryz.underlying121
 a175:=Tryz.isAgg121
 z175:=Tryz.sizeOf121
 v175:=Tryz.zeroValue121
 t210:=Tryz.underlying124
 a210:=Tryz.isAgg124
 z210:=Tryz.sizeOf124
 v210:=Tryz.zeroValue124
 t212:=Tryz.underlying113
 a212:=Tryz.isAgg113
 z212:=Tryz.sizeOf113
 v212:=Tryz.zeroValue113
 t213:=Tryz.underlying114
 a213:=Tryz.isAgg114
 z213:=Tryz.sizeOf114
 t232:=Tryz.underlying132
 a232:=Tryz.isAgg132
 z232:=Tryz.sizeOf132
 v232:=Tryz.zeroValue132
 t233:=Tryz.underlying133
 a233:=Tryz.isAgg133
 z233:=Tryz.sizeOf133
 v233:=Tryz.zeroValue133
 g15:=by kernel_rfl
 g16:=by kernel_rfl
 g17:=by kernel_rfl
 g18:=by kernel_rfl
 g19:=by kernel_rfl
 t80:=Tryz.underlying93
 a80:=Tryz.isAgg93
 z80:=Tryz.sizeOf93
 v80:=Tryz.zeroValue93
 i0:=by kernel_rfl
 i2:=by kernel_rfl
 i3:=by kernel_rfl
 i4:=by kernel_rfl
 i5:=by kernel_rfl
 i9:=by kernel_rfl
 i20:=by kernel_rfl
 i21:=by kernel_rfl
 i37:=by kernel_rfl
 i46:=by kernel_rfl
 i51:=by kernel_rfl
 i53:=by kernel_rfl
 i75:=by kernel_rfl
 i76:=by kernel_rfl
 i80:=by kernel_rfl
 i85:=by kernel_rfl
 i127:=by kernel_rfl
 i143:=by kernel_rfl
 i145:=by kernel_rfl
 i167:=by kernel_rfl
 i168:=by kernel_rfl
 i171:=by kernel_rfl
 i173:=by kernel_rfl
 i175:=by kernel_rfl
 i210:=by kernel_rfl
 i212:=by kernel_rfl
 i232:=by kernel_rfl
 i233:=by kernel_rfl
 m15:=by kernel_rfl
 m16:=by kernel_rfl
 m17:=by kernel_rfl
 m18:=by kernel_rfl
 m19:=by kernel_rfl
 c0:=by kernel_rfl
 c2:=by kernel_rfl
 c3:=by kernel_rfl
 c4:=by kernel_rfl
 c5:=by kernel_rfl
 c9:=by kernel_rfl
 c20:=by kernel_rfl
 c21:=by kernel_rfl
 c37:=by kernel_rfl
 c46:=by kernel_rfl
 c51:=by kernel_rfl
 c53:=by kernel_rfl
 c75:=by kernel_rfl
 c76:=by kernel_rfl
 c80:=by kernel_rfl
 c85:=by kernel_rfl
 c127:=by kernel_rfl
 c143:=by kernel_rfl
 c145:=by kernel_rfl
 c167:=by kernel_rfl
 c168:=by kernel_rfl
 c171:=by kernel_rfl
 c173:=by kernel_rfl
 c175:=by kernel_rfl
 c210:=by kernel_rfl
 c212:=by kernel_rfl
 c213:=by kernel_rfl
 c232:=by kernel_rfl
 c233:=by kernel_rfl}
open Go.RowKit in
theorem Tryz.strconv_Atoi_ok (s:ByteArray) (hmax:s.size≤9223372036854775806) (v:Int) (h:Lib.atoiAll s.data.toList= .ok v) (w:World):
 Calls Tryz.prog 66 #[.string s] w fun e w'=>e= .returned (.tuple #[.int .i64 v, .nilIface])∧(w'=w∨∃t,w'=Lib.bytesWorld w 5 t):=Any.strconv_Atoi_ok Tryz.Al s hmax v h w
open Go.RowKit in
theorem Tryz.strconv_Atoi_syntax (s:ByteArray) (hlim:s.size≤281474976710656) (h:Lib.atoiAll s.data.toList=Go.Lib.NumEnd.syntax) (ev:Value) (w:World) (hv:w.cell? ⟨4,0,none⟩=some ev) (hev:ev= .nilIface∨∃te pe,ev= .iface te pe):
 Calls Tryz.prog 66 #[.string s] w fun e w'=>∃N,e= .returned (.tuple #[.int .i64 (0), .iface 109 (.pointer (some ⟨N,0,none⟩))])∧w.heap.size≤N∧w'.heap[N]? =some (.cells #[.string ⟨#[65,116,111,105]⟩, .string s,ev] 124 (0,0))∧Below w.heap.size w w':=Any.strconv_Atoi_syntax Tryz.Al s hlim h ev w hv hev
open Go.RowKit in
theorem Tryz.strconv_Atoi_range (s:ByteArray) (hlim:s.size≤281474976710656) (h:Lib.atoiAll s.data.toList= .range) (ev:Value) (w:World) (hv:w.cell? ⟨5,0,none⟩=some ev) (hev:ev= .nilIface∨∃te pe,ev= .iface te pe):
 Calls Tryz.prog 66 #[.string s] w fun e w'=>∃N,e= .returned (.tuple #[.int .i64 (Lib.atoiSat s.data.toList), .iface 109 (.pointer (some ⟨N,0,none⟩))])∧w.heap.size≤N∧w'.heap[N]? =some (.cells #[.string ⟨#[65,116,111,105]⟩, .string s,ev] 124 (0,0))∧Below w.heap.size w w':=Any.strconv_Atoi_range Tryz.Al s hlim h ev w hv hev
def Tryz.GG:Go.Shelf.Ren:=⟨fun|145=>20|220=>41|219=>63|217=>88|225=>89|224=>90|267=>91|266=>115|314=>116|n=>n,fun|9=>9|4=>4|59=>46|3=>3|5=>5|46=>88|146=>103|51=>102|n=>n,fun|1=>0|n=>n⟩
theorem Tryz.Tp:Go.Proofs.Lays.n145 Tryz.prog Tryz.GG:= {
 mixed:=by kernel_rfl
 f145:=Tryz.func20.trans (congrArg some (by kernel_rfl))
 f217:=Tryz.func88.trans (congrArg some (by kernel_rfl))
 f219:=Tryz.func63.trans (congrArg some (by kernel_rfl))
 f220:=Tryz.func41.trans (congrArg some (by kernel_rfl))
 f224:=Tryz.func90.trans (congrArg some (by kernel_rfl))
 f225:=Tryz.func89.trans (congrArg some (by kernel_rfl))
 f266:=Tryz.func115.trans (congrArg some (by kernel_rfl))
 f267:=Tryz.func91.trans (congrArg some (by kernel_rfl))
 f314:=Tryz.func116.trans (congrArg some (by kernel_rfl))
 t3:=Tryz.underlying3
 a3:=Tryz.isAgg3
 z3:=Tryz.sizeOf3
 v3:=Tryz.zeroValue3
 t4:=Tryz.underlying4
 a4:=Tryz.isAgg4
 z4:=Tryz.sizeOf4
 v4:=Tryz.zeroValue4
 t5:=Tryz.underlying5
 a5:=Tryz.isAgg5
 z5:=Tryz.sizeOf5
 v5:=Tryz.zeroValue5
 t9:=Tryz.underlying9
 a9:=Tryz.isAgg9
 z9:=Tryz.sizeOf9
 v9:=Tryz.zeroValue9
 t46:=Tryz.underlying88
 a46:=Tryz.isAgg88
 z46:=Tryz.sizeOf88
 v46:=Tryz.zeroValue88
 t51:=Tryz.underlying102
 a51:=Tryz.isAgg102
 z51:=Tryz.sizeOf102
 v51:=Tryz.zeroValue102
 t59:=Tryz.underlying46
 a59:=Tryz.isAgg46
 z59:=Tryz.sizeOf46
 v59:=Tryz.zeroValue46
 t146:=Tryz.underlying103
 a146:=Tryz.isAgg103
 z146:=Tryz.sizeOf103
 v146:=Tryz.zeroValue103
 g1:=by kernel_rfl}
open Go.RowKit Go.Lib in
theorem Tryz.strings_Cut (s sep:ByteArray) (m:Int) (w:World) (hs:s.size<4294967281) (hm:w.cell? ⟨0,0,none⟩=some (.int .i64 m)):
 Calls Tryz.prog 20 #[.string s, .string sep] w fun e w'=>e= .returned (.tuple #[.string ⟨(Lib.cut s.data.toList sep.data.toList).1.toArray⟩, .string ⟨(Lib.cut s.data.toList sep.data.toList).2.1.toArray⟩, .bool (Lib.cut s.data.toList sep.data.toList).2.2])∧∃n,w'=w.drewN n:=Any.strings_Cut Tryz.Tp s sep m w hs hm
def Tryz.GH:Go.Shelf.Ren:=⟨fun|146=>47|221=>73|268=>104|138=>105|143=>106|195=>124|197=>86|218=>125|219=>63|260=>113|217=>88|225=>89|224=>90|267=>91|266=>115|314=>116|n=>n,fun|9=>9|31=>34|3=>3|4=>4|0=>0|105=>69|21=>21|5=>5|46=>88|119=>117|139=>120|138=>119|146=>103|51=>102|n=>n,fun|1=>0|3=>2|4=>3|n=>n⟩
theorem Tryz.Tq:Go.Proofs.Lays.n146 Tryz.prog Tryz.GH:= {
 mixed:=by kernel_rfl
 f138:=Tryz.func105.trans (congrArg some (by kernel_rfl))
 f143:=Tryz.func106.trans (congrArg some (by kernel_rfl))
 f146:=Tryz.func47.trans (congrArg some (by kernel_rfl))
 f195:=Tryz.func124.trans (congrArg some (by kernel_rfl))
 f197:=Tryz.func86.trans (congrArg some (by kernel_rfl))
 f217:=Tryz.func88.trans (congrArg some (by kernel_rfl))
 f218:=Tryz.func125.trans (congrArg some (by kernel_rfl))
 f219:=Tryz.func63.trans (congrArg some (by kernel_rfl))
 f221:=Tryz.func73.trans (congrArg some (by kernel_rfl))
 f224:=Tryz.func90.trans (congrArg some (by kernel_rfl))
 f225:=Tryz.func89.trans (congrArg some (by kernel_rfl))
 f260:=Tryz.func113.trans (congrArg some (by kernel_rfl))
 f266:=Tryz.func115.trans (congrArg some (by kernel_rfl))
 f267:=Tryz.func91.trans (congrArg some (by kernel_rfl))
 f268:=Tryz.func104.trans (congrArg some (by kernel_rfl))
 f314:=Tryz.func116.trans (congrArg some (by kernel_rfl))
 t0:=Tryz.underlying0
 a0:=Tryz.isAgg0
 z0:=Tryz.sizeOf0
 v0:=Tryz.zeroValue0
 t3:=Tryz.underlying3
 a3:=Tryz.isAgg3
 z3:=Tryz.sizeOf3
 v3:=Tryz.zeroValue3
 t4:=Tryz.underlying4
 a4:=Tryz.isAgg4
 z4:=Tryz.sizeOf4
 v4:=Tryz.zeroValue4
 t5:=Tryz.underlying5
 a5:=Tryz.isAgg5
 z5:=Tryz.sizeOf5
 v5:=Tryz.zeroValue5
 t9:=Tryz.underlying9
 a9:=Tryz.isAgg9
 z9:=Tryz.sizeOf9
 v9:=Tryz.zeroValue9
 t21:=Tryz.underlying21
 a21:=Tryz.isAgg21
 z21:=Tryz.sizeOf21
 v21:=Tryz.zeroValue21
 t31:=Tryz.underlying34
 a31:=Tryz.isAgg34
 z31:=Tryz.sizeOf34
 v31:=Tryz.zeroValue34
 t46:=Tryz.underlying88
 a46:=Tryz.isAgg88
 z46:=Tryz.sizeOf88
 v46:=Tryz.zeroValue88
 t51:=Tryz.underlying102
 a51:=Tryz.isAgg102
 z51:=Tryz.sizeOf102
 v51:=Tryz.zeroValue102
 t105:=Tryz.underlying69
 a105:=Tryz.isAgg69
 z105:=Tryz.sizeOf69
 v105:=Tryz.zeroValue69
 t119:=Tryz.underlying117
 a119:=Tryz.isAgg117
 z119:=Tryz.sizeOf117
 t138:=Tryz.underlying119
 a138:=Tryz.isAgg119
 z138:=Tryz.sizeOf119
 v138:=Tryz.zeroValue119
 t139:=Tryz.underlying120
 a139:=Tryz.isAgg120
 z139:=Tryz.sizeOf120
 v139:=Tryz.zeroValue120
 t146:=Tryz.underlying103
 a146:=Tryz.isAgg103
 z146:=Tryz.sizeOf103
 v146:=Tryz.zeroValue103
 g1:=by kernel_rfl
 g3:=by kernel_rfl
 g4:=by kernel_rfl}
open Go.RowKit Go.Lib in
theorem Tryz.strings_Split (s sep:ByteArray) (m:Int) (w:World) (hs:s.size<4294967281) (hm:w.cell? ⟨0,0,none⟩=some (.int .i64 m)) (h1:1≤sep.size):
 Calls Tryz.prog 47 #[.string s, .string sep] w fun e w'=>
  e= .returned (.slice (some ⟨w.heap.size,0,none⟩) (Lib.countB s sep+1) (Lib.countB s sep+1))∧w'=w.alloc (.cells ((Lib.splitB sep 0 (Lib.countB s sep) s).map Value.string).toArray 9):=Any.strings_Split Tryz.Tq (by kernel_rfl) s sep m w hs hm h1
def Tryz.GI:Go.Shelf.Ren:=⟨fun|161=>65|231=>97|227=>38|233=>98|235=>99|228=>60|197=>86|151=>62|260=>113|152=>87|137=>108|119=>114|224=>90|225=>89|217=>88|266=>115|n=>n,fun|9=>9|4=>4|3=>3|5=>5|117=>53|116=>52|0=>0|124=>56|105=>69|21=>21|119=>117|46=>88|139=>120|138=>119|n=>n,fun|3=>2|4=>3|n=>n⟩
theorem Tryz.Tr:Go.Proofs.Lays.n161 Tryz.prog Tryz.GI:= {
 mixed:=by kernel_rfl
 f119:=Tryz.func114.trans (congrArg some (by kernel_rfl))
 f137:=Tryz.func108.trans (congrArg some (by kernel_rfl))
 f151:=Tryz.func62.trans (congrArg some (by kernel_rfl))
 f152:=Tryz.func87.trans (congrArg some (by kernel_rfl))
 f161:=Tryz.func65.trans (congrArg some (by kernel_rfl))
 f197:=Tryz.func86.trans (congrArg some (by kernel_rfl))
 f217:=Tryz.func88.trans (congrArg some (by kernel_rfl))
 f224:=Tryz.func90.trans (congrArg some (by kernel_rfl))
 f225:=Tryz.func89.trans (congrArg some (by kernel_rfl))
 f227:=Tryz.func38.trans (congrArg some (by kernel_rfl))
 f228:=Tryz.func60.trans (congrArg some (by kernel_rfl))
 f231:=Tryz.func97.trans (congrArg some (by kernel_rfl))
 f233:=Tryz.func98.trans (congrArg some (by kernel_rfl))
 f235:=Tryz.func99.trans (congrArg some (by kernel_rfl))
 f260:=Tryz.func113.trans (congrArg some (by kernel_rfl))
 f266:=Tryz.func115.trans (congrArg some (by kernel_rfl))
 t0:=Tryz.underlying0
 a0:=Tryz.isAgg0
 z0:=Tryz.sizeOf0
 v0:=Tryz.zeroValue0
 t3:=Tryz.underlying3
 a3:=Tryz.isAgg3
 z3:=Tryz.sizeOf3
 v3:=Tryz.zeroValue3
 t4:=Tryz.underlying4
 a4:=Tryz.isAgg4
 z4:=Tryz.sizeOf4
 v4:=Tryz.zeroValue4
 t5:=Tryz.underlying5
 a5:=Tryz.isAgg5
 z5:=Tryz.sizeOf5
 v5:=Tryz.zeroValue5
 t9:=Tryz.underlying9
 a9:=Tryz.isAgg9
 z9:=Tryz.sizeOf9
 v9:=Tryz.zeroValue9
 t21:=Tryz.underlying21
 a21:=Tryz.isAgg21
 z21:=Tryz.sizeOf21
 v21:=Tryz.zeroValue21
 t46:=Tryz.underlying88
 a46:=Tryz.isAgg88
 z46:=Tryz.sizeOf88
 v46:=Tryz.zeroValue88
 t105:=Tryz.underlying69
 a105:=Tryz.isAgg69
 z105:=Tryz.sizeOf69
 v105:=Tryz.zeroValue69
 t116:=Tryz.underlying52
 a116:=Tryz.isAgg52
 z116:=Tryz.sizeOf52
 t117:=Tryz.underlying53
 a117:=Tryz.isAgg53
 z117:=Tryz.sizeOf53
 v117:=Tryz.zeroValue53
 t119:=Tryz.underlying117
 a119:=Tryz.isAgg117
 z119:=Tryz.sizeOf117
 t124:=Tryz.underlying56
 a124:=Tryz.isAgg56
 z124:=Tryz.sizeOf56
 v124:=Tryz.zeroValue56
 t138:=Tryz.underlying119
 a138:=Tryz.isAgg119
 z138:=Tryz.sizeOf119
 v138:=Tryz.zeroValue119
 t139:=Tryz.underlying120
 a139:=Tryz.isAgg120
 z139:=Tryz.sizeOf120
 v139:=Tryz.zeroValue120
 g3:=by kernel_rfl
 g4:=by kernel_rfl}
open Go.RowKit in
theorem Tryz.strings_TrimLeft_one (s:ByteArray) (c:UInt8) (hc:c.toNat<128) (w:World):
 Calls Tryz.prog 65 #[.string s, .string ⟨#[c]⟩] w fun e w'=>e= .returned (.string ⟨(Lib.trimLeftB s.data.toList c).toArray⟩)∧w'=w:=Any.strings_TrimLeft_one Tryz.Tr s c hc w
def Tryz.GJ:Go.Shelf.Ren:=⟨fun|162=>19|232=>37|227=>38|234=>39|236=>40|228=>60|271=>61|151=>62|120=>85|197=>86|152=>87|260=>113|137=>108|119=>114|224=>90|225=>89|217=>88|266=>115|n=>n,fun|9=>9|4=>4|3=>3|5=>5|117=>53|116=>52|0=>0|124=>56|21=>21|105=>69|46=>88|119=>117|139=>120|138=>119|n=>n,fun|3=>2|4=>3|n=>n⟩
theorem Tryz.Ts:Go.Proofs.Lays.n162 Tryz.prog Tryz.GJ:= {
 mixed:=by kernel_rfl
 f119:=Tryz.func114.trans (congrArg some (by kernel_rfl))
 f120:=Tryz.func85.trans (congrArg some (by kernel_rfl))
 f137:=Tryz.func108.trans (congrArg some (by kernel_rfl))
 f151:=Tryz.func62.trans (congrArg some (by kernel_rfl))
 f152:=Tryz.func87.trans (congrArg some (by kernel_rfl))
 f162:=Tryz.func19.trans (congrArg some (by kernel_rfl))
 f197:=Tryz.func86.trans (congrArg some (by kernel_rfl))
 f217:=Tryz.func88.trans (congrArg some (by kernel_rfl))
 f224:=Tryz.func90.trans (congrArg some (by kernel_rfl))
 f225:=Tryz.func89.trans (congrArg some (by kernel_rfl))
 f227:=Tryz.func38.trans (congrArg some (by kernel_rfl))
 f228:=Tryz.func60.trans (congrArg some (by kernel_rfl))
 f232:=Tryz.func37.trans (congrArg some (by kernel_rfl))
 f234:=Tryz.func39.trans (congrArg some (by kernel_rfl))
 f236:=Tryz.func40.trans (congrArg some (by kernel_rfl))
 f260:=Tryz.func113.trans (congrArg some (by kernel_rfl))
 f266:=Tryz.func115.trans (congrArg some (by kernel_rfl))
 f271:=Tryz.func61.trans (congrArg some (by kernel_rfl))
 t0:=Tryz.underlying0
 a0:=Tryz.isAgg0
 z0:=Tryz.sizeOf0
 v0:=Tryz.zeroValue0
 t3:=Tryz.underlying3
 a3:=Tryz.isAgg3
 z3:=Tryz.sizeOf3
 v3:=Tryz.zeroValue3
 t4:=Tryz.underlying4
 a4:=Tryz.isAgg4
 z4:=Tryz.sizeOf4
 v4:=Tryz.zeroValue4
 t5:=Tryz.underlying5
 a5:=Tryz.isAgg5
 z5:=Tryz.sizeOf5
 v5:=Tryz.zeroValue5
 t9:=Tryz.underlying9
 a9:=Tryz.isAgg9
 z9:=Tryz.sizeOf9
 v9:=Tryz.zeroValue9
 t21:=Tryz.underlying21
 a21:=Tryz.isAgg21
 z21:=Tryz.sizeOf21
 v21:=Tryz.zeroValue21
 t46:=Tryz.underlying88
 a46:=Tryz.isAgg88
 z46:=Tryz.sizeOf88
 v46:=Tryz.zeroValue88
 t105:=Tryz.underlying69
 a105:=Tryz.isAgg69
 z105:=Tryz.sizeOf69
 v105:=Tryz.zeroValue69
 t116:=Tryz.underlying52
 a116:=Tryz.isAgg52
 z116:=Tryz.sizeOf52
 t117:=Tryz.underlying53
 a117:=Tryz.isAgg53
 z117:=Tryz.sizeOf53
 v117:=Tryz.zeroValue53
 t119:=Tryz.underlying117
 a119:=Tryz.isAgg117
 z119:=Tryz.sizeOf117
 t124:=Tryz.underlying56
 a124:=Tryz.isAgg56
 z124:=Tryz.sizeOf56
 v124:=Tryz.zeroValue56
 t138:=Tryz.underlying119
 a138:=Tryz.isAgg119
 z138:=Tryz.sizeOf119
 v138:=Tryz.zeroValue119
 t139:=Tryz.underlying120
 a139:=Tryz.isAgg120
 z139:=Tryz.sizeOf120
 v139:=Tryz.zeroValue120
 g3:=by kernel_rfl
 g4:=by kernel_rfl}
open Go.RowKit in
theorem Tryz.strings_TrimRight_one (s:ByteArray) (c:UInt8) (hc:c.toNat<128) (w:World) (hs:s.size≤9223372036854775807):
 Calls Tryz.prog 19 #[.string s, .string ⟨#[c]⟩] w fun e w'=>e= .returned (.string ⟨(Lib.trimRightB s.data.toList c).toArray⟩)∧w'=w:=Any.strings_TrimRight_one Tryz.Ts s c hc w hs
def Tryz.GK:Go.Shelf.Ren:=⟨fun|160=>67|232=>37|231=>97|227=>38|234=>39|233=>98|236=>40|235=>99|228=>60|271=>61|151=>62|197=>86|120=>85|152=>87|260=>113|137=>108|119=>114|224=>90|225=>89|217=>88|266=>115|n=>n,fun|9=>9|4=>4|3=>3|5=>5|117=>53|116=>52|0=>0|124=>56|21=>21|105=>69|46=>88|119=>117|139=>120|138=>119|n=>n,fun|3=>2|4=>3|n=>n⟩
theorem Tryz.Tt:Go.Proofs.Lays.n160 Tryz.prog Tryz.GK:= {
 mixed:=by kernel_rfl
 f119:=Tryz.func114.trans (congrArg some (by kernel_rfl))
 f120:=Tryz.func85.trans (congrArg some (by kernel_rfl))
 f137:=Tryz.func108.trans (congrArg some (by kernel_rfl))
 f151:=Tryz.func62.trans (congrArg some (by kernel_rfl))
 f152:=Tryz.func87.trans (congrArg some (by kernel_rfl))
 f160:=Tryz.func67.trans (congrArg some (by kernel_rfl))
 f197:=Tryz.func86.trans (congrArg some (by kernel_rfl))
 f217:=Tryz.func88.trans (congrArg some (by kernel_rfl))
 f224:=Tryz.func90.trans (congrArg some (by kernel_rfl))
 f225:=Tryz.func89.trans (congrArg some (by kernel_rfl))
 f227:=Tryz.func38.trans (congrArg some (by kernel_rfl))
 f228:=Tryz.func60.trans (congrArg some (by kernel_rfl))
 f231:=Tryz.func97.trans (congrArg some (by kernel_rfl))
 f232:=Tryz.func37.trans (congrArg some (by kernel_rfl))
 f233:=Tryz.func98.trans (congrArg some (by kernel_rfl))
 f234:=Tryz.func39.trans (congrArg some (by kernel_rfl))
 f235:=Tryz.func99.trans (congrArg some (by kernel_rfl))
 f236:=Tryz.func40.trans (congrArg some (by kernel_rfl))
 f260:=Tryz.func113.trans (congrArg some (by kernel_rfl))
 f266:=Tryz.func115.trans (congrArg some (by kernel_rfl))
 f271:=Tryz.func61.trans (congrArg some (by kernel_rfl))
 t0:=Tryz.underlying0
 a0:=Tryz.isAgg0
 z0:=Tryz.sizeOf0
 v0:=Tryz.zeroValue0
 t3:=Tryz.underlying3
 a3:=Tryz.isAgg3
 z3:=Tryz.sizeOf3
 v3:=Tryz.zeroValue3
 t4:=Tryz.underlying4
 a4:=Tryz.isAgg4
 z4:=Tryz.sizeOf4
 v4:=Tryz.zeroValue4
 t5:=Tryz.underlying5
 a5:=Tryz.isAgg5
 z5:=Tryz.sizeOf5
 v5:=Tryz.zeroValue5
 t9:=Tryz.underlying9
 a9:=Tryz.isAgg9
 z9:=Tryz.sizeOf9
 v9:=Tryz.zeroValue9
 t21:=Tryz.underlying21
 a21:=Tryz.isAgg21
 z21:=Tryz.sizeOf21
 v21:=Tryz.zeroValue21
 t46:=Tryz.underlying88
 a46:=Tryz.isAgg88
 z46:=Tryz.sizeOf88
 v46:=Tryz.zeroValue88
 t105:=Tryz.underlying69
 a105:=Tryz.isAgg69
 z105:=Tryz.sizeOf69
 v105:=Tryz.zeroValue69
 t116:=Tryz.underlying52
 a116:=Tryz.isAgg52
 z116:=Tryz.sizeOf52
 t117:=Tryz.underlying53
 a117:=Tryz.isAgg53
 z117:=Tryz.sizeOf53
 v117:=Tryz.zeroValue53
 t119:=Tryz.underlying117
 a119:=Tryz.isAgg117
 z119:=Tryz.sizeOf117
 t124:=Tryz.underlying56
 a124:=Tryz.isAgg56
 z124:=Tryz.sizeOf56
 v124:=Tryz.zeroValue56
 t138:=Tryz.underlying119
 a138:=Tryz.isAgg119
 z138:=Tryz.sizeOf119
 v138:=Tryz.zeroValue119
 t139:=Tryz.underlying120
 a139:=Tryz.isAgg120
 z139:=Tryz.sizeOf120
 v139:=Tryz.zeroValue120
 g3:=by kernel_rfl
 g4:=by kernel_rfl}
end Go.Proofs
end
section
set_option maxRecDepth 100000
namespace Go.Proofs.ei
open Go Go.Am Go.Proofs
def CP (cs:Array Value):Prop:=∃ev,cs= #[ev]∧(ev= .nilIface∨∃te pe,ev= .iface te pe)
instance wC:Tabs:=⟨[(0,fun cs=>∃m,cs= #[.int .i64 m]),(1,fun cs=>cs=(Lib.pow10Tab.map fun z=>Value.int .u64 z).toArray),(4,CP),(5,CP)]⟩
theorem Z3 {F:Nat→Prop} {w:World} (hF:FL F w) {g:Nat} {p:Array Value→Prop} (hm:(g,p)∈Tabs.l) {v:Value} (hp:∀cs,p cs→cs[0]? =some v∨True):∃cs ty fr,w.heap[g]? =some (.cells cs ty fr)∧p cs:=(hF.Hw _ hm).2
theorem cell_of {w:World} {g:Nat} {v:Value} {ty:TypeId} {fr:Nat×Nat} (h:w.heap[g]? =some (.cells #[v] ty fr)):w.cell? ⟨g,0,none⟩=some v:=by
 simp [World.cell?,h]
theorem E9 {F:Nat→Prop} {w:World} (hF:FL F w):∃m,w.cell? ⟨0,0,none⟩=some (.int .i64 m):=by
 obtain ⟨-,cs,ty,fr,h,m,rfl⟩:=hF.Hw (0,fun cs=>∃m,cs= #[.int .i64 m]) (by simp [Tabs.l,wC])
 exact ⟨m,cell_of h⟩
theorem Fa {F:Nat→Prop} {w:World} (hF:FL F w) {g:Nat} (hm:(g,CP)∈Tabs.l):∃ev,w.cell? ⟨g,0,none⟩=some ev∧(ev= .nilIface∨∃te pe,ev= .iface te pe):=by
 obtain ⟨-,cs,ty,fr,h,ev,rfl,he⟩:=hF.Hw _ hm
 exact ⟨ev,cell_of h,he⟩
theorem args1 {γ:List Nat} {C:Nat→List Value} {vs:Array Value} {a:AV} {v:Value} (hl:vs.size=[a].length) (h:vs.getD 0 undef=v):vs= #[v]:=by
 apply Array.ext
 · simpa using hl
 · intro i h1 h2
   simp at h2;subst h2
   simpa [Array.getD_eq_getD_getElem?,Array.getElem?_eq_getElem h1] using h
theorem args2 {vs:Array Value} {a b:AV} {v u:Value} (hl:vs.size=[a,b].length) (h:vs.getD 0 undef=v) (h':vs.getD 1 undef=u):vs= #[v,u]:=by
 apply Array.ext
 · simpa using hl
 · intro i h1 h2
   have:i=0∨i=1:=by simp at h2;omega
   rcases this with rfl|rfl
   · simpa [Array.getD_eq_getD_getElem?,Array.getElem?_eq_getElem h1] using h
   · simpa [Array.getD_eq_getD_getElem?,Array.getElem?_eq_getElem h1] using h'
def strconv_Itoa (n:Int):Option (List UInt8):=if -9223372036854775808≤n∧n≤9223372036854775807 then some (Lib.itoa n) else none
theorem sj {i1:Int} {H0:AH} {r0:List UInt8} (h:strconv_Itoa i1=some r0):aF Tryz.prog 34 [(.int .i64 i1)] H0 fun v H'=>v=(.str r0)∧H'=H0:=by
 unfold strconv_Itoa at h
 obtain ⟨⟨h0,h1⟩,h⟩:=FT h
 injection h with h
 subst h
 exact I8 i1 (by kernel_rfl) (fun F w hF=>P2 hF (g:=1) (by simp [Tabs.l,wC]) (by kernel_rfl)) (fun w ht=>Tryz.strconv_Itoa i1 h0 h1 w ht)
def strings_IndexByte (s:List UInt8) (c:UInt8):Option Int:=some (Lib.indexByte s c)
theorem uI {s1:List UInt8} {c2:UInt8} {H0:AH} {r0:Int} (h:strings_IndexByte s1 c2=some r0):aF Tryz.prog 108 [(.str s1),(b8 c2)] H0 fun v H'=>v=(.int .i64 r0)∧H'=H0:=by
 unfold strings_IndexByte at h
 injection h with h
 subst h
 refine aF.Tl rfl (by simp) (by kernel_rfl) fun F C γ w vs hF hl hv=> ?_
 have h0:=(hv 0 _ rfl).cF
 have h1:=VR.cJ (hv 1 _ rfl)
 obtain rfl:=args2 hl h0 h1
 refine (Tryz.strings_IndexByte ⟨s1.toArray⟩ _ w).mono ?_
 rintro e w' ⟨rfl,rfl⟩
 refine ⟨_,rfl, ?_,by simp [TC],fun _ _=>rfl,Nat.le_refl _,rfl,rfl,rfl⟩
 have:(c2.toNat:Int).toNat.toUInt8=c2:=by simp
 rw [this]
 exact .int ..
def strconv_Atoi (s:List UInt8):Option (Int×Bool):=if s.length≤281474976710656 then some (match Lib.atoiAll s with| .ok v=>(v,false)|Go.Lib.NumEnd.syntax=>(0,true)| .range=>(Lib.atoiSat s,true)) else none
theorem strconv_Atoi_ok {s1:List UInt8} {H0:AH} {r0:Int} {r1:Bool} (h:strconv_Atoi s1=some (r0,r1)):aF Tryz.prog 66 [(.str s1)] H0 fun v H'=>v=(.bx [(.int .i64 r0),(dB r1)])∧H'=H0:=by
 unfold strconv_Atoi at h
 obtain ⟨hs,h⟩:=FT h
 injection h with h
 refine aF.Tl rfl (by simp) (by kernel_rfl) fun F C γ w vs hF hl hv=> ?_
 have h0:=(hv 0 _ rfl).cF
 obtain rfl:=args1 (γ:=γ) (C:=C) hl h0
 have hsz:(⟨s1.toArray⟩:ByteArray).size=s1.length:=by simp [ByteArray.size]
 have hd:(⟨s1.toArray⟩:ByteArray).data.toList=s1:=by simp
 rcases xu:Lib.atoiAll s1 with v|_|_
 · rw [xu] at h
   injection h with ha hb
   subst ha hb
   refine (Tryz.strconv_Atoi_ok ⟨s1.toArray⟩ (by omega) v (by rw [hd];exact xu) w).mono ?_
   rintro e w' ⟨rfl,hw⟩
   refine ⟨_,rfl, ?_, ?_, ?_⟩
   · refine .bx _ _ _ rfl fun i a hi=> ?_
     match i,hi with
     |0,hi=>injection hi with hi;subst hi;exact .int ..
     |1,hi=>injection hi with hi;subst hi;exact .v _ _ rfl
   · intro i a hi
     match i,hi with
     |0,hi=>injection hi with hi;subst hi;trivial
     |1,hi=>injection hi with hi;subst hi;trivial
   · rcases hw with rfl|⟨t,rfl⟩
     · exact ⟨fun _ _=>rfl,Nat.le_refl _,rfl,rfl,rfl⟩
     · exact ⟨fun b hb=>Lib.bytesWorld_at_old _ _ _ _ hb,by rw [Lib.bytesWorld_size];omega,rfl,rfl,rfl⟩
 · rw [xu] at h
   injection h with ha hb
   subst ha hb
   obtain ⟨ev,hc,he⟩:=Fa hF (g:=4) (by simp [Tabs.l,wC])
   refine (Tryz.strconv_Atoi_syntax ⟨s1.toArray⟩ (by omega) (by rw [hd];exact xu) ev w hc he).mono ?_
   rintro e w' ⟨N,rfl, -, -,hb⟩
   refine ⟨_,rfl, ?_, ?_,hb.block,hb.size,hb.os,hb.tape,hb.output⟩
   · refine .bx _ _ _ rfl fun i a hi=> ?_
     match i,hi with
     |0,hi=>injection hi with hi;subst hi;exact .int ..
     |1,hi=>injection hi with hi;subst hi;exact .dF ..
   · intro i a hi
     match i,hi with
     |0,hi=>injection hi with hi;subst hi;trivial
     |1,hi=>injection hi with hi;subst hi;trivial
 · rw [xu] at h
   injection h with ha hb
   subst ha hb
   obtain ⟨ev,hc,he⟩:=Fa hF (g:=5) (by simp [Tabs.l,wC])
   refine (Tryz.strconv_Atoi_range ⟨s1.toArray⟩ (by omega) (by rw [hd];exact xu) ev w hc he).mono ?_
   rintro e w' ⟨N,rfl, -, -,hb⟩
   refine ⟨_,rfl, ?_, ?_,hb.block,hb.size,hb.os,hb.tape,hb.output⟩
   · refine .bx _ _ _ rfl fun i a hi=> ?_
     match i,hi with
     |0,hi=>injection hi with hi;subst hi;simp only [hd];exact .int ..
     |1,hi=>injection hi with hi;subst hi;exact .dF ..
   · intro i a hi
     match i,hi with
     |0,hi=>injection hi with hi;subst hi;trivial
     |1,hi=>injection hi with hi;subst hi;trivial
theorem vu {sep:List UInt8} (h1:sep≠[]):∀(n:Nat) (l:List UInt8),Lib.count l sep=n→(Lib.splitK sep 0 n l).length=n+1
 |0,_,_=>rfl
 |n+1,l,h=>by
  rcases Lib.index_spec l sep with ⟨hi, -⟩|⟨i,hi, -, -, -⟩
  · rw [Lib.count_miss hi] at h;cases h
  · have hc:=Lib.count_hit h1 hi
    unfold Lib.splitK
    rw [if_neg (by rw [hi];simp),List.length_cons,vu h1 n _ (by rw [hi,Int.toNat_natCast];omega)]
def strings_Split (s sep:List UInt8):Option (List (List UInt8)):=if s.length<4294967281∧1≤sep.length then some (Lib.split s sep) else none
theorem gM {s1 s2:List UInt8} {H0:AH} {r0:List (List UInt8)} (h:strings_Split s1 s2=some r0):aF Tryz.prog 47 [(.str s1),(.str s2)] H0 fun v H'=>v=(.sl .n 1 (ml AV.str r0))∧H'=H0:=by
 unfold strings_Split at h
 obtain ⟨⟨hs,hs2⟩,h⟩:=FT h
 injection h with h
 subst h
 refine aF.Tm (by kernel_rfl) fun F C γ w vs hF hl hv=> ?_
 obtain rfl:=args2 hl (hv 0 _ rfl).cF (hv 1 _ rfl).cF
 obtain ⟨m,hm⟩:=E9 hF
 have hsz:(⟨s1.toArray⟩:ByteArray).size=s1.length:=by simp [ByteArray.size]
 have acV:(⟨s2.toArray⟩:ByteArray).size=s2.length:=by simp [ByteArray.size]
 refine (Tryz.strings_Split ⟨s1.toArray⟩ ⟨s2.toArray⟩ m w (by omega) hm (by omega)).mono ?_
 rintro e w' ⟨rfl,rfl⟩
 have hd:(Lib.splitB ⟨s2.toArray⟩ 0 (Lib.countB ⟨s1.toArray⟩ ⟨s2.toArray⟩) ⟨s1.toArray⟩).map (·.data.toList)=Lib.split s1 s2:=by
  rw [Lib.splitB_data];simp [Lib.split,Lib.countB]
 have hlen:(Lib.split s1 s2).length=Lib.countB ⟨s1.toArray⟩ ⟨s2.toArray⟩+1:=by
  exact vu (by intro h;rw [h] at hs2;simp at hs2) _ _ rfl
 refine ⟨9,(0,0),by rw [hlen], ?_,by simp⟩
 rw [←hd,List.map_map]
 congr 3
def strings_Cut (s sep:List UInt8):Option (List UInt8×List UInt8×Bool):=if s.length<4294967281 then some (Lib.cut s sep) else none
theorem Bw {s1 s2:List UInt8} {H0:AH} {r0 r1:List UInt8} {r2:Bool} (h:strings_Cut s1 s2=some (r0,r1,r2)):aF Tryz.prog 20 [(.str s1),(.str s2)] H0 fun v H'=>v=(.bx [(.str r0),(.str r1),(.bool r2)])∧H'=H0:=by
 unfold strings_Cut at h
 obtain ⟨hs,h⟩:=FT h
 injection h with h
 refine aF.Tl rfl (by simp) (by kernel_rfl) fun F C γ w vs hF hl hv=> ?_
 obtain rfl:=args2 hl (hv 0 _ rfl).cF (hv 1 _ rfl).cF
 obtain ⟨m,hm⟩:=E9 hF
 have hsz:(⟨s1.toArray⟩:ByteArray).size=s1.length:=by simp [ByteArray.size]
 refine (Tryz.strings_Cut ⟨s1.toArray⟩ ⟨s2.toArray⟩ m w (by omega) hm).mono ?_
 rintro e w' ⟨rfl,n,rfl⟩
 have hd1:(⟨s1.toArray⟩:ByteArray).data.toList=s1:=by simp
 have HT:(⟨s2.toArray⟩:ByteArray).data.toList=s2:=by simp
 rw [hd1,HT,h]
 refine ⟨_,rfl, ?_, ?_,fun _ _=>rfl,Nat.le_refl _,rfl,rfl,rfl⟩
 · refine .bx _ _ _ rfl fun i a hi=> ?_
   match i,hi with
   |0,hi=>injection hi with hi;subst hi;exact .str ..
   |1,hi=>injection hi with hi;subst hi;exact .str ..
   |2,hi=>injection hi with hi;subst hi;exact .bool ..
 · intro i a hi
   match i,hi with
   |0,hi=>injection hi with hi;subst hi;trivial
   |1,hi=>injection hi with hi;subst hi;trivial
   |2,hi=>injection hi with hi;subst hi;trivial
def fm (s c:List UInt8):Option (List UInt8):=if c=[32] then some (Lib.trimLeftB s 32) else none
theorem vv {s1 s2:List UInt8} {H0:AH} {r0:List UInt8} (h:fm s1 s2=some r0):aF Tryz.prog 65 [(.str s1),(.str s2)] H0 fun v H'=>v=(.str r0)∧H'=H0:=by
 unfold fm at h
 obtain ⟨hc,h⟩:=FT h
 injection h with h
 subst h
 refine aF.Ca (by kernel_rfl) fun F C γ w vs hF hl hv=> ?_
 obtain rfl:=args2 hl (hv 0 _ rfl).cF (hv 1 _ rfl).cF
 have hsz:(⟨s1.toArray⟩:ByteArray).size=s1.length:=by simp [ByteArray.size]
 subst hc
 refine (Tryz.strings_TrimLeft_one ⟨s1.toArray⟩ 32 (by decide) w).mono ?_
 rintro e w' ⟨rfl,rfl⟩
 exact ⟨by simp,fun _ _=>rfl,Nat.le_refl _,rfl,rfl,rfl⟩
def eU (s c:List UInt8):Option (List UInt8):=if c=[32]∧s.length≤1000000000 then some (Lib.trimRightB s 32) else none
theorem uJ {s1 s2:List UInt8} {H0:AH} {r0:List UInt8} (h:eU s1 s2=some r0):aF Tryz.prog 19 [(.str s1),(.str s2)] H0 fun v H'=>v=(.str r0)∧H'=H0:=by
 unfold eU at h
 obtain ⟨hc,h⟩:=FT h
 injection h with h
 subst h
 refine aF.Ca (by kernel_rfl) fun F C γ w vs hF hl hv=> ?_
 obtain rfl:=args2 hl (hv 0 _ rfl).cF (hv 1 _ rfl).cF
 have hsz:(⟨s1.toArray⟩:ByteArray).size=s1.length:=by simp [ByteArray.size]
 obtain ⟨rfl,hlen⟩:=hc
 refine (Tryz.strings_TrimRight_one ⟨s1.toArray⟩ 32 (by decide) w (by omega)).mono ?_
 rintro e w' ⟨rfl,rfl⟩
 exact ⟨by simp,fun _ _=>rfl,Nat.le_refl _,rfl,rfl,rfl⟩
def jy:List UInt8:=[48,49,50,51,52,53,54,55,56,57]
def gC (s c:List UInt8):Option (List UInt8):=if c=jy∧s.length≤1000000000 then some (Lib.trimS s jy) else none
theorem An {s1 s2:List UInt8} {H0:AH} {r0:List UInt8} (h:gC s1 s2=some r0):aF Tryz.prog 67 [(.str s1),(.str s2)] H0 fun v H'=>v=(.str r0)∧H'=H0:=by
 unfold gC at h
 obtain ⟨hc,h2⟩:=FT h
 obtain ⟨rfl,hlen⟩:=hc
 injection h2 with h2
 subst h2
 refine aF.Ca (by kernel_rfl) fun F C γ w vs hF hl hv=> ?_
 obtain rfl:=args2 hl (hv 0 _ rfl).cF (hv 1 _ rfl).cF
 have hsz:(⟨s1.toArray⟩:ByteArray).size=s1.length:=by simp [ByteArray.size]
 refine (Any.strings_Trim_laid Tryz.Tt (by kernel_rfl) ⟨s1.toArray⟩ ⟨#[48,49,50,51,52,53,54,55,56,57]⟩ w (by omega) (by decide) (ascii_of_all (by decide))).mono ?_
 rintro e w' ⟨rfl,hb⟩
 exact ⟨by simp [jy],hb.block,hb.size,hb.os,hb.tape,hb.output⟩
end Go.Proofs.ei
end
section
set_option maxRecDepth 100000
namespace Go.Proofs.ei
open Go Go.Am Go.Proofs
open Nat renaming reduceEqDiff→nA,reduceLT→nB,reduceLeDiff→nC,reduceAdd→nD,reduceSub→nE,reduceMul→nF,reduceBEq→nG
set_option maxHeartbeats 2000000
structure aD where
 ay:List UInt8
 domain:List UInt8
 deriving DecidableEq
structure aH where
 kind:Int
 arg:List UInt8
 path:aD
 size:Int
 deriving DecidableEq
structure aB where
 s:List UInt8
 cC:Int
 bad:Bool
 deriving DecidableEq
abbrev sn:av:=(.rg [(au 15 5),(aj 16 (.bin .geq (.t 15) (.c (b8 65)))),(au 17 16),(ax 18 (.mv (.t 5)) 17 true),(ax 19 (.bin .leq (.t 18) (.c (b8 90))) 17 true),(aj 20 (.pick (.t 17) (.t 19) (.c (.bool false))))])
abbrev qk:av:=(.seq (.rg [(aj 11 (.bin .lss (.t 10) (.t 9)))]) (.seq (.cond (.t 11) .skip (.exit 0)) (.seq (.blk 1 (.seq (.rg [(au 12 10),(aj 13 (.uG 1 (.t 8) (.t 10))),(aj 14 (.ld (.t 13) none)),(aQ 4 12),(aQ 5 14)]) (.seq (.sem (erase sn)) (.cond (.t 20) (.rg [(au 21 3),(au 22 4),(aj 23 (.uG 1 (.t 21) (.t 22))),(aj 24 (.ld (.t 23) none)),(aj 25 (.bin .or (.t 24) (.c (b8 32)))),(aj 26 (.uG 1 (.t 21) (.t 22))),(cS (.st (.t 26) (.t 25) 1))]) .skip)))) (.rg [(aj 27 (.bin .add (.t 10) (.c (.int .i64 1)))),(au 10 27)]))))
abbrev Ei:av:=(.seq (.rg [(aj 2 (.aO (.c (.str []))))]) (.seq (.rg [(au 6 0),(aj 7 (.qf (.t 6))),(aQ 3 7)]) (.seq (.seq (.rg [(au 8 3),(aj 9 (.len (.t 8))),(aj 10 (.mv (.c (.int .i64 0))))]) (.blk 0 (.loop (erase qk)))) (.seq (.rg [(au 28 3),(aj 29 (.jH .bs (.t 28))),(aQ 2 29)]) .ret))))
theorem Ej:bM Tryz.prog 22 30 [(.tmp 2)] (erase Ei):=⟨Tryz.f22,_,rfl,by decide,rfl,by kernel_rfl,rfl,rfl⟩
abbrev rI:List Nat:=[0,2,3,4,5,8,9,10,11,20]
def eV (s1:List UInt8):(Int×(List UInt8))→Option (St (List UInt8) (List UInt8) (Int×(List UInt8)))
 |(t3,s4)=>
  (if (decide (t3<(s1.length:Int))) then
   (Aj s1.length t3).bind fun j5=>
   (s4[j5]?).bind fun x6=>
   (if ((decide (65≤x6))&&(decide (x6≤90))) then
    (E8 s4 j5 (x6 ||| 32)).bind fun s8=>some (.cU ((IntKind.wrap .i64 (t3+1)),s8))
   else
    some (.cU ((IntKind.wrap .i64 (t3+1)),s4)))
  else
   some (.dW s4))
def fo (F:Nat) (s1:List UInt8):Option ((List UInt8)):=
 ((iter (eV s1) F (0,s1)).bind fun o12=>
 match o12 with
 | .inr Tu=>
   (sub Tu 0 (s1.length:Int)).bind fun fD=>some fD
 | .inl _=>none)
theorem zg {q7:Nat} {s1:List UInt8} {t3:Int} {x6:UInt8} {s4:List UInt8} {H0 H:AH} (hfr:Fr H0 H0.length [] H) (ai:H[q7]? =some (ml b8 s4)) (dP:H0.length≤q7) {K:Exit→Env→AH→Prop}
 (kn:∀H':AH,Fr H0 H0.length [] H'→H'[q7]? =some (ml b8 s4)→K .normal [(3,(.cv q7 1 0 s1.length)),(4,(.int .i64 t3)),(8,(.cv q7 1 0 s1.length)),(9,(.int .i64 (s1.length:Int))),(10,(.int .i64 t3)),(20,(.bool ((decide (65≤x6))&&(decide (x6≤90)))))] H'):
 AX Tryz.prog rI 30 H0.length (erase sn) K [(3,(.cv q7 1 0 s1.length)),(4,(.int .i64 t3)),(5,(b8 x6)),(8,(.cv q7 1 0 s1.length)),(9,(.int .i64 (s1.length:Int))),(10,(.int .i64 t3))] H:=by
 refine bT fun K' hK=> ?_
 have hle:=hfr.le
 have aM:=aR ai
 refine az ai ?_
 refine kK (fun hy4=> ?_) fun hy4=> ?_
 · refine az (aI hy4 ai) ?_
   exact hK _ _ _ _ _ (eG hy4) ak (kn _ hfr (ai.trans rfl))
 · refine az (aI hy4 ai) ?_
   exact hK _ _ _ _ _ (eG hy4) ak (kn _ hfr (ai.trans rfl))
theorem zh {F:Nat} {t3:Int} {s1:List UInt8} {s4:List UInt8} {q2:Nat} {H0 H:AH} (hfr:Fr H0 H0.length [] H) (ai:H[q2]? =some (ml b8 s4)) (dP:H0.length≤q2) {K:Exit→Env→AH→Prop} {o:((List UInt8))⊕((List UInt8))}
 (h:iter (eV s1) F (t3,s4)=some o)
 (c8:∀o':(List UInt8),o= .inr o'→∀H':AH,Fr H0 H0.length [] H'→H'[q2]? =some (ml b8 o')→K (.exit 0) [(3,(.cv q2 1 0 s1.length))] H'):
 AX Tryz.prog rI 30 H0.length (.loop (erase qk)) K [(3,(.cv q2 1 0 s1.length)),(8,(.cv q2 1 0 s1.length)),(9,(.int .i64 (s1.length:Int))),(10,(.int .i64 t3))] H:=by
 refine gH (fun s e H1=>match s with|(t3,s4)=>e=[(3,(.cv q2 1 0 s1.length)),(8,(.cv q2 1 0 s1.length)),(9,(.int .i64 (s1.length:Int))),(10,(.int .i64 t3))]∧Fr H0 H0.length [] H1∧H1[q2]? =some (ml b8 s4)) h ⟨rfl,hfr,ai⟩ ?_
 rintro K' ⟨t3,s4⟩ st e H ⟨rfl,hfr,ai⟩ h hN hB hR hX
 have hle:=hfr.le
 have aM:=aR ai
 rw [eV.eq_1] at h
 refine az ai ?_
 refine bl h (fun hy1 h=> ?_) fun hy1 h=> ?_
 · obtain ⟨j5,hy2,h⟩:=aq h
   obtain ⟨x6,hy3,h⟩:=aq h
   refine az (aI hy2 (aI hy3 ai)) ?_
   refine bz ak (zg (q7:=q2) (s1:=s1) (t3:=t3) (x6:=x6) (s4:=s4) hfr (ai.trans rfl) cq ?_)
   intro H hfr ai
   have hle:=hfr.le
   have aM:=aR ai
   refine az ai ?_
   refine bl h (fun bK h=> ?_) fun bK h=> ?_
   · obtain ⟨s8,bY,h⟩:=aq h
     refine az (aI hy2 (aI hy3 (aI hy2 (aI bY ai)))) ?_
     obtain rfl:=aA h
     exact hN _ rfl _ _ _ _ aJ ak ⟨rfl,(bW _ hfr),cA⟩
   · refine az ai ?_
     obtain rfl:=aA h
     exact hN _ rfl _ _ _ _ aJ ak ⟨rfl,hfr,(ai.trans rfl)⟩
 · refine az ai ?_
   obtain rfl:=aA h
   exact hX _ _ _ _ _ c6 aJ ak (c8 _ (hB _ rfl) _ hfr (ai.trans rfl))
theorem jN {F:Nat} {s1:List UInt8} {H0:AH} {aP:List UInt8} (h:fo F s1=some aP):
 aF Tryz.prog 22 [(.str s1)] H0 fun v H'=>v=(.str aP)∧H'=H0:=by
 refine lH Ej rI [] fun hcl K0 aN H hH hfr=> ?_
 clear hH
 have hle:=hfr.le
 rw [fo.eq_1] at h
 refine cN ?_
 obtain ⟨q2,ju⟩:∃q:Nat,H.length=q:=⟨_,rfl⟩
 try rw [ju]
 obtain ⟨o12,cD,h⟩:=aq h
 refine bz ak (zh (q2:=q2) (Fr.app hfr) uH cq cD ?_)
 · rintro Tu rfl H hfr ai
   try dsimp only at h ai
   have hle:=hfr.le
   have aM:=aR ai
   refine cN ?_
   obtain ⟨fD,ct,h⟩:=aq h
   refine az (aI ct ai) ?_
   obtain rfl:=aA h
   exact aN _ _ _ bk (aT hfr hcl (aW bf (.str fD)) bg aX ⟨rfl,rfl⟩)
abbrev Jb:av:=(.seq (.rg [(aj 2 (.aO (.c (.str []))))]) (.seq (.seq (.rg [(au 3 0)]) (.blk 0 (.seq (.rg [(aj 5 (.bin .eql (.t 3) (.c (.int .i64 1)))),(aQ 4 5)]) (.cond (.t 4) (.seq (.rg [(aj 2 (.aO (.c (.str [72,69,76,79]))))]) .ret) (.seq (.rg [(aj 7 (.bin .eql (.t 3) (.c (.int .i64 2)))),(aQ 6 7)]) (.cond (.t 6) (.seq (.rg [(aj 2 (.aO (.c (.str [69,72,76,79]))))]) .ret) (.seq (.rg [(aj 9 (.bin .eql (.t 3) (.c (.int .i64 3)))),(aQ 8 9)]) (.cond (.t 8) (.seq (.rg [(aj 2 (.aO (.c (.str [77,65,73,76]))))]) .ret) (.seq (.rg [(aj 11 (.bin .eql (.t 3) (.c (.int .i64 4)))),(aQ 10 11)]) (.cond (.t 10) (.seq (.rg [(aj 2 (.aO (.c (.str [82,67,80,84]))))]) .ret) (.seq (.rg [(aj 13 (.bin .eql (.t 3) (.c (.int .i64 5)))),(aQ 12 13)]) (.cond (.t 12) (.seq (.rg [(aj 2 (.aO (.c (.str [68,65,84,65]))))]) .ret) (.seq (.rg [(aj 15 (.bin .eql (.t 3) (.c (.int .i64 6)))),(aQ 14 15)]) (.cond (.t 14) (.seq (.rg [(aj 2 (.aO (.c (.str [82,83,69,84]))))]) .ret) (.seq (.rg [(aj 17 (.bin .eql (.t 3) (.c (.int .i64 7)))),(aQ 16 17)]) (.cond (.t 16) (.seq (.rg [(aj 2 (.aO (.c (.str [78,79,79,80]))))]) .ret) (.seq (.rg [(aj 19 (.bin .eql (.t 3) (.c (.int .i64 8)))),(aQ 18 19)]) (.cond (.t 18) (.seq (.rg [(aj 2 (.aO (.c (.str [81,85,73,84]))))]) .ret) (.seq (.rg [(aj 21 (.bin .eql (.t 3) (.c (.int .i64 9)))),(aQ 20 21)]) (.cond (.t 20) (.seq (.rg [(aj 2 (.aO (.c (.str [86,82,70,89]))))]) .ret) .skip)))))))))))))))))))) (.seq (.rg [(aj 2 (.aO (.c (.str []))))]) .ret)))
theorem Jc:bM Tryz.prog 33 22 [(.tmp 2)] (erase Jb):=⟨Tryz.f33,_,rfl,by decide,rfl,by kernel_rfl,rfl,rfl⟩
abbrev Jd:List Nat:=[0,2,3,4,6,8,10,12,14,16,18,20]
def nT (lI:Int):Option ((List UInt8)):=
 (if (decide (lI=1)) then
  some ([72,69,76,79]:List UInt8)
 else
  (if (decide (lI=2)) then
   some ([69,72,76,79]:List UInt8)
  else
   (if (decide (lI=3)) then
    some ([77,65,73,76]:List UInt8)
   else
    (if (decide (lI=4)) then
     some ([82,67,80,84]:List UInt8)
    else
     (if (decide (lI=5)) then
      some ([68,65,84,65]:List UInt8)
     else
      (if (decide (lI=6)) then
       some ([82,83,69,84]:List UInt8)
      else
       (if (decide (lI=7)) then
        some ([78,79,79,80]:List UInt8)
       else
        (if (decide (lI=8)) then
         some ([81,85,73,84]:List UInt8)
        else
         (if (decide (lI=9)) then
          some ([86,82,70,89]:List UInt8)
         else
          some ([]:List UInt8))))))))))
theorem zi {lI:Int} {H0:AH} {aP:List UInt8} (h:nT lI=some aP):
 aF Tryz.prog 33 [(.int .i64 lI)] H0 fun v H'=>v=(.str aP)∧H'=H0:=by
 refine fe Jc Jd fun hcl K0 aN=> ?_
 rw [nT.eq_1] at h
 refine aC ?_
 refine bl h (fun hy1 h=> ?_) fun hy1 h=> ?_
 · refine aC ?_
   obtain rfl:=aA h
   exact aN _ _ _ bk (aK hcl (aW bf (.str ([72,69,76,79]:List UInt8))) bg aX ⟨rfl,rfl⟩)
 · refine aC ?_
   refine bl h (fun hy2 h=> ?_) fun hy2 h=> ?_
   · refine aC ?_
     obtain rfl:=aA h
     exact aN _ _ _ bk (aK hcl (aW bf (.str ([69,72,76,79]:List UInt8))) bg aX ⟨rfl,rfl⟩)
   · refine aC ?_
     refine bl h (fun hy3 h=> ?_) fun hy3 h=> ?_
     · refine aC ?_
       obtain rfl:=aA h
       exact aN _ _ _ bk (aK hcl (aW bf (.str ([77,65,73,76]:List UInt8))) bg aX ⟨rfl,rfl⟩)
     · refine aC ?_
       refine bl h (fun hy4 h=> ?_) fun hy4 h=> ?_
       · refine aC ?_
         obtain rfl:=aA h
         exact aN _ _ _ bk (aK hcl (aW bf (.str ([82,67,80,84]:List UInt8))) bg aX ⟨rfl,rfl⟩)
       · refine aC ?_
         refine bl h (fun bK h=> ?_) fun bK h=> ?_
         · refine aC ?_
           obtain rfl:=aA h
           exact aN _ _ _ bk (aK hcl (aW bf (.str ([68,65,84,65]:List UInt8))) bg aX ⟨rfl,rfl⟩)
         · refine aC ?_
           refine bl h (fun bY h=> ?_) fun bY h=> ?_
           · refine aC ?_
             obtain rfl:=aA h
             exact aN _ _ _ bk (aK hcl (aW bf (.str ([82,83,69,84]:List UInt8))) bg aX ⟨rfl,rfl⟩)
           · refine aC ?_
             refine bl h (fun cD h=> ?_) fun cD h=> ?_
             · refine aC ?_
               obtain rfl:=aA h
               exact aN _ _ _ bk (aK hcl (aW bf (.str ([78,79,79,80]:List UInt8))) bg aX ⟨rfl,rfl⟩)
             · refine aC ?_
               refine bl h (fun ct h=> ?_) fun ct h=> ?_
               · refine aC ?_
                 obtain rfl:=aA h
                 exact aN _ _ _ bk (aK hcl (aW bf (.str ([81,85,73,84]:List UInt8))) bg aX ⟨rfl,rfl⟩)
               · refine aC ?_
                 refine bl h (fun cQ h=> ?_) fun cQ h=> ?_
                 · refine aC ?_
                   obtain rfl:=aA h
                   exact aN _ _ _ bk (aK hcl (aW bf (.str ([86,82,70,89]:List UInt8))) bg aX ⟨rfl,rfl⟩)
                 · refine aC ?_
                   obtain rfl:=aA h
                   exact aN _ _ _ bk (aK hcl (aW bf (.str ([]:List UInt8))) bg aX ⟨rfl,rfl⟩)
abbrev ud:av:=(.seq (.seq (.rg [(au 4 3),(aj 5 (.bin .leq (.t 4) (.c (.int .i64 9))))]) (.cond (.t 5) .skip (.exit 0))) (.seq (.blk 1 (.seq (.rg [(au 8 3),(aj 9 (.call (.c (.fn 33 [])) [(.t 8)])),(aj 10 (.call (.c (.fn 22 [])) [(.t 9)])),(au 11 0),(aj 12 (.bin .eql (.t 10) (.t 11)))]) (.cond (.t 12) (.seq (.rg [(au 13 3),(aQ 2 13)]) .ret) .skip))) (.rg [(au 6 3),(aj 7 (.bin .add (.t 6) (.c (.int .i64 1)))),(aQ 3 7)])))
abbrev Je:av:=(.seq (.rg [(aj 2 (.aO (.c (.int .i64 0))))]) (.seq (.seq (.rg [(aj 3 (.aO (.c (.int .i64 1))))]) (.blk 0 (.loop (erase ud)))) (.seq (.rg [(aj 2 (.aO (.c (.int .i64 0))))]) .ret)))
theorem Jf:bM Tryz.prog 21 14 [(.tmp 2)] (erase Je):=⟨Tryz.f21,_,rfl,by decide,rfl,by kernel_rfl,rfl,rfl⟩
abbrev Bl:List Nat:=[0,2,3,5,12]
def iA (F:Nat) (s1:List UInt8):(Int×Int)→Option (St Int Unit (Int×Int))
 |(t2,Ek)=>
  (if (decide (Ek≤9)) then
   (nT Ek).bind fun r4=>
   (fo F r4).bind fun r5=>
   (if (decide (r5=s1)) then
    some (.ret Ek)
   else
    some (.cU (t2,(IntKind.wrap .i64 (Ek+1)))))
  else
   some (.dW ()))
def so (F:Nat) (s1:List UInt8):Option (Int):=
 ((iter (iA F s1) F (0,1)).bind fun o8=>
 match o8 with
 | .inr ()=>
   some 0
 | .inl r7=>
   some r7)
theorem Bx {F:Nat} {Ek:Int} {s1:List UInt8} {t2:Int} {H:AH} {K:Exit→Env→AH→Prop} {o:(Int)⊕(Unit)}
 (h:iter (iA F s1) F (t2,Ek)=some o)
 (c8:∀o':Unit,o= .inr o'→K (.exit 0) [] H)
 (kr:∀o':Int,o= .inl o'→K .ret [(2,(.int .i64 o'))] H):
 AX Tryz.prog Bl 14 H.length (.loop (erase ud)) K [(0,(.str s1)),(2,(.int .i64 t2)),(3,(.int .i64 Ek))] H:=by
 refine gH (fun s e H1=>match s with|(t2,Ek)=>e=[(0,(.str s1)),(2,(.int .i64 t2)),(3,(.int .i64 Ek))]∧H1=H) h ⟨rfl,rfl⟩ ?_
 rintro K' ⟨t2,Ek⟩ st e H ⟨rfl,rfl⟩ h hN hB hR hX
 rw [iA.eq_1] at h
 refine aC ?_
 refine bl h (fun hy1 h=> ?_) fun hy1 h=> ?_
 · refine aC ?_
   obtain ⟨r4,hy2,h⟩:=aq h
   refine bB ak (zi hy2) ?_
   refine aC ?_
   obtain ⟨r5,hy3,h⟩:=aq h
   refine bB ak (jN hy3) ?_
   refine aC ?_
   refine bl h (fun hy4 h=> ?_) fun hy4 h=> ?_
   · refine aC ?_
     obtain rfl:=aA h
     exact hX _ _ _ _ _ c6 aJ ak (kr _ (hR _ rfl))
   · refine aC ?_
     obtain rfl:=aA h
     exact hN _ rfl _ _ _ _ aJ ak ⟨rfl,rfl⟩
 · refine aC ?_
   obtain rfl:=aA h
   exact hX _ _ _ _ _ c6 WE.nil ak (c8 _ (hB _ rfl))
theorem GL {F:Nat} {s1:List UInt8} {H0:AH} {aP:Int} (h:so F s1=some aP):
 aF Tryz.prog 21 [(.str s1)] H0 fun v H'=>v=(.int .i64 aP)∧H'=H0:=by
 refine fe Jf Bl fun hcl K0 aN=> ?_
 rw [so.eq_1] at h
 refine aC ?_
 obtain ⟨o8,bK,h⟩:=aq h
 refine bz ak (Bx bK ?_ ?_)
 · rintro ⟨⟩ rfl
   try dsimp only at h
   refine aC ?_
   obtain rfl:=aA h
   exact aN _ _ _ bk (aK hcl (aW bf (.int .i64 0)) bg aX ⟨rfl,rfl⟩)
 · rintro r7 rfl
   try dsimp only at h
   refine aC ?_
   obtain rfl:=aA h
   exact aN _ _ _ bk (aK hcl (aW bf (.int .i64 r7)) bg aX ⟨rfl,rfl⟩)
abbrev iL:av:=(.rg [(au 3 0),(aj 4 (.gG (.t 3))),(aj 5 (.cM (.t 4) 2)),(aj 6 (.ld (.t 5) none)),(au 7 6),(ax 8 (.mv (.t 0)) 7 false),(ax 9 (.gG (.t 8)) 7 false),(ax 10 (.cM (.t 9) 1) 7 false),(ax 11 (.ld (.t 10) none) 7 false),(ax 12 (.mv (.t 0)) 7 false),(ax 13 (.gG (.t 12)) 7 false),(ax 14 (.cM (.t 13) 0) 7 false),(ax 15 (.ld (.t 14) none) 7 false),(ax 16 (.lens (.t 15)) 7 false),(ax 17 (.bin .geq (.t 11) (.t 16)) 7 false),(aj 18 (.pick (.t 7) (.c (.bool true)) (.t 17)))])
abbrev tD:av:=(.seq (.rg [(aj 2 (.aO (.c (b8 0))))]) (.seq (.seq (.sem (erase iL)) (.cond (.t 18) (.seq (.rg [(aj 2 (.aO (.c (b8 0))))]) .ret) .skip)) (.seq (.rg [(au 19 0),(aj 20 (.gG (.t 19))),(aj 21 (.cM (.t 20) 0)),(aj 22 (.ld (.t 21) none)),(au 23 0),(aj 24 (.gG (.t 23))),(aj 25 (.cM (.t 24) 1)),(aj 26 (.ld (.t 25) none)),(aj 27 (.ixs (.t 22) (.t 26))),(aQ 2 27)]) .ret)))
theorem tE:bM Tryz.prog 117 28 [(.tmp 2)] (erase tD):=⟨Tryz.f117,_,rfl,by decide,rfl,by kernel_rfl,rfl,rfl⟩
abbrev jO:List Nat:=[0,2,18]
def bu (x1:aB):Option (UInt8):=
 (if (x1.bad||(decide ((x1.s.length:Int)≤x1.cC))) then
  some 0
 else
  (idx x1.s x1.cC).bind fun x2=>some x2)
theorem oa {x1:aB} {H:AH} {K:Exit→Env→AH→Prop}
 (kn:K .normal [(0,(.ep (.agg [(.str x1.s),(.int .i64 x1.cC),(.bool x1.bad)]) 0)),(18,(.bool (x1.bad||(decide ((x1.s.length:Int)≤x1.cC)))))] H):
 AX Tryz.prog jO 28 H.length (erase iL) K [(0,(.ep (.agg [(.str x1.s),(.int .i64 x1.cC),(.bool x1.bad)]) 0))] H:=by
 refine bT fun K' hK=> ?_
 refine aC ?_
 refine kK (fun hy1=> ?_) fun hy1=> ?_
 · refine aV hy1 ?_
   exact hK _ _ _ _ _ (eG hy1) ak kn
 · refine aV hy1 ?_
   exact hK _ _ _ _ _ (eG hy1) ak kn
theorem bX {x1:aB} {H0:AH} {aP:UInt8} (h:bu x1=some aP):
 aF Tryz.prog 117 [(.ep (.agg [(.str x1.s),(.int .i64 x1.cC),(.bool x1.bad)]) 0)] H0 fun v H'=>v=(b8 aP)∧H'=H0:=by
 refine fe tE jO fun hcl K0 aN=> ?_
 rw [bu.eq_1] at h
 refine aC ?_
 refine bz ak (oa (x1:=x1) ?_)
 refine aC ?_
 refine bl h (fun hy2 h=> ?_) fun hy2 h=> ?_
 · refine aC ?_
   obtain rfl:=aA h
   exact aN _ _ _ bk (aK hcl (aW bf (b8 0)) bg aX ⟨rfl,rfl⟩)
 · obtain ⟨x2,hy3,h⟩:=aq h
   refine aV hy3 ?_
   obtain rfl:=aA h
   exact aN _ _ _ bk (aK hcl (aW bf (b8 x2)) bg aX ⟨rfl,rfl⟩)
abbrev uK:av:=(.seq (.rg [(aj 4 (.aO (.c (.bool false))))]) (.seq (.seq (.rg [(au 5 0),(aj 6 (.call (.c (.fn 117 [])) [(.t 5)])),(au 7 1),(aj 8 (.bin .neq (.t 6) (.t 7)))]) (.cond (.t 8) (.seq (.rg [(aj 4 (.aO (.c (.bool false))))]) .ret) .skip)) (.seq (.rg [(au 9 0),(aj 10 (.gG (.t 9))),(aj 11 (.cM (.t 10) 1)),(aj 12 (.ld (.t 11) none)),(aj 13 (.bin .add (.t 12) (.c (.int .i64 1)))),(aj 14 (.gG (.t 9))),(aj 15 (.cM (.t 14) 1)),(cS (.st (.t 15) (.t 13) 1))]) (.seq (.rg [(aj 4 (.aO (.c (.bool true))))]) .ret))))
theorem uL:bM Tryz.prog 93 16 [(.tmp 4)] (erase uK):=⟨Tryz.f93,_,rfl,by decide,rfl,by kernel_rfl,rfl,rfl⟩
abbrev uM:List Nat:=[0,1,4,8]
def bC (x2:aB) (c3:UInt8):Option (Bool×aB):=
 (bu x2).bind fun r4=>
 (if (!decide (r4=c3)) then
  some (false,x2)
 else
  some (true,(aB.mk x2.s (IntKind.wrap .i64 (x2.cC+1)) x2.bad)))
theorem dG {x2:aB} {c3:UInt8} {q1:Nat} {H0:AH} (ai:H0[q1]? =some [(.str x2.s),(.int .i64 x2.cC),(.bool x2.bad)]) {aP:Bool} {ey:aB} (h:bC x2 c3=some (aP,ey)):
 aF Tryz.prog 93 [(.ptr q1 0),(b8 c3)] H0 fun v H'=>v=(.bool aP)∧H'=(H0.set q1 [(.str ey.s),(.int .i64 ey.cC),(.bool ey.bad)]):=by
 have aM:=aR ai
 refine lH uL uM [q1] fun hcl K0 aN H hH hfr=> ?_
 rw [←hH] at ai
 clear hH
 have hle:=hfr.le
 have CQ:=aR ai
 rw [bC.eq_1] at h
 refine az ai ?_
 obtain ⟨r4,hy1,h⟩:=aq h
 refine I9 (bX hy1) (kq.cons (.one _ _ (ga.Bk (ai.trans rfl) Ja)) (kq.nil)) ?_
 refine az ai ?_
 refine bl h (fun hy2 h=> ?_) fun hy2 h=> ?_
 · refine az ai ?_
   obtain ⟨rfl,rfl⟩:=cw h
   exact aN _ _ _ bk (iX hfr hcl (aW bf (.bool false)) bg aX (ai.trans rfl) cq Ef Ee ⟨rfl,rfl⟩)
 · refine az ai ?_
   obtain ⟨rfl,rfl⟩:=cw h
   exact aN _ _ _ bk (iX (bW _ hfr) hcl (aW bf (.bool true)) bg aX cA cq Ef Ee ⟨rfl,rfl⟩)
abbrev Fb:av:=(.rg [(au 4 0),(au 5 0),(aj 6 (.gG (.t 5))),(aj 7 (.cM (.t 6) 2)),(aj 8 (.ld (.t 7) none)),(au 9 8),(ax 10 (.mv (.t 0)) 9 false),(ax 11 (.mv (.t 1)) 9 false),(ax 12 (.call (.c (.fn 93 [])) [(.t 10),(.t 11)]) 9 false),(ax 13 (.un .not (.t 12)) 9 false),(aj 14 (.pick (.t 9) (.c (.bool true)) (.t 13))),(aj 15 (.gG (.t 4))),(aj 16 (.cM (.t 15) 2)),(cS (.st (.t 16) (.t 14) 1))])
abbrev vw:av:=(.rg [(au 4 0),(au 5 0),(aj 6 (.gG (.t 5))),(aj 7 (.cM (.t 6) 2)),(aj 8 (.ld (.t 7) none)),(au 9 8),(ax 10 (.mv (.t 0)) 9 false),(ax 11 (.mv (.t 1)) 9 false),(ax 12 (.call (.c (.fn 93 [])) [(.t 10),(.t 11)]) 9 false),(ax 13 (.un .not (.t 12)) 9 false),(aj 14 (.pick (.t 9) (.c (.bool true)) (.t 13))),(aj 15 (.gG (.t 4))),(aj 16 (.cM (.t 15) 2)),(cS (.st (.t 16) (.t 14) 1))])
theorem vz:bM Tryz.prog 92 17 [] (erase vw):=⟨Tryz.f92,_,rfl,by decide,rfl,by kernel_rfl,rfl,rfl⟩
abbrev vA:List Nat:=[0,1]
def bn (x2:aB) (c3:UInt8):Option (aB):=
 (if x2.bad then
  some (aB.mk x2.s x2.cC true)
 else
  (bC x2 c3).bind fun (r4,r5)=>some (aB.mk r5.s r5.cC (!r4)))
theorem cY {x2:aB} {c3:UInt8} {q1:Nat} {H0:AH} (ai:H0[q1]? =some [(.str x2.s),(.int .i64 x2.cC),(.bool x2.bad)]) {aP:aB} (h:bn x2 c3=some aP):
 aF Tryz.prog 92 [(.ptr q1 0),(b8 c3)] H0 fun v H'=>v=(.bx [])∧H'=(H0.set q1 [(.str aP.s),(.int .i64 aP.cC),(.bool aP.bad)]):=by
 have aM:=aR ai
 refine lH vz vA [q1] fun hcl K0 aN H hH hfr=> ?_
 rw [←hH] at ai
 clear hH
 have hle:=hfr.le
 have CQ:=aR ai
 rw [bn.eq_1] at h
 refine az ai ?_
 refine bR h (fun hy1 h=> ?_) fun hy1 h=> ?_
 · refine az (aI hy1 ai) ?_
   obtain rfl:=aA h
   exact aN _ _ _ Zr (iX (bW _ hfr) hcl bf bg aX cA cq Ef Ee ⟨rfl,rfl⟩)
 · refine az (aI hy1 ai) ?_
   obtain ⟨⟨r4,r5⟩,hy2,h⟩:=aq h
   dsimp only at h
   refine bB ak (dG (ai.trans rfl) hy2) ?_
   refine az ai ?_
   obtain rfl:=aA h
   exact aN _ _ _ Zr (iX (bW _ (bW _ hfr)) hcl bf bg aX cA cq Ef Ee ⟨rfl,rfl⟩)
abbrev ql:av:=(.rg [(au 3 0),(aj 4 (.bin .or (.t 3) (.c (b8 32)))),(aj 5 (.bin .geq (.t 4) (.c (b8 97)))),(au 6 5),(ax 7 (.mv (.t 0)) 6 true),(ax 8 (.bin .or (.t 7) (.c (b8 32))) 6 true),(ax 9 (.bin .leq (.t 8) (.c (b8 122))) 6 true),(aj 10 (.pick (.t 6) (.t 9) (.c (.bool false)))),(au 11 10),(ax 12 (.mv (.t 0)) 11 false),(ax 13 (.bin .geq (.t 12) (.c (b8 48))) 11 false),(ax 14 (.mv (.t 13)) 11 false),(ax 15 (.mv (.t 0)) 14 true),(ax 16 (.bin .leq (.t 15) (.c (b8 57))) 14 true),(ax 17 (.pick (.t 14) (.t 16) (.c (.bool false))) 11 false),(aj 18 (.pick (.t 11) (.c (.bool true)) (.t 17))),(aQ 2 18)])
abbrev CS:av:=(.seq (.rg [(aj 2 (.aO (.c (.bool false))))]) (.seq (.sem (erase ql)) .ret))
theorem CT:bM Tryz.prog 103 19 [(.tmp 2)] (erase CS):=⟨Tryz.f103,_,rfl,by decide,rfl,by kernel_rfl,rfl,rfl⟩
abbrev vB:List Nat:=[0,2]
def gb (c1:UInt8):Option (Bool):=
 some (((decide (97≤(c1 ||| 32)))&&(decide ((c1 ||| 32)≤122)))||((decide (48≤c1))&&(decide (c1≤57))))
theorem xw {c1:UInt8} {H:AH} {K:Exit→Env→AH→Prop}
 (kn:K .normal [(2,(.bool (((decide (97≤(c1 ||| 32)))&&(decide ((c1 ||| 32)≤122)))||((decide (48≤c1))&&(decide (c1≤57))))))] H):
 AX Tryz.prog vB 19 H.length (erase ql) K [(0,(b8 c1)),(2,(.bool false))] H:=by
 refine bT fun K' hK=> ?_
 refine aC ?_
 refine kK (fun hy1=> ?_) fun hy1=> ?_
 · refine aV hy1 ?_
   refine kK (fun hy2=> ?_) fun hy2=> ?_
   · refine aV hy2 ?_
     exact hK _ _ _ _ _ (eG (aI hy1 hy2)) ak kn
   · refine aV hy2 ?_
     refine kK (fun hy3=> ?_) fun hy3=> ?_
     · refine aV hy3 ?_
       exact hK _ _ _ _ _ (eG (aI hy1 (aI hy2 hy3))) ak kn
     · refine aV hy3 ?_
       exact hK _ _ _ _ _ (eG (aI hy1 (aI hy2 hy3))) ak kn
 · refine aV hy1 ?_
   refine kK (fun hy4=> ?_) fun hy4=> ?_
   · refine aV hy4 ?_
     exact hK _ _ _ _ _ (eG (aI hy1 hy4)) ak kn
   · refine aV hy4 ?_
     exact hK _ _ _ _ _ (eG (aI hy1 hy4)) ak kn
theorem lJ {c1:UInt8} {H0:AH} {aP:Bool} (h:gb c1=some aP):
 aF Tryz.prog 103 [(b8 c1)] H0 fun v H'=>v=(.bool aP)∧H'=H0:=by
 refine fe CT vB fun hcl K0 aN=> ?_
 rw [gb.eq_1] at h
 refine aC ?_
 refine bz ak (xw (c1:=c1) ?_)
 refine aC ?_
 obtain rfl:=aA h
 exact aN _ _ _ bk (aK hcl (aW bf (.bool (((decide (97≤(c1 ||| 32)))&&(decide ((c1 ||| 32)≤122)))||((decide (48≤c1))&&(decide (c1≤57)))))) bg aX ⟨rfl,rfl⟩)
abbrev qm:av:=(.rg [(au 10 4),(aj 11 (.iq false (.t 10) (.c (.v .nilIface)))),(au 12 11),(ax 13 (.mv (.t 3)) 12 true),(ax 14 (.bin .geq (.t 13) (.c (.int .i64 0))) 12 true),(aj 15 (.pick (.t 12) (.t 14) (.c (.bool false)))),(au 16 15),(ax 17 (.mv (.t 3)) 16 true),(ax 18 (.bin .leq (.t 17) (.c (.int .i64 255))) 16 true),(aj 19 (.pick (.t 16) (.t 18) (.c (.bool false)))),(au 20 19),(ax 21 (.mv (.t 3)) 20 true),(ax 22 (.call (.c (.fn 34 [])) [(.t 21)]) 20 true),(ax 23 (.mv (.t 0)) 20 true),(ax 24 (.bin .eql (.t 22) (.t 23)) 20 true),(aj 25 (.pick (.t 20) (.t 24) (.c (.bool false)))),(aQ 2 25)])
abbrev CU:av:=(.seq (.rg [(aj 2 (.aO (.c (.bool false))))]) (.seq (.rg [(au 6 0),(aj 7 (.call (.c (.fn 66 [])) [(.t 6)])),(au 5 7),(aj 8 (.ext (.t 5) 0)),(aj 9 (.ext (.t 5) 1)),(aQ 3 8),(aQ 4 9)]) (.seq (.sem (erase qm)) .ret)))
theorem CV:bM Tryz.prog 69 26 [(.tmp 2)] (erase CU):=⟨Tryz.f69,_,rfl,by decide,rfl,by kernel_rfl,rfl,rfl⟩
abbrev vC:List Nat:=[0,2,3,4]
def fh (r3:Bool) (r2:Int) (s1:List UInt8):Option (Bool):=
 (if (!r3) then
  (if (decide (0≤r2)) then
   (if (decide (r2≤255)) then
    (strconv_Itoa r2).bind fun r4=>some (decide (r4=s1))
   else
    some false)
  else
   some false)
 else
  some false)
def iB (s1:List UInt8):Option (Bool):=
 (strconv_Atoi s1).bind fun (r2,r3)=>(fh r3 r2 s1).bind fun t6=>
 some t6
theorem xx {r3:Bool} {r2:Int} {s1:List UInt8} {H:AH} {K:Exit→Env→AH→Prop} {t5:Bool}
 (h:fh r3 r2 s1=some t5)
 (kn:K .normal [(2,(.bool t5))] H):
 AX Tryz.prog vC 26 H.length (erase qm) K [(0,(.str s1)),(2,(.bool false)),(3,(.int .i64 r2)),(4,(dB r3))] H:=by
 refine bT fun K' hK=> ?_
 rw [fh.eq_1] at h
 refine aC ?_
 refine bR h (fun hy2 h=> ?_) fun hy2 h=> ?_
 · refine aV hy2 ?_
   refine bR h (fun hy3 h=> ?_) fun hy3 h=> ?_
   · refine aV hy3 ?_
     refine bR h (fun hy4 h=> ?_) fun hy4 h=> ?_
     · refine aV hy4 ?_
       obtain ⟨r4,bK,h⟩:=aq h
       refine bB ak (sj (i1:=r2) bK) ?_
       refine aC ?_
       obtain rfl:=aA h
       exact hK _ _ _ _ _ aJ ak kn
     · refine aV hy4 ?_
       obtain rfl:=aA h
       exact hK _ _ _ _ _ aJ ak kn
   · refine aV hy3 ?_
     obtain rfl:=aA h
     exact hK _ _ _ _ _ aJ ak kn
 · refine aV hy2 ?_
   obtain rfl:=aA h
   exact hK _ _ _ _ _ aJ ak kn
theorem By {s1:List UInt8} {H0:AH} {aP:Bool} (h:iB s1=some aP):
 aF Tryz.prog 69 [(.str s1)] H0 fun v H'=>v=(.bool aP)∧H'=H0:=by
 refine fe CV vC fun hcl K0 aN=> ?_
 rw [iB.eq_1] at h
 refine aC ?_
 obtain ⟨⟨r2,r3⟩,hy1,h⟩:=aq h
 dsimp only at h
 refine bB ak (strconv_Atoi_ok (s1:=s1) hy1) ?_
 refine aC ?_
 obtain ⟨t6,bY,h⟩:=aq h
 refine bz ak (xx bY ?_)
 refine aC ?_
 obtain rfl:=aA h
 exact aN _ _ _ bk (aK hcl (aW bf (.bool t6)) bg aX ⟨rfl,rfl⟩)
abbrev Ao:av:=(.seq (.rg [(aj 2 (.aO (.c (.bool false))))]) (.seq (.rg [(au 3 0),(aj 4 (.call (.c (.fn 69 [])) [(.t 3)])),(aj 5 (.un .not (.t 4))),(aQ 2 5)]) .ret))
theorem Ap:bM Tryz.prog 68 6 [(.tmp 2)] (erase Ao):=⟨Tryz.f68,_,rfl,by decide,rfl,by kernel_rfl,rfl,rfl⟩
abbrev Aq:List Nat:=[0,2]
def gW (x1:List UInt8):Option (Bool):=
 (iB x1).bind fun r2=>some (!r2)
theorem zj {x1:List UInt8} {H0:AH} {aP:Bool} (h:gW x1=some aP):
 aF Tryz.prog 68 [(.str x1)] H0 fun v H'=>v=(.bool aP)∧H'=H0:=by
 refine fe Ap Aq fun hcl K0 aN=> ?_
 rw [gW.eq_1] at h
 refine aC ?_
 obtain ⟨r2,hy1,h⟩:=aq h
 refine bB ak (By hy1) ?_
 refine aC ?_
 obtain rfl:=aA h
 exact aN _ _ _ bk (aK hcl (aW bf (.bool (!r2))) bg aX ⟨rfl,rfl⟩)
abbrev iM:av:=(.seq (.rg [(aj 9 (.bin .lss (.t 8) (.t 7)))]) (.seq (.cond (.t 9) .skip (.exit 0)) (.seq (.blk 1 (.seq (.rg [(au 10 8),(aQ 5 10)]) (.seq (.rg [(au 11 1),(au 12 0),(au 13 5),(aj 14 (.uG 1 (.t 12) (.t 13))),(aj 15 (.ld (.t 14) none)),(aj 16 (.call (.t 11) [(.t 15)]))]) (.cond (.t 16) (.seq (.rg [(au 17 5),(aQ 4 17)]) .ret) .skip)))) (.rg [(aj 18 (.bin .add (.t 8) (.c (.int .i64 1)))),(au 8 18)]))))
abbrev uN:av:=(.seq (.rg [(aj 4 (.aO (.c (.int .i64 0))))]) (.seq (.seq (.rg [(au 6 0),(aj 7 (.len (.t 6))),(aj 8 (.mv (.c (.int .i64 0))))]) (.blk 0 (.loop (erase iM)))) (.seq (.rg [(aj 4 (.aO (.c (.int .i64 (-1)))))]) .ret)))
theorem uO:bM Tryz.prog 72 19 [(.tmp 4)] (erase uN):=⟨Tryz.f72,_,rfl,by decide,rfl,by kernel_rfl,rfl,rfl⟩
abbrev kC:List Nat:=[0,1,4,5,7,8,9,16]
def cE (s1:List (List UInt8)):(Int×Int)→Option (St Int Unit (Int×Int))
 |(t2,t3)=>
  (if (decide (t3<(s1.length:Int))) then
   (idx s1 t3).bind fun x4=>
   (gW x4).bind fun r5=>
   (if r5 then
    some (.ret t3)
   else
    some (.cU (t2,(IntKind.wrap .i64 (t3+1)))))
  else
   some (.dW ()))
def fG (F:Nat) (s1:List (List UInt8)):Option (Int):=
 ((iter (cE s1) F (0,0)).bind fun o8=>
 match o8 with
 | .inr ()=>
   some (-1)
 | .inl r7=>
   some r7)
theorem pY {F:Nat} {t3:Int} {s1:List (List UInt8)} {t2:Int} {H:AH} {K:Exit→Env→AH→Prop} {o:(Int)⊕(Unit)}
 (h:iter (cE s1) F (t2,t3)=some o)
 (c8:∀o':Unit,o= .inr o'→K (.exit 0) [] H)
 (kr:∀o':Int,o= .inl o'→K .ret [(4,(.int .i64 o'))] H):
 AX Tryz.prog kC 19 H.length (.loop (erase iM)) K [(0,(.sl .n 1 (ml AV.str s1))),(1,(.fn 68 [])),(4,(.int .i64 t2)),(7,(.int .i64 (s1.length:Int))),(8,(.int .i64 t3))] H:=by
 refine gH (fun s e H1=>match s with|(t2,t3)=>e=[(0,(.sl .n 1 (ml AV.str s1))),(1,(.fn 68 [])),(4,(.int .i64 t2)),(7,(.int .i64 (s1.length:Int))),(8,(.int .i64 t3))]∧H1=H) h ⟨rfl,rfl⟩ ?_
 rintro K' ⟨t2,t3⟩ st e H ⟨rfl,rfl⟩ h hN hB hR hX
 rw [cE.eq_1] at h
 refine aC ?_
 refine bl h (fun hy1 h=> ?_) fun hy1 h=> ?_
 · obtain ⟨x4,hy2,h⟩:=aq h
   refine aV hy2 ?_
   obtain ⟨r5,hy3,h⟩:=aq h
   refine bB ak (zj hy3) ?_
   refine aC ?_
   refine bl h (fun hy4 h=> ?_) fun hy4 h=> ?_
   · refine aC ?_
     obtain rfl:=aA h
     exact hX _ _ _ _ _ c6 aJ ak (kr _ (hR _ rfl))
   · refine aC ?_
     obtain rfl:=aA h
     exact hN _ rfl _ _ _ _ aJ ak ⟨rfl,rfl⟩
 · refine aC ?_
   obtain rfl:=aA h
   exact hX _ _ _ _ _ c6 WE.nil ak (c8 _ (hB _ rfl))
theorem tF {F:Nat} {s1:List (List UInt8)} {H0:AH} {aP:Int} (h:fG F s1=some aP):
 aF Tryz.prog 72 [(.sl .n 1 (ml AV.str s1)),(.fn 68 [])] H0 fun v H'=>v=(.int .i64 aP)∧H'=H0:=by
 refine fe uO kC fun hcl K0 aN=> ?_
 rw [fG.eq_1] at h
 refine aC ?_
 obtain ⟨o8,bK,h⟩:=aq h
 refine bz ak (pY bK ?_ ?_)
 · rintro ⟨⟩ rfl
   try dsimp only at h
   refine aC ?_
   obtain rfl:=aA h
   exact aN _ _ _ bk (aK hcl (aW bf (.int .i64 (-1))) bg aX ⟨rfl,rfl⟩)
 · rintro r7 rfl
   try dsimp only at h
   refine aC ?_
   obtain rfl:=aA h
   exact aN _ _ _ bk (aK hcl (aW bf (.int .i64 r7)) bg aX ⟨rfl,rfl⟩)
abbrev rJ:av:=(.seq (.rg [(aj 4 (.aO (.c (.bool false))))]) (.seq (.rg [(au 5 0),(au 6 1),(aj 7 (.call (.c (.fn 72 [])) [(.t 5),(.t 6)])),(aj 8 (.bin .geq (.t 7) (.c (.int .i64 0)))),(aQ 4 8)]) .ret))
theorem rK:bM Tryz.prog 46 9 [(.tmp 4)] (erase rJ):=⟨Tryz.f46,_,rfl,by decide,rfl,by kernel_rfl,rfl,rfl⟩
abbrev rL:List Nat:=[0,1,4]
def dH (F:Nat) (s1:List (List UInt8)):Option (Bool):=
 (fG F s1).bind fun r2=>some (decide (0≤r2))
theorem pZ {F:Nat} {s1:List (List UInt8)} {H0:AH} {aP:Bool} (h:dH F s1=some aP):
 aF Tryz.prog 46 [(.sl .n 1 (ml AV.str s1)),(.fn 68 [])] H0 fun v H'=>v=(.bool aP)∧H'=H0:=by
 refine fe rK rL fun hcl K0 aN=> ?_
 rw [dH.eq_1] at h
 refine aC ?_
 obtain ⟨r2,hy1,h⟩:=aq h
 refine bB ak (tF hy1) ?_
 refine aC ?_
 obtain rfl:=aA h
 exact aN _ _ _ bk (aK hcl (aW bf (.bool (decide (0≤r2)))) bg aX ⟨rfl,rfl⟩)
abbrev ob:av:=(.rg [(au 3 0),(aj 4 (.call (.c (.fn 103 [])) [(.t 3)])),(au 5 4),(ax 6 (.mv (.t 0)) 5 false),(ax 7 (.bin .eql (.t 6) (.c (b8 45))) 5 false),(aj 8 (.pick (.t 5) (.c (.bool true)) (.t 7))),(aQ 2 8)])
abbrev Bz:av:=(.seq (.rg [(aj 2 (.aO (.c (.bool false))))]) (.seq (.sem (erase ob)) .ret))
theorem BA:bM Tryz.prog 102 9 [(.tmp 2)] (erase Bz):=⟨Tryz.f102,_,rfl,by decide,rfl,by kernel_rfl,rfl,rfl⟩
abbrev ue:List Nat:=[0,2]
def kL (c1:UInt8):Option (Bool):=
 (gb c1).bind fun r2=>(if r2 then
  some true
 else
  some (decide (c1=45)))
def iY (c1:UInt8):Option (Bool):=
 (kL c1).bind fun t4=>
 some t4
theorem wJ {c1:UInt8} {H:AH} {K:Exit→Env→AH→Prop} {t3:Bool}
 (h:kL c1=some t3)
 (kn:K .normal [(2,(.bool t3))] H):
 AX Tryz.prog ue 9 H.length (erase ob) K [(0,(b8 c1)),(2,(.bool false))] H:=by
 refine bT fun K' hK=> ?_
 rw [kL.eq_1] at h
 refine aC ?_
 obtain ⟨r2,hy1,h⟩:=aq h
 refine bB ak (lJ hy1) ?_
 refine aC ?_
 refine bR h (fun hy2 h=> ?_) fun hy2 h=> ?_
 · refine aV hy2 ?_
   obtain rfl:=aA h
   exact hK _ _ _ _ _ aJ ak kn
 · refine aV hy2 ?_
   obtain rfl:=aA h
   exact hK _ _ _ _ _ aJ ak kn
theorem As {c1:UInt8} {H0:AH} {aP:Bool} (h:iY c1=some aP):
 aF Tryz.prog 102 [(b8 c1)] H0 fun v H'=>v=(.bool aP)∧H'=H0:=by
 refine fe BA ue fun hcl K0 aN=> ?_
 rw [iY.eq_1] at h
 refine aC ?_
 obtain ⟨t4,hy3,h⟩:=aq h
 refine bz ak (wJ hy3 ?_)
 refine aC ?_
 obtain rfl:=aA h
 exact aN _ _ _ bk (aK hcl (aW bf (.bool t4)) bg aX ⟨rfl,rfl⟩)
abbrev mR:av:=(.seq (.rg [(aj 9 (.bin .lss (.t 8) (.t 7)))]) (.seq (.cond (.t 9) .skip (.exit 0)) (.seq (.blk 1 (.seq (.rg [(au 10 8),(aQ 5 10)]) (.seq (.rg [(au 11 1),(au 12 0),(au 13 5),(aj 14 (.ixs (.t 12) (.t 13))),(aj 15 (.call (.t 11) [(.t 14)])),(aj 16 (.un .not (.t 15)))]) (.cond (.t 16) (.seq (.rg [(aj 4 (.aO (.c (.bool false))))]) .ret) .skip)))) (.rg [(aj 17 (.bin .add (.t 8) (.c (.int .i64 1)))),(au 8 17)]))))
abbrev BB:av:=(.seq (.rg [(aj 4 (.aO (.c (.bool false))))]) (.seq (.seq (.rg [(au 6 0),(aj 7 (.lens (.t 6))),(aj 8 (.mv (.c (.int .i64 0))))]) (.blk 0 (.loop (erase mR)))) (.seq (.rg [(aj 4 (.aO (.c (.bool true))))]) .ret)))
theorem BC:bM Tryz.prog 54 18 [(.tmp 4)] (erase BB):=⟨Tryz.f54,_,rfl,by decide,rfl,by kernel_rfl,rfl,rfl⟩
abbrev uf:List Nat:=[0,1,4,5,7,8,9,16]
def ec (s1:List UInt8):(Bool×Int)→Option (St Bool Unit (Bool×Int))
 |(t2,t3)=>
  (if (decide (t3<(s1.length:Int))) then
   (idx s1 t3).bind fun x4=>
   (iY x4).bind fun r5=>
   (if (!r5) then
    some (.ret false)
   else
    some (.cU (t2,(IntKind.wrap .i64 (t3+1)))))
  else
   some (.dW ()))
def iZ (F:Nat) (s1:List UInt8):Option (Bool):=
 ((iter (ec s1) F (false,0)).bind fun o8=>
 match o8 with
 | .inr ()=>
   some true
 | .inl r7=>
   some r7)
theorem wK {F:Nat} {t3:Int} {s1:List UInt8} {t2:Bool} {H:AH} {K:Exit→Env→AH→Prop} {o:(Bool)⊕(Unit)}
 (h:iter (ec s1) F (t2,t3)=some o)
 (c8:∀o':Unit,o= .inr o'→K (.exit 0) [] H)
 (kr:∀o':Bool,o= .inl o'→K .ret [(4,(.bool o'))] H):
 AX Tryz.prog uf 18 H.length (.loop (erase mR)) K [(0,(.str s1)),(1,(.fn 102 [])),(4,(.bool t2)),(7,(.int .i64 (s1.length:Int))),(8,(.int .i64 t3))] H:=by
 refine gH (fun s e H1=>match s with|(t2,t3)=>e=[(0,(.str s1)),(1,(.fn 102 [])),(4,(.bool t2)),(7,(.int .i64 (s1.length:Int))),(8,(.int .i64 t3))]∧H1=H) h ⟨rfl,rfl⟩ ?_
 rintro K' ⟨t2,t3⟩ st e H ⟨rfl,rfl⟩ h hN hB hR hX
 rw [ec.eq_1] at h
 refine aC ?_
 refine bl h (fun hy1 h=> ?_) fun hy1 h=> ?_
 · obtain ⟨x4,hy2,h⟩:=aq h
   refine aV hy2 ?_
   obtain ⟨r5,hy3,h⟩:=aq h
   refine bB ak (As hy3) ?_
   refine aC ?_
   refine bl h (fun hy4 h=> ?_) fun hy4 h=> ?_
   · refine aC ?_
     obtain rfl:=aA h
     exact hX _ _ _ _ _ c6 aJ ak (kr _ (hR _ rfl))
   · refine aC ?_
     obtain rfl:=aA h
     exact hN _ rfl _ _ _ _ aJ ak ⟨rfl,rfl⟩
 · refine aC ?_
   obtain rfl:=aA h
   exact hX _ _ _ _ _ c6 WE.nil ak (c8 _ (hB _ rfl))
theorem Au {F:Nat} {s1:List UInt8} {H0:AH} {aP:Bool} (h:iZ F s1=some aP):
 aF Tryz.prog 54 [(.str s1),(.fn 102 [])] H0 fun v H'=>v=(.bool aP)∧H'=H0:=by
 refine fe BC uf fun hcl K0 aN=> ?_
 rw [iZ.eq_1] at h
 refine aC ?_
 obtain ⟨o8,bK,h⟩:=aq h
 refine bz ak (wK bK ?_ ?_)
 · rintro ⟨⟩ rfl
   try dsimp only at h
   refine aC ?_
   obtain rfl:=aA h
   exact aN _ _ _ bk (aK hcl (aW bf (.bool true)) bg aX ⟨rfl,rfl⟩)
 · rintro r7 rfl
   try dsimp only at h
   refine aC ?_
   obtain rfl:=aA h
   exact aN _ _ _ bk (aK hcl (aW bf (.bool r7)) bg aX ⟨rfl,rfl⟩)
abbrev sr:av:=(.rg [(au 3 0),(aj 4 (.bin .neq (.t 3) (.c (.str [])))),(au 5 4),(ax 6 (.mv (.t 0)) 5 true),(ax 7 (.ixs (.t 6) (.c (.int .i64 0))) 5 true),(ax 8 (.bin .neq (.t 7) (.c (b8 45))) 5 true),(aj 9 (.pick (.t 5) (.t 8) (.c (.bool false)))),(au 10 9),(ax 11 (.mv (.t 0)) 10 true),(ax 12 (.mv (.t 0)) 10 true),(ax 13 (.lens (.t 12)) 10 true),(ax 14 (.bin .sub (.t 13) (.c (.int .i64 1))) 10 true),(ax 15 (.ixs (.t 11) (.t 14)) 10 true),(ax 16 (.bin .neq (.t 15) (.c (b8 45))) 10 true),(aj 17 (.pick (.t 10) (.t 16) (.c (.bool false)))),(au 18 17),(ax 19 (.mv (.t 0)) 18 true),(ax 20 (.call (.c (.fn 54 [])) [(.t 19),(.c (.fn 102 []))]) 18 true),(aj 21 (.pick (.t 18) (.t 20) (.c (.bool false)))),(aQ 2 21)])
abbrev El:av:=(.seq (.rg [(aj 2 (.aO (.c (.bool false))))]) (.seq (.sem (erase sr)) .ret))
theorem Em:bM Tryz.prog 71 22 [(.tmp 2)] (erase El):=⟨Tryz.f71,_,rfl,by decide,rfl,by kernel_rfl,rfl,rfl⟩
abbrev w7:List Nat:=[0,2]
def jP (F:Nat) (s1:List UInt8):Option (Bool):=
 (if (!decide (s1=([]:List UInt8))) then
  (idx s1 0).bind fun x2=>
  (if (!decide (x2=45)) then
   (idx s1 (IntKind.wrap .i64 ((s1.length:Int) - 1))).bind fun x3=>
   (if (!decide (x3=45)) then
    (iZ F s1).bind fun r4=>some r4
   else
    some false)
  else
   some false)
 else
  some false)
def lg (F:Nat) (s1:List UInt8):Option (Bool):=
 (jP F s1).bind fun t6=>
 some t6
theorem zk {F:Nat} {s1:List UInt8} {H:AH} {K:Exit→Env→AH→Prop} {t5:Bool}
 (h:jP F s1=some t5)
 (kn:K .normal [(2,(.bool t5))] H):
 AX Tryz.prog w7 22 H.length (erase sr) K [(0,(.str s1)),(2,(.bool false))] H:=by
 refine bT fun K' hK=> ?_
 rw [jP.eq_1] at h
 refine aC ?_
 refine bR h (fun hy1 h=> ?_) fun hy1 h=> ?_
 · obtain ⟨x2,hy2,h⟩:=aq h
   refine aV (aI hy1 hy2) ?_
   refine bR h (fun hy3 h=> ?_) fun hy3 h=> ?_
   · obtain ⟨x3,hy4,h⟩:=aq h
     refine aV (aI hy3 hy4) ?_
     refine bR h (fun bK h=> ?_) fun bK h=> ?_
     · refine aV bK ?_
       obtain ⟨r4,bY,h⟩:=aq h
       refine bB ak (Au bY) ?_
       refine aC ?_
       obtain rfl:=aA h
       exact hK _ _ _ _ _ aJ ak kn
     · refine aV bK ?_
       obtain rfl:=aA h
       exact hK _ _ _ _ _ aJ ak kn
   · refine aV hy3 ?_
     obtain rfl:=aA h
     exact hK _ _ _ _ _ aJ ak kn
 · refine aV hy1 ?_
   obtain rfl:=aA h
   exact hK _ _ _ _ _ aJ ak kn
theorem CW {F:Nat} {s1:List UInt8} {H0:AH} {aP:Bool} (h:lg F s1=some aP):
 aF Tryz.prog 71 [(.str s1)] H0 fun v H'=>v=(.bool aP)∧H'=H0:=by
 refine fe Em w7 fun hcl K0 aN=> ?_
 rw [lg.eq_1] at h
 refine aC ?_
 obtain ⟨t6,cD,h⟩:=aq h
 refine bz ak (zk cD ?_)
 refine aC ?_
 obtain rfl:=aA h
 exact aN _ _ _ bk (aK hcl (aW bf (.bool t6)) bg aX ⟨rfl,rfl⟩)
abbrev Av:av:=(.seq (.rg [(aj 2 (.aO (.c (.bool false))))]) (.seq (.rg [(au 3 0),(aj 4 (.call (.c (.fn 71 [])) [(.t 3)])),(aj 5 (.un .not (.t 4))),(aQ 2 5)]) .ret))
theorem Aw:bM Tryz.prog 70 6 [(.tmp 2)] (erase Av):=⟨Tryz.f70,_,rfl,by decide,rfl,by kernel_rfl,rfl,rfl⟩
abbrev Ax:List Nat:=[0,2]
def gX (F:Nat) (x1:List UInt8):Option (Bool):=
 (lg F x1).bind fun r2=>some (!r2)
theorem zm {F:Nat} {x1:List UInt8} {H0:AH} {aP:Bool} (h:gX F x1=some aP):
 aF Tryz.prog 70 [(.str x1)] H0 fun v H'=>v=(.bool aP)∧H'=H0:=by
 refine fe Aw Ax fun hcl K0 aN=> ?_
 rw [gX.eq_1] at h
 refine aC ?_
 obtain ⟨r2,hy1,h⟩:=aq h
 refine bB ak (CW hy1) ?_
 refine aC ?_
 obtain rfl:=aA h
 exact aN _ _ _ bk (aK hcl (aW bf (.bool (!r2))) bg aX ⟨rfl,rfl⟩)
abbrev gY:av:=(.seq (.rg [(aj 9 (.bin .lss (.t 8) (.t 7)))]) (.seq (.cond (.t 9) .skip (.exit 0)) (.seq (.blk 1 (.seq (.rg [(au 10 8),(aQ 5 10)]) (.seq (.rg [(au 11 1),(au 12 0),(au 13 5),(aj 14 (.uG 1 (.t 12) (.t 13))),(aj 15 (.ld (.t 14) none)),(aj 16 (.call (.t 11) [(.t 15)]))]) (.cond (.t 16) (.seq (.rg [(au 17 5),(aQ 4 17)]) .ret) .skip)))) (.rg [(aj 18 (.bin .add (.t 8) (.c (.int .i64 1)))),(au 8 18)]))))
abbrev tG:av:=(.seq (.rg [(aj 4 (.aO (.c (.int .i64 0))))]) (.seq (.seq (.rg [(au 6 0),(aj 7 (.len (.t 6))),(aj 8 (.mv (.c (.int .i64 0))))]) (.blk 0 (.loop (erase gY)))) (.seq (.rg [(aj 4 (.aO (.c (.int .i64 (-1)))))]) .ret)))
theorem tH:bM Tryz.prog 72 19 [(.tmp 4)] (erase tG):=⟨Tryz.f72,_,rfl,by decide,rfl,by kernel_rfl,rfl,rfl⟩
abbrev jQ:List Nat:=[0,1,4,5,7,8,9,16]
def cx (F:Nat) (s1:List (List UInt8)):(Int×Int)→Option (St Int Unit (Int×Int))
 |(t2,t3)=>
  (if (decide (t3<(s1.length:Int))) then
   (idx s1 t3).bind fun x4=>
   (gX F x4).bind fun r5=>
   (if r5 then
    some (.ret t3)
   else
    some (.cU (t2,(IntKind.wrap .i64 (t3+1)))))
  else
   some (.dW ()))
def fq (F:Nat) (s1:List (List UInt8)):Option (Int):=
 ((iter (cx F s1) F (0,0)).bind fun o8=>
 match o8 with
 | .inr ()=>
   some (-1)
 | .inl r7=>
   some r7)
theorem oc {F:Nat} {t3:Int} {s1:List (List UInt8)} {t2:Int} {H:AH} {K:Exit→Env→AH→Prop} {o:(Int)⊕(Unit)}
 (h:iter (cx F s1) F (t2,t3)=some o)
 (c8:∀o':Unit,o= .inr o'→K (.exit 0) [] H)
 (kr:∀o':Int,o= .inl o'→K .ret [(4,(.int .i64 o'))] H):
 AX Tryz.prog jQ 19 H.length (.loop (erase gY)) K [(0,(.sl .n 1 (ml AV.str s1))),(1,(.fn 70 [])),(4,(.int .i64 t2)),(7,(.int .i64 (s1.length:Int))),(8,(.int .i64 t3))] H:=by
 refine gH (fun s e H1=>match s with|(t2,t3)=>e=[(0,(.sl .n 1 (ml AV.str s1))),(1,(.fn 70 [])),(4,(.int .i64 t2)),(7,(.int .i64 (s1.length:Int))),(8,(.int .i64 t3))]∧H1=H) h ⟨rfl,rfl⟩ ?_
 rintro K' ⟨t2,t3⟩ st e H ⟨rfl,rfl⟩ h hN hB hR hX
 rw [cx.eq_1] at h
 refine aC ?_
 refine bl h (fun hy1 h=> ?_) fun hy1 h=> ?_
 · obtain ⟨x4,hy2,h⟩:=aq h
   refine aV hy2 ?_
   obtain ⟨r5,hy3,h⟩:=aq h
   refine bB ak (zm hy3) ?_
   refine aC ?_
   refine bl h (fun hy4 h=> ?_) fun hy4 h=> ?_
   · refine aC ?_
     obtain rfl:=aA h
     exact hX _ _ _ _ _ c6 aJ ak (kr _ (hR _ rfl))
   · refine aC ?_
     obtain rfl:=aA h
     exact hN _ rfl _ _ _ _ aJ ak ⟨rfl,rfl⟩
 · refine aC ?_
   obtain rfl:=aA h
   exact hX _ _ _ _ _ c6 WE.nil ak (c8 _ (hB _ rfl))
theorem su {F:Nat} {s1:List (List UInt8)} {H0:AH} {aP:Int} (h:fq F s1=some aP):
 aF Tryz.prog 72 [(.sl .n 1 (ml AV.str s1)),(.fn 70 [])] H0 fun v H'=>v=(.int .i64 aP)∧H'=H0:=by
 refine fe tH jQ fun hcl K0 aN=> ?_
 rw [fq.eq_1] at h
 refine aC ?_
 obtain ⟨o8,bK,h⟩:=aq h
 refine bz ak (oc bK ?_ ?_)
 · rintro ⟨⟩ rfl
   try dsimp only at h
   refine aC ?_
   obtain rfl:=aA h
   exact aN _ _ _ bk (aK hcl (aW bf (.int .i64 (-1))) bg aX ⟨rfl,rfl⟩)
 · rintro r7 rfl
   try dsimp only at h
   refine aC ?_
   obtain rfl:=aA h
   exact aN _ _ _ bk (aK hcl (aW bf (.int .i64 r7)) bg aX ⟨rfl,rfl⟩)
abbrev p6:av:=(.seq (.rg [(aj 4 (.aO (.c (.bool false))))]) (.seq (.rg [(au 5 0),(au 6 1),(aj 7 (.call (.c (.fn 72 [])) [(.t 5),(.t 6)])),(aj 8 (.bin .geq (.t 7) (.c (.int .i64 0)))),(aQ 4 8)]) .ret))
theorem p7:bM Tryz.prog 46 9 [(.tmp 4)] (erase p6):=⟨Tryz.f46,_,rfl,by decide,rfl,by kernel_rfl,rfl,rfl⟩
abbrev p8:List Nat:=[0,1,4]
def dn (F:Nat) (s1:List (List UInt8)):Option (Bool):=
 (fq F s1).bind fun r2=>some (decide (0≤r2))
theorem od {F:Nat} {s1:List (List UInt8)} {H0:AH} {aP:Bool} (h:dn F s1=some aP):
 aF Tryz.prog 46 [(.sl .n 1 (ml AV.str s1)),(.fn 70 [])] H0 fun v H'=>v=(.bool aP)∧H'=H0:=by
 refine fe p7 p8 fun hcl K0 aN=> ?_
 rw [dn.eq_1] at h
 refine aC ?_
 obtain ⟨r2,hy1,h⟩:=aq h
 refine bB ak (su hy1) ?_
 refine aC ?_
 obtain rfl:=aA h
 exact aN _ _ _ bk (aK hcl (aW bf (.bool (decide (0≤r2)))) bg aX ⟨rfl,rfl⟩)
abbrev qn:av:=(.rg [(au 4 0),(aj 5 (.lens (.t 4))),(aj 6 (.bin .gtr (.t 5) (.c (.int .i64 1)))),(au 7 6),(ax 8 (.mv (.t 0)) 7 true),(ax 9 (.ixs (.t 8) (.c (.int .i64 0))) 7 true),(ax 10 (.bin .eql (.t 9) (.c (b8 91))) 7 true),(aj 11 (.pick (.t 7) (.t 10) (.c (.bool false)))),(au 12 11),(ax 13 (.mv (.t 0)) 12 true),(ax 14 (.mv (.t 0)) 12 true),(ax 15 (.lens (.t 14)) 12 true),(ax 16 (.bin .sub (.t 15) (.c (.int .i64 1))) 12 true),(ax 17 (.ixs (.t 13) (.t 16)) 12 true),(ax 18 (.bin .eql (.t 17) (.c (b8 93))) 12 true),(aj 19 (.pick (.t 12) (.t 18) (.c (.bool false))))])
abbrev qo:av:=(.rg [(au 26 3),(aj 27 (.len (.t 26))),(aj 28 (.bin .eql (.t 27) (.c (.int .i64 4)))),(au 29 28),(ax 30 (.mv (.t 3)) 29 true),(ax 31 (.call (.c (.fn 46 [])) [(.t 30),(.c (.fn 68 []))]) 29 true),(ax 32 (.un .not (.t 31)) 29 true),(aj 33 (.pick (.t 29) (.t 32) (.c (.bool false)))),(aQ 2 33)])
abbrev CX:av:=(.seq (.rg [(aj 2 (.aO (.c (.bool false))))]) (.seq (.seq (.sem (erase qn)) (.cond (.t 19) (.seq (.rg [(au 20 0),(au 21 0),(aj 22 (.lens (.t 21))),(aj 23 (.bin .sub (.t 22) (.c (.int .i64 1)))),(aj 24 (.gj (.t 20) (some (.c (.int .i64 1))) (some (.t 23)))),(aj 25 (.call (.c (.fn 47 [])) [(.t 24),(.c (.str [46]))])),(aQ 3 25)]) (.seq (.sem (erase qo)) .ret)) .skip)) (.seq (.rg [(au 34 0),(aj 35 (.call (.c (.fn 47 [])) [(.t 34),(.c (.str [46]))])),(aj 36 (.call (.c (.fn 46 [])) [(.t 35),(.c (.fn 70 []))])),(aj 37 (.un .not (.t 36))),(aQ 2 37)]) .ret)))
theorem CY:bM Tryz.prog 45 38 [(.tmp 2)] (erase CX):=⟨Tryz.f45,_,rfl,by decide,rfl,by kernel_rfl,rfl,rfl⟩
abbrev oe:List Nat:=[0,2,3,19]
def gp (s1:List UInt8):Option (Bool):=
 (if (decide (1<(s1.length:Int))) then
  (idx s1 0).bind fun x2=>
  (if (decide (x2=91)) then
   (idx s1 (IntKind.wrap .i64 ((s1.length:Int) - 1))).bind fun x3=>some (decide (x3=93))
  else
   some false)
 else
  some false)
def jl (F:Nat) (r7:List (List UInt8)):Option (Bool):=
 (if (decide ((r7.length:Int)=4)) then
  (dH F r7).bind fun r8=>some (!r8)
 else
  some false)
def iC (F:Nat) (s1:List UInt8):Option (Bool):=
 (gp s1).bind fun t5=>
 (if t5 then
  (sub s1 1 (IntKind.wrap .i64 ((s1.length:Int) - 1))).bind fun x6=>
  (strings_Split x6 ([46]:List UInt8)).bind fun r7=>(jl F r7).bind fun t10=>
  some t10
 else
  (strings_Split s1 ([46]:List UInt8)).bind fun kM=>(dn F kM).bind fun gI=>some (!gI))
theorem xy {s1:List UInt8} {H:AH} {K:Exit→Env→AH→Prop} {t4:Bool}
 (h:gp s1=some t4)
 (kn:K .normal [(0,(.str s1)),(19,(.bool t4))] H):
 AX Tryz.prog oe 38 H.length (erase qn) K [(0,(.str s1))] H:=by
 refine bT fun K' hK=> ?_
 rw [gp.eq_1] at h
 refine aC ?_
 refine bR h (fun hy1 h=> ?_) fun hy1 h=> ?_
 · obtain ⟨x2,hy2,h⟩:=aq h
   refine aV (aI hy1 hy2) ?_
   refine bR h (fun hy3 h=> ?_) fun hy3 h=> ?_
   · obtain ⟨x3,hy4,h⟩:=aq h
     refine aV (aI hy3 hy4) ?_
     obtain rfl:=aA h
     exact hK _ _ _ _ _ aJ ak kn
   · refine aV hy3 ?_
     obtain rfl:=aA h
     exact hK _ _ _ _ _ aJ ak kn
 · refine aV hy1 ?_
   obtain rfl:=aA h
   exact hK _ _ _ _ _ aJ ak kn
theorem xA {F:Nat} {r7:List (List UInt8)} {H:AH} {K:Exit→Env→AH→Prop} {t9:Bool}
 (h:jl F r7=some t9)
 (kn:K .normal [(2,(.bool t9))] H):
 AX Tryz.prog oe 38 H.length (erase qo) K [(3,(.sl .n 1 (ml AV.str r7)))] H:=by
 refine bT fun K' hK=> ?_
 rw [jl.eq_1] at h
 refine aC ?_
 refine bR h (fun cQ h=> ?_) fun cQ h=> ?_
 · refine aV cQ ?_
   obtain ⟨r8,cc,h⟩:=aq h
   refine bB ak (pZ cc) ?_
   refine aC ?_
   obtain rfl:=aA h
   exact hK _ _ _ _ _ aJ ak kn
 · refine aV cQ ?_
   obtain rfl:=aA h
   exact hK _ _ _ _ _ aJ ak kn
theorem ug {F:Nat} {s1:List UInt8} {H0:AH} {aP:Bool} (h:iC F s1=some aP):
 aF Tryz.prog 45 [(.str s1)] H0 fun v H'=>v=(.bool aP)∧H'=H0:=by
 refine fe CY oe fun hcl K0 aN=> ?_
 rw [iC.eq_1] at h
 refine aC ?_
 obtain ⟨t5,bK,h⟩:=aq h
 refine bz ak (xy bK ?_)
 refine aC ?_
 refine bl h (fun bY h=> ?_) fun bY h=> ?_
 · obtain ⟨x6,cD,h⟩:=aq h
   refine aV cD ?_
   obtain ⟨r7,ct,h⟩:=aq h
   refine bB ak (gM (s1:=x6) (s2:=([46]:List UInt8)) ct) ?_
   refine aC ?_
   obtain ⟨t10,cy,h⟩:=aq h
   refine bz ak (xA cy ?_)
   refine aC ?_
   obtain rfl:=aA h
   exact aN _ _ _ bk (aK hcl (aW bf (.bool t10)) bg aX ⟨rfl,rfl⟩)
 · refine aC ?_
   obtain ⟨kM,cK,h⟩:=aq h
   refine bB ak (gM (s1:=s1) (s2:=([46]:List UInt8)) cK) ?_
   refine aC ?_
   obtain ⟨gI,cG,h⟩:=aq h
   refine bB ak (od cG) ?_
   refine aC ?_
   obtain rfl:=aA h
   exact aN _ _ _ bk (aK hcl (aW bf (.bool (!gI))) bg aX ⟨rfl,rfl⟩)
abbrev iN:av:=(.rg [(au 12 4),(aj 13 (.call (.c (.fn 103 [])) [(.t 12)])),(au 14 13),(ax 15 (.mv (.t 4)) 14 false),(ax 16 (.bin .eql (.t 15) (.c (b8 45))) 14 false),(aj 17 (.pick (.t 14) (.c (.bool true)) (.t 16))),(au 18 17),(ax 19 (.mv (.t 4)) 18 false),(ax 20 (.bin .eql (.t 19) (.c (b8 46))) 18 false),(aj 21 (.pick (.t 18) (.c (.bool true)) (.t 20))),(au 22 21),(ax 23 (.mv (.t 4)) 22 false),(ax 24 (.bin .eql (.t 23) (.c (b8 91))) 22 false),(aj 25 (.pick (.t 22) (.c (.bool true)) (.t 24))),(au 26 25),(ax 27 (.mv (.t 4)) 26 false),(ax 28 (.bin .eql (.t 27) (.c (b8 93))) 26 false),(aj 29 (.pick (.t 26) (.c (.bool true)) (.t 28)))])
abbrev gZ:av:=(.seq (.seq (.sem (erase iN)) (.cond (.t 29) .skip (.exit 0))) (.seq (.blk 1 (.rg [(au 32 0),(aj 33 (.gG (.t 32))),(aj 34 (.cM (.t 33) 1)),(aj 35 (.ld (.t 34) none)),(aj 36 (.bin .add (.t 35) (.c (.int .i64 1)))),(aj 37 (.gG (.t 32))),(aj 38 (.cM (.t 37) 1)),(cS (.st (.t 38) (.t 36) 1))])) (.rg [(au 30 0),(aj 31 (.call (.c (.fn 117 [])) [(.t 30)])),(aQ 4 31)])))
abbrev iO:av:=(.rg [(au 49 0),(au 50 0),(aj 51 (.gG (.t 50))),(aj 52 (.cM (.t 51) 2)),(aj 53 (.ld (.t 52) none)),(au 54 53),(ax 55 (.mv (.t 5)) 54 false),(ax 56 (.call (.c (.fn 45 [])) [(.t 55)]) 54 false),(ax 57 (.un .not (.t 56)) 54 false),(aj 58 (.pick (.t 54) (.c (.bool true)) (.t 57))),(aj 59 (.gG (.t 49))),(aj 60 (.cM (.t 59) 2)),(cS (.st (.t 60) (.t 58) 1))])
abbrev tI:av:=(.seq (.rg [(aj 2 (.aO (.c (.str []))))]) (.seq (.rg [(au 6 0),(aj 7 (.gG (.t 6))),(aj 8 (.cM (.t 7) 1)),(aj 9 (.ld (.t 8) none)),(aQ 3 9)]) (.seq (.seq (.rg [(au 10 0),(aj 11 (.call (.c (.fn 117 [])) [(.t 10)])),(aQ 4 11)]) (.blk 0 (.loop (erase gZ)))) (.seq (.rg [(au 39 0),(aj 40 (.gG (.t 39))),(aj 41 (.cM (.t 40) 0)),(aj 42 (.ld (.t 41) none)),(au 43 3),(au 44 0),(aj 45 (.gG (.t 44))),(aj 46 (.cM (.t 45) 1)),(aj 47 (.ld (.t 46) none)),(aj 48 (.gj (.t 42) (some (.t 43)) (some (.t 47)))),(aQ 5 48)]) (.seq (.sem (erase iO)) (.seq (.rg [(au 61 5),(aQ 2 61)]) .ret))))))
theorem tJ:bM Tryz.prog 96 62 [(.tmp 2)] (erase tI):=⟨Tryz.f96,_,rfl,by decide,rfl,by kernel_rfl,rfl,rfl⟩
abbrev eH:List Nat:=[0,2,3,4,5,29]
def dw (c4:UInt8):Option (Bool):=
 (gb c4).bind fun r6=>
 (if r6 then
  some true
 else
  (if (decide (c4=45)) then
   some true
  else
   (if (decide (c4=46)) then
    some true
   else
    (if (decide (c4=91)) then
     some true
    else
     some (decide (c4=93))))))
def dx:(UInt8×aB)→Option (St ((List UInt8)×aB) aB (UInt8×aB))
 |(c4,s5)=>
  (dw c4).bind fun t8=>
  (if t8 then
   (bu (aB.mk s5.s (IntKind.wrap .i64 (s5.cC+1)) s5.bad)).bind fun r9=>
   some (.cU (r9,(aB.mk s5.s (IntKind.wrap .i64 (s5.cC+1)) s5.bad)))
  else
   some (.dW s5))
def dy (F:Nat) (og:aB) (rM:List UInt8):Option (aB):=
 (if og.bad then
  some (aB.mk og.s og.cC true)
 else
  (iC F rM).bind fun ku=>some (aB.mk og.s og.cC (!ku)))
def bP (F:Nat) (x2:aB):Option ((List UInt8)×aB):=
 (bu x2).bind fun r3=>
 ((iter dx F (r3,x2)).bind fun Jg=>
 match Jg with
 | .inr og=>
   (sub og.s x2.cC og.cC).bind fun rM=>
   (dy F og rM).bind fun L5=>
   some (rM,L5)
 | .inl _=>none)
theorem oh {c4:UInt8} {q1:Nat} {x2:aB} {s5:aB} {H0 H:AH} (hfr:Fr H0 H0.length [q1] H) (ai:H[q1]? =some [(.str s5.s),(.int .i64 s5.cC),(.bool s5.bad)]) (dP:q1<H0.length) {K:Exit→Env→AH→Prop} {t7:Bool}
 (h:dw c4=some t7)
 (kn:∀H':AH,Fr H0 H0.length [q1] H'→H'[q1]? =some [(.str s5.s),(.int .i64 s5.cC),(.bool s5.bad)]→K .normal [(0,(.ptr q1 0)),(3,(.int .i64 x2.cC)),(29,(.bool t7))] H'):
 AX Tryz.prog eH 62 H0.length (erase iN) K [(0,(.ptr q1 0)),(3,(.int .i64 x2.cC)),(4,(b8 c4))] H:=by
 refine bT fun K' hK=> ?_
 have hle:=hfr.le
 have aM:=aR ai
 rw [dw.eq_1] at h
 refine az ai ?_
 obtain ⟨r6,hy2,h⟩:=aq h
 refine bB ak (lJ hy2) ?_
 refine az ai ?_
 refine bR h (fun hy3 h=> ?_) fun hy3 h=> ?_
 · refine az (aI hy3 ai) ?_
   obtain rfl:=aA h
   exact hK _ _ _ _ _ aJ ak (kn _ hfr (ai.trans rfl))
 · refine az (aI hy3 ai) ?_
   refine bR h (fun hy4 h=> ?_) fun hy4 h=> ?_
   · refine az (aI hy4 ai) ?_
     obtain rfl:=aA h
     exact hK _ _ _ _ _ aJ ak (kn _ hfr (ai.trans rfl))
   · refine az (aI hy4 ai) ?_
     refine bR h (fun bK h=> ?_) fun bK h=> ?_
     · refine az (aI bK ai) ?_
       obtain rfl:=aA h
       exact hK _ _ _ _ _ aJ ak (kn _ hfr (ai.trans rfl))
     · refine az (aI bK ai) ?_
       refine bR h (fun bY h=> ?_) fun bY h=> ?_
       · refine az (aI bY ai) ?_
         obtain rfl:=aA h
         exact hK _ _ _ _ _ aJ ak (kn _ hfr (ai.trans rfl))
       · refine az (aI bY ai) ?_
         obtain rfl:=aA h
         exact hK _ _ _ _ _ aJ ak (kn _ hfr (ai.trans rfl))
theorem om {F:Nat} {c4:UInt8} {s5:aB} {q1:Nat} {x2:aB} {H0 H:AH} (hfr:Fr H0 H0.length [q1] H) (ai:H[q1]? =some [(.str s5.s),(.int .i64 s5.cC),(.bool s5.bad)]) (dP:q1<H0.length) {K:Exit→Env→AH→Prop} {o:((List UInt8)×aB)⊕(aB)}
 (h:iter dx F (c4,s5)=some o)
 (c8:∀o':aB,o= .inr o'→∀H':AH,Fr H0 H0.length [q1] H'→H'[q1]? =some [(.str o'.s),(.int .i64 o'.cC),(.bool o'.bad)]→K (.exit 0) [(0,(.ptr q1 0)),(3,(.int .i64 x2.cC))] H'):
 AX Tryz.prog eH 62 H0.length (.loop (erase gZ)) K [(0,(.ptr q1 0)),(3,(.int .i64 x2.cC)),(4,(b8 c4))] H:=by
 refine gH (fun s e H1=>match s with|(c4,s5)=>e=[(0,(.ptr q1 0)),(3,(.int .i64 x2.cC)),(4,(b8 c4))]∧Fr H0 H0.length [q1] H1∧H1[q1]? =some [(.str s5.s),(.int .i64 s5.cC),(.bool s5.bad)]) h ⟨rfl,hfr,ai⟩ ?_
 rintro K' ⟨c4,s5⟩ st e H ⟨rfl,hfr,ai⟩ h hN hB hR hX
 have hle:=hfr.le
 have aM:=aR ai
 rw [dx.eq_1] at h
 refine az ai ?_
 obtain ⟨t8,cD,h⟩:=aq h
 refine bz ak (oh (q1:=q1) (x2:=x2) (s5:=s5) hfr (ai.trans rfl) cq cD ?_)
 intro H hfr ai
 have hle:=hfr.le
 have aM:=aR ai
 refine az ai ?_
 refine bl h (fun ct h=> ?_) fun ct h=> ?_
 · refine az ai ?_
   obtain ⟨r9,cQ,h⟩:=aq h
   refine I9 (bX cQ) (kq.cons (.one _ _ (ga.Bk cA Ja)) (kq.nil)) ?_
   refine az ai ?_
   obtain rfl:=aA h
   exact hN _ rfl _ _ _ _ aJ ak ⟨rfl,(bW _ hfr),cA⟩
 · refine az ai ?_
   obtain rfl:=aA h
   exact hX _ _ _ _ _ c6 aJ ak (c8 _ (hB _ rfl) _ hfr (ai.trans rfl))
theorem oq {F:Nat} {og:aB} {rM:List UInt8} {q1:Nat} {H0 H:AH} (hfr:Fr H0 H0.length [q1] H) (ai:H[q1]? =some [(.str og.s),(.int .i64 og.cC),(.bool og.bad)]) (dP:q1<H0.length) {K:Exit→Env→AH→Prop} {fE:aB}
 (h:dy F og rM=some fE)
 (kn:∀H':AH,Fr H0 H0.length [q1] H'→H'[q1]? =some [(.str fE.s),(.int .i64 fE.cC),(.bool fE.bad)]→K .normal [(5,(.str rM))] H'):
 AX Tryz.prog eH 62 H0.length (erase iO) K [(0,(.ptr q1 0)),(5,(.str rM))] H:=by
 refine bT fun K' hK=> ?_
 have hle:=hfr.le
 have aM:=aR ai
 rw [dy.eq_1] at h
 refine az ai ?_
 refine bR h (fun cK h=> ?_) fun cK h=> ?_
 · refine az (aI cK ai) ?_
   obtain rfl:=aA h
   exact hK _ _ _ _ _ aJ ak (kn _ (bW _ hfr) cA)
 · refine az (aI cK ai) ?_
   obtain ⟨ku,cG,h⟩:=aq h
   refine bB ak (ug cG) ?_
   refine az ai ?_
   obtain rfl:=aA h
   exact hK _ _ _ _ _ aJ ak (kn _ (bW _ hfr) cA)
theorem jz {F:Nat} {x2:aB} {q1:Nat} {H0:AH} (ai:H0[q1]? =some [(.str x2.s),(.int .i64 x2.cC),(.bool x2.bad)]) {aP:List UInt8} {ey:aB} (h:bP F x2=some (aP,ey)):
 aF Tryz.prog 96 [(.ptr q1 0)] H0 fun v H'=>v=(.str aP)∧H'=(H0.set q1 [(.str ey.s),(.int .i64 ey.cC),(.bool ey.bad)]):=by
 have aM:=aR ai
 refine lH tJ eH [q1] fun hcl K0 aN H hH hfr=> ?_
 rw [←hH] at ai
 clear hH
 have hle:=hfr.le
 have CQ:=aR ai
 rw [bP.eq_1] at h
 refine az ai ?_
 obtain ⟨r3,hy1,h⟩:=aq h
 refine I9 (bX hy1) (kq.cons (.one _ _ (ga.Bk (ai.trans rfl) Ja)) (kq.nil)) ?_
 refine az ai ?_
 obtain ⟨Jg,cc,h⟩:=aq h
 refine bz ak (om (q1:=q1) (x2:=x2) hfr (ai.trans rfl) cq cc ?_)
 · rintro og rfl H hfr ai
   try dsimp only at h ai
   have hle:=hfr.le
   have aM:=aR ai
   refine az ai ?_
   obtain ⟨rM,cy,h⟩:=aq h
   refine az (aI cy ai) ?_
   obtain ⟨L5,dX,h⟩:=aq h
   refine bz ak (oq (q1:=q1) hfr (ai.trans rfl) cq dX ?_)
   intro H hfr ai
   have hle:=hfr.le
   have aM:=aR ai
   refine az ai ?_
   obtain ⟨rfl,rfl⟩:=cw h
   exact aN _ _ _ bk (iX hfr hcl (aW bf (.str rM)) bg aX (ai.trans rfl) cq Ef Ee ⟨rfl,rfl⟩)
abbrev ja:av:=(.rg [(au 3 0),(aj 4 (.call (.c (.fn 117 [])) [(.t 3)])),(aj 5 (.bin .eql (.t 4) (.c (b8 64)))),(au 6 5),(ax 7 (.mv (.t 2)) 6 false),(ax 8 (.un .not (.t 7)) 6 false),(aj 9 (.pick (.t 6) (.c (.bool true)) (.t 8)))])
abbrev iP:av:=(.seq (.seq (.sem (erase ja)) (.cond (.t 9) .skip (.exit 0))) (.seq (.blk 1 (.seq (.rg [(au 10 0),(aj 11 (.call (.c (.fn 92 [])) [(.t 10),(.c (b8 64))]))]) (.seq (.rg [(au 12 0),(aj 13 (.call (.c (.fn 96 [])) [(.t 12)]))]) (.seq (.rg [(au 14 0),(aj 15 (.call (.c (.fn 93 [])) [(.t 14),(.c (b8 44))])),(aj 16 (.un .not (.t 15)))]) (.cond (.t 16) (.seq (.rg [(au 17 0),(aj 18 (.call (.c (.fn 92 [])) [(.t 17),(.c (b8 58))]))]) .ret) .skip))))) (.rg [(aj 2 (.aO (.c (.bool false))))])))
abbrev uP:av:=(.seq (.rg [(aj 2 (.aO (.c (.bool true))))]) (.blk 0 (.loop (erase iP))))
theorem uQ:bM Tryz.prog 94 19 [] (erase uP):=⟨Tryz.f94,_,rfl,by decide,rfl,by kernel_rfl,rfl,rfl⟩
abbrev gJ:List Nat:=[0,2,9,16]
def cm (s4:aB) (jm:Bool):Option (Bool):=
 (bu s4).bind fun r5=>
 (if (decide (r5=64)) then
  some true
 else
  some (!jm))
def bA (F:Nat):(Bool×aB)→Option (St aB aB (Bool×aB))
 |(jm,s4)=>
  (cm s4 jm).bind fun t7=>
  (if t7 then
   (bn s4 64).bind fun r8=>
   (bP F r8).bind fun (r9,dA)=>
   (bC dA 44).bind fun (kM,gI)=>
   (if (!kM) then
    (bn gI 58).bind fun ku=>some (.ret ku)
   else
    some (.cU (false,gI)))
  else
   some (.dW s4))
def cW (F:Nat) (x2:aB):Option (aB):=
 ((iter (bA F) F (true,x2)).bind fun o18=>
 match o18 with
 | .inr P4=>
   some P4
 | .inl rN=>
   some rN)
theorem p9 {s4:aB} {jm:Bool} {q1:Nat} {H0 H:AH} (hfr:Fr H0 H0.length [q1] H) (ai:H[q1]? =some [(.str s4.s),(.int .i64 s4.cC),(.bool s4.bad)]) (dP:q1<H0.length) {K:Exit→Env→AH→Prop} {t6:Bool}
 (h:cm s4 jm=some t6)
 (kn:∀H':AH,Fr H0 H0.length [q1] H'→H'[q1]? =some [(.str s4.s),(.int .i64 s4.cC),(.bool s4.bad)]→K .normal [(0,(.ptr q1 0)),(9,(.bool t6))] H'):
 AX Tryz.prog gJ 19 H0.length (erase ja) K [(0,(.ptr q1 0)),(2,(.bool jm))] H:=by
 refine bT fun K' hK=> ?_
 have hle:=hfr.le
 have aM:=aR ai
 rw [cm.eq_1] at h
 refine az ai ?_
 obtain ⟨r5,hy1,h⟩:=aq h
 refine I9 (bX hy1) (kq.cons (.one _ _ (ga.Bk (ai.trans rfl) Ja)) (kq.nil)) ?_
 refine az ai ?_
 refine bR h (fun hy2 h=> ?_) fun hy2 h=> ?_
 · refine az (aI hy2 ai) ?_
   obtain rfl:=aA h
   exact hK _ _ _ _ _ aJ ak (kn _ hfr (ai.trans rfl))
 · refine az (aI hy2 ai) ?_
   obtain rfl:=aA h
   exact hK _ _ _ _ _ aJ ak (kn _ hfr (ai.trans rfl))
theorem qa {F:Nat} {s4:aB} {jm:Bool} {q1:Nat} {H0 H:AH} (hfr:Fr H0 H0.length [q1] H) (ai:H[q1]? =some [(.str s4.s),(.int .i64 s4.cC),(.bool s4.bad)]) (dP:q1<H0.length) {K:Exit→Env→AH→Prop} {o:(aB)⊕(aB)}
 (h:iter (bA F) F (jm,s4)=some o)
 (c8:∀o':aB,o= .inr o'→∀H':AH,Fr H0 H0.length [q1] H'→H'[q1]? =some [(.str o'.s),(.int .i64 o'.cC),(.bool o'.bad)]→K (.exit 0) [] H')
 (kr:∀o':aB,o= .inl o'→∀H':AH,Fr H0 H0.length [q1] H'→H'[q1]? =some [(.str o'.s),(.int .i64 o'.cC),(.bool o'.bad)]→K .ret [] H'):
 AX Tryz.prog gJ 19 H0.length (.loop (erase iP)) K [(0,(.ptr q1 0)),(2,(.bool jm))] H:=by
 refine gH (fun s e H1=>match s with|(jm,s4)=>e=[(0,(.ptr q1 0)),(2,(.bool jm))]∧Fr H0 H0.length [q1] H1∧H1[q1]? =some [(.str s4.s),(.int .i64 s4.cC),(.bool s4.bad)]) h ⟨rfl,hfr,ai⟩ ?_
 rintro K' ⟨jm,s4⟩ st e H ⟨rfl,hfr,ai⟩ h hN hB hR hX
 have hle:=hfr.le
 have aM:=aR ai
 rw [bA.eq_1] at h
 refine az ai ?_
 obtain ⟨t7,hy3,h⟩:=aq h
 refine bz ak (p9 (q1:=q1) hfr (ai.trans rfl) cq hy3 ?_)
 intro H hfr ai
 have hle:=hfr.le
 have aM:=aR ai
 refine az ai ?_
 refine bl h (fun hy4 h=> ?_) fun hy4 h=> ?_
 · refine az ai ?_
   obtain ⟨r8,bK,h⟩:=aq h
   refine bB ak (cY (ai.trans rfl) bK) ?_
   refine az ai ?_
   obtain ⟨⟨r9,dA⟩,bY,h⟩:=aq h
   dsimp only at h
   refine bB ak (jz (q1:=q1) cA bY) ?_
   refine az ai ?_
   obtain ⟨⟨kM,gI⟩,cD,h⟩:=aq h
   dsimp only at h
   refine bB ak (dG (q1:=q1) cA cD) ?_
   refine az ai ?_
   refine bl h (fun ct h=> ?_) fun ct h=> ?_
   · refine az ai ?_
     obtain ⟨ku,cQ,h⟩:=aq h
     refine bB ak (cY (q1:=q1) cA cQ) ?_
     refine az ai ?_
     obtain rfl:=aA h
     exact hX _ _ _ _ _ c6 WE.nil ak (kr _ (hR _ rfl) _ (bW _ (bW _ (bW _ (bW _ hfr)))) cA)
   · refine az ai ?_
     obtain rfl:=aA h
     exact hN _ rfl _ _ _ _ aJ ak ⟨rfl,(bW _ (bW _ (bW _ hfr))),cA⟩
 · refine az ai ?_
   obtain rfl:=aA h
   exact hX _ _ _ _ _ c6 WE.nil ak (c8 _ (hB _ rfl) _ hfr (ai.trans rfl))
theorem tK {F:Nat} {x2:aB} {q1:Nat} {H0:AH} (ai:H0[q1]? =some [(.str x2.s),(.int .i64 x2.cC),(.bool x2.bad)]) {aP:aB} (h:cW F x2=some aP):
 aF Tryz.prog 94 [(.ptr q1 0)] H0 fun v H'=>v=(.bx [])∧H'=(H0.set q1 [(.str aP.s),(.int .i64 aP.cC),(.bool aP.bad)]):=by
 have aM:=aR ai
 refine lH uQ gJ [q1] fun hcl K0 aN H hH hfr=> ?_
 rw [←hH] at ai
 clear hH
 have hle:=hfr.le
 have CQ:=aR ai
 rw [cW.eq_1] at h
 refine az ai ?_
 obtain ⟨o18,cc,h⟩:=aq h
 refine bz ak (qa (q1:=q1) hfr (ai.trans rfl) cq cc ?_ ?_)
 · rintro P4 rfl H hfr ai
   try dsimp only at h ai
   have hle:=hfr.le
   have aM:=aR ai
   refine az ai ?_
   obtain rfl:=aA h
   exact aN _ _ _ Zr (iX hfr hcl bf bg aX (ai.trans rfl) cq Ef Ee ⟨rfl,rfl⟩)
 · rintro rN rfl H hfr ai
   try dsimp only at h ai
   have hle:=hfr.le
   have aM:=aR ai
   refine az ai ?_
   obtain rfl:=aA h
   exact aN _ _ _ bk (iX hfr hcl bf bg aX (ai.trans rfl) cq Ef Ee ⟨rfl,rfl⟩)
abbrev ot:av:=(.rg [(au 3 0),(aj 4 (.bin .geq (.t 3) (.c (b8 32)))),(au 5 4),(ax 6 (.mv (.t 0)) 5 true),(ax 7 (.bin .leq (.t 6) (.c (b8 126))) 5 true),(aj 8 (.pick (.t 5) (.t 7) (.c (.bool false)))),(aQ 2 8)])
abbrev BD:av:=(.seq (.rg [(aj 2 (.aO (.c (.bool false))))]) (.seq (.sem (erase ot)) .ret))
theorem BE:bM Tryz.prog 55 9 [(.tmp 2)] (erase BD):=⟨Tryz.f55,_,rfl,by decide,rfl,by kernel_rfl,rfl,rfl⟩
abbrev uh:List Nat:=[0,2]
def jb (c1:UInt8):Option (Bool):=
 some ((decide (32≤c1))&&(decide (c1≤126)))
theorem wL {c1:UInt8} {H:AH} {K:Exit→Env→AH→Prop}
 (kn:K .normal [(2,(.bool ((decide (32≤c1))&&(decide (c1≤126)))))] H):
 AX Tryz.prog uh 9 H.length (erase ot) K [(0,(b8 c1)),(2,(.bool false))] H:=by
 refine bT fun K' hK=> ?_
 refine aC ?_
 refine kK (fun hy1=> ?_) fun hy1=> ?_
 · refine aV hy1 ?_
   exact hK _ _ _ _ _ (eG hy1) ak kn
 · refine aV hy1 ?_
   exact hK _ _ _ _ _ (eG hy1) ak kn
theorem sw {c1:UInt8} {H0:AH} {aP:Bool} (h:jb c1=some aP):
 aF Tryz.prog 55 [(b8 c1)] H0 fun v H'=>v=(.bool aP)∧H'=H0:=by
 refine fe BE uh fun hcl K0 aN=> ?_
 rw [jb.eq_1] at h
 refine aC ?_
 refine bz ak (wL (c1:=c1) ?_)
 refine aC ?_
 obtain rfl:=aA h
 exact aN _ _ _ bk (aK hcl (aW bf (.bool ((decide (32≤c1))&&(decide (c1≤126))))) bg aX ⟨rfl,rfl⟩)
abbrev iQ:av:=(.rg [(au 7 0),(aj 8 (.gG (.t 7))),(aj 9 (.cM (.t 8) 2)),(aj 10 (.ld (.t 9) none)),(aj 11 (.un .not (.t 10))),(au 12 11),(ax 13 (.mv (.t 0)) 12 true),(ax 14 (.call (.c (.fn 93 [])) [(.t 13),(.c (b8 34))]) 12 true),(ax 15 (.un .not (.t 14)) 12 true),(aj 16 (.pick (.t 12) (.t 15) (.c (.bool false))))])
abbrev hM:av:=(.seq (.seq (.sem (erase iQ)) (.cond (.t 16) .skip (.exit 0))) (.blk 1 (.seq (.rg [(au 17 0),(aj 18 (.call (.c (.fn 93 [])) [(.t 17),(.c (b8 92))]))]) (.seq (.rg [(au 19 0),(aj 20 (.call (.c (.fn 117 [])) [(.t 19)])),(aQ 4 20)]) (.seq (.seq (.rg [(au 21 4),(aj 22 (.call (.c (.fn 55 [])) [(.t 21)])),(aj 23 (.un .not (.t 22)))]) (.cond (.t 23) (.seq (.rg [(au 24 0),(aj 25 (.gG (.t 24))),(aj 26 (.cM (.t 25) 2)),(cS (.st (.t 26) (.c (.bool true)) 1))]) (.exit 0)) .skip)) (.seq (.rg [(au 27 0),(aj 28 (.gG (.t 27))),(aj 29 (.cM (.t 28) 1)),(aj 30 (.ld (.t 29) none)),(aj 31 (.bin .add (.t 30) (.c (.int .i64 1)))),(aj 32 (.gG (.t 27))),(aj 33 (.cM (.t 32) 1)),(cS (.st (.t 33) (.t 31) 1))]) (.rg [(au 34 3),(au 35 4),(aj 36 (.rX 1 [(.t 35)])),(aj 37 (.app 1 1 (.t 34) (.t 36))),(aQ 3 37)])))))))
abbrev iR:av:=(.rg [(au 38 0),(au 39 0),(aj 40 (.gG (.t 39))),(aj 41 (.cM (.t 40) 2)),(aj 42 (.ld (.t 41) none)),(au 43 42),(ax 44 (.mv (.t 3)) 43 false),(ax 45 (.len (.t 44)) 43 false),(ax 46 (.bin .eql (.t 45) (.c (.int .i64 0))) 43 false),(aj 47 (.pick (.t 43) (.c (.bool true)) (.t 46))),(aj 48 (.gG (.t 38))),(aj 49 (.cM (.t 48) 2)),(cS (.st (.t 49) (.t 47) 1))])
abbrev tL:av:=(.seq (.rg [(aj 2 (.aO (.c (.str []))))]) (.seq (.rg [(aj 3 (.aO (.c (.sl .ex 1 []))))]) (.seq (.rg [(au 5 0),(aj 6 (.call (.c (.fn 92 [])) [(.t 5),(.c (b8 34))]))]) (.seq (.blk 0 (.loop (erase hM))) (.seq (.sem (erase iR)) (.seq (.rg [(au 50 3),(aj 51 (.jH .bs (.t 50))),(aQ 2 51)]) .ret))))))
theorem tM:bM Tryz.prog 118 52 [(.tmp 2)] (erase tL):=⟨Tryz.f118,_,rfl,by decide,rfl,by kernel_rfl,rfl,rfl⟩
abbrev eI:List Nat:=[0,2,3,4,16,23]
def cO (s5:aB):Option (Bool×aB):=
 (if (!s5.bad) then
  (bC s5 34).bind fun (r6,r7)=>some ((!r6),r7)
 else
  some (false,s5))
def bF:((List UInt8)×aB)→Option (St ((List UInt8)×aB) ((List UInt8)×aB) ((List UInt8)×aB))
 |(b4,s5)=>
  (cO s5).bind fun (t10,og)=>
  (if t10 then
   (bC og 92).bind fun (gI,ku)=>
   (bu ku).bind fun gK=>
   (jb gK).bind fun fL=>
   (if (!fL) then
    some (.dW (b4,(aB.mk ku.s ku.cC true)))
   else
    (eN 1 b4 ([gK]:List UInt8)).bind fun ng=>
    some (.cU (ng,(aB.mk ku.s (IntKind.wrap .i64 (ku.cC+1)) ku.bad))))
  else
   some (.dW (b4,og)))
def dz (Ay:aB) (En:List UInt8):Option (aB):=
 (if Ay.bad then
  some (aB.mk Ay.s Ay.cC true)
 else
  some (aB.mk Ay.s Ay.cC (decide ((En.length:Int)=0))))
def fy (F:Nat) (x2:aB):Option ((List UInt8)×aB):=
 (bn x2 34).bind fun r3=>
 ((iter bF F (([]:List UInt8),r3)).bind fun o23=>
 match o23 with
 | .inr (En,Ay)=>
   (dz Ay En).bind fun s22=>
   some (En,s22)
 | .inl _=>none)
theorem ou {s5:aB} {q1:Nat} {b4:List UInt8} {H0 H:AH} (hfr:Fr H0 H0.length [q1] H) (ai:H[q1]? =some [(.str s5.s),(.int .i64 s5.cC),(.bool s5.bad)]) (dP:q1<H0.length) {K:Exit→Env→AH→Prop} {t8:Bool} {s9:aB}
 (h:cO s5=some (t8,s9))
 (kn:∀H':AH,Fr H0 H0.length [q1] H'→H'[q1]? =some [(.str s9.s),(.int .i64 s9.cC),(.bool s9.bad)]→K .normal [(0,(.ptr q1 0)),(3,(.sl .own 1 (ml b8 b4))),(16,(.bool t8))] H'):
 AX Tryz.prog eI 52 H0.length (erase iQ) K [(0,(.ptr q1 0)),(3,(.sl .own 1 (ml b8 b4)))] H:=by
 refine bT fun K' hK=> ?_
 have hle:=hfr.le
 have aM:=aR ai
 rw [cO.eq_1] at h
 refine az ai ?_
 refine bR h (fun hy2 h=> ?_) fun hy2 h=> ?_
 · refine az (aI hy2 ai) ?_
   obtain ⟨⟨r6,r7⟩,hy3,h⟩:=aq h
   dsimp only at h
   refine bB ak (dG (ai.trans rfl) hy3) ?_
   refine az ai ?_
   obtain ⟨rfl,rfl⟩:=cw h
   exact hK _ _ _ _ _ aJ ak (kn _ (bW _ hfr) cA)
 · refine az (aI hy2 ai) ?_
   obtain ⟨rfl,rfl⟩:=cw h
   exact hK _ _ _ _ _ aJ ak (kn _ hfr (ai.trans rfl))
theorem ov {F:Nat} {s5:aB} {b4:List UInt8} {q1:Nat} {H0 H:AH} (hfr:Fr H0 H0.length [q1] H) (ai:H[q1]? =some [(.str s5.s),(.int .i64 s5.cC),(.bool s5.bad)]) (dP:q1<H0.length) {K:Exit→Env→AH→Prop} {o:((List UInt8)×aB)⊕((List UInt8)×aB)}
 (h:iter bF F (b4,s5)=some o)
 (c8:∀o':(List UInt8)×aB,o= .inr o'→∀H':AH,Fr H0 H0.length [q1] H'→H'[q1]? =some [(.str o'.2.s),(.int .i64 o'.2.cC),(.bool o'.2.bad)]→K (.exit 0) [(0,(.ptr q1 0)),(3,(.sl .own 1 (ml b8 o'.1)))] H'):
 AX Tryz.prog eI 52 H0.length (.loop (erase hM)) K [(0,(.ptr q1 0)),(3,(.sl .own 1 (ml b8 b4)))] H:=by
 refine gH (fun s e H1=>match s with|(b4,s5)=>e=[(0,(.ptr q1 0)),(3,(.sl .own 1 (ml b8 b4)))]∧Fr H0 H0.length [q1] H1∧H1[q1]? =some [(.str s5.s),(.int .i64 s5.cC),(.bool s5.bad)]) h ⟨rfl,hfr,ai⟩ ?_
 rintro K' ⟨b4,s5⟩ st e H ⟨rfl,hfr,ai⟩ h hN hB hR hX
 have hle:=hfr.le
 have aM:=aR ai
 rw [bF.eq_1] at h
 refine az ai ?_
 obtain ⟨⟨t10,og⟩,hy4,h⟩:=aq h
 dsimp only at h
 refine bz ak (ou (q1:=q1) (b4:=b4) hfr (ai.trans rfl) cq hy4 ?_)
 intro H hfr ai
 have hle:=hfr.le
 have aM:=aR ai
 refine az ai ?_
 refine bl h (fun bK h=> ?_) fun bK h=> ?_
 · refine az ai ?_
   obtain ⟨⟨gI,ku⟩,bY,h⟩:=aq h
   dsimp only at h
   refine bB ak (dG (ai.trans rfl) bY) ?_
   refine az ai ?_
   obtain ⟨gK,cD,h⟩:=aq h
   refine I9 (bX cD) (kq.cons (.one _ _ (ga.Bk cA Ja)) (kq.nil)) ?_
   refine az ai ?_
   obtain ⟨fL,ct,h⟩:=aq h
   refine bB ak (sw ct) ?_
   refine az ai ?_
   refine bl h (fun cQ h=> ?_) fun cQ h=> ?_
   · refine az ai ?_
     obtain rfl:=aA h
     exact hX _ _ _ _ _ c6 aJ ak (c8 _ (hB _ rfl) _ (bW _ (bW _ hfr)) cA)
   · obtain ⟨ng,cc,h⟩:=aq h
     have cy:eN 1 (ml b8 b4) [(b8 gK)]=some (ml b8 ng):=kW (f:=b8) cc
     refine az (aI cy ai) ?_
     obtain rfl:=aA h
     exact hN _ rfl _ _ _ _ aJ ak ⟨rfl,(bW _ (bW _ hfr)),cA⟩
 · refine az ai ?_
   obtain rfl:=aA h
   exact hX _ _ _ _ _ c6 aJ ak (c8 _ (hB _ rfl) _ hfr (ai.trans rfl))
theorem ow {Ay:aB} {En:List UInt8} {q1:Nat} {H0 H:AH} (hfr:Fr H0 H0.length [q1] H) (ai:H[q1]? =some [(.str Ay.s),(.int .i64 Ay.cC),(.bool Ay.bad)]) (dP:q1<H0.length) {K:Exit→Env→AH→Prop} {nh:aB}
 (h:dz Ay En=some nh)
 (kn:∀H':AH,Fr H0 H0.length [q1] H'→H'[q1]? =some [(.str nh.s),(.int .i64 nh.cC),(.bool nh.bad)]→K .normal [(3,(.sl .own 1 (ml b8 En)))] H'):
 AX Tryz.prog eI 52 H0.length (erase iR) K [(0,(.ptr q1 0)),(3,(.sl .own 1 (ml b8 En)))] H:=by
 refine bT fun K' hK=> ?_
 have hle:=hfr.le
 have aM:=aR ai
 rw [dz.eq_1] at h
 refine az ai ?_
 refine bR h (fun cG h=> ?_) fun cG h=> ?_
 · refine az (aI cG ai) ?_
   obtain rfl:=aA h
   exact hK _ _ _ _ _ aJ ak (kn _ (bW _ hfr) cA)
 · refine az (aI cG ai) ?_
   obtain rfl:=aA h
   exact hK _ _ _ _ _ aJ ak (kn _ (bW _ hfr) cA)
theorem sx {F:Nat} {x2:aB} {q1:Nat} {H0:AH} (ai:H0[q1]? =some [(.str x2.s),(.int .i64 x2.cC),(.bool x2.bad)]) {aP:List UInt8} {ey:aB} (h:fy F x2=some (aP,ey)):
 aF Tryz.prog 118 [(.ptr q1 0)] H0 fun v H'=>v=(.str aP)∧H'=(H0.set q1 [(.str ey.s),(.int .i64 ey.cC),(.bool ey.bad)]):=by
 have aM:=aR ai
 refine lH tM eI [q1] fun hcl K0 aN H hH hfr=> ?_
 rw [←hH] at ai
 clear hH
 have hle:=hfr.le
 have CQ:=aR ai
 rw [fy.eq_1] at h
 refine az ai ?_
 obtain ⟨r3,hy1,h⟩:=aq h
 refine bB ak (cY (ai.trans rfl) hy1) ?_
 refine az ai ?_
 obtain ⟨o23,cK,h⟩:=aq h
 refine bz ak (ov (q1:=q1) (bW _ hfr) cA cq cK ?_)
 · rintro ⟨En,Ay⟩ rfl H hfr ai
   try dsimp only at h ai
   have hle:=hfr.le
   have aM:=aR ai
   refine az ai ?_
   obtain ⟨s22,dX,h⟩:=aq h
   refine bz ak (ow (q1:=q1) hfr (ai.trans rfl) cq dX ?_)
   intro H hfr ai
   have hle:=hfr.le
   have aM:=aR ai
   refine az ai ?_
   obtain ⟨rfl,rfl⟩:=cw h
   exact aN _ _ _ bk (iX hfr hcl (aW bf (.str En)) bg aX (ai.trans rfl) cq Ef Ee ⟨rfl,rfl⟩)
abbrev uj:av:=(.rg [(au 3 0),(aj 4 (.call (.c (.fn 103 [])) [(.t 3)])),(au 5 4),(ax 6 (.mv (.t 0)) 5 false),(ax 7 (.call (.c (.fn 108 [])) [(.c (.str [33,35,36,37,38,39,42,43,45,47,61,63,94,95,96,123,124,125,126])),(.t 6)]) 5 false),(ax 8 (.bin .geq (.t 7) (.c (.int .i64 0))) 5 false),(aj 9 (.pick (.t 5) (.c (.bool true)) (.t 8))),(aQ 2 9)])
abbrev GM:av:=(.seq (.rg [(aj 2 (.aO (.c (.bool false))))]) (.seq (.sem (erase uj)) .ret))
theorem GN:bM Tryz.prog 81 10 [(.tmp 2)] (erase GM):=⟨Tryz.f81,_,rfl,by decide,rfl,by kernel_rfl,rfl,rfl⟩
abbrev zn:List Nat:=[0,2]
def rO (c1:UInt8):Option (Bool):=
 (gb c1).bind fun r2=>
 (if r2 then
  some true
 else
  (strings_IndexByte ([33,35,36,37,38,39,42,43,45,47,61,63,94,95,96,123,124,125,126]:List UInt8) c1).bind fun r3=>some (decide (0≤r3)))
def kN (c1:UInt8):Option (Bool):=
 (rO c1).bind fun t5=>
 some t5
theorem Az {c1:UInt8} {H:AH} {K:Exit→Env→AH→Prop} {t4:Bool}
 (h:rO c1=some t4)
 (kn:K .normal [(2,(.bool t4))] H):
 AX Tryz.prog zn 10 H.length (erase uj) K [(0,(b8 c1)),(2,(.bool false))] H:=by
 refine bT fun K' hK=> ?_
 rw [rO.eq_1] at h
 refine aC ?_
 obtain ⟨r2,hy1,h⟩:=aq h
 refine bB ak (lJ hy1) ?_
 refine aC ?_
 refine bR h (fun hy2 h=> ?_) fun hy2 h=> ?_
 · refine aV hy2 ?_
   obtain rfl:=aA h
   exact hK _ _ _ _ _ aJ ak kn
 · refine aV hy2 ?_
   obtain ⟨r3,hy3,h⟩:=aq h
   refine bB ak (uI (s1:=([33,35,36,37,38,39,42,43,45,47,61,63,94,95,96,123,124,125,126]:List UInt8)) (c2:=c1) hy3) ?_
   refine aC ?_
   obtain rfl:=aA h
   exact hK _ _ _ _ _ aJ ak kn
theorem w9 {c1:UInt8} {H0:AH} {aP:Bool} (h:kN c1=some aP):
 aF Tryz.prog 81 [(b8 c1)] H0 fun v H'=>v=(.bool aP)∧H'=H0:=by
 refine fe GN zn fun hcl K0 aN=> ?_
 rw [kN.eq_1] at h
 refine aC ?_
 obtain ⟨t5,hy4,h⟩:=aq h
 refine bz ak (Az hy4 ?_)
 refine aC ?_
 obtain rfl:=aA h
 exact aN _ _ _ bk (aK hcl (aW bf (.bool t5)) bg aX ⟨rfl,rfl⟩)
abbrev lq:av:=(.seq (.rg [(aj 9 (.bin .lss (.t 8) (.t 7)))]) (.seq (.cond (.t 9) .skip (.exit 0)) (.seq (.blk 1 (.seq (.rg [(au 10 8),(aQ 5 10)]) (.seq (.rg [(au 11 1),(au 12 0),(au 13 5),(aj 14 (.ixs (.t 12) (.t 13))),(aj 15 (.call (.t 11) [(.t 14)])),(aj 16 (.un .not (.t 15)))]) (.cond (.t 16) (.seq (.rg [(aj 4 (.aO (.c (.bool false))))]) .ret) .skip)))) (.rg [(aj 17 (.bin .add (.t 8) (.c (.int .i64 1)))),(au 8 17)]))))
abbrev AA:av:=(.seq (.rg [(aj 4 (.aO (.c (.bool false))))]) (.seq (.seq (.rg [(au 6 0),(aj 7 (.lens (.t 6))),(aj 8 (.mv (.c (.int .i64 0))))]) (.blk 0 (.loop (erase lq)))) (.seq (.rg [(aj 4 (.aO (.c (.bool true))))]) .ret)))
theorem AB:bM Tryz.prog 54 18 [(.tmp 4)] (erase AA):=⟨Tryz.f54,_,rfl,by decide,rfl,by kernel_rfl,rfl,rfl⟩
abbrev sy:List Nat:=[0,1,4,5,7,8,9,16]
def dI (s1:List UInt8):(Bool×Int)→Option (St Bool Unit (Bool×Int))
 |(t2,t3)=>
  (if (decide (t3<(s1.length:Int))) then
   (idx s1 t3).bind fun x4=>
   (kN x4).bind fun r5=>
   (if (!r5) then
    some (.ret false)
   else
    some (.cU (t2,(IntKind.wrap .i64 (t3+1)))))
  else
   some (.dW ()))
def hO (F:Nat) (s1:List UInt8):Option (Bool):=
 ((iter (dI s1) F (false,0)).bind fun o8=>
 match o8 with
 | .inr ()=>
   some true
 | .inl r7=>
   some r7)
theorem vD {F:Nat} {t3:Int} {s1:List UInt8} {t2:Bool} {H:AH} {K:Exit→Env→AH→Prop} {o:(Bool)⊕(Unit)}
 (h:iter (dI s1) F (t2,t3)=some o)
 (c8:∀o':Unit,o= .inr o'→K (.exit 0) [] H)
 (kr:∀o':Bool,o= .inl o'→K .ret [(4,(.bool o'))] H):
 AX Tryz.prog sy 18 H.length (.loop (erase lq)) K [(0,(.str s1)),(1,(.fn 81 [])),(4,(.bool t2)),(7,(.int .i64 (s1.length:Int))),(8,(.int .i64 t3))] H:=by
 refine gH (fun s e H1=>match s with|(t2,t3)=>e=[(0,(.str s1)),(1,(.fn 81 [])),(4,(.bool t2)),(7,(.int .i64 (s1.length:Int))),(8,(.int .i64 t3))]∧H1=H) h ⟨rfl,rfl⟩ ?_
 rintro K' ⟨t2,t3⟩ st e H ⟨rfl,rfl⟩ h hN hB hR hX
 rw [dI.eq_1] at h
 refine aC ?_
 refine bl h (fun hy1 h=> ?_) fun hy1 h=> ?_
 · obtain ⟨x4,hy2,h⟩:=aq h
   refine aV hy2 ?_
   obtain ⟨r5,hy3,h⟩:=aq h
   refine bB ak (w9 hy3) ?_
   refine aC ?_
   refine bl h (fun hy4 h=> ?_) fun hy4 h=> ?_
   · refine aC ?_
     obtain rfl:=aA h
     exact hX _ _ _ _ _ c6 aJ ak (kr _ (hR _ rfl))
   · refine aC ?_
     obtain rfl:=aA h
     exact hN _ rfl _ _ _ _ aJ ak ⟨rfl,rfl⟩
 · refine aC ?_
   obtain rfl:=aA h
   exact hX _ _ _ _ _ c6 WE.nil ak (c8 _ (hB _ rfl))
theorem zo {F:Nat} {s1:List UInt8} {H0:AH} {aP:Bool} (h:hO F s1=some aP):
 aF Tryz.prog 54 [(.str s1),(.fn 81 [])] H0 fun v H'=>v=(.bool aP)∧H'=H0:=by
 refine fe AB sy fun hcl K0 aN=> ?_
 rw [hO.eq_1] at h
 refine aC ?_
 obtain ⟨o8,bK,h⟩:=aq h
 refine bz ak (vD bK ?_ ?_)
 · rintro ⟨⟩ rfl
   try dsimp only at h
   refine aC ?_
   obtain rfl:=aA h
   exact aN _ _ _ bk (aK hcl (aW bf (.bool true)) bg aX ⟨rfl,rfl⟩)
 · rintro r7 rfl
   try dsimp only at h
   refine aC ?_
   obtain rfl:=aA h
   exact aN _ _ _ bk (aK hcl (aW bf (.bool r7)) bg aX ⟨rfl,rfl⟩)
abbrev ox:av:=(.rg [(au 3 0),(aj 4 (.bin .eql (.t 3) (.c (.str [])))),(au 5 4),(ax 6 (.mv (.t 0)) 5 false),(ax 7 (.call (.c (.fn 54 [])) [(.t 6),(.c (.fn 81 []))]) 5 false),(ax 8 (.un .not (.t 7)) 5 false),(aj 9 (.pick (.t 5) (.c (.bool true)) (.t 8))),(aQ 2 9)])
abbrev BF:av:=(.seq (.rg [(aj 2 (.aO (.c (.bool false))))]) (.seq (.sem (erase ox)) .ret))
theorem BG:bM Tryz.prog 80 10 [(.tmp 2)] (erase BF):=⟨Tryz.f80,_,rfl,by decide,rfl,by kernel_rfl,rfl,rfl⟩
abbrev uk:List Nat:=[0,2]
def iD (F:Nat) (x1:List UInt8):Option (Bool):=
 (if (decide (x1=([]:List UInt8))) then
  some true
 else
  (hO F x1).bind fun r2=>some (!r2))
def jc (F:Nat) (x1:List UInt8):Option (Bool):=
 (iD F x1).bind fun t4=>
 some t4
theorem wM {F:Nat} {x1:List UInt8} {H:AH} {K:Exit→Env→AH→Prop} {t3:Bool}
 (h:iD F x1=some t3)
 (kn:K .normal [(2,(.bool t3))] H):
 AX Tryz.prog uk 10 H.length (erase ox) K [(0,(.str x1)),(2,(.bool false))] H:=by
 refine bT fun K' hK=> ?_
 rw [iD.eq_1] at h
 refine aC ?_
 refine bR h (fun hy1 h=> ?_) fun hy1 h=> ?_
 · refine aV hy1 ?_
   obtain rfl:=aA h
   exact hK _ _ _ _ _ aJ ak kn
 · refine aV hy1 ?_
   obtain ⟨r2,hy2,h⟩:=aq h
   refine bB ak (zo hy2) ?_
   refine aC ?_
   obtain rfl:=aA h
   exact hK _ _ _ _ _ aJ ak kn
theorem AD {F:Nat} {x1:List UInt8} {H0:AH} {aP:Bool} (h:jc F x1=some aP):
 aF Tryz.prog 80 [(.str x1)] H0 fun v H'=>v=(.bool aP)∧H'=H0:=by
 refine fe BG uk fun hcl K0 aN=> ?_
 rw [jc.eq_1] at h
 refine aC ?_
 obtain ⟨t4,hy3,h⟩:=aq h
 refine bz ak (wM hy3 ?_)
 refine aC ?_
 obtain rfl:=aA h
 exact aN _ _ _ bk (aK hcl (aW bf (.bool t4)) bg aX ⟨rfl,rfl⟩)
abbrev gN:av:=(.seq (.rg [(aj 9 (.bin .lss (.t 8) (.t 7)))]) (.seq (.cond (.t 9) .skip (.exit 0)) (.seq (.blk 1 (.seq (.rg [(au 10 8),(aQ 5 10)]) (.seq (.rg [(au 11 1),(au 12 0),(au 13 5),(aj 14 (.uG 1 (.t 12) (.t 13))),(aj 15 (.ld (.t 14) none)),(aj 16 (.call (.t 11) [(.t 15)]))]) (.cond (.t 16) (.seq (.rg [(au 17 5),(aQ 4 17)]) .ret) .skip)))) (.rg [(aj 18 (.bin .add (.t 8) (.c (.int .i64 1)))),(au 8 18)]))))
abbrev sA:av:=(.seq (.rg [(aj 4 (.aO (.c (.int .i64 0))))]) (.seq (.seq (.rg [(au 6 0),(aj 7 (.len (.t 6))),(aj 8 (.mv (.c (.int .i64 0))))]) (.blk 0 (.loop (erase gN)))) (.seq (.rg [(aj 4 (.aO (.c (.int .i64 (-1)))))]) .ret)))
theorem sB:bM Tryz.prog 72 19 [(.tmp 4)] (erase sA):=⟨Tryz.f72,_,rfl,by decide,rfl,by kernel_rfl,rfl,rfl⟩
abbrev jA:List Nat:=[0,1,4,5,7,8,9,16]
def cr (F:Nat) (s1:List (List UInt8)):(Int×Int)→Option (St Int Unit (Int×Int))
 |(t2,t3)=>
  (if (decide (t3<(s1.length:Int))) then
   (idx s1 t3).bind fun x4=>
   (jc F x4).bind fun r5=>
   (if r5 then
    some (.ret t3)
   else
    some (.cU (t2,(IntKind.wrap .i64 (t3+1)))))
  else
   some (.dW ()))
def e7 (F:Nat) (s1:List (List UInt8)):Option (Int):=
 ((iter (cr F s1) F (0,0)).bind fun o8=>
 match o8 with
 | .inr ()=>
   some (-1)
 | .inl r7=>
   some r7)
theorem ni {F:Nat} {t3:Int} {s1:List (List UInt8)} {t2:Int} {H:AH} {K:Exit→Env→AH→Prop} {o:(Int)⊕(Unit)}
 (h:iter (cr F s1) F (t2,t3)=some o)
 (c8:∀o':Unit,o= .inr o'→K (.exit 0) [] H)
 (kr:∀o':Int,o= .inl o'→K .ret [(4,(.int .i64 o'))] H):
 AX Tryz.prog jA 19 H.length (.loop (erase gN)) K [(0,(.sl .n 1 (ml AV.str s1))),(1,(.fn 80 [])),(4,(.int .i64 t2)),(7,(.int .i64 (s1.length:Int))),(8,(.int .i64 t3))] H:=by
 refine gH (fun s e H1=>match s with|(t2,t3)=>e=[(0,(.sl .n 1 (ml AV.str s1))),(1,(.fn 80 [])),(4,(.int .i64 t2)),(7,(.int .i64 (s1.length:Int))),(8,(.int .i64 t3))]∧H1=H) h ⟨rfl,rfl⟩ ?_
 rintro K' ⟨t2,t3⟩ st e H ⟨rfl,rfl⟩ h hN hB hR hX
 rw [cr.eq_1] at h
 refine aC ?_
 refine bl h (fun hy1 h=> ?_) fun hy1 h=> ?_
 · obtain ⟨x4,hy2,h⟩:=aq h
   refine aV hy2 ?_
   obtain ⟨r5,hy3,h⟩:=aq h
   refine bB ak (AD hy3) ?_
   refine aC ?_
   refine bl h (fun hy4 h=> ?_) fun hy4 h=> ?_
   · refine aC ?_
     obtain rfl:=aA h
     exact hX _ _ _ _ _ c6 aJ ak (kr _ (hR _ rfl))
   · refine aC ?_
     obtain rfl:=aA h
     exact hN _ rfl _ _ _ _ aJ ak ⟨rfl,rfl⟩
 · refine aC ?_
   obtain rfl:=aA h
   exact hX _ _ _ _ _ c6 WE.nil ak (c8 _ (hB _ rfl))
theorem rP {F:Nat} {s1:List (List UInt8)} {H0:AH} {aP:Int} (h:e7 F s1=some aP):
 aF Tryz.prog 72 [(.sl .n 1 (ml AV.str s1)),(.fn 80 [])] H0 fun v H'=>v=(.int .i64 aP)∧H'=H0:=by
 refine fe sB jA fun hcl K0 aN=> ?_
 rw [e7.eq_1] at h
 refine aC ?_
 obtain ⟨o8,bK,h⟩:=aq h
 refine bz ak (ni bK ?_ ?_)
 · rintro ⟨⟩ rfl
   try dsimp only at h
   refine aC ?_
   obtain rfl:=aA h
   exact aN _ _ _ bk (aK hcl (aW bf (.int .i64 (-1))) bg aX ⟨rfl,rfl⟩)
 · rintro r7 rfl
   try dsimp only at h
   refine aC ?_
   obtain rfl:=aA h
   exact aN _ _ _ bk (aK hcl (aW bf (.int .i64 r7)) bg aX ⟨rfl,rfl⟩)
abbrev oy:av:=(.seq (.rg [(aj 4 (.aO (.c (.bool false))))]) (.seq (.rg [(au 5 0),(au 6 1),(aj 7 (.call (.c (.fn 72 [])) [(.t 5),(.t 6)])),(aj 8 (.bin .geq (.t 7) (.c (.int .i64 0)))),(aQ 4 8)]) .ret))
theorem oz:bM Tryz.prog 46 9 [(.tmp 4)] (erase oy):=⟨Tryz.f46,_,rfl,by decide,rfl,by kernel_rfl,rfl,rfl⟩
abbrev oA:List Nat:=[0,1,4]
def eo (F:Nat) (s1:List (List UInt8)):Option (Bool):=
 (e7 F s1).bind fun r2=>some (decide (0≤r2))
theorem nj {F:Nat} {s1:List (List UInt8)} {H0:AH} {aP:Bool} (h:eo F s1=some aP):
 aF Tryz.prog 46 [(.sl .n 1 (ml AV.str s1)),(.fn 80 [])] H0 fun v H'=>v=(.bool aP)∧H'=H0:=by
 refine fe oz oA fun hcl K0 aN=> ?_
 rw [eo.eq_1] at h
 refine aC ?_
 obtain ⟨r2,hy1,h⟩:=aq h
 refine bB ak (rP hy1) ?_
 refine aC ?_
 obtain rfl:=aA h
 exact aN _ _ _ bk (aK hcl (aW bf (.bool (decide (0≤r2)))) bg aX ⟨rfl,rfl⟩)
abbrev Eo:av:=(.seq (.rg [(aj 2 (.aO (.c (.bool false))))]) (.seq (.rg [(au 3 0),(aj 4 (.call (.c (.fn 47 [])) [(.t 3),(.c (.str [46]))])),(aj 5 (.call (.c (.fn 46 [])) [(.t 4),(.c (.fn 80 []))])),(aj 6 (.un .not (.t 5))),(aQ 2 6)]) .ret))
theorem Ep:bM Tryz.prog 56 7 [(.tmp 2)] (erase Eo):=⟨Tryz.f56,_,rfl,by decide,rfl,by kernel_rfl,rfl,rfl⟩
abbrev Er:List Nat:=[0,2]
def jB (F:Nat) (s1:List UInt8):Option (Bool):=
 (strings_Split s1 ([46]:List UInt8)).bind fun r2=>(eo F r2).bind fun r3=>some (!r3)
theorem vE {F:Nat} {s1:List UInt8} {H0:AH} {aP:Bool} (h:jB F s1=some aP):
 aF Tryz.prog 56 [(.str s1)] H0 fun v H'=>v=(.bool aP)∧H'=H0:=by
 refine fe Ep Er fun hcl K0 aN=> ?_
 rw [jB.eq_1] at h
 refine aC ?_
 obtain ⟨r2,hy1,h⟩:=aq h
 refine bB ak (gM (s1:=s1) (s2:=([46]:List UInt8)) hy1) ?_
 refine aC ?_
 obtain ⟨r3,hy2,h⟩:=aq h
 refine bB ak (nj hy2) ?_
 refine aC ?_
 obtain rfl:=aA h
 exact aN _ _ _ bk (aK hcl (aW bf (.bool (!r3))) bg aX ⟨rfl,rfl⟩)
abbrev jd:av:=(.rg [(au 17 4),(aj 18 (.bin .eql (.t 17) (.c (b8 46)))),(au 19 18),(ax 20 (.mv (.t 4)) 19 false),(ax 21 (.bin .neq (.t 20) (.c (b8 0))) 19 false),(ax 22 (.mv (.t 21)) 19 false),(ax 23 (.mv (.t 4)) 22 true),(ax 24 (.call (.c (.fn 81 [])) [(.t 23)]) 22 true),(ax 25 (.pick (.t 22) (.t 24) (.c (.bool false))) 19 false),(aj 26 (.pick (.t 19) (.c (.bool true)) (.t 25)))])
abbrev iS:av:=(.seq (.seq (.sem (erase jd)) (.cond (.t 26) .skip (.exit 0))) (.seq (.blk 1 (.rg [(au 29 0),(aj 30 (.gG (.t 29))),(aj 31 (.cM (.t 30) 1)),(aj 32 (.ld (.t 31) none)),(aj 33 (.bin .add (.t 32) (.c (.int .i64 1)))),(aj 34 (.gG (.t 29))),(aj 35 (.cM (.t 34) 1)),(cS (.st (.t 35) (.t 33) 1))])) (.rg [(au 27 0),(aj 28 (.call (.c (.fn 117 [])) [(.t 27)])),(aQ 4 28)])))
abbrev je:av:=(.rg [(au 46 0),(au 47 0),(aj 48 (.gG (.t 47))),(aj 49 (.cM (.t 48) 2)),(aj 50 (.ld (.t 49) none)),(au 51 50),(ax 52 (.mv (.t 5)) 51 false),(ax 53 (.call (.c (.fn 56 [])) [(.t 52)]) 51 false),(ax 54 (.un .not (.t 53)) 51 false),(aj 55 (.pick (.t 51) (.c (.bool true)) (.t 54))),(aj 56 (.gG (.t 46))),(aj 57 (.cM (.t 56) 2)),(cS (.st (.t 57) (.t 55) 1))])
abbrev uR:av:=(.seq (.rg [(aj 2 (.aO (.c (.str []))))]) (.seq (.seq (.rg [(au 6 0),(aj 7 (.call (.c (.fn 117 [])) [(.t 6)])),(aj 8 (.bin .eql (.t 7) (.c (b8 34))))]) (.cond (.t 8) (.seq (.rg [(au 9 0),(aj 10 (.call (.c (.fn 118 [])) [(.t 9)])),(aQ 2 10)]) .ret) .skip)) (.seq (.rg [(au 11 0),(aj 12 (.gG (.t 11))),(aj 13 (.cM (.t 12) 1)),(aj 14 (.ld (.t 13) none)),(aQ 3 14)]) (.seq (.seq (.rg [(au 15 0),(aj 16 (.call (.c (.fn 117 [])) [(.t 15)])),(aQ 4 16)]) (.blk 0 (.loop (erase iS)))) (.seq (.rg [(au 36 0),(aj 37 (.gG (.t 36))),(aj 38 (.cM (.t 37) 0)),(aj 39 (.ld (.t 38) none)),(au 40 3),(au 41 0),(aj 42 (.gG (.t 41))),(aj 43 (.cM (.t 42) 1)),(aj 44 (.ld (.t 43) none)),(aj 45 (.gj (.t 39) (some (.t 40)) (some (.t 44)))),(aQ 5 45)]) (.seq (.sem (erase je)) (.seq (.rg [(au 58 5),(aQ 2 58)]) .ret)))))))
theorem uS:bM Tryz.prog 95 59 [(.tmp 2)] (erase uR):=⟨Tryz.f95,_,rfl,by decide,rfl,by kernel_rfl,rfl,rfl⟩
abbrev e8:List Nat:=[0,2,3,4,5,8,26]
def dJ (c7:UInt8):Option (Bool):=
 (if (decide (c7=46)) then
  some true
 else
  (if (!decide (c7=0)) then
   (kN c7).bind fun r9=>some r9
  else
   some false))
def dK:(UInt8×aB)→Option (St ((List UInt8)×aB) aB (UInt8×aB))
 |(c7,s8)=>
  (dJ c7).bind fun t11=>
  (if t11 then
   (bu (aB.mk s8.s (IntKind.wrap .i64 (s8.cC+1)) s8.bad)).bind fun gI=>
   some (.cU (gI,(aB.mk s8.s (IntKind.wrap .i64 (s8.cC+1)) s8.bad)))
  else
   some (.dW s8))
def dL (F:Nat) (fE:aB) (kz:List UInt8):Option (aB):=
 (if fE.bad then
  some (aB.mk fE.s fE.cC true)
 else
  (jB F kz).bind fun r16=>some (aB.mk fE.s fE.cC (!r16)))
def cX (F:Nat) (x2:aB):Option ((List UInt8)×aB):=
 (bu x2).bind fun r3=>
 (if (decide (r3=34)) then
  (fy F x2).bind fun (r4,r5)=>some (r4,r5)
 else
  (bu x2).bind fun r6=>
  ((iter dK F (r6,x2)).bind fun o19=>
  match o19 with
  | .inr fE=>
    (sub fE.s x2.cC fE.cC).bind fun kz=>
    (dL F fE kz).bind fun rQ=>
    some (kz,rQ)
  | .inl _=>none))
theorem qb {c7:UInt8} {q1:Nat} {x2:aB} {s8:aB} {H0 H:AH} (hfr:Fr H0 H0.length [q1] H) (ai:H[q1]? =some [(.str s8.s),(.int .i64 s8.cC),(.bool s8.bad)]) (dP:q1<H0.length) {K:Exit→Env→AH→Prop} {t10:Bool}
 (h:dJ c7=some t10)
 (kn:∀H':AH,Fr H0 H0.length [q1] H'→H'[q1]? =some [(.str s8.s),(.int .i64 s8.cC),(.bool s8.bad)]→K .normal [(0,(.ptr q1 0)),(3,(.int .i64 x2.cC)),(26,(.bool t10))] H'):
 AX Tryz.prog e8 59 H0.length (erase jd) K [(0,(.ptr q1 0)),(3,(.int .i64 x2.cC)),(4,(b8 c7))] H:=by
 refine bT fun K' hK=> ?_
 have hle:=hfr.le
 have aM:=aR ai
 rw [dJ.eq_1] at h
 refine az ai ?_
 refine bR h (fun bK h=> ?_) fun bK h=> ?_
 · refine az (aI bK ai) ?_
   obtain rfl:=aA h
   exact hK _ _ _ _ _ aJ ak (kn _ hfr (ai.trans rfl))
 · refine az (aI bK ai) ?_
   refine bR h (fun bY h=> ?_) fun bY h=> ?_
   · refine az (aI bY ai) ?_
     obtain ⟨r9,cD,h⟩:=aq h
     refine bB ak (w9 cD) ?_
     refine az ai ?_
     obtain rfl:=aA h
     exact hK _ _ _ _ _ aJ ak (kn _ hfr (ai.trans rfl))
   · refine az (aI bY ai) ?_
     obtain rfl:=aA h
     exact hK _ _ _ _ _ aJ ak (kn _ hfr (ai.trans rfl))
theorem qc {F:Nat} {c7:UInt8} {s8:aB} {q1:Nat} {x2:aB} {H0 H:AH} (hfr:Fr H0 H0.length [q1] H) (ai:H[q1]? =some [(.str s8.s),(.int .i64 s8.cC),(.bool s8.bad)]) (dP:q1<H0.length) {K:Exit→Env→AH→Prop} {o:((List UInt8)×aB)⊕(aB)}
 (h:iter dK F (c7,s8)=some o)
 (c8:∀o':aB,o= .inr o'→∀H':AH,Fr H0 H0.length [q1] H'→H'[q1]? =some [(.str o'.s),(.int .i64 o'.cC),(.bool o'.bad)]→K (.exit 0) [(0,(.ptr q1 0)),(3,(.int .i64 x2.cC))] H'):
 AX Tryz.prog e8 59 H0.length (.loop (erase iS)) K [(0,(.ptr q1 0)),(3,(.int .i64 x2.cC)),(4,(b8 c7))] H:=by
 refine gH (fun s e H1=>match s with|(c7,s8)=>e=[(0,(.ptr q1 0)),(3,(.int .i64 x2.cC)),(4,(b8 c7))]∧Fr H0 H0.length [q1] H1∧H1[q1]? =some [(.str s8.s),(.int .i64 s8.cC),(.bool s8.bad)]) h ⟨rfl,hfr,ai⟩ ?_
 rintro K' ⟨c7,s8⟩ st e H ⟨rfl,hfr,ai⟩ h hN hB hR hX
 have hle:=hfr.le
 have aM:=aR ai
 rw [dK.eq_1] at h
 refine az ai ?_
 obtain ⟨t11,ct,h⟩:=aq h
 refine bz ak (qb (q1:=q1) (x2:=x2) (s8:=s8) hfr (ai.trans rfl) cq ct ?_)
 intro H hfr ai
 have hle:=hfr.le
 have aM:=aR ai
 refine az ai ?_
 refine bl h (fun cQ h=> ?_) fun cQ h=> ?_
 · refine az ai ?_
   obtain ⟨gI,cc,h⟩:=aq h
   refine I9 (bX cc) (kq.cons (.one _ _ (ga.Bk cA Ja)) (kq.nil)) ?_
   refine az ai ?_
   obtain rfl:=aA h
   exact hN _ rfl _ _ _ _ aJ ak ⟨rfl,(bW _ hfr),cA⟩
 · refine az ai ?_
   obtain rfl:=aA h
   exact hX _ _ _ _ _ c6 aJ ak (c8 _ (hB _ rfl) _ hfr (ai.trans rfl))
theorem qd {F:Nat} {fE:aB} {kz:List UInt8} {q1:Nat} {H0 H:AH} (hfr:Fr H0 H0.length [q1] H) (ai:H[q1]? =some [(.str fE.s),(.int .i64 fE.cC),(.bool fE.bad)]) (dP:q1<H0.length) {K:Exit→Env→AH→Prop} {rN:aB}
 (h:dL F fE kz=some rN)
 (kn:∀H':AH,Fr H0 H0.length [q1] H'→H'[q1]? =some [(.str rN.s),(.int .i64 rN.cC),(.bool rN.bad)]→K .normal [(5,(.str kz))] H'):
 AX Tryz.prog e8 59 H0.length (erase je) K [(0,(.ptr q1 0)),(5,(.str kz))] H:=by
 refine bT fun K' hK=> ?_
 have hle:=hfr.le
 have aM:=aR ai
 rw [dL.eq_1] at h
 refine az ai ?_
 refine bR h (fun cG h=> ?_) fun cG h=> ?_
 · refine az (aI cG ai) ?_
   obtain rfl:=aA h
   exact hK _ _ _ _ _ aJ ak (kn _ (bW _ hfr) cA)
 · refine az (aI cG ai) ?_
   obtain ⟨r16,dX,h⟩:=aq h
   refine bB ak (vE dX) ?_
   refine az ai ?_
   obtain rfl:=aA h
   exact hK _ _ _ _ _ aJ ak (kn _ (bW _ hfr) cA)
theorem tN {F:Nat} {x2:aB} {q1:Nat} {H0:AH} (ai:H0[q1]? =some [(.str x2.s),(.int .i64 x2.cC),(.bool x2.bad)]) {aP:List UInt8} {ey:aB} (h:cX F x2=some (aP,ey)):
 aF Tryz.prog 95 [(.ptr q1 0)] H0 fun v H'=>v=(.str aP)∧H'=(H0.set q1 [(.str ey.s),(.int .i64 ey.cC),(.bool ey.bad)]):=by
 have aM:=aR ai
 refine lH uS e8 [q1] fun hcl K0 aN H hH hfr=> ?_
 rw [←hH] at ai
 clear hH
 have hle:=hfr.le
 have CQ:=aR ai
 rw [cX.eq_1] at h
 refine az ai ?_
 obtain ⟨r3,hy1,h⟩:=aq h
 refine I9 (bX hy1) (kq.cons (.one _ _ (ga.Bk (ai.trans rfl) Ja)) (kq.nil)) ?_
 refine az ai ?_
 refine bl h (fun hy2 h=> ?_) fun hy2 h=> ?_
 · refine az ai ?_
   obtain ⟨⟨r4,r5⟩,hy3,h⟩:=aq h
   dsimp only at h
   refine bB ak (sx (ai.trans rfl) hy3) ?_
   refine az ai ?_
   obtain ⟨rfl,rfl⟩:=cw h
   exact aN _ _ _ bk (iX (bW _ hfr) hcl (aW bf (.str r4)) bg aX cA cq Ef Ee ⟨rfl,rfl⟩)
 · refine az ai ?_
   obtain ⟨r6,hy4,h⟩:=aq h
   refine I9 (bX hy4) (kq.cons (.one _ _ (ga.Bk (ai.trans rfl) Ja)) (kq.nil)) ?_
   refine az ai ?_
   obtain ⟨o19,cy,h⟩:=aq h
   refine bz ak (qc (q1:=q1) (x2:=x2) hfr (ai.trans rfl) cq cy ?_)
   · rintro fE rfl H hfr ai
     try dsimp only at h ai
     have hle:=hfr.le
     have aM:=aR ai
     refine az ai ?_
     obtain ⟨kz,cK,h⟩:=aq h
     refine az (aI cK ai) ?_
     obtain ⟨rQ,eW,h⟩:=aq h
     refine bz ak (qd (q1:=q1) hfr (ai.trans rfl) cq eW ?_)
     intro H hfr ai
     have hle:=hfr.le
     have aM:=aR ai
     refine az ai ?_
     obtain ⟨rfl,rfl⟩:=cw h
     exact aN _ _ _ bk (iX hfr hcl (aW bf (.str kz)) bg aX (ai.trans rfl) cq Ef Ee ⟨rfl,rfl⟩)
abbrev GP:av:=(.seq (.rg [(aj 1 (.box (.t 0))),(aj 2 (.aO (.c (.bool false))))]) (.seq (.rg [(aj 3 (.ld (.t 1) (some 2))),(aj 4 (.build [(.str []),(.str [])] [])),(aj 5 (.seq [.s, .s] false (.t 3) (.t 4))),(aQ 2 5)]) .ret))
theorem GQ:bM Tryz.prog 30 6 [(.tmp 2)] (erase GP):=⟨Tryz.f30,_,rfl,by decide,rfl,by kernel_rfl,rfl,rfl⟩
abbrev GR:List Nat:=[0,1,2]
def kO (a1:aD):Option (Bool):=
 some (decide (a1.ay=([]:List UInt8))&&decide (a1.domain=([]:List UInt8)))
theorem xb {a1:aD} {H0:AH} {aP:Bool} (h:kO a1=some aP):
 aF Tryz.prog 30 [(.agg [(.str a1.ay),(.str a1.domain)])] H0 fun v H'=>v=(.bool aP)∧H'=H0:=by
 refine lH GQ GR [] fun hcl K0 aN H hH hfr=> ?_
 clear hH
 have hle:=hfr.le
 rw [kO.eq_1] at h
 refine cN ?_
 obtain rfl:=aA h
 exact aN _ _ _ bk (aT (Fr.app hfr) hcl (aW bf (.bool (decide (a1.ay=([]:List UInt8))&&decide (a1.domain=([]:List UInt8))))) bg aX ⟨rfl,rfl⟩)
abbrev kD:av:=(.seq (.rg [(aj 9 (.bin .lss (.t 8) (.t 7)))]) (.seq (.cond (.t 9) .skip (.exit 0)) (.seq (.blk 1 (.seq (.rg [(au 10 8),(aQ 5 10)]) (.seq (.rg [(au 11 1),(au 12 0),(au 13 5),(aj 14 (.ixs (.t 12) (.t 13))),(aj 15 (.call (.t 11) [(.t 14)])),(aj 16 (.un .not (.t 15)))]) (.cond (.t 16) (.seq (.rg [(aj 4 (.aO (.c (.bool false))))]) .ret) .skip)))) (.rg [(aj 17 (.bin .add (.t 8) (.c (.int .i64 1)))),(au 8 17)]))))
abbrev zp:av:=(.seq (.rg [(aj 4 (.aO (.c (.bool false))))]) (.seq (.seq (.rg [(au 6 0),(aj 7 (.lens (.t 6))),(aj 8 (.mv (.c (.int .i64 0))))]) (.blk 0 (.loop (erase kD)))) (.seq (.rg [(aj 4 (.aO (.c (.bool true))))]) .ret)))
theorem zq:bM Tryz.prog 54 18 [(.tmp 4)] (erase zp):=⟨Tryz.f54,_,rfl,by decide,rfl,by kernel_rfl,rfl,rfl⟩
abbrev qp:List Nat:=[0,1,4,5,7,8,9,16]
def dh (s1:List UInt8):(Bool×Int)→Option (St Bool Unit (Bool×Int))
 |(t2,t3)=>
  (if (decide (t3<(s1.length:Int))) then
   (idx s1 t3).bind fun x4=>
   (jb x4).bind fun r5=>
   (if (!r5) then
    some (.ret false)
   else
    some (.cU (t2,(IntKind.wrap .i64 (t3+1)))))
  else
   some (.dW ()))
def gq (F:Nat) (s1:List UInt8):Option (Bool):=
 ((iter (dh s1) F (false,0)).bind fun o8=>
 match o8 with
 | .inr ()=>
   some true
 | .inl r7=>
   some r7)
theorem uT {F:Nat} {t3:Int} {s1:List UInt8} {t2:Bool} {H:AH} {K:Exit→Env→AH→Prop} {o:(Bool)⊕(Unit)}
 (h:iter (dh s1) F (t2,t3)=some o)
 (c8:∀o':Unit,o= .inr o'→K (.exit 0) [] H)
 (kr:∀o':Bool,o= .inl o'→K .ret [(4,(.bool o'))] H):
 AX Tryz.prog qp 18 H.length (.loop (erase kD)) K [(0,(.str s1)),(1,(.fn 55 [])),(4,(.bool t2)),(7,(.int .i64 (s1.length:Int))),(8,(.int .i64 t3))] H:=by
 refine gH (fun s e H1=>match s with|(t2,t3)=>e=[(0,(.str s1)),(1,(.fn 55 [])),(4,(.bool t2)),(7,(.int .i64 (s1.length:Int))),(8,(.int .i64 t3))]∧H1=H) h ⟨rfl,rfl⟩ ?_
 rintro K' ⟨t2,t3⟩ st e H ⟨rfl,rfl⟩ h hN hB hR hX
 rw [dh.eq_1] at h
 refine aC ?_
 refine bl h (fun hy1 h=> ?_) fun hy1 h=> ?_
 · obtain ⟨x4,hy2,h⟩:=aq h
   refine aV hy2 ?_
   obtain ⟨r5,hy3,h⟩:=aq h
   refine bB ak (sw hy3) ?_
   refine aC ?_
   refine bl h (fun hy4 h=> ?_) fun hy4 h=> ?_
   · refine aC ?_
     obtain rfl:=aA h
     exact hX _ _ _ _ _ c6 aJ ak (kr _ (hR _ rfl))
   · refine aC ?_
     obtain rfl:=aA h
     exact hN _ rfl _ _ _ _ aJ ak ⟨rfl,rfl⟩
 · refine aC ?_
   obtain rfl:=aA h
   exact hX _ _ _ _ _ c6 WE.nil ak (c8 _ (hB _ rfl))
theorem xB {F:Nat} {s1:List UInt8} {H0:AH} {aP:Bool} (h:gq F s1=some aP):
 aF Tryz.prog 54 [(.str s1),(.fn 55 [])] H0 fun v H'=>v=(.bool aP)∧H'=H0:=by
 refine fe zq qp fun hcl K0 aN=> ?_
 rw [gq.eq_1] at h
 refine aC ?_
 obtain ⟨o8,bK,h⟩:=aq h
 refine bz ak (uT bK ?_ ?_)
 · rintro ⟨⟩ rfl
   try dsimp only at h
   refine aC ?_
   obtain rfl:=aA h
   exact aN _ _ _ bk (aK hcl (aW bf (.bool true)) bg aX ⟨rfl,rfl⟩)
 · rintro r7 rfl
   try dsimp only at h
   refine aC ?_
   obtain rfl:=aA h
   exact aN _ _ _ bk (aK hcl (aW bf (.bool r7)) bg aX ⟨rfl,rfl⟩)
abbrev sC:av:=(.rg [(au 3 0),(aj 4 (.bin .neq (.t 3) (.c (.str [])))),(au 5 4),(ax 6 (.mv (.t 0)) 5 true),(ax 7 (.lens (.t 6)) 5 true),(ax 8 (.bin .leq (.t 7) (.c (.int .i64 64))) 5 true),(aj 9 (.pick (.t 5) (.t 8) (.c (.bool false)))),(au 10 9),(ax 11 (.mv (.t 0)) 10 true),(ax 12 (.call (.c (.fn 54 [])) [(.t 11),(.c (.fn 55 []))]) 10 true),(aj 13 (.pick (.t 10) (.t 12) (.c (.bool false)))),(aQ 2 13)])
abbrev Es:av:=(.seq (.rg [(aj 2 (.aO (.c (.bool false))))]) (.seq (.sem (erase sC)) .ret))
theorem Et:bM Tryz.prog 31 14 [(.tmp 2)] (erase Es):=⟨Tryz.f31,_,rfl,by decide,rfl,by kernel_rfl,rfl,rfl⟩
abbrev xd:List Nat:=[0,2]
def jR (F:Nat) (s1:List UInt8):Option (Bool):=
 (if (!decide (s1=([]:List UInt8))) then
  (if (decide ((s1.length:Int)≤64)) then
   (gq F s1).bind fun r2=>some r2
  else
   some false)
 else
  some false)
def lu (F:Nat) (s1:List UInt8):Option (Bool):=
 (jR F s1).bind fun t4=>
 some t4
theorem zu {F:Nat} {s1:List UInt8} {H:AH} {K:Exit→Env→AH→Prop} {t3:Bool}
 (h:jR F s1=some t3)
 (kn:K .normal [(2,(.bool t3))] H):
 AX Tryz.prog xd 14 H.length (erase sC) K [(0,(.str s1)),(2,(.bool false))] H:=by
 refine bT fun K' hK=> ?_
 rw [jR.eq_1] at h
 refine aC ?_
 refine bR h (fun hy1 h=> ?_) fun hy1 h=> ?_
 · refine aV hy1 ?_
   refine bR h (fun hy2 h=> ?_) fun hy2 h=> ?_
   · refine aV hy2 ?_
     obtain ⟨r2,hy3,h⟩:=aq h
     refine bB ak (xB hy3) ?_
     refine aC ?_
     obtain rfl:=aA h
     exact hK _ _ _ _ _ aJ ak kn
   · refine aV hy2 ?_
     obtain rfl:=aA h
     exact hK _ _ _ _ _ aJ ak kn
 · refine aV hy1 ?_
   obtain rfl:=aA h
   exact hK _ _ _ _ _ aJ ak kn
theorem CZ {F:Nat} {s1:List UInt8} {H0:AH} {aP:Bool} (h:lu F s1=some aP):
 aF Tryz.prog 31 [(.str s1)] H0 fun v H'=>v=(.bool aP)∧H'=H0:=by
 refine fe Et xd fun hcl K0 aN=> ?_
 rw [lu.eq_1] at h
 refine aC ?_
 obtain ⟨t4,hy4,h⟩:=aq h
 refine bz ak (zu hy4 ?_)
 refine aC ?_
 obtain rfl:=aA h
 exact aN _ _ _ bk (aK hcl (aW bf (.bool t4)) bg aX ⟨rfl,rfl⟩)
abbrev AE:av:=(.seq (.rg [(aj 2 (.aO (.c (.bool false))))]) (.seq (.rg [(au 3 0),(aj 4 (.lens (.t 3))),(aj 5 (.bin .gtr (.t 4) (.c (.int .i64 63)))),(aQ 2 5)]) .ret))
theorem AF:bM Tryz.prog 44 6 [(.tmp 2)] (erase AE):=⟨Tryz.f44,_,rfl,by decide,rfl,by kernel_rfl,rfl,rfl⟩
abbrev AG:List Nat:=[0,2]
def ia (x1:List UInt8):Option (Bool):=
 some (decide (63<(x1.length:Int)))
theorem zw {x1:List UInt8} {H0:AH} {aP:Bool} (h:ia x1=some aP):
 aF Tryz.prog 44 [(.str x1)] H0 fun v H'=>v=(.bool aP)∧H'=H0:=by
 refine fe AF AG fun hcl K0 aN=> ?_
 rw [ia.eq_1] at h
 refine aC ?_
 obtain rfl:=aA h
 exact aN _ _ _ bk (aK hcl (aW bf (.bool (decide (63<(x1.length:Int))))) bg aX ⟨rfl,rfl⟩)
abbrev gr:av:=(.seq (.rg [(aj 9 (.bin .lss (.t 8) (.t 7)))]) (.seq (.cond (.t 9) .skip (.exit 0)) (.seq (.blk 1 (.seq (.rg [(au 10 8),(aQ 5 10)]) (.seq (.rg [(au 11 1),(au 12 0),(au 13 5),(aj 14 (.uG 1 (.t 12) (.t 13))),(aj 15 (.ld (.t 14) none)),(aj 16 (.call (.t 11) [(.t 15)]))]) (.cond (.t 16) (.seq (.rg [(au 17 5),(aQ 4 17)]) .ret) .skip)))) (.rg [(aj 18 (.bin .add (.t 8) (.c (.int .i64 1)))),(au 8 18)]))))
abbrev rR:av:=(.seq (.rg [(aj 4 (.aO (.c (.int .i64 0))))]) (.seq (.seq (.rg [(au 6 0),(aj 7 (.len (.t 6))),(aj 8 (.mv (.c (.int .i64 0))))]) (.blk 0 (.loop (erase gr)))) (.seq (.rg [(aj 4 (.aO (.c (.int .i64 (-1)))))]) .ret)))
theorem rS:bM Tryz.prog 72 19 [(.tmp 4)] (erase rR):=⟨Tryz.f72,_,rfl,by decide,rfl,by kernel_rfl,rfl,rfl⟩
abbrev jf:List Nat:=[0,1,4,5,7,8,9,16]
def b7 (s1:List (List UInt8)):(Int×Int)→Option (St Int Unit (Int×Int))
 |(t2,t3)=>
  (if (decide (t3<(s1.length:Int))) then
   (idx s1 t3).bind fun x4=>
   (ia x4).bind fun r5=>
   (if r5 then
    some (.ret t3)
   else
    some (.cU (t2,(IntKind.wrap .i64 (t3+1)))))
  else
   some (.dW ()))
def eJ (F:Nat) (s1:List (List UInt8)):Option (Int):=
 ((iter (b7 s1) F (0,0)).bind fun o8=>
 match o8 with
 | .inr ()=>
   some (-1)
 | .inl r7=>
   some r7)
theorem lK {F:Nat} {t3:Int} {s1:List (List UInt8)} {t2:Int} {H:AH} {K:Exit→Env→AH→Prop} {o:(Int)⊕(Unit)}
 (h:iter (b7 s1) F (t2,t3)=some o)
 (c8:∀o':Unit,o= .inr o'→K (.exit 0) [] H)
 (kr:∀o':Int,o= .inl o'→K .ret [(4,(.int .i64 o'))] H):
 AX Tryz.prog jf 19 H.length (.loop (erase gr)) K [(0,(.sl .n 1 (ml AV.str s1))),(1,(.fn 44 [])),(4,(.int .i64 t2)),(7,(.int .i64 (s1.length:Int))),(8,(.int .i64 t3))] H:=by
 refine gH (fun s e H1=>match s with|(t2,t3)=>e=[(0,(.sl .n 1 (ml AV.str s1))),(1,(.fn 44 [])),(4,(.int .i64 t2)),(7,(.int .i64 (s1.length:Int))),(8,(.int .i64 t3))]∧H1=H) h ⟨rfl,rfl⟩ ?_
 rintro K' ⟨t2,t3⟩ st e H ⟨rfl,rfl⟩ h hN hB hR hX
 rw [b7.eq_1] at h
 refine aC ?_
 refine bl h (fun hy1 h=> ?_) fun hy1 h=> ?_
 · obtain ⟨x4,hy2,h⟩:=aq h
   refine aV hy2 ?_
   obtain ⟨r5,hy3,h⟩:=aq h
   refine bB ak (zw hy3) ?_
   refine aC ?_
   refine bl h (fun hy4 h=> ?_) fun hy4 h=> ?_
   · refine aC ?_
     obtain rfl:=aA h
     exact hX _ _ _ _ _ c6 aJ ak (kr _ (hR _ rfl))
   · refine aC ?_
     obtain rfl:=aA h
     exact hN _ rfl _ _ _ _ aJ ak ⟨rfl,rfl⟩
 · refine aC ?_
   obtain rfl:=aA h
   exact hX _ _ _ _ _ c6 WE.nil ak (c8 _ (hB _ rfl))
theorem qe {F:Nat} {s1:List (List UInt8)} {H0:AH} {aP:Int} (h:eJ F s1=some aP):
 aF Tryz.prog 72 [(.sl .n 1 (ml AV.str s1)),(.fn 44 [])] H0 fun v H'=>v=(.int .i64 aP)∧H'=H0:=by
 refine fe rS jf fun hcl K0 aN=> ?_
 rw [eJ.eq_1] at h
 refine aC ?_
 obtain ⟨o8,bK,h⟩:=aq h
 refine bz ak (lK bK ?_ ?_)
 · rintro ⟨⟩ rfl
   try dsimp only at h
   refine aC ?_
   obtain rfl:=aA h
   exact aN _ _ _ bk (aK hcl (aW bf (.int .i64 (-1))) bg aX ⟨rfl,rfl⟩)
 · rintro r7 rfl
   try dsimp only at h
   refine aC ?_
   obtain rfl:=aA h
   exact aN _ _ _ bk (aK hcl (aW bf (.int .i64 r7)) bg aX ⟨rfl,rfl⟩)
abbrev nk:av:=(.seq (.rg [(aj 4 (.aO (.c (.bool false))))]) (.seq (.rg [(au 5 0),(au 6 1),(aj 7 (.call (.c (.fn 72 [])) [(.t 5),(.t 6)])),(aj 8 (.bin .geq (.t 7) (.c (.int .i64 0)))),(aQ 4 8)]) .ret))
theorem nr:bM Tryz.prog 46 9 [(.tmp 4)] (erase nk):=⟨Tryz.f46,_,rfl,by decide,rfl,by kernel_rfl,rfl,rfl⟩
abbrev nt:List Nat:=[0,1,4]
def cV (F:Nat) (s1:List (List UInt8)):Option (Bool):=
 (eJ F s1).bind fun r2=>some (decide (0≤r2))
theorem lM {F:Nat} {s1:List (List UInt8)} {H0:AH} {aP:Bool} (h:cV F s1=some aP):
 aF Tryz.prog 46 [(.sl .n 1 (ml AV.str s1)),(.fn 44 [])] H0 fun v H'=>v=(.bool aP)∧H'=H0:=by
 refine fe nr nt fun hcl K0 aN=> ?_
 rw [cV.eq_1] at h
 refine aC ?_
 obtain ⟨r2,hy1,h⟩:=aq h
 refine bB ak (qe hy1) ?_
 refine aC ?_
 obtain rfl:=aA h
 exact aN _ _ _ bk (aK hcl (aW bf (.bool (decide (0≤r2)))) bg aX ⟨rfl,rfl⟩)
abbrev qq:av:=(.rg [(au 4 0),(aj 5 (.lens (.t 4))),(aj 6 (.bin .leq (.t 5) (.c (.int .i64 255)))),(au 7 6),(ax 8 (.mv (.t 0)) 7 true),(ax 9 (.call (.c (.fn 45 [])) [(.t 8)]) 7 true),(aj 10 (.pick (.t 7) (.t 9) (.c (.bool false)))),(au 11 10),(ax 12 (.mv (.t 0)) 11 true),(ax 13 (.call (.c (.fn 47 [])) [(.t 12),(.c (.str [46]))]) 11 true),(ax 14 (.mv (.t 3)) 11 true),(ax 15 (.call (.c (.fn 46 [])) [(.t 13),(.t 14)]) 11 true),(ax 16 (.un .not (.t 15)) 11 true),(aj 17 (.pick (.t 11) (.t 16) (.c (.bool false)))),(aQ 2 17)])
abbrev C3:av:=(.seq (.rg [(aj 2 (.aO (.c (.bool false))))]) (.seq (.rg [(aj 3 (.aO (.c (.fn 44 []))))]) (.seq (.sem (erase qq)) .ret)))
theorem C4:bM Tryz.prog 25 18 [(.tmp 2)] (erase C3):=⟨Tryz.f25,_,rfl,by decide,rfl,by kernel_rfl,rfl,rfl⟩
abbrev vF:List Nat:=[0,2,3]
def jn (F:Nat) (s1:List UInt8):Option (Bool):=
 (if (decide ((s1.length:Int)≤255)) then
  (iC F s1).bind fun r2=>
  (if r2 then
   (strings_Split s1 ([46]:List UInt8)).bind fun r3=>(cV F r3).bind fun r4=>some (!r4)
  else
   some false)
 else
  some false)
def gf (F:Nat) (s1:List UInt8):Option (Bool):=
 (jn F s1).bind fun t6=>
 some t6
theorem xC {F:Nat} {s1:List UInt8} {H:AH} {K:Exit→Env→AH→Prop} {t5:Bool}
 (h:jn F s1=some t5)
 (kn:K .normal [(2,(.bool t5))] H):
 AX Tryz.prog vF 18 H.length (erase qq) K [(0,(.str s1)),(2,(.bool false)),(3,(.fn 44 []))] H:=by
 refine bT fun K' hK=> ?_
 rw [jn.eq_1] at h
 refine aC ?_
 refine bR h (fun hy1 h=> ?_) fun hy1 h=> ?_
 · refine aV hy1 ?_
   obtain ⟨r2,hy2,h⟩:=aq h
   refine bB ak (ug hy2) ?_
   refine aC ?_
   refine bR h (fun hy3 h=> ?_) fun hy3 h=> ?_
   · refine aV hy3 ?_
     obtain ⟨r3,hy4,h⟩:=aq h
     refine bB ak (gM (s1:=s1) (s2:=([46]:List UInt8)) hy4) ?_
     refine aC ?_
     obtain ⟨r4,bK,h⟩:=aq h
     refine bB ak (lM bK) ?_
     refine aC ?_
     obtain rfl:=aA h
     exact hK _ _ _ _ _ aJ ak kn
   · refine aV hy3 ?_
     obtain rfl:=aA h
     exact hK _ _ _ _ _ aJ ak kn
 · refine aV hy1 ?_
   obtain rfl:=aA h
   exact hK _ _ _ _ _ aJ ak kn
theorem um {F:Nat} {s1:List UInt8} {H0:AH} {aP:Bool} (h:gf F s1=some aP):
 aF Tryz.prog 25 [(.str s1)] H0 fun v H'=>v=(.bool aP)∧H'=H0:=by
 refine fe C4 vF fun hcl K0 aN=> ?_
 rw [gf.eq_1] at h
 refine aC ?_
 obtain ⟨t6,bY,h⟩:=aq h
 refine bz ak (xC bY ?_)
 refine aC ?_
 obtain rfl:=aA h
 exact aN _ _ _ bk (aK hcl (aW bf (.bool t6)) bg aX ⟨rfl,rfl⟩)
abbrev uo:av:=(.rg [(au 17 3),(au 18 5),(aj 19 (.ixs (.t 17) (.t 18))),(aj 20 (.bin .eql (.t 19) (.c (b8 34)))),(au 21 20),(ax 22 (.mv (.t 3)) 21 false),(ax 23 (.mv (.t 5)) 21 false),(ax 24 (.ixs (.t 22) (.t 23)) 21 false),(ax 25 (.bin .eql (.t 24) (.c (b8 92))) 21 false),(aj 26 (.pick (.t 21) (.c (.bool true)) (.t 25)))])
abbrev sD:av:=(.seq (.rg [(aj 15 (.bin .lss (.t 14) (.t 13)))]) (.seq (.cond (.t 15) .skip (.exit 0)) (.seq (.blk 1 (.seq (.rg [(au 16 14),(aQ 5 16)]) (.seq (.seq (.sem (erase uo)) (.cond (.t 26) (.rg [(au 27 4),(aj 28 (.rX 1 [(.c (b8 92))])),(aj 29 (.app 1 1 (.t 27) (.t 28))),(aQ 4 29)]) .skip)) (.rg [(au 30 4),(au 31 3),(au 32 5),(aj 33 (.ixs (.t 31) (.t 32))),(aj 34 (.rX 1 [(.t 33)])),(aj 35 (.app 1 1 (.t 30) (.t 34))),(aQ 4 35)])))) (.rg [(aj 36 (.bin .add (.t 14) (.c (.int .i64 1)))),(au 14 36)]))))
abbrev GS:av:=(.seq (.rg [(aj 1 (.box (.t 0))),(aj 2 (.aO (.c (.str []))))]) (.seq (.rg [(aj 6 (.cM (.t 1) 0)),(aj 7 (.ld (.t 6) none)),(aQ 3 7)]) (.seq (.seq (.rg [(au 8 3),(aj 9 (.call (.c (.fn 56 [])) [(.t 8)])),(aj 10 (.un .not (.t 9)))]) (.cond (.t 10) (.seq (.rg [(aj 11 (.rX 1 [(.c (b8 34))])),(aQ 4 11)]) (.seq (.seq (.rg [(au 12 3),(aj 13 (.lens (.t 12))),(aj 14 (.mv (.c (.int .i64 0))))]) (.blk 0 (.loop (erase sD)))) (.rg [(au 37 4),(aj 38 (.rX 1 [(.c (b8 34))])),(aj 39 (.app 1 1 (.t 37) (.t 38))),(aj 40 (.jH .bs (.t 39))),(aQ 3 40)]))) .skip)) (.seq (.rg [(au 41 3),(aj 42 (.bin .add (.c (.str [60])) (.t 41))),(aj 43 (.bin .add (.t 42) (.c (.str [64])))),(aj 44 (.cM (.t 1) 1)),(aj 45 (.ld (.t 44) none)),(aj 46 (.bin .add (.t 43) (.t 45))),(aj 47 (.bin .add (.t 46) (.c (.str [62])))),(aQ 2 47)]) .ret))))
theorem GU:bM Tryz.prog 32 48 [(.tmp 2)] (erase GS):=⟨Tryz.f32,_,rfl,by decide,rfl,by kernel_rfl,rfl,rfl⟩
abbrev tO:List Nat:=[0,1,2,3,4,5,10,13,14,15,26]
def kX (a1:aD) (t5:Int):Option (Bool):=
 (idx a1.ay t5).bind fun x7=>
 (if (decide (x7=34)) then
  some true
 else
  some (decide (x7=92)))
def fB (a1:aD):((List UInt8)×Int)→Option (St (List UInt8) (List UInt8) ((List UInt8)×Int))
 |(b4,t5)=>
  (if (decide (t5<(a1.ay.length:Int))) then
   (kX a1 t5).bind fun t9=>
   (if t9 then
    (eN 1 b4 ([92]:List UInt8)).bind fun wN=>
    (idx a1.ay t5).bind fun fD=>
    (eN 1 wN ([fD]:List UInt8)).bind fun rM=>some (.cU (rM,(IntKind.wrap .i64 (t5+1))))
   else
    (idx a1.ay t5).bind fun gu=>
    (eN 1 b4 ([gu]:List UInt8)).bind fun Eu=>some (.cU (Eu,(IntKind.wrap .i64 (t5+1)))))
  else
   some (.dW b4))
def kP (F:Nat) (a1:aD):Option ((List UInt8)):=
 (jB F a1.ay).bind fun r2=>
 (if (!r2) then
  ((iter (fB a1) F (([34]:List UInt8),0)).bind fun o22=>
  match o22 with
  | .inr Zs=>
    (eN 1 Zs ([34]:List UInt8)).bind fun tP=>
    (cat ([60]:List UInt8) tP).bind fun GV=>
    (cat GV ([64]:List UInt8)).bind fun AI=>
    (cat AI a1.domain).bind fun lN=>(cat lN ([62]:List UInt8)).bind fun Ev=>some Ev
  | .inl _=>none)
 else
  (cat ([60]:List UInt8) a1.ay).bind fun C5=>
  (cat C5 ([64]:List UInt8)).bind fun Jh=>
  (cat Jh a1.domain).bind fun C6=>(cat C6 ([62]:List UInt8)).bind fun P5=>some P5)
theorem AJ {a1:aD} {t5:Int} {q6:Nat} {b4:List UInt8} {H0 H:AH} (hfr:Fr H0 H0.length [] H) (ai:H[q6]? =some [(.str a1.ay),(.str a1.domain)]) (dP:H0.length≤q6) {K:Exit→Env→AH→Prop} {t8:Bool}
 (h:kX a1 t5=some t8)
 (kn:∀H':AH,Fr H0 H0.length [] H'→H'[q6]? =some [(.str a1.ay),(.str a1.domain)]→K .normal [(1,(.ptr q6 0)),(3,(.str a1.ay)),(4,(.sl .own 1 (ml b8 b4))),(5,(.int .i64 t5)),(13,(.int .i64 (a1.ay.length:Int))),(14,(.int .i64 t5)),(26,(.bool t8))] H'):
 AX Tryz.prog tO 48 H0.length (erase uo) K [(1,(.ptr q6 0)),(3,(.str a1.ay)),(4,(.sl .own 1 (ml b8 b4))),(5,(.int .i64 t5)),(13,(.int .i64 (a1.ay.length:Int))),(14,(.int .i64 t5))] H:=by
 refine bT fun K' hK=> ?_
 have hle:=hfr.le
 have aM:=aR ai
 rw [kX.eq_1] at h
 obtain ⟨x7,hy4,h⟩:=aq h
 refine az (aI hy4 ai) ?_
 refine bR h (fun bK h=> ?_) fun bK h=> ?_
 · refine az (aI bK ai) ?_
   obtain rfl:=aA h
   exact hK _ _ _ _ _ aJ ak (kn _ hfr (ai.trans rfl))
 · refine az (aI bK (aI hy4 ai)) ?_
   obtain rfl:=aA h
   exact hK _ _ _ _ _ aJ ak (kn _ hfr (ai.trans rfl))
theorem AK {F:Nat} {t5:Int} {a1:aD} {b4:List UInt8} {q3:Nat} {H0 H:AH} (hfr:Fr H0 H0.length [] H) (ai:H[q3]? =some [(.str a1.ay),(.str a1.domain)]) (dP:H0.length≤q3) {K:Exit→Env→AH→Prop} {o:((List UInt8))⊕((List UInt8))}
 (h:iter (fB a1) F (b4,t5)=some o)
 (c8:∀o':(List UInt8),o= .inr o'→∀H':AH,Fr H0 H0.length [] H'→H'[q3]? =some [(.str a1.ay),(.str a1.domain)]→K (.exit 0) [(1,(.ptr q3 0)),(4,(.sl .own 1 (ml b8 o')))] H'):
 AX Tryz.prog tO 48 H0.length (.loop (erase sD)) K [(1,(.ptr q3 0)),(3,(.str a1.ay)),(4,(.sl .own 1 (ml b8 b4))),(13,(.int .i64 (a1.ay.length:Int))),(14,(.int .i64 t5))] H:=by
 refine gH (fun s e H1=>match s with|(b4,t5)=>e=[(1,(.ptr q3 0)),(3,(.str a1.ay)),(4,(.sl .own 1 (ml b8 b4))),(13,(.int .i64 (a1.ay.length:Int))),(14,(.int .i64 t5))]∧Fr H0 H0.length [] H1∧H1[q3]? =some [(.str a1.ay),(.str a1.domain)]) h ⟨rfl,hfr,ai⟩ ?_
 rintro K' ⟨b4,t5⟩ st e H ⟨rfl,hfr,ai⟩ h hN hB hR hX
 have hle:=hfr.le
 have aM:=aR ai
 rw [fB.eq_1] at h
 refine az ai ?_
 refine bl h (fun hy3 h=> ?_) fun hy3 h=> ?_
 · refine az ai ?_
   obtain ⟨t9,bY,h⟩:=aq h
   refine bz ak (AJ (b4:=b4) (q6:=q3) hfr (ai.trans rfl) cq bY ?_)
   intro H hfr ai
   have hle:=hfr.le
   have aM:=aR ai
   refine az ai ?_
   refine bl h (fun cD h=> ?_) fun cD h=> ?_
   · obtain ⟨wN,ct,h⟩:=aq h
     have cQ:eN 1 (ml b8 b4) [(b8 92)]=some (ml b8 wN):=kW (f:=b8) ct
     obtain ⟨fD,cc,h⟩:=aq h
     obtain ⟨rM,cy,h⟩:=aq h
     have cK:eN 1 (ml b8 wN) [(b8 fD)]=some (ml b8 rM):=kW (f:=b8) cy
     refine az (aI cQ (aI cc (aI cK ai))) ?_
     obtain rfl:=aA h
     exact hN _ rfl _ _ _ _ aJ ak ⟨rfl,hfr,(ai.trans rfl)⟩
   · obtain ⟨gu,cG,h⟩:=aq h
     obtain ⟨Eu,dX,h⟩:=aq h
     have eW:eN 1 (ml b8 b4) [(b8 gu)]=some (ml b8 Eu):=kW (f:=b8) dX
     refine az (aI cG (aI eW ai)) ?_
     obtain rfl:=aA h
     exact hN _ rfl _ _ _ _ aJ ak ⟨rfl,hfr,(ai.trans rfl)⟩
 · refine az ai ?_
   obtain rfl:=aA h
   exact hX _ _ _ _ _ c6 aJ ak (c8 _ (hB _ rfl) _ hfr (ai.trans rfl))
theorem xe {F:Nat} {a1:aD} {H0:AH} {aP:List UInt8} (h:kP F a1=some aP):
 aF Tryz.prog 32 [(.agg [(.str a1.ay),(.str a1.domain)])] H0 fun v H'=>v=(.str aP)∧H'=H0:=by
 refine lH GU tO [] fun hcl K0 aN H hH hfr=> ?_
 clear hH
 have hle:=hfr.le
 rw [kP.eq_1] at h
 refine cN ?_
 obtain ⟨r2,hy1,h⟩:=aq h
 refine bB ak (vE hy1) ?_
 refine cN ?_
 refine bl h (fun hy2 h=> ?_) fun hy2 h=> ?_
 · refine cN ?_
   obtain ⟨q3,C7⟩:∃q:Nat,H.length=q:=⟨_,rfl⟩
   try rw [C7]
   obtain ⟨o22,ek,h⟩:=aq h
   refine bz ak (AK (q3:=q3) (Fr.app hfr) uH cq ek ?_)
   · rintro Zs rfl H hfr ai
     try dsimp only at h ai
     have hle:=hfr.le
     have aM:=aR ai
     refine cN ?_
     obtain ⟨tP,ic,h⟩:=aq h
     have gv:eN 1 (ml b8 Zs) [(b8 34)]=some (ml b8 tP):=kW (f:=b8) ic
     obtain ⟨GV,fM,h⟩:=aq h
     obtain ⟨AI,fN,h⟩:=aq h
     obtain ⟨lN,gw,h⟩:=aq h
     obtain ⟨Ev,ie,h⟩:=aq h
     refine az (aI gv (aI fM (aI fN (aI gw (aI ie ai))))) ?_
     obtain rfl:=aA h
     exact aN _ _ _ bk (aT hfr hcl (aW bf (.str Ev)) bg aX ⟨rfl,rfl⟩)
 · obtain ⟨C5,jg,h⟩:=aq h
   obtain ⟨Jh,gO,h⟩:=aq h
   obtain ⟨C6,ig,h⟩:=aq h
   obtain ⟨P5,jS,h⟩:=aq h
   refine az (aI jg (aI gO (aI ig jS))) ?_
   obtain rfl:=aA h
   exact aN _ _ _ bk (aT (Fr.app hfr) hcl (aW bf (.str P5)) bg aX ⟨rfl,rfl⟩)
abbrev sE:av:=(.rg [(aj 3 (.ld (.t 1) (some 2))),(aj 4 (.call (.c (.fn 30 [])) [(.t 3)])),(au 5 4),(ax 6 (.cM (.t 1) 0) 5 false),(ax 7 (.ld (.t 6) none) 5 false),(ax 8 (.call (.c (.fn 31 [])) [(.t 7)]) 5 false),(ax 9 (.mv (.t 8)) 5 false),(ax 10 (.cM (.t 1) 1) 9 true),(ax 11 (.ld (.t 10) none) 9 true),(ax 12 (.call (.c (.fn 25 [])) [(.t 11)]) 9 true),(ax 13 (.pick (.t 9) (.t 12) (.c (.bool false))) 5 false),(ax 14 (.mv (.t 13)) 5 false),(ax 15 (.ld (.t 1) (some 2)) 14 true),(ax 16 (.call (.c (.fn 32 [])) [(.t 15)]) 14 true),(ax 17 (.lens (.t 16)) 14 true),(ax 18 (.bin .leq (.t 17) (.c (.int .i64 256))) 14 true),(ax 19 (.pick (.t 14) (.t 18) (.c (.bool false))) 5 false),(aj 20 (.pick (.t 5) (.c (.bool true)) (.t 19))),(aQ 2 20)])
abbrev Ew:av:=(.seq (.rg [(aj 1 (.box (.t 0))),(aj 2 (.aO (.c (.bool false))))]) (.seq (.sem (erase sE)) .ret))
theorem Ex:bM Tryz.prog 10 21 [(.tmp 2)] (erase Ew):=⟨Tryz.f10,_,rfl,by decide,rfl,by kernel_rfl,rfl,rfl⟩
abbrev xg:List Nat:=[0,1,2]
def jT (F:Nat) (a1:aD):Option (Bool):=
 (kO a1).bind fun r3=>
 (if r3 then
  some true
 else
  (lu F a1.ay).bind fun r4=>
  (if r4 then
   (gf F a1.domain).bind fun r5=>
   (if r5 then
    (kP F a1).bind fun r6=>some (decide ((r6.length:Int)≤256))
   else
    some false)
  else
   some false))
def jC (F:Nat) (a1:aD):Option (Bool):=
 (jT F a1).bind fun t8=>
 some t8
theorem zx {F:Nat} {a1:aD} {q2:Nat} {H0 H:AH} (hfr:Fr H0 H0.length [] H) (ai:H[q2]? =some [(.str a1.ay),(.str a1.domain)]) (dP:H0.length≤q2) {K:Exit→Env→AH→Prop} {t7:Bool}
 (h:jT F a1=some t7)
 (kn:∀H':AH,Fr H0 H0.length [] H'→H'[q2]? =some [(.str a1.ay),(.str a1.domain)]→K .normal [(2,(.bool t7))] H'):
 AX Tryz.prog xg 21 H0.length (erase sE) K [(1,(.ptr q2 0)),(2,(.bool false))] H:=by
 refine bT fun K' hK=> ?_
 have hle:=hfr.le
 have aM:=aR ai
 rw [jT.eq_1] at h
 refine az ai ?_
 obtain ⟨r3,hy1,h⟩:=aq h
 refine bB ak (xb hy1) ?_
 refine az ai ?_
 refine bR h (fun hy2 h=> ?_) fun hy2 h=> ?_
 · refine az (aI hy2 ai) ?_
   obtain rfl:=aA h
   exact hK _ _ _ _ _ aJ ak (kn _ hfr (ai.trans rfl))
 · refine az (aI hy2 ai) ?_
   obtain ⟨r4,hy3,h⟩:=aq h
   refine bB ak (CZ hy3) ?_
   refine az ai ?_
   refine bR h (fun hy4 h=> ?_) fun hy4 h=> ?_
   · refine az (aI hy4 ai) ?_
     obtain ⟨r5,bK,h⟩:=aq h
     refine bB ak (um bK) ?_
     refine az ai ?_
     refine bR h (fun bY h=> ?_) fun bY h=> ?_
     · refine az (aI bY ai) ?_
       obtain ⟨r6,cD,h⟩:=aq h
       refine bB ak (xe cD) ?_
       refine az ai ?_
       obtain rfl:=aA h
       exact hK _ _ _ _ _ aJ ak (kn _ hfr (ai.trans rfl))
     · refine az (aI bY ai) ?_
       obtain rfl:=aA h
       exact hK _ _ _ _ _ aJ ak (kn _ hfr (ai.trans rfl))
   · refine az (aI hy4 ai) ?_
     obtain rfl:=aA h
     exact hK _ _ _ _ _ aJ ak (kn _ hfr (ai.trans rfl))
theorem vG {F:Nat} {a1:aD} {H0:AH} {aP:Bool} (h:jC F a1=some aP):
 aF Tryz.prog 10 [(.agg [(.str a1.ay),(.str a1.domain)])] H0 fun v H'=>v=(.bool aP)∧H'=H0:=by
 refine lH Ex xg [] fun hcl K0 aN H hH hfr=> ?_
 clear hH
 have hle:=hfr.le
 rw [jC.eq_1] at h
 refine cN ?_
 obtain ⟨q2,ju⟩:∃q:Nat,H.length=q:=⟨_,rfl⟩
 try rw [ju]
 obtain ⟨t8,ct,h⟩:=aq h
 refine bz ak (zx (q2:=q2) (Fr.app hfr) uH cq ct ?_)
 intro H hfr ai
 have hle:=hfr.le
 have aM:=aR ai
 refine az ai ?_
 obtain rfl:=aA h
 exact aN _ _ _ bk (aT hfr hcl (aW bf (.bool t8)) bg aX ⟨rfl,rfl⟩)
abbrev uq:av:=(.cond (.t 14) (.seq (.rg [(au 15 5),(aj 16 (.call (.c (.fn 94 [])) [(.t 15)]))]) (.seq (.rg [(au 17 5),(aj 18 (.call (.c (.fn 95 [])) [(.t 17)])),(aj 19 (.cM (.t 6) 0)),(cS (.st (.t 19) (.t 18) 1))]) (.seq (.rg [(au 20 5),(aj 21 (.call (.c (.fn 92 [])) [(.t 20),(.c (b8 64))]))]) (.seq (.rg [(au 22 5),(aj 23 (.call (.c (.fn 96 [])) [(.t 22)])),(aj 24 (.cM (.t 6) 1)),(cS (.st (.t 24) (.t 23) 1))]) (.rg [(au 25 5),(aj 26 (.call (.c (.fn 92 [])) [(.t 25),(.c (b8 62))]))]))))) .skip)
abbrev ur:av:=(.rg [(aj 38 (.DZ (.t 6) (some 2))),(au 39 0),(au 40 5),(aj 41 (.gG (.t 40))),(aj 42 (.cM (.t 41) 1)),(aj 43 (.DZ (.t 42) none)),(aj 44 (.gj (.t 39) (some (.t 43)) none)),(cS (.st (.t 2) (.t 38) 2)),(aQ 3 44),(aj 4 (.aO (.c (.int .i64 0))))])
abbrev GW:av:=(.seq (.rg [(aj 2 (.alloc [(.str []),(.str [])])),(aj 3 (.aO (.c (.str [])))),(aj 4 (.aO (.c (.int .i64 0))))]) (.seq (.rg [(au 7 0),(aj 8 (.build [(.str []),(.int .i64 0),(.bool false)] [(0,(1,(.t 7)))])),(aj 9 (.box (.t 8))),(aQ 5 9)]) (.seq (.rg [(au 10 5),(aj 11 (.call (.c (.fn 92 [])) [(.t 10),(.c (b8 60))]))]) (.seq (.rg [(aj 6 (.alloc [(.str []),(.str [])]))]) (.seq (.seq (.rg [(au 12 5),(aj 13 (.call (.c (.fn 93 [])) [(.t 12),(.c (b8 62))])),(aj 14 (.un .not (.t 13)))]) (.sem (erase uq))) (.seq (.blk 0 (.seq (.rg [(au 28 5),(aj 29 (.gG (.t 28))),(aj 30 (.cM (.t 29) 2)),(aj 31 (.ld (.t 30) none)),(aQ 27 31)]) (.cond (.t 27) (.seq (.rg [(aj 32 (.build [(.str []),(.str [])] [])),(cS (.st (.t 2) (.t 32) 2)),(aj 3 (.aO (.c (.str [])))),(aj 4 (.aO (.c (.int .i64 3))))]) .ret) (.seq (.rg [(aj 34 (.ld (.t 6) (some 2))),(aj 35 (.call (.c (.fn 10 [])) [(.t 34)])),(aj 36 (.un .not (.t 35))),(aQ 33 36)]) (.cond (.t 33) (.seq (.rg [(aj 37 (.build [(.str []),(.str [])] [])),(cS (.st (.t 2) (.t 37) 2)),(aj 3 (.aO (.c (.str [])))),(aj 4 (.aO (.c (.int .i64 5))))]) .ret) .skip))))) (.seq (.sem (erase ur)) .ret)))))))
theorem GX:bM Tryz.prog 64 45 [(.cell 2 24),(.tmp 3),(.tmp 4)] (erase GW):=⟨Tryz.f64,_,rfl,by decide,rfl,by kernel_rfl,rfl,rfl⟩
abbrev tQ:List Nat:=[0,2,3,4,5,6,14,27,33]
def eO (F:Nat) (r3:Bool) (r4:aB):Option (aB×aD):=
 (if (!r3) then
  (cW F r4).bind fun r8=>
  (cX F r8).bind fun (r9,dA)=>
  (bn dA 64).bind fun kM=>
  (bP F kM).bind fun (gI,ku)=>
  (bn ku 62).bind fun gK=>some (gK,(aD.mk r9 gI))
 else
  some (r4,(aD.mk ([]:List UInt8) ([]:List UInt8))))
def jh (s1:List UInt8) (rN:aB) (rQ:aD):Option ((List UInt8)×Int×aD):=
 (sub s1 rN.cC (s1.length:Int)).bind fun Ev=>some (Ev,0,rQ)
def oB (F:Nat) (s1:List UInt8):Option (aD×(List UInt8)×Int):=
 (bn (aB.mk s1 0 false) 60).bind fun r2=>
 (bC r2 62).bind fun (r3,r4)=>
 (eO F r3 r4).bind fun (rN,rQ)=>
 (if rN.bad then
  some ((aD.mk ([]:List UInt8) ([]:List UInt8)),([]:List UInt8),3)
 else
  (jC F rQ).bind fun wO=>
  (if (!wO) then
   some ((aD.mk ([]:List UInt8) ([]:List UInt8)),([]:List UInt8),5)
  else
   (jh s1 rN rQ).bind fun (t25,t26,P6)=>
   some (P6,t25,t26)))
theorem AL {F:Nat} {r3:Bool} {r4:aB} {s1:List UInt8} {q5:Nat} {q6:Nat} {q7:Nat} {H0 H:AH} (hfr:Fr H0 H0.length [] H) (ai:H[q5]? =some [(.str ([]:List UInt8)),(.str ([]:List UInt8))]) (aU:H[q6]? =some [(.str r4.s),(.int .i64 r4.cC),(.bool r4.bad)]) (bZ:H[q7]? =some [(.str ([]:List UInt8)),(.str ([]:List UInt8))]) (dP:H0.length≤q5) (hi1:H0.length≤q6) (hi2:q5≠q6) (hi3:H0.length≤q7) (hi4:q5≠q7) (hi5:q6≠q7) {K:Exit→Env→AH→Prop} {L5:aB} {P4:aD}
 (h:eO F r3 r4=some (L5,P4))
 (kn:∀H':AH,Fr H0 H0.length [] H'→H'[q5]? =some [(.str ([]:List UInt8)),(.str ([]:List UInt8))]→H'[q6]? =some [(.str L5.s),(.int .i64 L5.cC),(.bool L5.bad)]→H'[q7]? =some [(.str P4.ay),(.str P4.domain)]→K .normal [(0,(.str s1)),(2,(.ptr q5 0)),(5,(.ptr q6 0)),(6,(.ptr q7 0))] H'):
 AX Tryz.prog tQ 45 H0.length (erase uq) K [(0,(.str s1)),(2,(.ptr q5 0)),(5,(.ptr q6 0)),(6,(.ptr q7 0)),(14,(.bool (!r3)))] H:=by
 refine bT fun K' hK=> ?_
 have hle:=hfr.le
 have aM:=aR ai
 have oC:=aR aU
 have C8:=aR bZ
 rw [eO.eq_1] at h
 refine az (aI ai (aI aU bZ)) ?_
 refine bl h (fun hy3 h=> ?_) fun hy3 h=> ?_
 · refine az (aI ai (aI aU bZ)) ?_
   obtain ⟨r8,hy4,h⟩:=aq h
   refine bB ak (tK (aU.trans rfl) hy4) ?_
   refine az (aI ai (aI aU bZ)) ?_
   obtain ⟨⟨r9,dA⟩,bK,h⟩:=aq h
   dsimp only at h
   refine bB ak (tN (q1:=q6) cA bK) ?_
   refine az (aI ai (aI aU bZ)) ?_
   obtain ⟨kM,bY,h⟩:=aq h
   refine bB ak (cY (q1:=q6) (lf cA) bY) ?_
   refine az (aI ai (aI aU bZ)) ?_
   obtain ⟨⟨gI,ku⟩,cD,h⟩:=aq h
   dsimp only at h
   refine bB ak (jz (q1:=q6) cA cD) ?_
   refine az (aI ai (aI aU bZ)) ?_
   obtain ⟨gK,ct,h⟩:=aq h
   refine bB ak (cY (q1:=q6) (lf cA) ct) ?_
   refine az (aI ai (aI aU bZ)) ?_
   obtain ⟨rfl,rfl⟩:=cw h
   exact hK _ _ _ _ _ aJ ak (kn _ (bW _ (bW _ (bW _ (bW _ (bW _ (bW _ (bW _ hfr))))))) (lf (lf (lf (lf (lf (lf (lf (ai.trans rfl)))))))) cA (lf cA))
 · refine az (aI ai (aI aU bZ)) ?_
   obtain ⟨rfl,rfl⟩:=cw h
   exact hK _ _ _ _ _ aJ ak (kn _ hfr (ai.trans rfl) (aU.trans rfl) (bZ.trans rfl))
theorem AM {s1:List UInt8} {rN:aB} {rQ:aD} {P7:Nat} {H0 H:AH} (hfr:Fr H0 H0.length [] H) (ai:H[P7]? =some [(.str ([]:List UInt8)),(.str ([]:List UInt8))]) (dP:H0.length≤P7) {K:Exit→Env→AH→Prop} {t22:List UInt8} {t23:Int} {Zt:aD}
 (h:jh s1 rN rQ=some (t22,t23,Zt))
 (kn:∀H':AH,Fr H0 H0.length [] H'→H'[P7]? =some [(.str Zt.ay),(.str Zt.domain)]→K .normal [(2,(.ptr P7 0)),(3,(.str t22)),(4,(.int .i64 t23))] H'):
 AX Tryz.prog tQ 45 H0.length (erase ur) K [(0,(.str s1)),(2,(.ptr P7 0)),(5,(.ep (.agg [(.str rN.s),(.int .i64 rN.cC),(.bool rN.bad)]) 0)),(6,(.ep (.agg [(.str rQ.ay),(.str rQ.domain)]) 0))] H:=by
 refine bT fun K' hK=> ?_
 have hle:=hfr.le
 have aM:=aR ai
 rw [jh.eq_1] at h
 obtain ⟨Ev,cG,h⟩:=aq h
 refine az (aI cG ai) ?_
 obtain ⟨rfl,rfl,rfl⟩:=n9 h
 exact hK _ _ _ _ _ aJ ak (kn _ (bW _ hfr) cA)
theorem Ey {F:Nat} {s1:List UInt8} {H0:AH} {aP:aD} {ey:List UInt8} {Ji:Int} (h:oB F s1=some (aP,ey,Ji)):
 aF Tryz.prog 64 [(.str s1)] H0 fun v H'=>v=(.bx [(.agg [(.str aP.ay),(.str aP.domain)]),(.str ey),(.int .i64 Ji)])∧H'=H0:=by
 refine lH GX tQ [] fun hcl K0 aN H hH hfr=> ?_
 clear hH
 have hle:=hfr.le
 rw [oB.eq_1] at h
 refine cN ?_
 obtain ⟨r2,hy1,h⟩:=aq h
 refine bB ak (cY (q1:=(H.length+1)) uH hy1) ?_
 refine cN ?_
 obtain ⟨⟨r3,r4⟩,hy2,h⟩:=aq h
 dsimp only at h
 refine bB ak (dG (q1:=(H.length+1)) (CO cA) hy2) ?_
 refine cN ?_
 obtain ⟨q6,xD⟩:∃q:Nat,(H.length+1)=q:=⟨_,rfl⟩
 try rw [xD]
 obtain ⟨q7,Zu⟩:∃q:Nat,(H.length+2)=q:=⟨_,rfl⟩
 try rw [Zu]
 obtain ⟨q5,C9⟩:∃q:Nat,H.length=q:=⟨_,rfl⟩
 try rw [C9]
 try rw [show q5+1=q6 from by omega]
 try rw [show q6+1=q7 from by omega]
 obtain ⟨⟨rN,rQ⟩,cQ,h⟩:=aq h
 dsimp only at h
 refine bz ak (AL (s1:=s1) (q5:=q5) (q6:=q6) (q7:=q7) (bW _ (Fr.app (bW _ (Fr.app (Fr.app hfr))))) (lf (CO (lf (CO uH)))) cA (lf uH) cq cq cq cq cq cq cQ ?_)
 intro H hfr ai aU bZ
 have hle:=hfr.le
 have aM:=aR ai
 have oC:=aR aU
 have C8:=aR bZ
 refine az (aI ai (aI aU bZ)) ?_
 refine bl h (fun cc h=> ?_) fun cc h=> ?_
 · refine az (aI ai (aI aU bZ)) ?_
   obtain ⟨rfl,rfl,rfl⟩:=n9 h
   exact aN _ _ _ bk (aT (bW _ hfr) hcl (bh (cs:=[(.str ([]:List UInt8)),(.str ([]:List UInt8))]) (v:=(.agg [(.str ([]:List UInt8)),(.str ([]:List UInt8))])) (by kernel_rfl) (n:=(some 2)) (by kernel_rfl) rfl cA (by simp [bE,bD,dD,aS,AV.flat,bS,cu,AV.br,Tg.sh]) (aW (aW bf (.int .i64 3)) (.str ([]:List UInt8)))) bg aX ⟨rfl,rfl⟩)
 · refine az (aI ai (aI aU bZ)) ?_
   obtain ⟨wO,cy,h⟩:=aq h
   refine bB ak (vG cy) ?_
   refine az (aI ai (aI aU bZ)) ?_
   refine bl h (fun cK h=> ?_) fun cK h=> ?_
   · refine az (aI ai (aI aU bZ)) ?_
     obtain ⟨rfl,rfl,rfl⟩:=n9 h
     exact aN _ _ _ bk (aT (bW _ hfr) hcl (bh (cs:=[(.str ([]:List UInt8)),(.str ([]:List UInt8))]) (v:=(.agg [(.str ([]:List UInt8)),(.str ([]:List UInt8))])) (by kernel_rfl) (n:=(some 2)) (by kernel_rfl) rfl cA (by simp [bE,bD,dD,aS,AV.flat,bS,cu,AV.br,Tg.sh]) (aW (aW bf (.int .i64 5)) (.str ([]:List UInt8)))) bg aX ⟨rfl,rfl⟩)
   · refine az (aI ai (aI aU bZ)) ?_
     refine V9 ?_
     apply AX.freeze (s:=q7) (cs:=[(.str rQ.ay),(.str rQ.domain)]) (by exact (bZ.trans rfl)) (gm.same (gm.same (gm.nil))) (by simp) rfl
     · repeat (first|exact FZ.nil|apply FZ.ep|apply FZ.same)
     apply AX.freeze (s:=q6) (cs:=[(.str rN.s),(.int .i64 rN.cC),(.bool rN.bad)]) (by exact (lf (aU.trans rfl))) (gm.same (gm.same (gm.same (gm.nil)))) (by simp) rfl
     · repeat (first|exact FZ.nil|apply FZ.ep|apply FZ.same)
     refine Zq ?_
     obtain ⟨⟨t25,t26,P6⟩,dX,h⟩:=aq h
     dsimp only at h
     refine bz ak (AM (P7:=q5) (bW _ (bW _ hfr)) (lf (lf (ai.trans rfl))) cq dX ?_)
     intro H hfr ai
     have hle:=hfr.le
     have aM:=aR ai
     refine az ai ?_
     obtain ⟨rfl,rfl,rfl⟩:=n9 h
     exact aN _ _ _ bk (aT hfr hcl (bh (cs:=[(.str P6.ay),(.str P6.domain)]) (v:=(.agg [(.str P6.ay),(.str P6.domain)])) (by kernel_rfl) (n:=(some 2)) (by kernel_rfl) rfl (ai.trans rfl) (by simp [bE,bD,dD,aS,AV.flat,bS,cu,AV.br,Tg.sh]) (aW (aW bf (.int .i64 t26)) (.str t25))) bg aX ⟨rfl,rfl⟩)
abbrev vH:av:=(.rg [(au 10 0),(aj 11 (.lens (.t 10))),(au 12 1),(aj 13 (.lens (.t 12))),(aj 14 (.bin .lss (.t 11) (.t 13))),(au 15 14),(ax 16 (.mv (.t 0)) 15 false),(ax 17 (.mv (.t 1)) 15 false),(ax 18 (.lens (.t 17)) 15 false),(ax 19 (.gj (.t 16) none (some (.t 18))) 15 false),(ax 20 (.call (.c (.fn 22 [])) [(.t 19)]) 15 false),(ax 21 (.mv (.t 1)) 15 false),(ax 22 (.bin .neq (.t 20) (.t 21)) 15 false),(aj 23 (.pick (.t 15) (.c (.bool true)) (.t 22)))])
abbrev Jj:av:=(.seq (.rg [(aj 4 (.alloc [(.str []),(.str [])])),(aj 5 (.aO (.c (.str [])))),(aj 6 (.aO (.c (.bool false))))]) (.seq (.seq (.sem (erase vH)) (.cond (.t 23) (.seq (.rg [(aj 24 (.build [(.str []),(.str [])] [])),(cS (.st (.t 4) (.t 24) 2)),(aj 5 (.aO (.c (.str [])))),(aj 6 (.aO (.c (.bool false))))]) .ret) .skip)) (.seq (.rg [(au 26 0),(au 27 1),(aj 28 (.lens (.t 27))),(aj 29 (.gj (.t 26) (some (.t 28)) none)),(aj 30 (.call (.c (.fn 65 [])) [(.t 29),(.c (.str [32]))])),(aj 31 (.call (.c (.fn 64 [])) [(.t 30)])),(au 25 31),(aj 32 (.ext (.t 25) 0)),(aj 33 (.ext (.t 25) 1)),(aj 34 (.ext (.t 25) 2)),(aj 7 (.alloc [(.str []),(.str [])])),(cS (.st (.t 7) (.t 32) 2)),(aQ 8 33),(aQ 9 34)]) (.seq (.rg [(aj 35 (.ld (.t 7) (some 2))),(au 36 8),(au 37 9),(aj 38 (.bin .eql (.t 37) (.c (.int .i64 0)))),(cS (.st (.t 4) (.t 35) 2)),(aQ 5 36),(aQ 6 38)]) .ret))))
theorem Jk:bM Tryz.prog 42 39 [(.cell 4 24),(.tmp 5),(.tmp 6)] (erase Jj):=⟨Tryz.f42,_,rfl,by decide,rfl,by kernel_rfl,rfl,rfl⟩
abbrev Bm:List Nat:=[0,1,4,5,6,7,8,9,23]
def jU (F:Nat) (s1:List UInt8) (iE:List UInt8):Option (Bool):=
 (if (decide ((s1.length:Int)<(iE.length:Int))) then
  some true
 else
  (sub s1 0 (iE.length:Int)).bind fun x4=>
  (fo F x4).bind fun r5=>some (!decide (r5=iE)))
def nU (F:Nat) (s1:List UInt8) (iE:List UInt8):Option (aD×(List UInt8)×Bool):=
 (jU F s1 iE).bind fun t7=>
 (if t7 then
  some ((aD.mk ([]:List UInt8) ([]:List UInt8)),([]:List UInt8),false)
 else
  (sub s1 (iE.length:Int) (s1.length:Int)).bind fun x8=>
  (fm x8 ([32]:List UInt8)).bind fun r9=>
  (oB F r9).bind fun (dA,kM,gI)=>some (dA,kM,(decide (gI=0))))
theorem BH {F:Nat} {s1:List UInt8} {iE:List UInt8} {q3:Nat} {H0 H:AH} (hfr:Fr H0 H0.length [] H) (ai:H[q3]? =some [(.str ([]:List UInt8)),(.str ([]:List UInt8))]) (dP:H0.length≤q3) {K:Exit→Env→AH→Prop} {t6:Bool}
 (h:jU F s1 iE=some t6)
 (kn:∀H':AH,Fr H0 H0.length [] H'→H'[q3]? =some [(.str ([]:List UInt8)),(.str ([]:List UInt8))]→K .normal [(0,(.str s1)),(1,(.str iE)),(4,(.ptr q3 0)),(23,(.bool t6))] H'):
 AX Tryz.prog Bm 39 H0.length (erase vH) K [(0,(.str s1)),(1,(.str iE)),(4,(.ptr q3 0))] H:=by
 refine bT fun K' hK=> ?_
 have hle:=hfr.le
 have aM:=aR ai
 rw [jU.eq_1] at h
 refine az ai ?_
 refine bR h (fun hy1 h=> ?_) fun hy1 h=> ?_
 · refine az (aI hy1 ai) ?_
   obtain rfl:=aA h
   exact hK _ _ _ _ _ aJ ak (kn _ hfr (ai.trans rfl))
 · obtain ⟨x4,hy2,h⟩:=aq h
   refine az (aI hy1 (aI hy2 ai)) ?_
   obtain ⟨r5,hy3,h⟩:=aq h
   refine bB ak (jN hy3) ?_
   refine az ai ?_
   obtain rfl:=aA h
   exact hK _ _ _ _ _ aJ ak (kn _ hfr (ai.trans rfl))
theorem zy {F:Nat} {s1:List UInt8} {iE:List UInt8} {H0:AH} {aP:aD} {ey:List UInt8} {Ji:Bool} (h:nU F s1 iE=some (aP,ey,Ji)):
 aF Tryz.prog 42 [(.str s1),(.str iE)] H0 fun v H'=>v=(.bx [(.agg [(.str aP.ay),(.str aP.domain)]),(.str ey),(.bool Ji)])∧H'=H0:=by
 refine lH Jk Bm [] fun hcl K0 aN H hH hfr=> ?_
 clear hH
 have hle:=hfr.le
 rw [nU.eq_1] at h
 refine cN ?_
 obtain ⟨q3,C7⟩:∃q:Nat,H.length=q:=⟨_,rfl⟩
 try rw [C7]
 obtain ⟨t7,hy4,h⟩:=aq h
 refine bz ak (BH (q3:=q3) (Fr.app hfr) uH cq hy4 ?_)
 intro H hfr ai
 have hle:=hfr.le
 have aM:=aR ai
 refine az ai ?_
 refine bl h (fun bK h=> ?_) fun bK h=> ?_
 · refine az ai ?_
   obtain ⟨rfl,rfl,rfl⟩:=n9 h
   exact aN _ _ _ bk (aT (bW _ hfr) hcl (bh (cs:=[(.str ([]:List UInt8)),(.str ([]:List UInt8))]) (v:=(.agg [(.str ([]:List UInt8)),(.str ([]:List UInt8))])) (by kernel_rfl) (n:=(some 2)) (by kernel_rfl) rfl cA (by simp [bE,bD,dD,aS,AV.flat,bS,cu,AV.br,Tg.sh]) (aW (aW bf (.bool false)) (.str ([]:List UInt8)))) bg aX ⟨rfl,rfl⟩)
 · obtain ⟨x8,bY,h⟩:=aq h
   refine az (aI bY ai) ?_
   obtain ⟨r9,cD,h⟩:=aq h
   refine bB ak (vv (s1:=x8) (s2:=([32]:List UInt8)) cD) ?_
   refine az ai ?_
   obtain ⟨⟨dA,kM,gI⟩,ct,h⟩:=aq h
   dsimp only at h
   refine bB ak (Ey ct) ?_
   refine az ai ?_
   obtain ⟨rfl,rfl,rfl⟩:=n9 h
   exact aN _ _ _ bk (aT (bW _ (bW _ (Fr.app hfr))) hcl (bh (cs:=[(.str dA.ay),(.str dA.domain)]) (v:=(.agg [(.str dA.ay),(.str dA.domain)])) (by kernel_rfl) (n:=(some 2)) (by kernel_rfl) rfl cA (by simp [bE,bD,dD,aS,AV.flat,bS,cu,AV.br,Tg.sh]) (aW (aW bf (.bool (decide (gI=0)))) (.str kM))) bg aX ⟨rfl,rfl⟩)
abbrev vI:av:=(.rg [(au 7 0),(aj 8 (.lens (.t 7))),(aj 9 (.bin .lss (.t 8) (.c (.int .i64 6)))),(au 10 9),(ax 11 (.mv (.t 0)) 10 false),(ax 12 (.gj (.t 11) none (some (.c (.int .i64 6)))) 10 false),(ax 13 (.call (.c (.fn 22 [])) [(.t 12)]) 10 false),(ax 14 (.bin .neq (.t 13) (.c (.str [32,115,105,122,101,61]))) 10 false),(aj 15 (.pick (.t 10) (.c (.bool true)) (.t 14)))])
abbrev vJ:av:=(.rg [(au 23 5),(au 24 6),(aj 25 (.iq false (.t 24) (.c (.v .nilIface)))),(au 26 25),(ax 27 (.mv (.t 4)) 26 true),(ax 28 (.lens (.t 27)) 26 true),(ax 29 (.bin .leq (.t 28) (.c (.int .i64 9))) 26 true),(aj 30 (.pick (.t 26) (.t 29) (.c (.bool false)))),(au 31 30),(ax 32 (.mv (.t 4)) 31 true),(ax 33 (.call (.c (.fn 67 [])) [(.t 32),(.c (.str [48,49,50,51,52,53,54,55,56,57]))]) 31 true),(ax 34 (.bin .eql (.t 33) (.c (.str []))) 31 true),(aj 35 (.pick (.t 31) (.t 34) (.c (.bool false)))),(aQ 2 23),(aQ 3 35)])
abbrev Jl:av:=(.seq (.rg [(aj 2 (.aO (.c (.int .i64 0)))),(aj 3 (.aO (.c (.bool false))))]) (.seq (.seq (.sem (erase vI)) (.cond (.t 15) (.seq (.rg [(aj 2 (.aO (.c (.int .i64 0)))),(aj 3 (.aO (.c (.bool false))))]) .ret) .skip)) (.seq (.rg [(au 16 0),(aj 17 (.gj (.t 16) (some (.c (.int .i64 6))) none)),(aQ 4 17)]) (.seq (.rg [(au 19 4),(aj 20 (.call (.c (.fn 66 [])) [(.t 19)])),(au 18 20),(aj 21 (.ext (.t 18) 0)),(aj 22 (.ext (.t 18) 1)),(aQ 5 21),(aQ 6 22)]) (.seq (.sem (erase vJ)) .ret)))))
theorem Jm:bM Tryz.prog 43 36 [(.tmp 2),(.tmp 3)] (erase Jl):=⟨Tryz.f43,_,rfl,by decide,rfl,by kernel_rfl,rfl,rfl⟩
abbrev vK:List Nat:=[0,2,3,4,5,6,15]
def jV (F:Nat) (s1:List UInt8):Option (Bool):=
 (if (decide ((s1.length:Int)<6)) then
  some true
 else
  (sub s1 0 6).bind fun x2=>
  (fo F x2).bind fun r3=>
  some (!decide (r3=([32,115,105,122,101,61]:List UInt8))))
def nu (r8:Bool) (x6:List UInt8) (r7:Int):Option (Int×Bool):=
 (if (!r8) then
  (if (decide ((x6.length:Int)≤9)) then
   (gC x6 ([48,49,50,51,52,53,54,55,56,57]:List UInt8)).bind fun r9=>some (r7,(decide (r9=([]:List UInt8))))
  else
   some (r7,false))
 else
  some (r7,false))
def sF (F:Nat) (s1:List UInt8):Option (Int×Bool):=
 (jV F s1).bind fun t5=>
 (if t5 then
  some (0,false)
 else
  (sub s1 6 (s1.length:Int)).bind fun x6=>
  (strconv_Atoi x6).bind fun (r7,r8)=>
  (nu r8 x6 r7).bind fun (t12,t13)=>
  some (t12,t13))
theorem BI {F:Nat} {s1:List UInt8} {H:AH} {K:Exit→Env→AH→Prop} {t4:Bool}
 (h:jV F s1=some t4)
 (kn:K .normal [(0,(.str s1)),(15,(.bool t4))] H):
 AX Tryz.prog vK 36 H.length (erase vI) K [(0,(.str s1))] H:=by
 refine bT fun K' hK=> ?_
 rw [jV.eq_1] at h
 refine aC ?_
 refine bR h (fun hy1 h=> ?_) fun hy1 h=> ?_
 · refine aV hy1 ?_
   obtain rfl:=aA h
   exact hK _ _ _ _ _ aJ ak kn
 · obtain ⟨x2,hy2,h⟩:=aq h
   refine aV (aI hy1 hy2) ?_
   obtain ⟨r3,hy3,h⟩:=aq h
   refine bB ak (jN hy3) ?_
   refine aC ?_
   obtain rfl:=aA h
   exact hK _ _ _ _ _ aJ ak kn
theorem BJ {r8:Bool} {x6:List UInt8} {r7:Int} {H:AH} {K:Exit→Env→AH→Prop} {t10:Int} {t11:Bool}
 (h:nu r8 x6 r7=some (t10,t11))
 (kn:K .normal [(2,(.int .i64 t10)),(3,(.bool t11))] H):
 AX Tryz.prog vK 36 H.length (erase vJ) K [(4,(.str x6)),(5,(.int .i64 r7)),(6,(dB r8))] H:=by
 refine bT fun K' hK=> ?_
 rw [nu.eq_1] at h
 refine aC ?_
 refine bR h (fun ct h=> ?_) fun ct h=> ?_
 · refine aV ct ?_
   refine bR h (fun cQ h=> ?_) fun cQ h=> ?_
   · refine aV cQ ?_
     obtain ⟨r9,cc,h⟩:=aq h
     refine bB ak (An (s1:=x6) (s2:=([48,49,50,51,52,53,54,55,56,57]:List UInt8)) cc) ?_
     refine aC ?_
     obtain ⟨rfl,rfl⟩:=cw h
     exact hK _ _ _ _ _ aJ ak kn
   · refine aV cQ ?_
     obtain ⟨rfl,rfl⟩:=cw h
     exact hK _ _ _ _ _ aJ ak kn
 · refine aV ct ?_
   obtain ⟨rfl,rfl⟩:=cw h
   exact hK _ _ _ _ _ aJ ak kn
theorem GY {F:Nat} {s1:List UInt8} {H0:AH} {aP:Int} {ey:Bool} (h:sF F s1=some (aP,ey)):
 aF Tryz.prog 43 [(.str s1)] H0 fun v H'=>v=(.bx [(.int .i64 aP),(.bool ey)])∧H'=H0:=by
 refine fe Jm vK fun hcl K0 aN=> ?_
 rw [sF.eq_1] at h
 refine aC ?_
 obtain ⟨t5,hy4,h⟩:=aq h
 refine bz ak (BI hy4 ?_)
 refine aC ?_
 refine bl h (fun bK h=> ?_) fun bK h=> ?_
 · refine aC ?_
   obtain ⟨rfl,rfl⟩:=cw h
   exact aN _ _ _ bk (aK hcl (aW (aW bf (.bool false)) (.int .i64 0)) bg aX ⟨rfl,rfl⟩)
 · obtain ⟨x6,bY,h⟩:=aq h
   refine aV bY ?_
   obtain ⟨⟨r7,r8⟩,cD,h⟩:=aq h
   dsimp only at h
   refine bB ak (strconv_Atoi_ok (s1:=x6) cD) ?_
   refine aC ?_
   obtain ⟨⟨t12,t13⟩,cy,h⟩:=aq h
   dsimp only at h
   refine bz ak (BJ cy ?_)
   refine aC ?_
   obtain ⟨rfl,rfl⟩:=cw h
   exact aN _ _ _ bk (aK hcl (aW (aW bf (.bool t13)) (.int .i64 t12)) bg aX ⟨rfl,rfl⟩)
abbrev vL:av:=(.cond (.t 18) (.rg [(au 20 5),(aj 21 (.call (.c (.fn 43 [])) [(.t 20)])),(au 19 21),(aj 22 (.ext (.t 19) 0)),(aj 23 (.ext (.t 19) 1)),(aQ 7 22),(aQ 8 23)]) .skip)
abbrev vM:av:=(.rg [(au 25 6),(aj 26 (.un .not (.t 25))),(au 27 26),(ax 28 (.mv (.t 5)) 27 false),(ax 29 (.bin .neq (.t 28) (.c (.str []))) 27 false),(ax 30 (.mv (.t 29)) 27 false),(ax 31 (.mv (.t 5)) 30 true),(ax 32 (.ixs (.t 31) (.c (.int .i64 0))) 30 true),(ax 33 (.bin .neq (.t 32) (.c (b8 32))) 30 true),(ax 34 (.pick (.t 30) (.t 33) (.c (.bool false))) 27 false),(aj 35 (.pick (.t 27) (.c (.bool true)) (.t 34))),(aQ 24 35)])
abbrev Jn:av:=(.seq (.rg [(aj 2 (.alloc [(.int .i64 0),(.str []),(.str []),(.str []),(.int .i64 0)])),(aj 3 (.aO (.c (.int .i64 0))))]) (.seq (.rg [(au 10 0),(aj 11 (.call (.c (.fn 42 [])) [(.t 10),(.c (.str [32,102,114,111,109,58]))])),(au 9 11),(aj 12 (.ext (.t 9) 0)),(aj 13 (.ext (.t 9) 1)),(aj 14 (.ext (.t 9) 2)),(aj 4 (.alloc [(.str []),(.str [])])),(cS (.st (.t 4) (.t 12) 2)),(aQ 5 13),(aQ 6 14)]) (.seq (.rg [(au 15 5),(aj 16 (.bin .eql (.t 15) (.c (.str [])))),(aj 7 (.aO (.c (.int .i64 (-1))))),(aQ 8 16)]) (.seq (.seq (.rg [(au 17 8),(aj 18 (.un .not (.t 17)))]) (.sem (erase vL))) (.seq (.blk 0 (.seq (.sem (erase vM)) (.cond (.t 24) (.seq (.rg [(aj 36 (.build [(.int .i64 0),(.str []),(.str []),(.str []),(.int .i64 0)] [])),(cS (.st (.t 2) (.t 36) 5)),(aj 3 (.aO (.c (.int .i64 501))))]) .ret) (.seq (.rg [(au 38 8),(aj 39 (.un .not (.t 38))),(aQ 37 39)]) (.cond (.t 37) (.seq (.rg [(aj 40 (.build [(.int .i64 0),(.str []),(.str []),(.str []),(.int .i64 0)] [])),(cS (.st (.t 2) (.t 40) 5)),(aj 3 (.aO (.c (.int .i64 555))))]) .ret) .skip))))) (.seq (.rg [(aj 41 (.ld (.t 4) (some 2))),(au 42 7),(aj 43 (.build [(.int .i64 0),(.str []),(.str []),(.str []),(.int .i64 0)] [(0,(1,(.c (.int .i64 3)))),(2,(2,(.t 41))),(4,(1,(.t 42)))])),(cS (.st (.t 2) (.t 43) 5)),(aj 3 (.aO (.c (.int .i64 0))))]) .ret))))))
theorem Jo:bM Tryz.prog 23 44 [(.cell 2 26),(.tmp 3)] (erase Jn):=⟨Tryz.f23,_,rfl,by decide,rfl,by kernel_rfl,rfl,rfl⟩
abbrev vN:List Nat:=[0,2,3,4,5,6,7,8,18,24,37]
def nv (F:Nat) (r3:List UInt8):Option (Int×Bool):=
 (if (!(decide (r3=([]:List UInt8)))) then
  (sF F r3).bind fun (r7,r8)=>some (r7,r8)
 else
  some ((-1),(decide (r3=([]:List UInt8)))))
def ny (r4:Bool) (r3:List UInt8):Option (Bool):=
 (if (!r4) then
  some true
 else
  (if (!decide (r3=([]:List UInt8))) then
   (idx r3 0).bind fun kz=>some (!decide (kz=32))
  else
   some false))
def sG (F:Nat) (s1:List UInt8):Option (aH×Int):=
 (nU F s1 ([32,102,114,111,109,58]:List UInt8)).bind fun (r2,r3,r4)=>
 (nv F r3).bind fun (sH,Da)=>
 (ny r4 r3).bind fun t17=>
 (if t17 then
  some ((aH.mk 0 ([]:List UInt8) (aD.mk ([]:List UInt8) ([]:List UInt8)) 0),501)
 else
  (if (!Da) then
   some ((aH.mk 0 ([]:List UInt8) (aD.mk ([]:List UInt8) ([]:List UInt8)) 0),555)
  else
   some ((aH.mk 3 ([]:List UInt8) r2 sH),0)))
theorem BK {F:Nat} {r3:List UInt8} {q5:Nat} {q6:Nat} {r4:Bool} {r2:aD} {H0 H:AH} (hfr:Fr H0 H0.length [] H) (ai:H[q5]? =some [(.int .i64 0),(.str ([]:List UInt8)),(.str ([]:List UInt8)),(.str ([]:List UInt8)),(.int .i64 0)]) (aU:H[q6]? =some [(.str r2.ay),(.str r2.domain)]) (dP:H0.length≤q5) (hi1:H0.length≤q6) (hi2:q5≠q6) {K:Exit→Env→AH→Prop} {P8:Int} {Xj:Bool}
 (h:nv F r3=some (P8,Xj))
 (kn:∀H':AH,Fr H0 H0.length [] H'→H'[q5]? =some [(.int .i64 0),(.str ([]:List UInt8)),(.str ([]:List UInt8)),(.str ([]:List UInt8)),(.int .i64 0)]→H'[q6]? =some [(.str r2.ay),(.str r2.domain)]→K .normal [(2,(.ptr q5 0)),(4,(.ptr q6 0)),(5,(.str r3)),(6,(.bool r4)),(7,(.int .i64 P8)),(8,(.bool Xj))] H'):
 AX Tryz.prog vN 44 H0.length (erase vL) K [(2,(.ptr q5 0)),(4,(.ptr q6 0)),(5,(.str r3)),(6,(.bool r4)),(7,(.int .i64 (-1))),(8,(.bool (decide (r3=([]:List UInt8))))),(18,(.bool (!(decide (r3=([]:List UInt8))))))] H:=by
 refine bT fun K' hK=> ?_
 have hle:=hfr.le
 have aM:=aR ai
 have oC:=aR aU
 rw [nv.eq_1] at h
 refine az (aI ai aU) ?_
 refine bl h (fun hy2 h=> ?_) fun hy2 h=> ?_
 · refine az (aI ai aU) ?_
   obtain ⟨⟨r7,r8⟩,hy3,h⟩:=aq h
   dsimp only at h
   refine bB ak (GY hy3) ?_
   refine az (aI ai aU) ?_
   obtain ⟨rfl,rfl⟩:=cw h
   exact hK _ _ _ _ _ aJ ak (kn _ hfr (ai.trans rfl) (aU.trans rfl))
 · refine az (aI ai aU) ?_
   obtain ⟨rfl,rfl⟩:=cw h
   exact hK _ _ _ _ _ aJ ak (kn _ hfr (ai.trans rfl) (aU.trans rfl))
theorem BL {r4:Bool} {r3:List UInt8} {kA:Nat} {xE:Nat} {sH:Int} {Da:Bool} {r2:aD} {H0 H:AH} (hfr:Fr H0 H0.length [] H) (ai:H[kA]? =some [(.int .i64 0),(.str ([]:List UInt8)),(.str ([]:List UInt8)),(.str ([]:List UInt8)),(.int .i64 0)]) (aU:H[xE]? =some [(.str r2.ay),(.str r2.domain)]) (dP:H0.length≤kA) (hi1:H0.length≤xE) (hi2:kA≠xE) {K:Exit→Env→AH→Prop} {t16:Bool}
 (h:ny r4 r3=some t16)
 (kn:∀H':AH,Fr H0 H0.length [] H'→H'[kA]? =some [(.int .i64 0),(.str ([]:List UInt8)),(.str ([]:List UInt8)),(.str ([]:List UInt8)),(.int .i64 0)]→H'[xE]? =some [(.str r2.ay),(.str r2.domain)]→K .normal [(2,(.ptr kA 0)),(4,(.ptr xE 0)),(7,(.int .i64 sH)),(8,(.bool Da)),(24,(.bool t16))] H'):
 AX Tryz.prog vN 44 H0.length (erase vM) K [(2,(.ptr kA 0)),(4,(.ptr xE 0)),(5,(.str r3)),(6,(.bool r4)),(7,(.int .i64 sH)),(8,(.bool Da))] H:=by
 refine bT fun K' hK=> ?_
 have hle:=hfr.le
 have aM:=aR ai
 have oC:=aR aU
 rw [ny.eq_1] at h
 refine az (aI ai aU) ?_
 refine bR h (fun bK h=> ?_) fun bK h=> ?_
 · refine az (aI bK (aI ai aU)) ?_
   obtain rfl:=aA h
   exact hK _ _ _ _ _ aJ ak (kn _ hfr (ai.trans rfl) (aU.trans rfl))
 · refine az (aI bK (aI ai aU)) ?_
   refine bR h (fun bY h=> ?_) fun bY h=> ?_
   · obtain ⟨kz,cD,h⟩:=aq h
     refine az (aI bY (aI cD (aI ai aU))) ?_
     obtain rfl:=aA h
     exact hK _ _ _ _ _ aJ ak (kn _ hfr (ai.trans rfl) (aU.trans rfl))
   · refine az (aI bY (aI ai aU)) ?_
     obtain rfl:=aA h
     exact hK _ _ _ _ _ aJ ak (kn _ hfr (ai.trans rfl) (aU.trans rfl))
theorem G0 {F:Nat} {s1:List UInt8} {H0:AH} {aP:aH} {ey:Int} (h:sG F s1=some (aP,ey)):
 aF Tryz.prog 23 [(.str s1)] H0 fun v H'=>v=(.bx [(.agg [(.int .i64 aP.kind),(.str aP.arg),(.str aP.path.ay),(.str aP.path.domain),(.int .i64 aP.size)]),(.int .i64 ey)])∧H'=H0:=by
 refine lH Jo vN [] fun hcl K0 aN H hH hfr=> ?_
 clear hH
 have hle:=hfr.le
 rw [sG.eq_1] at h
 refine cN ?_
 obtain ⟨⟨r2,r3,r4⟩,hy1,h⟩:=aq h
 dsimp only at h
 refine bB ak (zy hy1) ?_
 refine cN ?_
 obtain ⟨q6,xD⟩:∃q:Nat,(H.length+1)=q:=⟨_,rfl⟩
 try rw [xD]
 obtain ⟨q5,C9⟩:∃q:Nat,H.length=q:=⟨_,rfl⟩
 try rw [C9]
 try rw [show q5+1=q6 from by omega]
 obtain ⟨⟨sH,Da⟩,hy4,h⟩:=aq h
 dsimp only at h
 refine bz ak (BK (r4:=r4) (r2:=r2) (q5:=q5) (q6:=q6) (bW _ (Fr.app (Fr.app hfr))) (lf (CO uH)) cA cq cq cq hy4 ?_)
 intro H hfr ai aU
 have hle:=hfr.le
 have aM:=aR ai
 have oC:=aR aU
 refine az (aI ai aU) ?_
 obtain ⟨t17,ct,h⟩:=aq h
 refine bz ak (BL (sH:=sH) (Da:=Da) (r2:=r2) (kA:=q5) (xE:=q6) hfr (ai.trans rfl) (aU.trans rfl) cq cq cq ct ?_)
 intro H hfr ai aU
 have hle:=hfr.le
 have aM:=aR ai
 have oC:=aR aU
 refine az (aI ai aU) ?_
 refine bl h (fun cQ h=> ?_) fun cQ h=> ?_
 · refine az (aI ai aU) ?_
   obtain ⟨rfl,rfl⟩:=cw h
   exact aN _ _ _ bk (aT (bW _ hfr) hcl (bh (cs:=[(.int .i64 0),(.str ([]:List UInt8)),(.str ([]:List UInt8)),(.str ([]:List UInt8)),(.int .i64 0)]) (v:=(.agg [(.int .i64 0),(.str ([]:List UInt8)),(.str ([]:List UInt8)),(.str ([]:List UInt8)),(.int .i64 0)])) (by kernel_rfl) (n:=(some 5)) (by kernel_rfl) rfl cA (by simp [bE,bD,dD,aS,AV.flat,bS,cu,AV.br,Tg.sh]) (aW bf (.int .i64 501))) bg aX ⟨rfl,rfl⟩)
 · refine az (aI ai aU) ?_
   refine bl h (fun cc h=> ?_) fun cc h=> ?_
   · refine az (aI ai aU) ?_
     obtain ⟨rfl,rfl⟩:=cw h
     exact aN _ _ _ bk (aT (bW _ hfr) hcl (bh (cs:=[(.int .i64 0),(.str ([]:List UInt8)),(.str ([]:List UInt8)),(.str ([]:List UInt8)),(.int .i64 0)]) (v:=(.agg [(.int .i64 0),(.str ([]:List UInt8)),(.str ([]:List UInt8)),(.str ([]:List UInt8)),(.int .i64 0)])) (by kernel_rfl) (n:=(some 5)) (by kernel_rfl) rfl cA (by simp [bE,bD,dD,aS,AV.flat,bS,cu,AV.br,Tg.sh]) (aW bf (.int .i64 555))) bg aX ⟨rfl,rfl⟩)
   · refine az (aI ai aU) ?_
     obtain ⟨rfl,rfl⟩:=cw h
     exact aN _ _ _ bk (aT (bW _ hfr) hcl (bh (cs:=[(.int .i64 3),(.str ([]:List UInt8)),(.str r2.ay),(.str r2.domain),(.int .i64 sH)]) (v:=(.agg [(.int .i64 3),(.str ([]:List UInt8)),(.str r2.ay),(.str r2.domain),(.int .i64 sH)])) (by kernel_rfl) (n:=(some 5)) (by kernel_rfl) rfl cA (by simp [bE,bD,dD,aS,AV.flat,bS,cu,AV.br,Tg.sh]) (aW bf (.int .i64 0))) bg aX ⟨rfl,rfl⟩)
abbrev vO:av:=(.rg [(au 14 6),(aj 15 (.un .not (.t 14))),(au 16 15),(ax 17 (.ld (.t 4) (some 2)) 16 false),(ax 18 (.build [(.str []),(.str [])] []) 16 false),(ax 19 (.seq [.s, .s] false (.t 17) (.t 18)) 16 false),(aj 20 (.pick (.t 16) (.c (.bool true)) (.t 19))),(au 21 20),(ax 22 (.mv (.t 5)) 21 false),(ax 23 (.bin .neq (.t 22) (.c (.str []))) 21 false),(ax 24 (.mv (.t 23)) 21 false),(ax 25 (.mv (.t 5)) 24 true),(ax 26 (.ixs (.t 25) (.c (.int .i64 0))) 24 true),(ax 27 (.bin .neq (.t 26) (.c (b8 32))) 24 true),(ax 28 (.pick (.t 24) (.t 27) (.c (.bool false))) 21 false),(aj 29 (.pick (.t 21) (.c (.bool true)) (.t 28))),(aQ 13 29)])
abbrev Jp:av:=(.seq (.rg [(aj 2 (.alloc [(.int .i64 0),(.str []),(.str []),(.str []),(.int .i64 0)])),(aj 3 (.aO (.c (.int .i64 0))))]) (.seq (.rg [(au 8 0),(aj 9 (.call (.c (.fn 42 [])) [(.t 8),(.c (.str [32,116,111,58]))])),(au 7 9),(aj 10 (.ext (.t 7) 0)),(aj 11 (.ext (.t 7) 1)),(aj 12 (.ext (.t 7) 2)),(aj 4 (.alloc [(.str []),(.str [])])),(cS (.st (.t 4) (.t 10) 2)),(aQ 5 11),(aQ 6 12)]) (.seq (.blk 0 (.seq (.sem (erase vO)) (.cond (.t 13) (.seq (.rg [(aj 30 (.build [(.int .i64 0),(.str []),(.str []),(.str []),(.int .i64 0)] [])),(cS (.st (.t 2) (.t 30) 5)),(aj 3 (.aO (.c (.int .i64 501))))]) .ret) (.seq (.rg [(au 32 5),(aj 33 (.bin .neq (.t 32) (.c (.str [])))),(aQ 31 33)]) (.cond (.t 31) (.seq (.rg [(aj 34 (.build [(.int .i64 0),(.str []),(.str []),(.str []),(.int .i64 0)] [])),(cS (.st (.t 2) (.t 34) 5)),(aj 3 (.aO (.c (.int .i64 555))))]) .ret) .skip))))) (.seq (.rg [(aj 35 (.ld (.t 4) (some 2))),(aj 36 (.build [(.int .i64 0),(.str []),(.str []),(.str []),(.int .i64 0)] [(0,(1,(.c (.int .i64 4)))),(2,(2,(.t 35)))])),(cS (.st (.t 2) (.t 36) 5)),(aj 3 (.aO (.c (.int .i64 0))))]) .ret))))
theorem Jq:bM Tryz.prog 24 37 [(.cell 2 26),(.tmp 3)] (erase Jp):=⟨Tryz.f24,_,rfl,by decide,rfl,by kernel_rfl,rfl,rfl⟩
abbrev Bn:List Nat:=[0,2,3,4,5,6,13,31]
def nH (r4:Bool) (r2:aD) (r3:List UInt8):Option (Bool):=
 (if (!r4) then
  some true
 else
  (if (decide (r2.ay=([]:List UInt8))&&decide (r2.domain=([]:List UInt8))) then
   some true
  else
   (if (!decide (r3=([]:List UInt8))) then
    (idx r3 0).bind fun x7=>some (!decide (x7=32))
   else
    some false)))
def sI (F:Nat) (s1:List UInt8):Option (aH×Int):=
 (nU F s1 ([32,116,111,58]:List UInt8)).bind fun (r2,r3,r4)=>
 (nH r4 r2 r3).bind fun t9=>
 (if t9 then
  some ((aH.mk 0 ([]:List UInt8) (aD.mk ([]:List UInt8) ([]:List UInt8)) 0),501)
 else
  (if (!decide (r3=([]:List UInt8))) then
   some ((aH.mk 0 ([]:List UInt8) (aD.mk ([]:List UInt8) ([]:List UInt8)) 0),555)
  else
   some ((aH.mk 4 ([]:List UInt8) r2 0),0)))
theorem BM {r4:Bool} {r2:aD} {r3:List UInt8} {q5:Nat} {q6:Nat} {H0 H:AH} (hfr:Fr H0 H0.length [] H) (ai:H[q5]? =some [(.int .i64 0),(.str ([]:List UInt8)),(.str ([]:List UInt8)),(.str ([]:List UInt8)),(.int .i64 0)]) (aU:H[q6]? =some [(.str r2.ay),(.str r2.domain)]) (dP:H0.length≤q5) (hi1:H0.length≤q6) (hi2:q5≠q6) {K:Exit→Env→AH→Prop} {t8:Bool}
 (h:nH r4 r2 r3=some t8)
 (kn:∀H':AH,Fr H0 H0.length [] H'→H'[q5]? =some [(.int .i64 0),(.str ([]:List UInt8)),(.str ([]:List UInt8)),(.str ([]:List UInt8)),(.int .i64 0)]→H'[q6]? =some [(.str r2.ay),(.str r2.domain)]→K .normal [(2,(.ptr q5 0)),(4,(.ptr q6 0)),(5,(.str r3)),(13,(.bool t8))] H'):
 AX Tryz.prog Bn 37 H0.length (erase vO) K [(2,(.ptr q5 0)),(4,(.ptr q6 0)),(5,(.str r3)),(6,(.bool r4))] H:=by
 refine bT fun K' hK=> ?_
 have hle:=hfr.le
 have aM:=aR ai
 have oC:=aR aU
 rw [nH.eq_1] at h
 refine az (aI ai aU) ?_
 refine bR h (fun hy2 h=> ?_) fun hy2 h=> ?_
 · refine az (aI hy2 (aI ai aU)) ?_
   obtain rfl:=aA h
   exact hK _ _ _ _ _ aJ ak (kn _ hfr (ai.trans rfl) (aU.trans rfl))
 · refine az (aI hy2 (aI ai aU)) ?_
   refine bR h (fun hy3 h=> ?_) fun hy3 h=> ?_
   · refine az (aI hy3 (aI ai aU)) ?_
     obtain rfl:=aA h
     exact hK _ _ _ _ _ aJ ak (kn _ hfr (ai.trans rfl) (aU.trans rfl))
   · refine az (aI hy3 (aI ai aU)) ?_
     refine bR h (fun hy4 h=> ?_) fun hy4 h=> ?_
     · obtain ⟨x7,bK,h⟩:=aq h
       refine az (aI hy4 (aI bK (aI ai aU))) ?_
       obtain rfl:=aA h
       exact hK _ _ _ _ _ aJ ak (kn _ hfr (ai.trans rfl) (aU.trans rfl))
     · refine az (aI hy4 (aI ai aU)) ?_
       obtain rfl:=aA h
       exact hK _ _ _ _ _ aJ ak (kn _ hfr (ai.trans rfl) (aU.trans rfl))
theorem G1 {F:Nat} {s1:List UInt8} {H0:AH} {aP:aH} {ey:Int} (h:sI F s1=some (aP,ey)):
 aF Tryz.prog 24 [(.str s1)] H0 fun v H'=>v=(.bx [(.agg [(.int .i64 aP.kind),(.str aP.arg),(.str aP.path.ay),(.str aP.path.domain),(.int .i64 aP.size)]),(.int .i64 ey)])∧H'=H0:=by
 refine lH Jq Bn [] fun hcl K0 aN H hH hfr=> ?_
 clear hH
 have hle:=hfr.le
 rw [sI.eq_1] at h
 refine cN ?_
 obtain ⟨⟨r2,r3,r4⟩,hy1,h⟩:=aq h
 dsimp only at h
 refine bB ak (zy hy1) ?_
 refine cN ?_
 obtain ⟨q6,xD⟩:∃q:Nat,(H.length+1)=q:=⟨_,rfl⟩
 try rw [xD]
 obtain ⟨q5,C9⟩:∃q:Nat,H.length=q:=⟨_,rfl⟩
 try rw [C9]
 try rw [show q5+1=q6 from by omega]
 obtain ⟨t9,bY,h⟩:=aq h
 refine bz ak (BM (q5:=q5) (q6:=q6) (bW _ (Fr.app (Fr.app hfr))) (lf (CO uH)) cA cq cq cq bY ?_)
 intro H hfr ai aU
 have hle:=hfr.le
 have aM:=aR ai
 have oC:=aR aU
 refine az (aI ai aU) ?_
 refine bl h (fun cD h=> ?_) fun cD h=> ?_
 · refine az (aI ai aU) ?_
   obtain ⟨rfl,rfl⟩:=cw h
   exact aN _ _ _ bk (aT (bW _ hfr) hcl (bh (cs:=[(.int .i64 0),(.str ([]:List UInt8)),(.str ([]:List UInt8)),(.str ([]:List UInt8)),(.int .i64 0)]) (v:=(.agg [(.int .i64 0),(.str ([]:List UInt8)),(.str ([]:List UInt8)),(.str ([]:List UInt8)),(.int .i64 0)])) (by kernel_rfl) (n:=(some 5)) (by kernel_rfl) rfl cA (by simp [bE,bD,dD,aS,AV.flat,bS,cu,AV.br,Tg.sh]) (aW bf (.int .i64 501))) bg aX ⟨rfl,rfl⟩)
 · refine az (aI ai aU) ?_
   refine bl h (fun ct h=> ?_) fun ct h=> ?_
   · refine az (aI ai aU) ?_
     obtain ⟨rfl,rfl⟩:=cw h
     exact aN _ _ _ bk (aT (bW _ hfr) hcl (bh (cs:=[(.int .i64 0),(.str ([]:List UInt8)),(.str ([]:List UInt8)),(.str ([]:List UInt8)),(.int .i64 0)]) (v:=(.agg [(.int .i64 0),(.str ([]:List UInt8)),(.str ([]:List UInt8)),(.str ([]:List UInt8)),(.int .i64 0)])) (by kernel_rfl) (n:=(some 5)) (by kernel_rfl) rfl cA (by simp [bE,bD,dD,aS,AV.flat,bS,cu,AV.br,Tg.sh]) (aW bf (.int .i64 555))) bg aX ⟨rfl,rfl⟩)
   · refine az (aI ai aU) ?_
     obtain ⟨rfl,rfl⟩:=cw h
     exact aN _ _ _ bk (aT (bW _ hfr) hcl (bh (cs:=[(.int .i64 4),(.str ([]:List UInt8)),(.str r2.ay),(.str r2.domain),(.int .i64 0)]) (v:=(.agg [(.int .i64 4),(.str ([]:List UInt8)),(.str r2.ay),(.str r2.domain),(.int .i64 0)])) (by kernel_rfl) (n:=(some 5)) (by kernel_rfl) rfl cA (by simp [bE,bD,dD,aS,AV.flat,bS,cu,AV.br,Tg.sh]) (aW bf (.int .i64 0))) bg aX ⟨rfl,rfl⟩)
end Go.Proofs.ei
end
