import Derived.Test.YtboghagbiokafaaGreatDoorM2
import Derived.Shelf.Strconv.Itoa3
import Derived.Shelf.Strings.Trim
import Derived.Shelf.Small.Utf8
import Derived.Shelf.Small.Strs
import Derived.Shelf.Utf8.RuneCount
import Derived.Shelf.Strconv.Atoi
import Derived.Shelf.Strconv.Itoa0
import Derived.Shelf.Strconv.Itoa1
import Derived.Shelf.LaysM
import Derived.Shelf.Strconv.Itoa2
import Derived.Shelf.Strconv.AtoiErrFast
import Derived.Shelf.Strconv.ParseIntEmpty
import Derived.Shelf.Strconv.AtoiFail
import Derived.Shelf.Strconv.Clone
import Derived.Shelf.Strconv.SyntaxError
import Derived.Shelf.LaysC
import Derived.Shelf.Strconv.ToError
import Derived.Shelf.Strconv.Lower
import Derived.Shelf.Strconv.ParseUint10
import Derived.Shelf.Strconv.ParseUint10Empty
import Derived.Shelf.Strconv.ParseUint10Any
import Derived.Shelf.Strconv.ParseInt10
import Derived.Shelf.Strconv.AtoiLong
import Derived.Shelf.Strconv.AtoiInnerAll
import Derived.Shelf.Strconv.RangeError
import Derived.Shelf.Strconv.ToErrorRange
import Derived.Shelf.Strconv.AtoiAll
import Derived.Shelf.Strconv.ErrVarAll
import Derived.Shelf.Strings.Search1
import Derived.Shelf.Strings.Search2
import Derived.Shelf.Strings.Search3
import Derived.Shelf.Strings.Cut
import Derived.Shelf.Strings.Count
import Derived.Shelf.Strings.Shaped
import Derived.Shelf.Strings.Split
import Derived.Shelf.Strings.SplitShaped
import Derived.Shelf.Unicode.Decode
import Derived.Shelf.Strings.Runes
import Derived.Shelf.Strings.RuneCount
import Derived.Shelf.Strings.AsciiSet
import Derived.Shelf.Strings.Explode
import Derived.Shelf.Unicode.DecodeSlow
import Derived.Shelf.Unicode.DecodeAny
import Derived.Shelf.Unicode.DecodeLast
import Derived.Test.YtboghagbiokafaaGreatDoorProg
import Derived.Lib.Split
import Derived.Shelf.Strings.SlTrimAscii
set_option linter.unusedSimpArgs false
set_option linter.unusedVariables false
set_option linter.unusedSectionVars false
set_option linter.defProp false
section
namespace Go.Am
open Go
variable [Tabs]
def EK (k:Nat) (xs:List AV):Prop:=∀(i:Nat) (a:AV),xs[i]? =some a→a.cells.length=k∧cy a.cells=true∧gZ a.cells=true∧aX a.cells=true
theorem EK.ml {α:Type} {f:α→AV} {k:Nat} (h:∀x,(f x).cells.length=k∧cy (f x).cells=true∧gZ (f x).cells=true∧aX (f x).cells=true) (l:List α):EK k (ml f l):=by
 intro i a hi
 simp only [Am.ml,List.getElem?_map,Option.map_eq_some_iff] at hi
 obtain ⟨x, -,rfl⟩:=hi
 exact h x
def fla (xs:List AV):List AV:=(xs.map fun a=>a.cells.map AV.s1).flatten
theorem ov (a:AV) (xs:List AV):fla (a::xs)=a.cells.map AV.s1++fla xs:=rfl
theorem MA (xs ys:List AV):fla (xs++ys)=fla xs++fla ys:=by simp [fla]
theorem EK.tail {k:Nat} {a:AV} {xs:List AV} (h:EK k (a::xs)):EK k xs:=fun i b hb=>h (i+1) b (by simpa using hb)
theorem oP {k:Nat}:∀ {xs:List AV},EK k xs→(fla xs).length=xs.length*k:=by
 intro xs
 induction xs with
 |nil=>intro _;simp [fla]
 |cons a r ih=>intro h;rw [ov,List.length_append,List.length_map,ih h.tail,(h 0 a rfl).1,List.length_cons,Nat.succ_mul];omega
theorem MB {k:Nat}:∀ {xs:List AV},EK k xs→∀(i j:Nat) (a:AV),xs[i]? =some a→j<k→(fla xs)[i*k+j]? =(a.cells.map AV.s1)[j]? :=by
 intro xs
 induction xs with
 |nil=>intro _ i j a h;simp at h
 |cons y r ih=>
  intro h i j a hi hj
  have hy:=(h 0 y rfl).1
  rw [ov]
  cases i with
  |zero=>
   simp at hi;subst hi
   rw [List.getElem?_append_left (by simp;omega)];simp
  |succ i=>
   rw [List.getElem?_append_right (by simp only [List.length_map,hy,Nat.succ_mul];omega)]
   rw [show (i+1)*k+j - (y.cells.map AV.s1).length=i*k+j by simp only [List.length_map,hy,Nat.succ_mul];omega]
   exact ih h.tail i j a (by simpa using hi) hj
theorem XM {k:Nat}:∀ {xs:List AV},EK k xs→∀(i j:Nat) (a a' w:AV),xs[i]? =some a→j<k→a'.cells.map AV.s1=(a.cells.map AV.s1).set j w→fla (xs.set i a')=(fla xs).set (i*k+j) w:=by
 intro xs
 induction xs with
 |nil=>intro _ i j a a' w h;simp at h
 |cons y r ih=>
  intro h i j a a' w hi hj hw
  have hy:=(h 0 y rfl).1
  cases i with
  |zero=>
   simp at hi;subst hi
   rw [List.set_cons_zero,ov,ov,hw,List.set_append_left _ _ (by simp;omega)];simp
  |succ i=>
   rw [List.set_cons_succ,ov,ov,ih h.tail i j a a' w (by simpa using hi) hj hw,List.set_append_right _ _ (by simp only [List.length_map,hy,Nat.succ_mul];omega)]
   rw [show (i+1)*k+j - (y.cells.map AV.s1).length=i*k+j by simp only [List.length_map,hy,Nat.succ_mul];omega]
theorem adt (a:AV):a.s1.s1=a.s1:=by cases a<;>rfl
theorem aaQ (xs:List AV):(fla xs).map AV.s1=fla xs:=by
 unfold fla
 rw [List.map_flatten,List.map_map]
 congr 1
 apply List.map_congr_left
 intro a _
 simp [List.map_map,Function.comp_def,adt]
theorem FO {k:Nat}:∀ {xs:List AV},EK k xs→∀(q:Nat) (a:AV),(fla xs)[q]? =some a→a.flat=true∧a.np=true∧a.j3=true:=by
 intro xs
 induction xs with
 |nil=>intro _ q a h;simp [fla] at h
 |cons y r ih=>
  intro h q a hq
  rw [ov] at hq
  by_cases hlt:q<(y.cells.map AV.s1).length
  · rw [List.getElem?_append_left hlt,List.getElem?_map,Option.map_eq_some_iff] at hq
    obtain ⟨z,hz,rfl⟩:=hq
    have h1:=kL (h 0 y rfl).2.2.2 hz
    have h2:=vV (h 0 y rfl).2.2.1 hz
    have h3:z.j3=true:=by
     have:=(h 0 y rfl).2.1
     generalize y.cells=l at this hz
     clear hlt
     induction l generalizing q with
     |nil=>simp at hz
     |cons b l ihl=>
      simp only [cy,Bool.and_eq_true] at this
      cases q with
      |zero=>simp at hz;subst hz;exact this.1
      |succ q=>exact ihl q this.2 (by simpa using hz)
    cases z<;>simp_all [AV.s1,AV.flat,AV.np,AV.j3]
  · rw [List.getElem?_append_right (by omega)] at hq
    exact ih h.tail _ a hq
theorem MC {l:List AV} (h:∀(q:Nat) (a:AV),l[q]? =some a→a.flat=true):aX l=true:=by
 induction l with
 |nil=>rfl
 |cons a r ih=>simp only [aX,Bool.and_eq_true];exact ⟨h 0 a rfl,ih fun q b hb=>h (q+1) b (by simpa using hb)⟩
theorem nk (k:Nat) (xs:List AV) (c:Nat):mK k xs c=fla xs++List.replicate ((c - xs.length)*k) .un:=rfl
theorem BS {k c:Nat} {xs:List AV} (h:EK k xs) (hc:xs.length≤c):(mK k xs c).length=c*k:=by
 rw [nk,List.length_append,oP h,List.length_replicate, ←Nat.add_mul];congr 1;omega
theorem C8 {k c:Nat} {xs:List AV} (h:EK k xs):(mK k xs c).take (xs.length*k)=fla xs:=by
 rw [nk,List.take_append_of_le_length (by rw [oP h];exact Nat.le_refl _),List.take_of_length_le (by rw [oP h];exact Nat.le_refl _)]
theorem XN {k c i j:Nat} {xs:List AV} {a:AV} (h:EK k xs) (hi:xs[i]? =some a) (hj:j<k):(mK k xs c)[i*k+j]? =(a.cells.map AV.s1)[j]? :=by
 have hlt:i<xs.length:=(List.getElem?_eq_some_iff.1 hi).1
 have:(i+1)*k≤xs.length*k:=Nat.mul_le_mul_right _ hlt
 rw [Nat.succ_mul] at this
 rw [nk,List.getElem?_append_left (by rw [oP h];omega),MB h i j a hi hj]
theorem Ud {k c i j:Nat} {xs:List AV} {a a' w:AV} (h:EK k xs) (hi:xs[i]? =some a) (hj:j<k) (hw:a'.cells.map AV.s1=(a.cells.map AV.s1).set j w):
 over (mK k xs c) (i*k+j) [w]=some (mK k (xs.set i a') c):=by
 have hlt:i<xs.length:=(List.getElem?_eq_some_iff.1 hi).1
 have hm:(i+1)*k≤xs.length*k:=Nat.mul_le_mul_right _ hlt
 rw [Nat.succ_mul] at hm
 have hl:=oP h
 unfold over
 rw [if_pos (by rw [nk,List.length_append,hl,List.length_singleton];omega)]
 congr 1
 rw [nk k (xs.set i a'),List.length_set,XM h i j a a' w hi hj hw,nk]
 rw [←List.set_append_left _ _ (by rw [hl];omega)]
 rw [List.set_eq_take_append_cons_drop,if_pos (by rw [List.length_append,hl];omega)]
 simp
def GF (k n0 q:Nat) (xs:List AV) (c:Nat) (ah:AH):Prop:=
 (c=0∧xs=[])∨(n0≤q∧0<c∧xs.length≤c∧ah[q]? =some (mK k xs c))
theorem GF.lt {k n0 q c:Nat} {xs:List AV} {ah:AH} (h:GF k n0 q xs c ah) (hc:0<c):q<ah.length∧n0≤q:=by
 rcases h with ⟨h, -⟩|⟨h1, -, -,h2⟩
 · omega
 · exact ⟨(List.getElem?_eq_some_iff.1 h2).1,h1⟩
theorem GF.nil {k n0 q:Nat} {ah:AH}:GF k n0 q [] 0 ah:= .inl ⟨rfl,rfl⟩
theorem GF.at {k n0 q c i:Nat} {xs:List AV} {ah:AH} {a:AV} (h:GF k n0 q xs c ah) (hi:xs[i]? =some a):n0≤q∧ah[q]? =some (mK k xs c):=by
 rcases h with ⟨-,rfl⟩|⟨h1, -, -,h2⟩
 · simp at hi
 · exact ⟨h1,h2⟩
theorem GF.of {k n0 q c:Nat} {xs:List AV} {ah aH:AH} (h:GF k n0 q xs c ah) (he:q<ah.length→n0≤q→aH[q]? =ah[q]?):GF k n0 q xs c aH:=by
 rcases h with h|⟨h1,h2,h3,h4⟩
 · exact .inl h
 · exact .inr ⟨h1,h2,h3,by rw [he (List.getElem?_eq_some_iff.1 h4).1 h1];exact h4⟩
theorem GF.set {k n0 q c i:Nat} {xs:List AV} {ah:AH} {a a':AV} (h:GF k n0 q xs c ah) (hi:xs[i]? =some a):GF k n0 q (xs.set i a') c (ah.set q (mK k (xs.set i a') c)):=by
 rcases h with ⟨-,rfl⟩|⟨h1,h2,h3,h4⟩
 · simp at hi
 · exact .inr ⟨h1,h2,by simpa using h3,List.getElem?_set_self (List.getElem?_eq_some_iff.1 h4).1⟩
section
variable {P:Program} {L:List Nat} {N n0:Nat} {e:Env} {ah:AH} {t:List It} {Q:Exit→Env→AH→Prop} {r:List aQ} {d:Option Nat} {g:Option (Nat×Bool)}
theorem XO {α:Type} {f:α→AV} {k b q c n1:Nat} {x y:Ar} {tg:Tg} {X Y Z:List α} {ys:List AV} (hf:∀x,(f x).cells.length=k∧cy (f x).cells=true∧gZ (f x).cells=true∧aX (f x).cells=true)
 (hk0:0<k) (hx:ev e x= .cK q k X.length c) (hy:ev e y= .sl tg k ys) (hys:ys=ml f Y) (hY:Y≠[]) (hz:fq b X Y=some Z) (hG:GF k n1 q (ml f X) c ah) (hn:n1≤ah.length)
 (hK:∀q' c' aH,GF k n1 q' (ml f Z) c' aH→(∀s,s<ah.length→s<n1∨(0<c→s≠q)→aH[s]? =ah[s]?)→ah.length≤aH.length→(q'=q∨ah.length≤q')→
  U P L N n0 (.ops r::t) Q .normal (aI L e d (.cK q' k Z.length c')) aH):
 UG P L N n0 ⟨d, .oc k b x y,g⟩ r t Q e ah (some true):=by
 subst hys
 obtain ⟨hc,hZ⟩:=JB hz
 injection hZ with hZ
 subst hZ
 have eX:=EK.ml hf X
 have eY:=EK.ml hf Y
 have eXY:EK k (ml f (X++Y)):=EK.ml hf _
 have hap:ml f (X++Y)=ml f X++ml f Y:=by simp [ml]
 have lX:(ml f X).length=X.length:=by simp [ml]
 have lY:(ml f Y).length=Y.length:=by simp [ml]
 have hyp:0<Y.length:=List.length_pos_iff.2 hY
 show qD L d k b x y e ah fun e ah=>U P L N n0 (.ops r::t) Q .normal e ah
 unfold qD
 rw [hx,hy]
 refine ⟨rfl,rfl,by simpa [ml] using hY,by rw [lY];exact hc.1,by rw [lY];exact hc.2, ?_⟩
 have lXY:(X++Y).length=X.length+Y.length:=List.length_append
 rcases hG with ⟨rfl,hX⟩|⟨h1,h2,h3,h4⟩
 · have hX:X=[]:=by simpa [ml] using hX
   subst hX
   refine .inl ⟨rfl,rfl,fun c' cz=> ?_⟩
   rw [lY] at cz ⊢
   have:=hK ah.length c' (ah++[mK k (ml f Y) c']) (.inr ⟨hn,by omega,by simpa [ml] using cz,by simp⟩) (fun s hs _=>List.getElem?_append_left hs) (by simp) (.inr (Nat.le_refl _))
   simpa using this
 · rw [lX] at h3
   have hlt:=(List.getElem?_eq_some_iff.1 h4).1
   refine .inr ⟨_,h4,fun h0=> ?_,BS eX (by rw [lX];exact h3),h3, ?_,fun hr=> ?_,fun hr c' cz=> ?_⟩
   · have:=BS eX (c:=c) (by rw [lX];exact h3)
     rw [h0] at this
     have h5:=Nat.mul_pos h2 hk0
     simp at this
     omega
   · rw [←lX,C8 eX];exact MC fun q a hq=>(FO eX q a hq).1
   · rw [lY] at hr ⊢
     have e1:(mK k (ml f X) c).take (X.length*k)++((ml f Y).map fun a=>a.cells.map AV.s1).flatten++(mK k (ml f X) c).drop ((X.length+Y.length)*k)=mK k (ml f (X++Y)) c:=by
      have t1:=C8 (c:=c) eX
      rw [lX] at t1
      rw [t1,nk k (ml f (X++Y)),hap,MA]
      show fla (ml f X)++fla (ml f Y)++_=_
      congr 1
      rw [nk,List.drop_append,List.drop_of_length_le (by rw [oP eX,lX];exact Nat.mul_le_mul_right _ (by omega)),List.nil_append,List.drop_replicate]
      congr 1
      rw [oP eX,List.length_append,lX,lY, ←Nat.sub_mul, ←Nat.sub_mul]
      congr 1
      omega
     rw [e1]
     have:=hK q c (ah.set q (mK k (ml f (X++Y)) c)) (.inr ⟨h1,h2,by simpa [ml] using hr,List.getElem?_set_self hlt⟩) (fun s hs hq=>List.getElem?_set_ne (hq.elim (fun h=>by omega) (fun h=>Ne.symm (h h2)))) (by simp) (.inl rfl)
     rw [lXY] at this
     exact this
   · rw [lY] at cz hr ⊢
     have e1:((mK k (ml f X) c).take (X.length*k)).map AV.s1++mK k (ml f Y) (c' - X.length)=mK k (ml f (X++Y)) c':=by
      have t1:=C8 (c:=c) eX
      rw [lX] at t1
      rw [t1,aaQ,nk,nk,hap,MA,List.append_assoc]
      congr 3
      rw [List.length_append,lX,lY];congr 1;omega
     rw [e1]
     have:=hK ah.length c' (ah++[mK k (ml f (X++Y)) c']) (.inr ⟨hn,by omega,by simpa [ml] using cz,by simp⟩) (fun s hs _=>List.getElem?_append_left hs) (by simp) (.inr (Nat.le_refl _))
     rw [lXY] at this
     exact this
theorem adu {q k n c:Nat}:Rj L e ah d (.cK q k n c)=some (aI L e d (.int .i64 n),ah):=rfl
theorem afi {q k n c:Nat} {ki:IntKind} {i:Int}:BP L e ah d k (.cK q k n c) (.int ki i)=(zE n i).map fun j=>(aI L e d (.ptr q (j*k)),ah):=by
 simp only [BP,zE,and_true]
 split<;>simp
theorem adv {k m s p:Nat} {ki:IntKind} {i:Int}:LF L e ah d k m (.ptr s p) (.int ki i)=(zE m i).map fun j=>(aI L e d (.ptr s (p+j*k)),ah):=by
 simp only [LF,zE]
 split<;>simp
theorem adw {k m p:Nat} {a:AV} {ki:IntKind} {i:Int}:LF L e ah d k m (.ep a p) (.int ki i)=(zE m i).map fun j=>(aI L e d (.ep a (p+j*k)),ah):=by
 simp only [LF,zE]
 split<;>simp
theorem adx {k:Nat}:LG L e ah d k (.sl .ex k [])=some (aI L e d (.cK 0 k 0 0),ah):=by simp [LG]
theorem ady {s k n c j:Nat}:LG L e ah d j (.cK s k n c)=some (aI L e d (.cK s k n c),ah):=rfl
theorem adz {u k j:Nat} {xs:List AV}:LG L e ah d j (.sl (.fr (.tmp u)) k xs)=Ra L e ah d u k xs (Am.get e u):=rfl
theorem aaR {u k:Nat} {xs zs:List AV}:Ra L e ah d u k xs (.sl .own k zs)=some (aI L (put e u (.sl .n k zs)) d (.sl .own k xs),ah):=by simp [Ra]
end
theorem Wx.agB {s k n m c:Nat} (h:n=m):Wx (.cK s k n c) (.cK s k m c):=by subst h;exact .same (by simp)
theorem Wx.cK {s k n c:Nat}:Wx (.cK s k n c) (.cK s k n c):= .same (by simp)
def WG:=And.intro @adz<|And.intro @aaR<|And.intro @aag<|And.intro @aah<|And.intro @aai<|And.intro @aaj<|And.intro @aak<|And.intro @aal<|And.intro @aam<|And.intro @aan<|And.intro @aao<|And.intro @aap<|And.intro @aaq<|And.intro @aar<|And.intro @aas<|And.intro @aat<|And.intro @aau<|And.intro @aav<|And.intro @Wo<|And.intro @Wp<|And.intro @Wq<|And.intro @Wr<|And.intro @adu<|And.intro @afi<|And.intro @adv<|And.intro @adw<|And.intro @adx<|And.intro @ady<|And.intro @acr<|And.intro @acs<|And.intro @Nat.add_zero<|And.intro @Nat.zero_add @Nat.mul_one
section
variable {P:Program} {L:List Nat} {N n0:Nat} {F:Nat→Prop} {γ:List Nat} {C:Nat→List Value} {e e':Env} {ah:AH} {ts:Array Value} {w:World} {Q K:Exit→Env→AH→Prop}
theorem VR.one' {x:AV} {u:Value} (hx:VR C γ x u) (hk:x.j3=true):u.oneCell'=true:=by
 cases hx<;>first|rfl|cases hk|skip
 rename_i hs
 cases u<;>first|rfl|cases hs
theorem SR.abJ (h:SR L N F γ C e ah ts w) {s k n1 c:Nat} {xs:List AV} (hkp:0<k) (hk:EK k xs) (hG:GF k n1 s xs c ah)
 (he:∀t,get e' t=get e t∨(get e t= .cK s k xs.length c∧get e' t= .sl .n k xs)):∃C',SR L N F γ C' e' (if c=0 then ah else ah.set s []) ts w∧Ext F C w C' w:=by
 rcases hG with ⟨rfl,rfl⟩|⟨-,hc0,hcl,hs⟩
 · refine ⟨C, ?_,Ext.refl ..⟩
   rw [if_pos rfl]
   have hbk:∀p b,blk γ e' ah ts w p b→blk γ e ah ts w p b:=by
    intro p b hp
    cases p with
    |tmp t=>
     simp only [blk] at hp ⊢
     rcases he t with h1|⟨h1,h2⟩
     · rwa [h1] at hp
     · rw [h2] at hp;simp [b7] at hp
    |obj s=>exact hp
    |cell s i=>exact hp
   refine ⟨h.mem,h.sz,fun t=> ?_,fun p q b hp hq=>h.fc p q b (hbk p b hp) (hbk q b hq),fun p b hp=>h.nf p b (hbk p b hp),h.mW,fun t l k' xs' ht=> ?_⟩
   · rcases he t with h1|⟨h1,h2⟩
     · rw [h1];exact h.env t
     · rw [h2]
       have hv:=(h.env t).1
       rw [h1] at hv
       obtain ⟨a,hv, -⟩:=hv.xZ
       rw [hv]
       exact ⟨.uA ..,by simp [TC]⟩
   · rcases he t with h1|⟨h1,h2⟩
     · rw [h1] at ht
       have hf:=h.fr t l k' xs' ht
       cases l with
       |tmp u=>
        refine ⟨hf.1,fun hu=>hf.2 ?_⟩
        rcases he u with g1|⟨g1,g2⟩
        · rwa [g1] at hu
        · rw [g2] at hu;cases hu
       |cell s' o=>exact hf
     · rw [h2] at ht;cases ht
 rw [if_neg (by omega)]
 have hlt:s<γ.length:=by rw [h.mem.len];exact (List.getElem?_eq_some_iff.1 hs).1
 obtain ⟨b,hb⟩:∃b,γ[s]? =some b:=⟨_,List.getElem?_eq_getElem hlt⟩
 obtain ⟨vs,ty,hh,hsz,hcell⟩:=h.mem.obj s b _ hs hb
 have BJ:blk γ e ah ts w (.obj s) b:=hb
 have hk0:mK k xs c≠[]:=by
  intro h0
  have:=BS (c:=c) hk hcl
  rw [h0] at this
  have h5:=Nat.mul_pos hc0 hkp
  simp at this
  omega
 have Lj:=h.mem.wP s b _ hs hk0 hb
 refine ⟨fun x=>if x=b then vs.toList.take (xs.length*k) else C x, ?_⟩
 generalize Ag:(fun x=>if x=b then vs.toList.take (xs.length*k) else C x)=C'
 have c0:C' b=vs.toList.take (xs.length*k):=by rw [←Ag];simp
 have c1:∀x,x≠b→C' x=C x:=fun x hx=>by rw [←Ag];simp [hx]
 have hgl:=BS (c:=c) hk hcl
 have hmul:xs.length*k≤c*k:=Nat.mul_le_mul_right _ hcl
 have hvl:(C' b).length=xs.length*k:=by rw [c0,List.length_take,show vs.toList.length=vs.size from Array.length_toList];omega
 have hpre:∀x,C x <+: C' x:=by
  intro x
  by_cases hx:x=b
  · subst hx;rw [Lj];exact List.nil_prefix
  · rw [c1 x hx];exact List.prefix_refl _
 have hset:∀(s':Nat),s'≠s→(ah.set s [])[s']? =ah[s']? :=fun s' hn=>List.getElem?_set_ne (Ne.symm hn)
 have j7:(ah.set s [])[s]? =some []:=List.getElem?_set_self (by rw [←h.mem.len];exact hlt)
 have Ah:∀(s':Nat),γ[s']? =some b→s'=s:=fun s' hs'=>by
  have:=h.fc (.obj s') (.obj s) b hs' hb;injection this
 have hbk:∀p x,blk γ e' (ah.set s []) ts w p x→blk γ e ah ts w p x:=by
  intro p x hp
  cases p with
  |obj s'=>exact hp
  |cell s' i=>
   obtain ⟨ds,a,b0,h1,h2,h3,h4⟩:=hp
   by_cases hn:s'=s
   · subst hn;rw [j7] at h1;injection h1 with h1;subst h1;simp at h2
   · rw [hset s' hn] at h1;exact ⟨ds,a,b0,h1,h2,h3,h4⟩
  |tmp t=>
   simp only [blk] at hp ⊢
   rcases he t with h1|⟨h1,h2⟩
   · rwa [h1] at hp
   · rw [h2] at hp;simp [b7] at hp
 have qG:∀(a:AV) (v:Value),TC w C a v→(∀x,b7 a v=some x→x≠b)→TC w C' a v:=fun a v ht hn=>ht.mono fun x hx=>⟨rfl,c1 x (hn x hx)⟩
 refine ⟨⟨⟨by simp [h.mem.len],fun s' x ds h1 h2=> ?_,fun x hx=> ?_,fun s' x ds h1 h0 h2=> ?_,fun s' x ds us ty' fr h1 h2 h3=> ?_⟩,h.sz,fun t=> ?_,fun p q x hp hq=>h.fc p q x (hbk p x hp) (hbk q x hq),fun p x hp=>h.nf p x (hbk p x hp),h.mW,fun t l k xs ht=> ?_⟩,
  ⟨hpre,fun x hx=>⟨rfl,c1 x (fun e=>h.nf _ _ BJ (e▸hx))⟩,Nat.le_refl _,rfl,rfl,rfl⟩⟩
 · by_cases hn:s'=s
   · subst hn
     rw [j7] at h1;injection h1 with h1;subst h1
     rw [hb] at h2;injection h2 with h2;subst h2
     exact ⟨vs,ty,hh,by simp,by simp⟩
   · rw [hset s' hn] at h1
     obtain ⟨us,ty',g1,g2,g3⟩:=h.mem.obj s' x ds h1 h2
     refine ⟨us,ty',g1,g2,fun i a hi=>⟨(g3 i a hi).1.mono hpre _ (fun _ _ h=>h),qG _ _ (g3 i a hi).2 fun y hy e=> ?_⟩⟩
     subst e
     obtain ⟨v,hv, -, -⟩:=cellAt h.mem h1 hi h2
     have N1:v=us.getD i undef:=by
      have hlt:i<us.size:=Nat.lt_of_lt_of_le (List.getElem?_eq_some_iff.1 hi).1 g2
      rw [ek g1,Array.getElem?_eq_getElem hlt] at hv
      simp [Array.getD_eq_getD_getElem?,Array.getElem?_eq_getElem hlt,Option.some.inj hv]
     have:blk γ e ah ts w (.cell s' i) y:=⟨ds,a,x,h1,hi,h2,by rw [hv,N1];exact hy⟩
     have:=h.fc _ _ _ this BJ
     cases this
 · by_cases XL:x=b
   · subst XL;exact ⟨vs,ty.1,ty.2,hh,by rw [c0];exact List.take_prefix _ _⟩
   · rw [c1 x XL] at hx ⊢;exact h.mem.ya x hx
 · have hn:s'≠s:=by
    rintro rfl
    rw [j7] at h1;injection h1 with h1;exact h0 h1.symm
   rw [hset s' hn] at h1
   rw [c1 x (fun e=>hn (Ah s' (e▸h2)))]
   exact h.mem.wP s' x ds h1 h0 h2
 · by_cases hn:s'=s
   · subst hn
     rw [j7] at h1;injection h1 with h1;subst h1
     intro i hi;simp at hi
   · rw [hset s' hn] at h1
     exact h.mem.Fh s' x ds us ty' fr h1 h2 h3
 · rcases he t with h1|⟨h1,h2⟩
   · rw [h1]
     refine ⟨(h.env t).1.mono hpre _ (fun _ _ h=>h),qG _ _ (h.env t).2 fun y hy e=> ?_⟩
     subst e
     have:=h.fc (.tmp t) (.obj s) y hy BJ
     cases this
   · have hv:=(h.env t).1
     rw [h1] at hv
     obtain ⟨ad,hv,hnc,hcase⟩:=hv.xZ
     have hcase:ad=some ⟨b,0,none⟩:=by
      rcases hcase with ⟨-,h0⟩|⟨b',hb',e⟩
      · omega
      · rw [hb] at hb';injection hb' with hb';subst hb';exact e
     subst hcase
     rw [h2,hv]
     have hval:∀q,q<xs.length*k→(C' b).getD q undef=vs.getD q undef:=by
      intro q hq
      rw [c0]
      simp [List.getD_eq_getElem?_getD,Array.getD_eq_getD_getElem?,List.getElem?_take_of_lt hq]
     have qf:∀q a,(fla xs)[q]? =some a→VR C γ a (vs.getD q undef):=by
      intro q a hq
      refine (hcell q a ?_).1
      rw [nk,List.getElem?_append_left (List.getElem?_eq_some_iff.1 hq).1];exact hq
     have hfl:=oP hk
     refine ⟨.sl _ _ _ _ _ _ _ _ rfl hnc (fun i a hi=>(hk i a hi).1) (by omega) (fun q _ hq=> ?_) (fun i a hi j y hj=> ?_),by simp [TC]⟩
     · rw [Nat.zero_add] at hq
       rw [hval q hq]
       have Vx:(fla xs)[q]? =some ((fla xs)[q]'(by omega)):=List.getElem?_eq_getElem (by omega)
       have h3:=qf q _ Vx
       have h4:=(FO hk q _ Vx).2.2
       exact VR.one' h3 h4
     · have hlt':i<xs.length:=(List.getElem?_eq_some_iff.1 hi).1
       have U8:j<k:=by rw [←(hk i a hi).1];exact (List.getElem?_eq_some_iff.1 hj).1
       have hm:(i+1)*k≤xs.length*k:=Nat.mul_le_mul_right _ hlt'
       rw [Nat.succ_mul] at hm
       rw [Nat.zero_add,hval _ (by omega)]
       have hg:=MB hk i j a hi U8
       rw [List.getElem?_map,hj] at hg
       have h3:=qf _ _ hg
       have hnp:=vV (hk i a hi).2.2.1 hj
       have h4:VR C [] y.s1 (vs.getD (i*k+j) undef):=h3.np (FO hk _ _ hg).2.1
       have h5:VR C' [] y.s1 (vs.getD (i*k+j) undef):=h4.mono hpre [] (fun _ _ h=>h)
       cases y with
       |sl t k xs=>exact h5.lK _
       |_=>exact h5
 · rcases he t with h1|⟨h1,h2⟩
   · have hf:=h.fr t l k xs (by rw [←h1];exact ht)
     cases l with
     |tmp u=>
      refine ⟨hf.1,fun hu=>hf.2 ?_⟩
      rcases he u with g1|⟨g1,g2⟩
      · rwa [g1] at hu
      · rw [g2] at hu;cases hu
     |cell s' o=>
      intro ds a x g1 g2 g3 g4
      by_cases hn:s'=s
      · subst hn;rw [j7] at g1;injection g1 with g1;subst g1;simp at g2
      · rw [hset s' hn] at g1;exact hf ds a x g1 g2 g3 g4
   · rw [h2] at ht;cases ht
end
end Go.Am
namespace Go.Am
open Go
variable [Tabs]
section
variable {P:Program} {L:List Nat} {N n0:Nat} {e e':Env} {ah:AH} {K:Exit→Env→AH→Prop}
inductive FG (s k c:Nat) (xs:List AV):Env→Env→Prop
 |nil:FG s k c xs [] []
 |same (i:Nat) (a:AV) (r r':Env):FG s k c xs r r'→FG s k c xs ((i,a)::r) ((i,a)::r')
 |lay (i n:Nat) (r r':Env):n=xs.length→FG s k c xs r r'→FG s k c xs ((i, .cK s k n c)::r) ((i, .sl .n k xs)::r')
theorem FG.get {s k c:Nat} {xs:List AV} {e e':Env} (h:FG s k c xs e e') (t:Nat):Am.get e' t=Am.get e t∨(Am.get e t= .cK s k xs.length c∧Am.get e' t= .sl .n k xs):=by
 induction h with
 |nil=>exact .inl rfl
 |same i a r r' _ ih=>
  simp only [Am.get]
  by_cases hi:i=t
  · simp [hi]
  · simpa [hi] using ih
 |lay i n r r' hn _ ih=>
  simp only [Am.get]
  by_cases hi:i=t
  · exact .inr ⟨by simp [hi,hn],by simp [hi]⟩
  · simpa [hi] using ih
theorem AX.abJ {c0:az} {s k n1 c:Nat} {xs:List AV} (hkp:0<k) (hk:EK k xs) (hG:GF k n1 s xs c ah) (he:FG s k c xs e e')
 (h:∀H',(∀s',s'<n1∨(0<c→s'≠s)→H'[s']? =ah[s']?)→H'.length=ah.length→AX P L N n0 c0 K e' H'):AX P L N n0 c0 K e ah:=by
 intro c' cz F γ C ts w ni hn
 obtain ⟨C',h1,h2⟩:=ni.abJ hkp hk hG he.get
 have hsame:∀s',s'<n1∨(0<c→s'≠s)→(if c=0 then ah else ah.set s [])[s']? =ah[s']? :=by
  intro s' hs'
  rcases hG with ⟨rfl, -⟩|⟨g1,g2, -, -⟩
  · rw [if_pos rfl]
  · rw [if_neg (by omega),List.getElem?_set_ne]
    rcases hs' with h|h
    · omega
    · exact Ne.symm (h g2)
 refine wp_mono (h _ hsame (by split<;>simp) c' cz F γ C' ts w h1 hn) ?_
 rintro x a w' ⟨q1,q2,e2,uT,γ2,C2,q3,q4,q5,q6⟩
 exact ⟨q1,q2,e2,uT,γ2,C2,q3,q4,q5,h2.trans q6⟩
end
end Go.Am
namespace Go.Am
open Go
variable [Tabs]
def EF {α:Type} (k:Nat) (f:α→AV):Prop:=∀x,(f x).cells.length=k∧cy (f x).cells=true∧gZ (f x).cells=true∧aX (f x).cells=true
section
variable {α:Type} {f:α→AV} {k c j o n q:Nat} {X:List α} {x x':α} {w:AV} {ah:AH}
theorem BT (h:X[j]? =some x):(ml f X)[j]? =some (f x):=by simp [ml,h]
theorem Rm:(ml f X).set j (f x')=ml f (X.set j x'):=by simp [ml,List.map_set]
theorem Ue (he:EF k f) (h:X[j]? =some x) (ho:o<k):(mK k (ml f X) c)[j*k+o]? =((f x).cells.map AV.s1)[o]? :=XN (EK.ml he X) (BT h) ho
theorem adA (he:EF k f) (h:X[j]? =some x) (ho:0<k):(mK k (ml f X) c)[j*k]? =((f x).cells.map AV.s1)[0]? :=Ue (o:=0) he h ho
theorem P7 (he:EF k f) (h:X[j]? =some x) (ho:o<k) (hw:(f x').cells.map AV.s1=((f x).cells.map AV.s1).set o w):over (mK k (ml f X) c) (j*k+o) [w]=some (mK k (ml f (X.set j x')) c):=by
 rw [Ud (EK.ml he X) (BT h) ho hw,Rm]
theorem abK (he:EF k f) (h:X[j]? =some x) (ho:0<k) (hw:(f x').cells.map AV.s1=((f x).cells.map AV.s1).set 0 w):over (mK k (ml f X) c) (j*k) [w]=some (mK k (ml f (X.set j x')) c):=P7 (o:=0) he h ho hw
theorem GF.agC (h:GF k n q (ml f X) c ah) (hj:X[j]? =some x):GF k n q (ml f (X.set j x')) c (ah.set q (mK k (ml f (X.set j x')) c)):=by
 have:=h.set (a':=f x') (BT hj)
 rwa [Rm] at this
theorem GF.atM (h:GF k n q (ml f X) c ah) (hj:X[j]? =some x):ah[q]? =some (mK k (ml f X) c):=(h.at (BT hj)).2
theorem GF.geM (h:GF k n q (ml f X) c ah) (hj:X[j]? =some x):n≤q:=(h.at (BT hj)).1
end
theorem Fr.grow {H0 H H':AH} {S:List Nat} {n q c:Nat} (h:Fr H0 n S H) (hs:∀s,s<H.length→s<n∨(0<c→s≠q)→H'[s]? =H[s]?) (hl:H.length≤H'.length):Fr H0 n S H':=
 ⟨Nat.le_trans h.le hl,fun j hj FM=>(hs j (Nat.lt_of_lt_of_le hj h.le) (.inl hj)).trans (h.eq j hj FM)⟩
theorem Fr.lay {H0 H H':AH} {S:List Nat} {n q c:Nat} (h:Fr H0 n S H) (hs:∀s,s<n∨(0<c→s≠q)→H'[s]? =H[s]?) (hl:H'.length=H.length):Fr H0 n S H':=
 ⟨by rw [hl];exact h.le,fun j hj FM=>(hs j (.inl hj)).trans (h.eq j hj FM)⟩
end Go.Am
end
section
namespace Go.Am
open Go
variable [Tabs]
theorem afj {e:Env} {n:Nat}:ev e (.t n)=Am.get e n:=rfl
theorem afk {e:Env} {a:AV}:ev e (.c a)=a:=rfl
theorem XP {e:Env} {n:Int}:bI e n none= .int .i64 n:=rfl
theorem XQ {e:Env} {n:Int} {x:Ar}:bI e n (some x)=ev e x:=rfl
def WU:=And.intro @ab4<|And.intro @ZQ<|And.intro @ab5<|And.intro @ZR<|And.intro @ab6<|And.intro @ab7<|And.intro @aeo<|And.intro @ZS<|And.intro @ab8<|And.intro @ZT<|And.intro @ZU<|And.intro @VP<|And.intro @VQ<|And.intro @VS<|And.intro @R8<|And.intro @R9<|And.intro @Og<|And.intro @ab9<|And.intro @VT<|And.intro @Sa<|And.intro @VU<|And.intro @Sb<|And.intro @acd<|And.intro @Z1<|And.intro @Z2<|And.intro @Sc<|And.intro @Z3<|And.intro @aet<|And.intro @acf<|And.intro @Z4<|And.intro @VV<|And.intro @acg<|And.intro @VW<|And.intro @ach<|And.intro @acB<|And.intro @aci<|And.intro @acj<|And.intro @Rl<|And.intro @aeu<|And.intro @XH<|And.intro @abI<|And.intro @ack<|And.intro @aew<|And.intro @aex<|And.intro @acm<|And.intro @aey<|And.intro @acn<|And.intro @aco<|And.intro @acp<|And.intro @acq<|And.intro @Z8<|And.intro @acu<|And.intro @acv<|And.intro @XG<|And.intro @XE<|And.intro @Rk<|And.intro @acz<|And.intro @Z9<|@aaa
def WV:=And.intro @afj<|And.intro @afk<|And.intro @Rd<|And.intro @Re<|And.intro @aac<|And.intro @aad<|And.intro @V9<|And.intro @aae<|And.intro @Wa<|And.intro @aaf<|And.intro @Wb<|And.intro @XP<|And.intro @XQ<|And.intro @Wc<|And.intro @Wd<|And.intro @acC<|And.intro @acD<|And.intro @We<|And.intro @Wf<|And.intro @abB<|And.intro @Wg<|And.intro @Wh<|And.intro @Wi<|And.intro @Wj<|And.intro @Wl<|And.intro @Wm<|And.intro @Wn<|And.intro @acE<|And.intro @acF<|And.intro @acG<|And.intro @acH<|And.intro @acI<|And.intro @acJ<|And.intro @aeF<|And.intro @acK<|And.intro @acL<|And.intro @acM<|And.intro @acN<|And.intro @acO<|And.intro @acP<|And.intro @acQ<|And.intro @acR<|And.intro @aeG<|And.intro @aeH<|And.intro @aeI<|And.intro @aeJ<|And.intro @acS<|And.intro @acT<|And.intro @acU<|And.intro @acV<|And.intro @acW<|And.intro @acX<|And.intro @aeK<|And.intro @aeL<|And.intro @aeM<|And.intro @acY<|And.intro @acZ<|And.intro @ac0<|And.intro @Ol<|And.intro @JH<|And.intro @D2<|And.intro @Q_i<|And.intro @Q_s<|And.intro @Q_b<|And.intro @Q_n<|And.intro @aeO<|And.intro @aeP<|And.intro @aeQ<|And.intro @aeR<|And.intro @Rh<|And.intro @ac1<|And.intro @ac2<|And.intro @ac3<|And.intro @Rc<|And.intro @JC<|And.intro @LL<|And.intro @JD<|And.intro @ac4<|And.intro @BQ<|And.intro @BR<|And.intro @acw<|And.intro @acy<|And.intro @bN<|@bO
theorem AX.XR {P:Program} {L:List Nat} {N n0:Nat} {K:Exit→Env→AH→Prop} {e:Env} {ah:AH} {m c:az} (hm:erase m=c) (ho:sF N c=true) (h:U P L N n0 [.code m] K .normal e ah):AX P L N n0 c K e ah:=by
 subst hm
 exact fun c' cz=>qz c' m _ e ah cz ho h
theorem Wx.adB {a b:Bool} (h:a=b):Wx (.bool a) (.bool b):=by subst h;exact Wx.bool
theorem Wx.afl {k:IntKind} {a b:Int} (h:a=b):Wx (.int k a) (.int k b):=by subst h;exact Wx.int
theorem Wx.agD {a b:List UInt8} (h:a=b):Wx (.str a) (.str b):=by subst h;exact Wx.str
theorem iD.agE {ah:AH} {q:Nat} {cs:List AV} (hq:ah[q]? =some cs):iD ah (ah.set q cs):=by
 rw [Sg hq];exact iD.refl _
theorem Kh {α:Type} {f:α→AV} {xs:List α} {i:Int} {x:α} (h:idx xs i=some x):idx (ml f xs) i=some (f x):=by rw [Rc,h];rfl
theorem agk {α:Type} {f:α→AV} {xs ys:List α} {i j:Int} (h:sub xs i j=some ys):sub (ml f xs) i j=some (ml f ys):=by rw [JC,h];rfl
theorem afV {α:Type} {f:α→AV} {xs ys:List α} {i j m:Int} (h:D3 xs i j m=some ys):D3 (ml f xs) i j m=some (ml f ys):=by rw [LL,h];rfl
end Go.Am
namespace Go.Am
open Go
variable [Tabs]
section
variable {P:Program} {L:List Nat} {N n0:Nat} {e:Env} {ah:AH} {t:List It} {Q:Exit→Env→AH→Prop} {r:List aQ}
theorem afm {a b:az} {B:Bool} (h:B=true) (hk:U P L N n0 (.code a::t) Q .normal e ah):UC P L N n0 a b t Q e ah (.bool B):=by subst h;exact hk
theorem afn {a b:az} {B:Bool} (h:B=false) (hk:U P L N n0 (.code b::t) Q .normal e ah):UC P L N n0 a b t Q e ah (.bool B):=by subst h;exact hk
theorem agl {o:aQ} {B want:Bool} (h:B=want) (hk:UG P L N n0 o r t Q e ah (some true)):UG P L N n0 o r t Q e ah (some (B==want)):=by subst h;simpa using hk
theorem XS {o:aQ} {B want:Bool} (h:B= !want) (hk:U P L N n0 (.ops r::t) Q .normal (qK e o.d) ah):UG P L N n0 o r t Q e ah (some (B==want)):=by
 subst h;cases want<;>exact hk
theorem agm {o:aQ} {B:Bool} (h:B=false) (hk:U P L N n0 (.ops r::t) Q .normal (qK e o.d) ah):UG P L N n0 o r t Q e ah (some (B==true)):=XS h hk
theorem agn {o:aQ} {B:Bool} (h:B=true) (hk:U P L N n0 (.ops r::t) Q .normal (qK e o.d) ah):UG P L N n0 o r t Q e ah (some (B==false)):=XS h hk
end
theorem afW (B:Bool):B=true∨B=false:=by cases B<;>simp
theorem bq1:(true==true)=true:=rfl
theorem bq2:(true==false)=false:=rfl
theorem bq3:(false==true)=false:=rfl
theorem bq4:(false==false)=true:=rfl
def WB:=And.intro @bq1<|And.intro @bq2<|And.intro @bq3<|And.intro @bq4<|And.intro @Bool.and_true<|And.intro @Bool.true_and<|And.intro @Bool.and_false<|And.intro @Bool.false_and<|And.intro @Bool.or_true<|And.intro @Bool.true_or<|And.intro @Bool.or_false<|And.intro @Bool.false_or<|And.intro @Bool.not_true<|And.intro @Bool.not_false<|And.intro @decide_true<|And.intro @decide_false<|And.intro @and_true<|And.intro @true_and<|And.intro @and_self<|And.intro @and_false<|And.intro @false_and<|And.intro @Nat.zero_add<|And.intro @Nat.add_zero<|And.intro @Nat.succ_ne_zero<|And.intro @Nat.lt_irrefl<|And.intro @Bool.false_eq_true<|And.intro @List.contains_cons.{0}<|And.intro @List.contains_nil.{0}<|And.intro @List.take_succ_cons.{0}<|And.intro @List.take_zero.{0}<|And.intro @List.drop_succ_cons.{0}<|And.intro @List.drop_zero.{0}<|And.intro @List.length_cons.{0}<|And.intro @List.length_nil.{0}<|And.intro @List.getElem?_cons_zero.{0}<|And.intro @List.getElem?_cons_succ.{0}<|And.intro @List.getElem?_nil.{0}<|And.intro @List.cons_append.{0}<|And.intro @List.nil_append.{0}<|And.intro @List.append_nil.{0}<|And.intro @List.all_cons.{0}<|And.intro @List.all_nil.{0}<|And.intro @List.set_cons_zero.{0}<|And.intro @List.set_cons_succ.{0}<|And.intro @List.isEmpty_cons.{0}<|And.intro @List.isEmpty_nil.{0}<|And.intro @List.map_cons.{0,0}<|And.intro @List.map_nil.{0,0}<|And.intro @Option.map_some.{0,0}<|And.intro @Option.map_none.{0,0}<|@Option.bind_some.{0,0}
end Go.Am
namespace Go.Am
open Go
variable [Tabs]
section
variable {P:Program} {e':Env} {H0 H':AH} {rs:List ResultVar} {vs:List AV} {r':AV} {R:AV→AH→Prop}
theorem aM (hcl:n7 H0.length H0) (hr:iC P e' H0 rs=some vs) (hc:Cl H0.length (fin vs)) (hw:Wx (fin vs) r') (hR:R r' H0):yw P H0 rs R e' H0:=
 ⟨vs,r',H0,hr,hw,hR, .inl ⟨hc,by rw [List.take_length];exact hcl,Nat.le_refl _,by rw [List.take_length];exact iD.refl _⟩⟩
theorem aR (hf:Fr H0 H0.length [] H') (hcl:n7 H0.length H0) (hr:iC P e' H' rs=some vs) (hc:Cl H0.length (fin vs)) (hw:Wx (fin vs) r') (hR:R r' H0):yw P H0 rs R e' H':=
 ⟨vs,r',H0,hr,hw,hR, .inl ⟨hc,by rw [hf.abF];exact hcl,hf.le,by rw [hf.abF];exact iD.refl _⟩⟩
theorem afo (hr:iC P e' H' rs=some vs) (hw:Wx (fin vs) r') {aH:AH} (hh:iD H' aH) (hR:R r' aH):yw P H0 rs R e' H':=
 ⟨vs,r',aH,hr,hw,hR, .inr hh⟩
theorem lT {s:Nat} {c c':List AV} (hf:Fr H0 H0.length [s] H') (hcl:n7 H0.length H0) (hr:iC P e' H' rs=some vs) (hc:Cl H0.length (fin vs)) (hw:Wx (fin vs) r')
 (hs:H'[s]? =some c) (hl:s<H0.length) (XT:∀a∈c,Cl H0.length a) (hwc:yu c c') (hR:R r' (H0.set s c')):yw P H0 rs R e' H':=by
 refine ⟨vs,r',H0.set s c',hr,hw,hR, .inl ⟨hc,by rw [hf.abG hs hl];exact hcl.set XT,hf.le, ?_⟩⟩
 rw [hf.abG hs hl]
 have:=iD.set (ah:=H0.set s c) (q:=s) (cs':=c') (h_eq hl) hwc
 rwa [List.set_set] at this
theorem iD.trans {a b c:AH} (h1:iD a b) (h2:∀(s:Nat) (cs':List AV),c[s]? =some cs'→∃cs,b[s]? =some cs∧(cs'=cs∨(yu cs cs'∧a[s]? =some cs))) (hl:c.length=b.length):iD a c:=by
 refine ⟨by rw [hl,h1.1],fun s cs' hs=> ?_⟩
 obtain ⟨cs,hb,rfl|⟨hw,ha⟩⟩:=h2 s cs' hs
 · exact h1.2 s _ hb
 · exact ⟨cs,ha, .inr hw⟩
theorem iD.afp {ah:AH} {q q2:Nat} {cs cs' ds ds':List AV} (hne:q≠q2) (hq:ah[q]? =some cs) (hc:yu cs cs') (HB:ah[q2]? =some ds) (hd:yu ds ds'):iD ah ((ah.set q cs').set q2 ds'):=by
 refine iD.trans (iD.set hq hc) (fun s es hs=> ?_) (by simp)
 rw [List.getElem?_set] at hs
 split at hs
 · rename_i h;subst h
   split at hs
   · injection hs with hs;subst hs
     exact ⟨ds,by rw [List.getElem?_set_ne hne];exact HB, .inr ⟨hd,HB⟩⟩
   · cases hs
 · exact ⟨es,hs, .inl rfl⟩
theorem afq {s s2:Nat} {c c' d d':List AV} (hf:Fr H0 H0.length [s,s2] H') (hcl:n7 H0.length H0) (hr:iC P e' H' rs=some vs) (hc:Cl H0.length (fin vs)) (hw:Wx (fin vs) r')
 (hs:H'[s]? =some c) (hl:s<H0.length) (XT:∀a∈c,Cl H0.length a) (hwc:yu c c') (hs2:H'[s2]? =some d) (qd:s2<H0.length) (afr:∀a∈d,Cl H0.length a) (afs:yu d d') (hne:s≠s2)
 (hR:R r' ((H0.set s c').set s2 d')):yw P H0 rs R e' H':=by
 refine ⟨vs,r',(H0.set s c').set s2 d',hr,hw,hR, .inl ⟨hc,by rw [hf.abH hs hs2 hl qd hne];exact (hcl.set XT).set afr,hf.le, ?_⟩⟩
 rw [hf.abH hs hs2 hl qd hne]
 have:=iD.afp (ah:=(H0.set s c).set s2 d) (q:=s) (q2:=s2) (cs:=c) (cs':=c') (ds:=d) (ds':=d') hne (by rw [List.getElem?_set_ne (Ne.symm hne)];exact h_eq hl) hwc (h_eq (by simpa using qd)) afs
 have e1:(((H0.set s c).set s2 d).set s c').set s2 d'=(H0.set s c').set s2 d':=by
  rw [List.set_comm d c' (Ne.symm hne),List.set_set,List.set_set]
 rwa [e1] at this
end
theorem Fr.trans {ah H H':AH} {n0:Nat} {S S2:List Nat} (h:Fr ah n0 S H) (h2:Fr H H.length S2 H') (hs:∀s∈S2,s∈S∨n0≤s):Fr ah n0 S H':=by
 have h3:=h.le
 refine ⟨Nat.le_trans h.le h2.le,fun j hj FM=> ?_⟩
 rw [h2.eq j (by omega),h.eq j hj FM]
 intro hm
 rcases hs j hm with h4|h4
 · exact FM h4
 · omega
end Go.Am
namespace Go.Am
open Go
variable [Tabs]
theorem abL {P:Program} {L:List Nat} {N n0:Nat} {e:Env} {ah:AH} {t:List It} {Q:Exit→Env→AH→Prop} {r:List aQ} {d:Option Nat} {f:Nat} {zq zq':List AV} {cq HE:AH} {V:AV}
 (h:aG P f zq' cq fun v H'=>v=V∧H'=HE) (hw:WL zq zq') (hh:iD ah cq) (hk:U P L N n0 (.ops r::t) Q .normal (aI L (yo e) d V.df) HE):UK P L N n0 f zq d r t Q e ah:=by
 refine abA h hw hh ?_
 rintro _ _ ⟨rfl,rfl⟩
 exact hk
end Go.Am
namespace Go.Am
open Go
variable [Tabs]
def WW:=And.intro WG<|And.intro WM<|And.intro WU<|And.intro WV<|And.intro WB<|And.intro WA0<|And.intro WA1<|And.intro WA2<|And.intro WA3<|And.intro WA4<|And.intro WA5 WA6
def WH:=And.intro @h_eq<|And.intro @abE<|And.intro @Wt @Ri
theorem tg1:Tg.sh .ex= .ex:=rfl
theorem tg2:Tg.sh .own= .n:=rfl
theorem tg3:Tg.sh .n= .n:=rfl
end Go.Am
end
section
namespace Go.Am
open Go
variable [Tabs]
theorem SR.Rn {L:List Nat} {N:Nat} {F:Nat→Prop} {γ:List Nat} {C:Nat→List Value} {e:Env} {ah:AH} {ts:Array Value} {w:World} (h:SR L N F γ C e ah ts w) {r:AV} {v:Value} (hv:VR C γ r v) (ht:TC w C r v)
 (ho:r.bZ=false) (hf:∀l k xs,r≠ .sl (.fr l) k xs):SR [] 1 F γ C [(0,r)] ah #[v] w:=by
 have hbk:∀p b,blk γ [(0,r)] ah #[v] w p b→blk γ e ah ts w p b∧∀t,p≠ .tmp t:=by
  intro p b hp
  cases p with
  |obj s=>exact ⟨hp,by simp⟩
  |cell s i=>exact ⟨hp,by simp⟩
  |tmp t=>
   simp only [blk,get] at hp
   split at hp
   · rename_i h0;subst h0;rw [jI _ ho] at hp;cases hp
   · simp [b7] at hp
 refine ⟨h.mem,rfl,fun t=> ?_,fun p q b hp hq=>h.fc p q b (hbk p b hp).1 (hbk q b hq).1,fun p b hp=>h.nf p b (hbk p b hp).1,h.mW,fun t l k xs htl=> ?_⟩
 · by_cases h0:0=t
   · subst h0;simp only [get,if_true];exact ⟨hv,ht⟩
   · simp only [get,if_neg h0];exact ⟨.un ..,by generalize (#[v]:Array Value).getD t undef=u;cases u<;>trivial⟩
 · simp only [get] at htl
   split at htl
   · exact absurd htl (hf l k xs)
   · cases htl
theorem aG.E5 {P:Program} {f:Nat} {args:List AV} {ah:AH} {l:List UInt8} (hc:kN P f=true)
 (h:∀(F:Nat→Prop) (C:Nat→List Value) (γ:List Nat) (w:World) (vs:Array Value),FL F w→vs.size=args.length→(∀(i:Nat) (a:AV),args[i]? =some a→VR C γ a (vs.getD i undef))→
  Calls P f vs w fun en w'=>en= .returned (.string ⟨l.toArray⟩)∧(∀b,b<w.heap.size→w'.heap[b]? =w.heap[b]?)∧w.heap.size≤w'.heap.size∧nh w w'):
 aG P f args ah fun r aH=>r= .str l∧aH=ah:=by
 refine ⟨hc,fun F γ C w vs hs=> ?_⟩
 refine (h F C γ w vs hs.mW hs.sz fun i a hi=> ?_).mono ?_
 · have:=(hs.env i).1
   rw [fj] at this
   simpa [hi] using this
 · rintro en w' ⟨rfl,h1,h2,h3⟩
   have hg:=hs.grow (C':=C) h1 h2 (fun _ _=>rfl) (fun b hb hne=>by
    exfalso
    obtain ⟨vs',ty,fr,hh, -⟩:=hs.mem.ya b hne
    have:b<w.heap.size:=by
     rcases Nat.lt_or_ge b w.heap.size with h4|h4
     · exact h4
     · rw [Array.getElem?_eq_none h4] at hh;cases hh
    omega) h3
   exact ⟨.str l, .string ⟨l.toArray⟩,ah,γ,C,rfl,⟨rfl,rfl⟩,List.prefix_refl _,hg.1.Rn (.str ..) (by simp [TC]) rfl (by simp),hg.2⟩
theorem aG.XU {P:Program} {f:Nat} {args:List AV} {ah:AH} {r:AV} (ho:r.bZ=false) (hf:∀l k xs,r≠ .sl (.fr l) k xs) (hc:kN P f=true)
 (h:∀(F:Nat→Prop) (C:Nat→List Value) (γ:List Nat) (w:World) (vs:Array Value),FL F w→vs.size=args.length→(∀(i:Nat) (a:AV),args[i]? =some a→VR C γ a (vs.getD i undef))→
  Calls P f vs w fun en w'=>∃v,en= .returned v∧VR C γ r v∧TC w' C r v∧(∀b,b<w.heap.size→w'.heap[b]? =w.heap[b]?)∧w.heap.size≤w'.heap.size∧nh w w'):
 aG P f args ah fun r' aH=>r'=r∧aH=ah:=by
 refine ⟨hc,fun F γ C w vs hs=> ?_⟩
 refine (h F C γ w vs hs.mW hs.sz fun i a hi=> ?_).mono ?_
 · have:=(hs.env i).1
   rw [fj] at this
   simpa [hi] using this
 · rintro en w' ⟨v,rfl,hv,ht,h1,h2,h3⟩
   have hg:=hs.grow (C':=C) h1 h2 (fun _ _=>rfl) (fun b hb hne=>by
    exfalso
    obtain ⟨vs',ty,fr,hh, -⟩:=hs.mem.ya b hne
    have:b<w.heap.size:=by
     rcases Nat.lt_or_ge b w.heap.size with h4|h4
     · exact h4
     · rw [Array.getElem?_eq_none h4] at hh;cases hh
    omega) h3
   exact ⟨r,v,ah,γ,C,rfl,⟨rfl,rfl⟩,List.prefix_refl _,hg.1.Rn hv ht ho hf,hg.2⟩
theorem aG.XV {P:Program} {f:Nat} {args:List AV} {ah:AH} {ps:List (List UInt8)} (hc:kN P f=true)
 (h:∀(F:Nat→Prop) (C:Nat→List Value) (γ:List Nat) (w:World) (vs:Array Value),FL F w→vs.size=args.length→(∀(i:Nat) (a:AV),args[i]? =some a→VR C γ a (vs.getD i undef))→
  Calls P f vs w fun en w'=>∃t fr,en= .returned (.slice (some ⟨w.heap.size,0,none⟩) ps.length ps.length)∧w'=w.alloc (.cells (ps.map fun l=>Value.string ⟨l.toArray⟩).toArray t fr)∧fr.2≤fr.1):
 aG P f args ah fun r' aH=>r'= .sl .n 1 (ml .str ps)∧aH=ah:=by
 refine ⟨hc,fun F γ C w vs hs=> ?_⟩
 refine (h F C γ w vs hs.mW hs.sz fun i a hi=> ?_).mono ?_
 · have:=(hs.env i).1
   rw [fj] at this
   simpa [hi] using this
 · rintro en w' ⟨t,fr,rfl,rfl,hfr⟩
   obtain ⟨C', -,he,hg,hv⟩:=yj (w':=w.alloc (.cells (ps.map fun l=>Value.string ⟨l.toArray⟩).toArray t fr)) (ds:=[]) hs (d:=none) (by simp) (cs:=(ps.map fun l=>Value.string ⟨l.toArray⟩).toArray) (t:=t) (fr:=fr)
    (El:=ps.map fun l=>Value.string ⟨l.toArray⟩) (xs:=ml .str ps) (k:=1) (n:=ps.length) (c:=ps.length)
    (fun b hb=>by show (w.heap.push _)[b]? =_;rw [Array.getElem?_push_lt hb,Array.getElem?_eq_getElem hb]) (by show (w.heap.push _).size=_;simp) (by show (w.heap.push _)[w.heap.size]? =_;simp)
    (by simp) (by simp only [List.mem_map];rintro v ⟨l, -,rfl⟩;rfl) (by simp) (by simp [ml]) (Nat.le_refl _) (by simp) (by intro i _;omega)
    (by intro i a hi;simp only [ml,List.getElem?_map,Option.map_eq_some_iff] at hi;obtain ⟨l, -,rfl⟩:=hi;rfl)
    (by
     intro i a hi j y hj
     simp only [ml,List.getElem?_map,Option.map_eq_some_iff] at hi
     obtain ⟨l,hl,rfl⟩:=hi
     cases j with
     |succ j=>simp [AV.cells] at hj
     |zero=>
      simp only [AV.cells,List.getElem?_cons_zero,Option.some.injEq] at hj
      subst hj
      simp only [Nat.mul_one,Nat.add_zero,List.getD_eq_getElem?_getD,List.getElem?_map,hl,Option.map_some,Option.getD_some]
      exact .str ..)
   exact ⟨.sl .n 1 (ml .str ps),_,ah,γ,C',rfl,⟨rfl,rfl⟩,List.prefix_refl _,hg.Rn (hv.lK _) (by simp [TC]) rfl (by simp),he⟩
theorem MD {P:Program} {f:Nat} {ah:AH} (n:Int) (hc:kN P f=true) (htab:∀F w,FL F w→Lib.TabIs P w "internal/strconv.uint64pow10" .u64 Lib.pow10Tab)
 (aft:∀w,Lib.TabIs P w "internal/strconv.uint64pow10" .u64 Lib.pow10Tab→Calls P f #[.int .i64 n] w fun e w'=>e= .returned (.string ⟨(Lib.itoa n).toArray⟩)∧∃k os,w'=Go.Sort.grow (w.drewN k) os):
 aG P f [.int .i64 n] ah fun r aH=>r= .str (Lib.itoa n)∧aH=ah:=by
 refine aG.E5 hc fun F C γ w vs hF hl hv=> ?_
 have h0:=(hv 0 _ rfl).dh
 have hvs:vs= #[.int .i64 n]:=by
  apply Array.ext
  · simpa using hl
  · intro i h1 h2
    simp at h2;subst h2
    simpa [Array.getD_eq_getD_getElem?,Array.getElem?_eq_getElem h1] using h0
 subst hvs
 refine (aft w (htab F w hF)).mono ?_
 rintro e w' ⟨rfl,k,os,rfl⟩
 refine ⟨rfl,fun b hb=> ?_, ?_,rfl,rfl,rfl⟩
 · show (w.heap++os)[b]? =_
   rw [Array.getElem?_append_left hb]
 · show w.heap.size≤(w.heap++os).size
   simp
theorem Uf {P:Program} {w:World} {F:Nat→Prop} {name:String} {k:IntKind} {zs:List Int} {g:Nat} (hF:FL F w) (hm:(g,fun cs=>cs=(zs.map fun z=>Value.int k z).toArray)∈Tabs.l) (hg:P.globalNamed name=some g):Lib.TabIs P w name k zs:=by
 obtain ⟨-,cs,ty,fr,h,hcs⟩:=hF.Le _ hm
 simp only at h hcs
 subst hcs
 unfold Lib.TabIs World.var?
 rw [hg]
 simp [h]
end Go.Am
end
section
namespace Go.Am
open Go
variable [Tabs]
def AV.BU:AV→Bool
 | .int _ _| .bool _| .str _| .v _=>true
 |_=>false
def Ki:List AV→Bool
 |[]=>true
 |a::r=>a.BU&&Ki r
def AV.Kj:AV→Bool
 | .agg cs=>Ki cs
 |a=>a.BU
def E6:List AV→Bool
 |[]=>true
 |a::r=>a.Kj&&E6 r
def AV.HL:AV→Bool
 | .bG cs=>E6 cs
 |a=>a.Kj
theorem vY {l:List AV} (h:Ki l=true) {i:Nat} {a:AV} (hi:l[i]? =some a):a.BU=true:=by
 induction l generalizing i with
 |nil=>simp at hi
 |cons b r ih=>
  simp only [Ki,Bool.and_eq_true] at h
  cases i with
  |zero=>simp at hi;subst hi;exact h.1
  |succ i=>exact ih h.2 (by simpa using hi)
theorem D4 {l:List AV} (h:E6 l=true) {i:Nat} {a:AV} (hi:l[i]? =some a):a.Kj=true:=by
 induction l generalizing i with
 |nil=>simp at hi
 |cons b r ih=>
  simp only [E6,Bool.and_eq_true] at h
  cases i with
  |zero=>simp at hi;subst hi;exact h.1
  |succ i=>exact ih h.2 (by simpa using hi)
theorem VR.BU {C C':Nat→List Value} {γ γ':List Nat} {a:AV} {v:Value} (h:VR C γ a v) (hs:a.BU=true):VR C' γ' a v:=by
 cases h with
 |v _ _ hv=>exact .v _ _ hv
 |int=>exact .int ..
 |bool=>exact .bool ..
 |str=>exact .str ..
 |_=>cases hs
theorem VR.Kj {C C':Nat→List Value} {γ γ':List Nat} {a:AV} {v:Value} (h:VR C γ a v) (hs:a.Kj=true):VR C' γ' a v:=by
 cases h with
 |agg _ cs vs h1 h2=>exact .agg _ _ _ h1 fun i a hi=>(h2 i a hi).BU (vY hs hi)
 |v _ _ hv=>exact .v _ _ hv
 |int=>exact .int ..
 |bool=>exact .bool ..
 |str=>exact .str ..
 |_=>cases hs
theorem VR.HL {C C':Nat→List Value} {γ γ':List Nat} {a:AV} {v:Value} (h:VR C γ a v) (hs:a.HL=true):VR C' γ' a v:=by
 cases h with
 |bG _ cs vs h1 h2=>exact .bG _ _ _ h1 fun i a hi=>(h2 i a hi).Kj (D4 hs hi)
 |agg _ cs vs h1 h2=>exact .agg _ _ _ h1 fun i a hi=>(h2 i a hi).BU (vY hs hi)
 |v _ _ hv=>exact .v _ _ hv
 |int=>exact .int ..
 |bool=>exact .bool ..
 |str=>exact .str ..
 |_=>cases hs
theorem mV.BU {a:AV} (hs:a.BU=true) (v:Value):mV a v:=by
 cases a<;>first|(cases hs;done)|(cases v<;>trivial)
theorem Jk.Kj {a:AV} (hs:a.Kj=true) (v:Value):Jk a v:=by
 cases a with
 |agg cs=>cases v<;>first|trivial|exact fun i a hi=>mV.BU (vY hs hi) _
 |_=>first|(cases hs;done)|(cases v<;>trivial)
theorem TC.HL {w:World} {C:Nat→List Value} {a:AV} (hs:a.HL=true) (v:Value):TC w C a v:=by
 cases a with
 |bG cs=>cases v<;>first|trivial|exact fun i a hi=>Jk.Kj (D4 hs hi) _
 |agg cs=>cases v<;>first|trivial|exact fun i a hi=>mV.BU (vY hs hi) _
 |_=>first|(cases hs;done)|(cases v<;>trivial)
theorem XW {a:AV} (hs:a.HL=true):a.bZ=false:=by
 cases a<;>first|rfl|cases hs
theorem aaS {a:AV} (hs:a.HL=true) (l:Loc) (k:Nat) (xs:List AV):a≠ .sl (.fr l) k xs:=by
 rintro rfl;cases hs
inductive iZ (ah:AH):AV→AV→Prop
 |same (a):a.BU=true→iZ ah a a
 |ep (a p):iZ ah (.ep a p) (.ep a p)
 |sl (t k xs):iZ ah (.sl t k xs) (.sl .n k xs)
 |ptr (s o:Nat) (cs cs':List AV):ah[s]? =some cs→cs'.length=cs.length→(∀(i:Nat) (a a':AV),cs[i]? =some a→cs'[i]? =some a'→iZ ah a a')→iZ ah (.ptr s o) (.ep (.agg cs') o)
inductive PE (ah:AH):AV→AV→Prop
 |one (a a'):iZ ah a a'→PE ah a a'
 |fn (f:Nat) (cs:List AV):PE ah (.fn f []) (.fn f [])
 |agg (cs cs':List AV):cs'.length=cs.length→(∀(i:Nat) (a a':AV),cs[i]? =some a→cs'[i]? =some a'→iZ ah a a')→PE ah (.agg cs) (.agg cs')
def FP (w:World) (b:Nat):List Value:=match w.heap[b]? with|some (.cells vs _ _)=>vs.toList|_=>[]
open Classical in
noncomputable def Cx (w:World) (γ:List Nat) (C:Nat→List Value):Nat→List Value:=fun b=>if b∈γ then FP w b else C b
section
variable {L:List Nat} {N:Nat} {F:Nat→Prop} {γ:List Nat} {C:Nat→List Value} {e:Env} {ah:AH} {ts:Array Value} {w:World}
theorem Ro (h:Mem γ C ah w) (b:Nat):C b <+: Cx w γ C b:=by
 unfold Cx
 split
 · rename_i hb
   by_cases hne:C b=[]
   · rw [hne];exact List.nil_prefix
   · obtain ⟨vs,ty,fr,hh,hp⟩:=h.ya b hne
     unfold FP;rw [hh];exact hp
 · exact List.prefix_refl _
theorem Rp {s b:Nat} {vs:Array Value} {ty:TypeId} {fr:Nat×Nat} (hs:γ[s]? =some b) (hb:w.heap[b]? =some (.cells vs ty fr)):Cx w γ C b=vs.toList:=by
 unfold Cx FP
 rw [if_pos (List.mem_of_getElem? hs),hb]
theorem VR.aaT {C:Nat→List Value} {γ:List Nat} {t:Tg} {k:Nat} {xs:List AV} {v:Value} (h:VR C γ (.sl t k xs) v) (γ':List Nat):VR C γ' (.sl .n k xs) v:=by
 cases h with
 |uA=>exact .uA ..
 |sl _ _ _ _ b o n c hn hc hk hl ho hx=>exact .sl _ _ _ _ _ _ _ _ hn hc hk hl ho hx
theorem iZ.vr (hm:Mem γ C ah w) {a a':AV} (hp:iZ ah a a'):∀ {v:Value},VR C γ a v→VR (Cx w γ C) [] a' v:=by
 induction hp with
 |same a hs=>intro v h;exact h.BU hs
 |ep a p=>
  intro v h
  have h':=h.np rfl
  exact h'.mono (Ro hm) [] (fun _ _ h=>h)
 |sl t k xs=>
  intro v h
  exact (h.aaT []).mono (Ro hm) [] (fun _ _ h=>h)
 |ptr s o cs cs' hs hl hc ih=>
  intro v h
  obtain ⟨b,hb,rfl⟩:=h.j4
  obtain ⟨vs,ty,hh,hsz,hcell⟩:=hm.obj s b cs hs hb
  have hx:Cx w γ C b=vs.toList:=Rp hb hh
  suffices hS:VR (Cx w γ C) [] (.ep (.agg cs') o) (.pointer (some ⟨b,0+o,none⟩)) by rwa [Nat.zero_add] at hS
  refine VR.ep [] (.agg cs') o b 0 (by rw [hx];simpa [AV.cells,hl] using hsz) fun j a' hj=> ?_
  simp only [AV.cells] at hj
  have hlt:j<cs.length:=by rw [←hl];exact (List.getElem?_eq_some_iff.1 hj).1
  have h0:cs[j]? =some cs[j]:=List.getElem?_eq_getElem hlt
  have:=ih j _ _ h0 hj (hcell j _ h0).1
  rw [hx,Nat.zero_add]
  have e1:vs.toList.getD j undef=vs.getD j undef:=by simp [List.getD_eq_getElem?_getD,Array.getD_eq_getD_getElem?]
  rw [e1];exact this
theorem iZ.flat {a a':AV} (hp:iZ ah a a') (v:Value):mV a' v∧a'.plain=true:=by
 cases hp with
 |same _ hs=>exact ⟨mV.BU hs v,by cases a<;>first|rfl|cases hs⟩
 |ep=>exact ⟨by cases v<;>trivial,rfl⟩
 |sl=>exact ⟨Jl ..,rfl⟩
 |ptr=>exact ⟨by cases v<;>trivial,rfl⟩
theorem PE.vr (hm:Mem γ C ah w) {a a':AV} (hp:PE ah a a') {v:Value} (h:VR C γ a v):VR (Cx w γ C) [] a' v:=by
 cases hp with
 |one _ _ h1=>exact h1.vr hm h
 |fn f cs=>
  obtain ⟨vs,rfl,h1,h2⟩:=h.Jh
  exact .fn _ _ _ _ h1 (by simp)
 |agg cs cs' hl hc=>
  obtain ⟨vs,rfl,h1,h2⟩:=h.ng
  refine .agg _ _ _ (by omega) fun i a' hi=> ?_
  have hlt:i<cs.length:=by rw [←hl];exact (List.getElem?_eq_some_iff.1 hi).1
  have h0:cs[i]? =some cs[i]:=List.getElem?_eq_getElem hlt
  exact (hc i _ _ h0 hi).vr hm (h2 i _ h0)
theorem PE.tc {a a':AV} (hp:PE ah a a') {C':Nat→List Value} (v:Value):TC w C' a' v∧a'.plain=true:=by
 cases hp with
 |one _ _ h1=>
  cases h1 with
  |same _ hs=>exact ⟨by cases a<;>first|(cases hs;done)|(cases v<;>trivial),by cases a<;>first|rfl|cases hs⟩
  |ep=>exact ⟨by cases v<;>trivial,rfl⟩
  |sl=>exact ⟨by cases v<;>trivial,rfl⟩
  |ptr=>exact ⟨by cases v<;>trivial,rfl⟩
 |fn=>exact ⟨by cases v<;>trivial,rfl⟩
 |agg cs cs' hl hc=>
  refine ⟨?_,rfl⟩
  cases v with
  |agg vs=>
   intro i a' hi
   have hlt:i<cs.length:=by rw [←hl];exact (List.getElem?_eq_some_iff.1 hi).1
   exact ((hc i _ _ (List.getElem?_eq_getElem hlt) hi).flat _).1
  |_=>trivial
def n8 (ah:AH):List AV→List AV→Prop
 |[],[]=>True
 |a::r,a'::r'=>PE ah a a'∧n8 ah r r'
 |_,_=>False
theorem n8.len:∀ {xs ys:List AV},n8 ah xs ys→ys.length=xs.length:=by
 intro xs
 induction xs with
 |nil=>intro ys h;cases ys with|nil=>rfl|cons=>exact h.elim
 |cons a r ih=>intro ys h;cases ys with|nil=>exact h.elim|cons a' r'=>simp [ih h.2]
theorem n8.get:∀ {xs ys:List AV},n8 ah xs ys→∀(i:Nat) (a a':AV),xs[i]? =some a→ys[i]? =some a'→PE ah a a':=by
 intro xs
 induction xs with
 |nil=>intro ys _ i a a' h;simp at h
 |cons a r ih=>
  intro ys h i b b' h1 h2
  cases ys with
  |nil=>exact h.elim
  |cons a' r'=>
   rcases i with _|i
   · simp at h1 h2;subst h1;subst h2;exact h.1
   · exact ih h.2 i b b' (by simpa using h1) (by simpa using h2)
def pV (ah:AH):List AV→List AV→Prop
 |[],[]=>True
 |a::r,a'::r'=>iZ ah a a'∧pV ah r r'
 |_,_=>False
theorem pV.len:∀ {xs ys:List AV},pV ah xs ys→ys.length=xs.length:=by
 intro xs
 induction xs with
 |nil=>intro ys h;cases ys with|nil=>rfl|cons=>exact h.elim
 |cons a r ih=>intro ys h;cases ys with|nil=>exact h.elim|cons a' r'=>simp [ih h.2]
theorem pV.get:∀ {xs ys:List AV},pV ah xs ys→∀(i:Nat) (a a':AV),xs[i]? =some a→ys[i]? =some a'→iZ ah a a':=by
 intro xs
 induction xs with
 |nil=>intro ys _ i a a' h;simp at h
 |cons a r ih=>
  intro ys h i b b' h1 h2
  cases ys with
  |nil=>exact h.elim
  |cons a' r'=>
   rcases i with _|i
   · simp at h1 h2;subst h1;subst h2;exact h.1
   · exact ih h.2 i b b' (by simpa using h1) (by simpa using h2)
theorem n8.nil:n8 ah [] []:=trivial
theorem n8.cons {a a':AV} {r r':List AV} (h:PE ah a a') (hr:n8 ah r r'):n8 ah (a::r) (a'::r'):=⟨h,hr⟩
theorem pV.nil:pV ah [] []:=trivial
theorem pV.cons {a a':AV} {r r':List AV} (h:iZ ah a a') (hr:pV ah r r'):pV ah (a::r) (a'::r'):=⟨h,hr⟩
theorem iZ.int {k:IntKind} {i:Int}:iZ ah (.int k i) (.int k i):= .same _ rfl
theorem iZ.b8 {c:UInt8}:iZ ah (Am.b8 c) (Am.b8 c):= .same _ rfl
theorem iZ.bool {b:Bool}:iZ ah (.bool b) (.bool b):= .same _ rfl
theorem iZ.str {l:List UInt8}:iZ ah (.str l) (.str l):= .same _ rfl
theorem iZ.v {x:Value}:iZ ah (.v x) (.v x):= .same _ rfl
theorem iZ.D5 {s o:Nat} {cs cs':List AV} (hs:ah[s]? =some cs) (h:pV ah cs cs'):iZ ah (.ptr s o) (.ep (.agg cs') o):= .ptr _ _ _ _ hs h.len h.get
theorem PE.agF {cs cs':List AV} (h:pV ah cs cs'):PE ah (.agg cs) (.agg cs'):= .agg _ _ h.len h.get
theorem aG.ofE {P:Program} {f:Nat} {args args':List AV} {R:AV→Prop} (h:aG P f args' [] fun r aH=>R r∧aH=[]) (hp:n8 ah args args') (hs:∀r,R r→r.HL=true):
 aG P f args ah fun r aH=>R r∧aH=ah:=by
 refine ⟨h.1,fun F γ C w vs ni=> ?_⟩
 have R2:∀(l:List AV) (t:Nat),get (fR 0 l) t=(l[t]?).getD .un:=fun l t=>by rw [fj];simp
 have Rq:∀t,VR (Cx w γ C) [] (get (fR 0 args') t) (vs.getD t undef)∧TC w (Cx w γ C) (get (fR 0 args') t) (vs.getD t undef)∧(get (fR 0 args') t).plain=true:=by
  intro t
  rw [R2]
  cases ht:args'[t]? with
  |none=>exact ⟨.un ..,by cases vs.getD t undef<;>trivial,rfl⟩
  |some a'=>
   have hlt:t<args.length:=by rw [←hp.len];exact (List.getElem?_eq_some_iff.1 ht).1
   have h0:args[t]? =some args[t]:=List.getElem?_eq_getElem hlt
   have h1:=(ni.env t).1
   rw [R2,h0] at h1
   have hpe:=hp.get t _ _ h0 ht
   exact ⟨hpe.vr ni.mem h1,hpe.tc _⟩
 have hnb:∀p b,¬blk [] (fR 0 args') [] vs w p b:=by
  intro p b hb
  cases p with
  |obj s=>simp [blk] at hb
  |cell s i=>obtain ⟨cs,a,b0,h1, -⟩:=hb;simp at h1
  |tmp t=>simp only [blk] at hb;rw [jI _ (iX (Rq t).2.2)] at hb;cases hb
 have hs0:SR [] args'.length (fun b=>b<w.heap.size) [] (Cx w γ C) (fR 0 args') [] vs w:=by
  refine ⟨⟨rfl,fun s b cs h1=>by simp at h1,fun b hne=> ?_,fun s b cs h1=>by simp at h1,fun s b cs us ty fr h1=>by simp at h1⟩,by rw [ni.sz,hp.len],fun t=>⟨(Rq t).1,(Rq t).2.1⟩,fun p q b h1=>absurd h1 (hnb p b),fun p b h1=>absurd h1 (hnb p b),
   ⟨fun b hb=>hb,fun e he=>⟨ni.mW.lt _ (ni.mW.Le e he).1,(ni.mW.Le e he).2⟩⟩,fun t l k xs ht=>absurd ht (zp (Rq t).2.2 l k xs)⟩
  by_cases hb:b∈γ
  · obtain ⟨s,hsb⟩:=List.getElem?_of_mem hb
    have hlt:s<ah.length:=by rw [←ni.mem.len];exact (List.getElem?_eq_some_iff.1 hsb).1
    obtain ⟨xs,ty,hh, -⟩:=ni.mem.obj s b _ (List.getElem?_eq_getElem hlt) hsb
    exact ⟨xs,ty.1,ty.2,hh,by rw [Rp hsb hh];exact List.prefix_refl _⟩
  · have:Cx w γ C b=C b:=by unfold Cx;rw [if_neg hb]
    rw [this] at hne ⊢
    exact ni.mem.ya b hne
 refine (h.2 _ [] (Cx w γ C) w vs hs0).mono ?_
 rintro en w' ⟨r,v,aH,γ',C'',rfl,⟨hR,rfl⟩,hγ,afu,hx⟩
 have hold:∀b,b<w.heap.size→w'.heap[b]? =w.heap[b]? :=fun b hb=>(hx.keep b hb).1
 have hg:=ni.grow (w':=w') (C':=C) hold hx.size (fun _ _=>rfl) (fun b hb hne=>by
  exfalso
  obtain ⟨vs',ty,fr,hh, -⟩:=ni.mem.ya b hne
  exact absurd (yf hh) (by omega)) hx.out
 have hv:=(afu.env 0).1
 simp only [get,if_true] at hv
 have hsc:=hs r hR
 exact ⟨r,v,ah,γ,C,rfl,⟨hR,rfl⟩,List.prefix_refl _,hg.1.Rn (hv.HL hsc) (TC.HL hsc _) (XW hsc) (aaS hsc),hg.2⟩
end
end Go.Am
end
section
set_option maxRecDepth 100000
namespace Go.Am
open Go
open Nat renaming reduceEqDiff→nA,reduceLT→nB,reduceLeDiff→nC,reduceAdd→nD,reduceSub→nE,reduceMul→nF,reduceBEq→nG
variable [Tabs]
theorem adC {P:Program} {L:List Nat} {N n0:Nat} {e:Env} {ah:AH} {t:List It} {Q:Exit→Env→AH→Prop} {r:List aQ} {d:Option Nat} {g:Option (Nat×Bool)} {n:Bool} {x:Ar} {tg:Tg} {k:Nat} {xs:List AV}
 (hx:ev e x= .sl tg k xs) (h1:xs=[]→∀b,U P L N n0 (.ops r::t) Q .normal (aI L e d (.bool b)) ah) (h2:xs≠[]→U P L N n0 (.ops r::t) Q .normal (aI L e d (.bool n)) ah):
 UG P L N n0 ⟨d, .nq n x,g⟩ r t Q e ah (some true):=by
 show Fc L d n x e ah _
 unfold Fc
 rw [hx]
 exact ⟨h1,h2⟩
def E7 (k b:Nat):az:= .seq (.rg [⟨some 2, .aT (.c (.sl .ex k [])),none⟩]) (.seq (.seq (.rg [⟨some 3, .mv (.t 0),none⟩,⟨some 4, .nq false (.t 3),none⟩]) (.cond (.t 4) (.seq (.rg [⟨some 2, .aT (.c (.sl .ex k [])),none⟩]) .ret) .skip))
 (.seq (.rg [⟨some 5, .pH k [],none⟩,⟨some 6, .mv (.t 0),none⟩,⟨some 7, .app k b (.t 5) (.t 6),none⟩,⟨some 2, .aT (.t 7),none⟩]) .ret))
theorem aaU {P:Program} {f k b:Nat} {xs ys:List AV} {H0:AH} (hF:bL P f 8 [.tmp 2] (E7 k b)) (hz:fq b [] xs=some ys):aG P f [.sl .n k xs] H0 fun v H'=>v= .sl .own k ys∧H'=H0:=by
 refine aG.goX hF (m:=E7 k b) rfl [0,2,4] rfl (by simp) fun hcl K0 aP=> ?_
 refine AX.XR (m:=E7 k b) rfl rfl ?_
 have hys:ys=xs:=by unfold fq at hz;split at hz<;>simp_all
 subst hys
 simp only [WW, ↓reduceIte,nA,nB,nC,nD,nE,nF,nG,reduceCtorEq,E7]
 have step:U P [0,2,4] 8 H0.length [.code .skip, .code (.seq (.rg [⟨some 5, .pH k [],none⟩,⟨some 6, .mv (.t 0),none⟩,⟨some 7, .app k b (.t 5) (.t 6),none⟩,⟨some 2, .aT (.t 7),none⟩]) .ret)] K0 .normal
  [(0, .sl .n k ys),(2, .sl .ex k []),(4, .bool false)] H0:=by
  simp only [WW, ↓reduceIte,nA,nB,nC,nD,nE,nF,nG,reduceCtorEq,hz,List.all_nil,List.map_nil]
  refine aP _ _ _ (.inr rfl) ?_
  exact aM hcl (zu (a:= .sl .own k ys) rfl rfl C7) (by simp [fin,AV.df]) Wx.oo (r':= .sl .own k ys) ⟨rfl,rfl⟩
 refine adC (by rfl) (fun h0 b=> ?_) (fun h0=> ?_)
 · subst h0
   simp only [WW, ↓reduceIte,nA,nB,nC,nD,nE,nF,nG,reduceCtorEq]
   cases b
   · refine afn rfl ?_
     exact step
   · refine afm rfl ?_
     simp only [WW, ↓reduceIte,nA,nB,nC,nD,nE,nF,nG,reduceCtorEq]
     refine aP _ _ _ (.inr rfl) ?_
     exact aM hcl (zu (a:= .sl .ex k []) rfl rfl C7) (by simp [fin,AV.df]) (Wx.own ..) (r':= .sl .own k []) ⟨rfl,rfl⟩
 · simp only [WW, ↓reduceIte,nA,nB,nC,nD,nE,nF,nG,reduceCtorEq,hz,List.all_nil,List.map_nil]
   refine aP _ _ _ (.inr rfl) ?_
   exact aM hcl (zu (a:= .sl .own k ys) rfl rfl C7) (by simp [fin,AV.df]) Wx.oo (r':= .sl .own k ys) ⟨rfl,rfl⟩
end Go.Am
namespace Go.Am
open Go
variable [Tabs]
theorem SR.abM {L:List Nat} {N:Nat} {F:Nat→Prop} {γ:List Nat} {C:Nat→List Value} {e:Env} {ah:AH} {ts:Array Value} {w:World} (h:SR L N F γ C e ah ts w) {r:AV} {v:Value} (hr:Am.get e 0=r) (hv:ts.getD 0 undef=v)
 (hf:∀l k xs,r≠ .sl (.fr l) k xs):SR [] 1 F γ C [(0,r)] ah #[v] w:=by
 subst hr;subst hv
 have hbk:∀p b,blk γ [(0,Am.get e 0)] ah #[ts.getD 0 undef] w p b→blk γ e ah ts w p b:=by
  intro p b hp
  cases p with
  |obj s=>exact hp
  |cell s i=>exact hp
  |tmp t=>
   simp only [blk,Am.get] at hp ⊢
   split at hp
   · rename_i h0;subst h0;exact hp
   · simp [b7] at hp
 refine ⟨h.mem,rfl,fun t=> ?_,fun p q b hp hq=>h.fc p q b (hbk p b hp) (hbk q b hq),fun p b hp=>h.nf p b (hbk p b hp),h.mW,fun t l k xs htl=> ?_⟩
 · by_cases h0:0=t
   · subst h0;simp only [Am.get,if_true];exact h.env 0
   · simp only [Am.get,if_neg h0];exact ⟨.un ..,by generalize (#[ts.getD 0 undef]:Array Value).getD t undef=u;cases u<;>trivial⟩
 · simp only [Am.get] at htl
   split at htl
   · exact absurd htl (hf l k xs)
   · cases htl
theorem abN {P:Program} {f:Nat} {n:Int} {H0:AH} {el:TypeId} {z:Value} (hc:kN P f=true) (hz:z.cells.size=1) (h0:0≤n)
 (hroom:∀(base:Option Addr) (w:World),n=0→Calls P f #[.slice base 0 0, .int .i64 n] w fun e w'=>e= .returned (.slice base 0 0)∧w'=w)
 (hgrow:∀(base:Option Addr) (w:World),0<n→Calls P f #[.slice base 0 0, .int .i64 n] w fun e w'=>e= .returned (.slice (some ⟨w.heap.size,0,none⟩) 0 (grownCap w n.toNat 0 el))∧
  w'=w.drew.alloc (.cells ((#[]:Array Value)++Builtin.zeroCells z.cells n.toNat++Builtin.zeroCells z.cells (grownCap w n.toNat 0 el - n.toNat)) el)):
 aG P f [.sl .ex 1 [], .int .i64 n] H0 fun v H'=>v= .sl .own 1 []∧H'=H0:=by
 refine ⟨hc,fun F γ C w vs hs=> ?_⟩
 have h1:=hs.env 0
 have h2:=(hs.env 1).1
 rw [fj] at h1 h2
 simp only [Nat.zero_le,if_true,Nat.sub_zero,List.getElem?_cons_zero,Option.getD_some] at h1
 simp only [Nat.zero_le,if_true,Nat.sub_zero,List.getElem?_cons_succ,List.getElem?_cons_zero,Option.getD_some] at h2
 obtain ⟨a,c,e1, -⟩:=h1.1.fW
 rw [e1] at h1
 have hc0:c=0:=h1.2
 subst hc0
 have e2:=h2.dh
 have hvs:vs= #[.slice a 0 0, .int .i64 n]:=by
  have hsz:vs.size=2:=hs.sz
  apply Array.ext
  · simpa using hsz
  · intro i g1 g2
    have:i=0∨i=1:=by omega
    rcases this with rfl|rfl
    · simpa [Array.getD_eq_getD_getElem?,Array.getElem?_eq_getElem g1] using e1
    · simpa [Array.getD_eq_getD_getElem?,Array.getElem?_eq_getElem g1] using e2
 by_cases hn:n=0
 · rw [hvs]
   refine (hroom a w hn).mono ?_
   rintro en w' ⟨rfl,rfl⟩
   have hw:SR [] 2 F γ C (Am.put (fR 0 [.sl .ex 1 [], .int .i64 n]) 0 (.sl .own 1 [])) H0 vs w':=by
    refine hs.wx ⟨fun t=> ?_,iD.refl _⟩
    rw [fQ]
    split
    · rename_i ht;subst ht
      rw [fj]
      exact Wx.own _ _
    · refine Wx.same fun l k xs=> ?_
      rw [fj]
      match t with
      |0=>simp
      |1=>simp
      |t+2=>simp
   exact ⟨.sl .own 1 [],_,H0,γ,C,rfl,⟨rfl,rfl⟩,List.prefix_refl _,hw.abM (by rw [fQ];simp) (by rw [hvs];rfl) (by simp),Ext.refl ..⟩
 · have hpos:0<n:=by omega
   rw [hvs]
   refine (hgrow a w hpos).mono ?_
   rintro en w' ⟨rfl,rfl⟩
   generalize hcap:grownCap w n.toNat 0 el=cap
   have hge:n.toNat≤cap:=by rw [←hcap];exact grownCap_ge w _ _ _
   generalize hrow:(#[]:Array Value)++Builtin.zeroCells z.cells n.toNat++Builtin.zeroCells z.cells (cap - n.toNat)=row
   have hrl:row.size=cap:=by
    rw [←hrow];simp only [Array.size_append,size_zeroCells,hz];simp;omega
   obtain ⟨q1,q2,q3⟩:=heap_alloc w.drew (.cells row el)
   obtain ⟨C',g1,g2, -, -⟩:=yj (ds:=[]) (w':=w.drew.alloc (.cells row el)) (d:=some 0) (El:=[]) (xs:=[]) (k:=1) (n:=0) (c:=cap)
    hs (by intro x hx;injection hx with hx;subst hx;simp) q2 q3 q1 (by simp) (by simp) (by simp) rfl (Nat.zero_le _) (by omega) (fun q hq=>by simp) (by simp) (by simp)
   refine ⟨.sl .own 1 [],_,H0,γ,C',rfl,⟨rfl,rfl⟩,List.prefix_refl _,g1.abM ?_ ?_ (by simp),g2⟩
   · simp [Am.aI,fQ,AV.bZ,AV.df]
   · rw [hvs];rfl
end Go.Am
end
section
set_option maxRecDepth 100000
namespace Go.Am
open Go
open Nat renaming reduceEqDiff→nA,reduceLT→nB,reduceLeDiff→nC,reduceAdd→nD,reduceSub→nE,reduceMul→nF,reduceBEq→nG
variable [Tabs]
theorem bU {p:Prop} (h:p:=by first|assumption|omega|(simp only [BQ,BR]<;>omega)):p:=h
section
variable {H T:AH} {q s:Nat} {c c':List AV}
theorem cL (h:q<H.length:=by first|assumption|omega|(simp only [BQ,BR]<;>omega)) (hc:c=c':=by rfl):(H.set q c)[q]? =some c':=hc▸h_eq h
theorem gq {r:Option (List AV)} (hx:H[q]? =r) (h:s≠q:=by first|assumption|omega|(simp only [BQ,BR]<;>omega)):(H.set s c)[q]? =r:=(abE h).trans hx
theorem lU {r:Option (List AV)} (hx:H[q]? =r) (h:q<H.length:=by first|assumption|omega|(simp only [BQ,BR]<;>omega)):(H++T)[q]? =r:=(Wt h).trans hx
theorem pJ (h:q=H.length:=by first|assumption|omega|(simp only [BQ,BR]<;>omega)) (hc:c=c':=by rfl):(H++[c])[q]? =some c':=hc▸Ri h
theorem b6 {ah:AH} {n0:Nat} {S:List Nat} (s:Nat) (h:Fr ah n0 S H) (hs:s∈S∨n0≤s:=by first|exact .inr (by first|assumption|omega|(simp only [BQ,BR]<;>omega))|exact .inl (by simp)):Fr ah n0 S (H.set s c):=Fr.set h hs
end
theorem aq {H:AH}:iD H H:=iD.refl _
theorem aF {g g':Prop} (k:g') (h:g=g':=by
 first|(conv=>lhs;simp only [WW, ↓reduceIte,nA,nB,nC,nD,nE,nF,nG,reduceCtorEq])|rfl):g:=h▸k
theorem aY {p g g':Prop} (f:p) (k:g') (h:p→g=g':=by
 intro f;first|(conv=>lhs;simp only [WW, ↓reduceIte,nA,nB,nC,nD,nE,nF,nG,reduceCtorEq,f])|rfl):g:=h f▸k
theorem cj {g g':Prop} (k:g') (h:g=g':=by
 first|(conv=>lhs;simp (disch:=first|assumption|omega|(simp only [BQ,BR]<;>omega)|fail) only [WW,WH, ↓reduceIte,nA,nB,nC,nD,nE,nF,nG,reduceCtorEq])|rfl):g:=h▸k
theorem ax {p g g':Prop} (f:p) (k:g') (h:p→g=g':=by
 intro f;first|(conv=>lhs;simp (disch:=first|assumption|omega|(simp only [BQ,BR]<;>omega)|fail) only [WW,WH, ↓reduceIte,nA,nB,nC,nD,nE,nF,nG,reduceCtorEq,f])|rfl):g:=h f▸k
structure GZ (p:Prop):Prop where
 out:p
section
variable {P:Program} {L:List Nat} {N n0:Nat} {e:Env} {ah:AH} {t:List It} {Q:Exit→Env→AH→Prop} {r:List aQ}
theorem bT {β:Type} {x y:Option β} {z:β} {o:aQ} {B want:Bool} (h:(if B=true then x else y)=some z) (k1:B=true→x=some z→GZ (UG P L N n0 o r t Q e ah (some (true==want))))
 (k2:B=false→y=some z→GZ (UG P L N n0 o r t Q e ah (some (false==want)))):GZ (UG P L N n0 o r t Q e ah (some (B==want))):=by
 cases B
 · exact k2 rfl h
 · exact k1 rfl h
theorem gG {o:aQ} {B want:Bool} (k1:B=true→GZ (UG P L N n0 o r t Q e ah (some (true==want))))
 (k2:B=false→GZ (UG P L N n0 o r t Q e ah (some (false==want)))):GZ (UG P L N n0 o r t Q e ah (some (B==want))):=by
 cases B
 · exact k2 rfl
 · exact k1 rfl
theorem bk {β:Type} {x y:Option β} {z:β} {a b:az} {B:Bool} (h:(if B=true then x else y)=some z) (k1:B=true→x=some z→GZ (U P L N n0 (.code a::t) Q .normal e ah))
 (k2:B=false→y=some z→GZ (U P L N n0 (.code b::t) Q .normal e ah)):GZ (UC P L N n0 a b t Q e ah (.bool B)):=by
 cases B
 · exact k2 rfl h
 · exact k1 rfl h
end
def AV.afv:AV→Bool
 | .sl (.fr _) _ _=>false
 |_=>true
theorem Wx.smZ {a:AV} (h:a.afv=true):Wx a a:= .same fun l k xs e=>by subst e;cases h
theorem Wx.gsZ {s k n n' c:Nat} (h:n=n'):Wx (.cK s k n c) (.cK s k n' c):=by subst h;exact Wx.smZ rfl
theorem wAZ {cs cs':List AV} (h:gR cs cs':=by repeat (first|exact gR.nil|apply gR.same|apply gR.n)):gR cs cs':=h
theorem wBZ {cs cs':List AV} (h:qg cs cs':=by repeat (first|exact qg.nil|apply qg.same|apply qg.n|refine qg.agg wAZ ?_)):qg cs cs':=h
theorem aW {a a':AV} (h:Wx a a':=by
 first|exact Wx.smZ rfl|exact Wx.n|exact Wx.own .. |exact Wx.un _|exact Wx.agg wAZ|exact Wx.err|exact Wx.gsZ (by simp)|exact Wx.aeE wBZ):Wx a a':=h
theorem aK {e e1:Env} (h:WE e e1:=by
 repeat (refine WE.cons aW ?_)
 exact WE.nil):WE e e1:=h
theorem dj {p:Prop} {e e1:Env} (f:p) (h:p→WE e e1:=by
 intro f
 repeat (refine WE.cons (by first|exact aW|exact Wx.adB (by simp only [f,WB])|exact Wx.afl (by simp only [f,WB])|exact Wx.epE (by simp only [f])) ?_)
 exact WE.nil):WE e e1:=h f
theorem wlZ {a a':List AV} (h:WL a a':=by
 repeat (refine WL.cons aW ?_)
 exact WL.nil):WL a a':=h
theorem HM {a a':List AV} (h:yu a a':=by
 repeat (refine yu.cons aW ?_)
 exact yu.nil):yu a a':=h
theorem dH {x:Exit} (h:x≠ .normal:=by simp):x≠ .normal:=h
section
variable {P:Program} {L:List Nat} {N n0:Nat} {e:Env} {ah:AH} {t:List It} {Q:Exit→Env→AH→Prop} {r:List aQ} {d:Option Nat} {f:Nat}
theorem bw {zs zs':List AV} {cq HE:AH} {V:AV} (hh:iD ah cq) (h:aG P f zs' cq fun v H'=>v=V∧H'=HE) (hk:GZ (U P L N n0 (.ops r::t) Q .normal (aI L (yo e) d V.df) HE))
 (hw:WL zs zs':=by
 repeat (refine WL.cons aW ?_)
 exact WL.nil):GZ (UK P L N n0 f zs d r t Q e ah):=⟨abL h hw hh hk.out⟩
theorem uXZ {zs zs':List AV} {cq:AH} {R:AV→AH→Prop} (hh:iD ah cq) (h:aG P f zs' cq R) (hk:∀v aH,R v aH→GZ (U P L N n0 (.ops r::t) Q .normal (aI L (yo e) d v.df) aH))
 (hw:WL zs zs':=by
 repeat (refine WL.cons aW ?_)
 exact WL.nil):GZ (UK P L N n0 f zs d r t Q e ah):=⟨abA h hw hh fun v aH hR=>(hk v aH hR).out⟩
theorem ME {zs zs':List AV} {V:AV} (h:aG P f zs' [] fun v H'=>v=V∧H'=[]) (hp:n8 ah zs zs') (hk:GZ (U P L N n0 (.ops r::t) Q .normal (aI L (yo e) d V.df) ah)) (hs:V.HL=true:=by rfl) (hw:WL zs zs:=by
 repeat (refine WL.cons (Wx.smZ rfl) ?_)
 exact WL.nil):GZ (UK P L N n0 f zs d r t Q e ah):=
 ⟨abL (aG.ofE h hp (by rintro _ rfl;exact hs)) hw (iD.refl _) hk.out⟩
theorem MF {cs cs':List AV} (h:pV ah cs cs':=by
 repeat (first|exact pV.nil|refine pV.cons (by first|exact iZ.int|exact iZ.b8|exact iZ.bool|exact iZ.str|exact iZ.v|exact .sl _ _ _|exact .ep _ _) ?_)):pV ah cs cs':=h
theorem XX {c:az} (h:AX P L N n0 c (fun x e ah=>GZ (U P L N n0 t Q x e ah)) e ah):GZ (UX P L N n0 c t Q e ah):=⟨acA (AX.mono h fun _ _ _ h=>h.out)⟩
theorem ouZ {c:az} (h:GZ (UX P L N n0 c t Q e ah)):AX P L N n0 c (fun x e ah=>GZ (U P L N n0 t Q x e ah)) e ah:=AX.mono h.out fun _ _ _ h=>⟨h⟩
theorem bA {c:az} {e1:Env} {cq:AH} (hh:iD ah cq) (h:AX P L N n0 c (fun x e ah=>GZ (U P L N n0 t Q x e ah)) e1 cq) (he:WE e e1:=by
 repeat (refine WE.cons aW ?_)
 exact WE.nil):GZ (UX P L N n0 c t Q e ah):=XX (AX.weak he hh h)
theorem gaZ {α:Type} {f:α→AV} {k b q c n1:Nat} {x y:Ar} {tg:Tg} {X Y Z:List α} {ys:List AV} {g:Option (Nat×Bool)} (hf:∀x,(f x).cells.length=k∧cy (f x).cells=true∧gZ (f x).cells=true∧aX (f x).cells=true)
 (hk0:0<k) (hx:ev e x= .cK q k X.length c) (hy:ev e y= .sl tg k ys) (hys:ys=ml f Y) (hY:Y≠[]) (hz:fq b X Y=some Z) (hG:GF k n1 q (ml f X) c ah) (hn:n1≤ah.length)
 (hK:∀q' c' aH,GF k n1 q' (ml f Z) c' aH→(∀s,s<ah.length→s<n1∨(0<c→s≠q)→aH[s]? =ah[s]?)→ah.length≤aH.length→(q'=q∨ah.length≤q')→
  GZ (U P L N n0 (.ops r::t) Q .normal (aI L e d (.cK q' k Z.length c')) aH)):
 GZ (UG P L N n0 ⟨d, .oc k b x y,g⟩ r t Q e ah (some true)):=⟨XO hf hk0 hx hy hys hY hz hG hn fun q' c' aH h1 h2 h3 h4=>(hK q' c' aH h1 h2 h3 h4).out⟩
end
theorem aD {α:Type} {a b:α} (h:some a=some b):a=b:=Option.some.inj h
theorem cT {α β:Type} {a b:α} {c d:β} (h:some (a,c)=some (b,d)):a=b∧c=d:=Prod.mk.inj (Option.some.inj h)
theorem qN {α β γ:Type} {a b:α} {c d:β} {e f:γ} (h:some (a,c,e)=some (b,d,f)):a=b∧c=d∧e=f:=by
 obtain ⟨h1,h2⟩:=cT h;exact ⟨h1,Prod.mk.inj h2⟩
theorem afw {α β γ δ:Type} {a b:α} {c d:β} {e f:γ} {g i:δ} (h:some (a,c,e,g)=some (b,d,f,i)):a=b∧c=d∧e=f∧g=i:=by
 obtain ⟨h1,h2,h3⟩:=qN h;exact ⟨h1,h2,Prod.mk.inj h3⟩
theorem afx {α β γ δ ε:Type} {a b:α} {c d:β} {e f:γ} {g i:δ} {j k:ε} (h:some (a,c,e,g,j)=some (b,d,f,i,k)):a=b∧c=d∧e=f∧g=i∧j=k:=by
 obtain ⟨h1,h2,h3,h4⟩:=afw h;exact ⟨h1,h2,h3,Prod.mk.inj h4⟩
theorem agG {α β γ δ ε ζ:Type} {a b:α} {c d:β} {e f:γ} {g i:δ} {j k:ε} {l m:ζ} (h:some (a,c,e,g,j,l)=some (b,d,f,i,k,m)):a=b∧c=d∧e=f∧g=i∧j=k∧l=m:=by
 obtain ⟨h1,h2,h3,h4,h5⟩:=afx h;exact ⟨h1,h2,h3,h4,Prod.mk.inj h5⟩
theorem aZ {P:Program} {e:Env} {ah:AH}:iC P e ah []=some []:=rfl
theorem aU {P:Program} {e:Env} {ah:AH} {t:Nat} {rs:List ResultVar} {vs:List AV} (hr:iC P e ah rs=some vs) (a:AV) (h:Am.get e t=a:=by rfl) (ht:a.fB=false:=by rfl):iC P e ah (.tmp t::rs)=some (a::vs):=zu h ht hr
theorem bf {n:Nat} {a:AV} (h:Cl n a:=by first|(simp [fin,abD,abC,cR,Rh];done)|(simp [fin,AV.df,AV.sh,AV.bB,abD,abC,cR,Rh];done)):Cl n a:=h
theorem HN {n:Nat} {c:List AV} (h:∀a∈c,Cl n a:=by simp [Rh];try omega):∀a∈c,Cl n a:=h
theorem aA {p q:Prop} (a:p) (b:q):p∧q:=⟨a,b⟩
theorem bh:Exit.ret= .normal∨Exit.ret= .ret:= .inr rfl
theorem xlZ:Exit.normal= .normal∨Exit.normal= .ret:= .inl rfl
theorem lN {P:Program} {N f:Nat} {rs:List ResultVar} {m:az} (hF:bL P f N rs (erase m)) (L:List Nat) {args:List AV} {R:AV→AH→Prop} {H0:AH} (S:List Nat)
 (h:n7 H0.length H0→∀K0:Exit→Env→AH→Prop,(∀x e' H,x= .normal∨x= .ret→yw P H0 rs R e' H→GZ (K0 x e' H))→
  ∀H,H=H0→Fr H0 H0.length S H→GZ (U P L N H0.length [.code m] K0 .normal (fR 0 args) H)) (ho:sF N (erase m)=true:=by kernel_rfl) (hN:args.length≤N:=by simp):aG P f args H0 R:=by
 refine aG.goX hF (m:=m) rfl L ho hN fun hcl K0 aP=> ?_
 refine AX.XR (m:=m) rfl ho ?_
 exact (h hcl K0 (fun x e' H h1 h2=>⟨aP x e' H h1 h2⟩) H0 rfl (Fr.refl H0 S)).out
theorem gr {P:Program} {N f:Nat} {rs:List ResultVar} {m:az} (hF:bL P f N rs (erase m)) (L:List Nat) {args:List AV} {R:AV→AH→Prop} {H0:AH}
 (h:n7 H0.length H0→∀K0:Exit→Env→AH→Prop,(∀x e' H,x= .normal∨x= .ret→yw P H0 rs R e' H→GZ (K0 x e' H))→
  GZ (U P L N H0.length [.code m] K0 .normal (fR 0 args) H0)) (ho:sF N (erase m)=true:=by kernel_rfl) (hN:args.length≤N:=by simp):aG P f args H0 R:=by
 refine aG.goX hF (m:=m) rfl L ho hN fun hcl K0 aP=> ?_
 exact AX.XR (m:=m) rfl ho (h hcl K0 (fun x e' H h1 h2=>⟨aP x e' H h1 h2⟩)).out
theorem bY {P:Program} {L:List Nat} {N n0:Nat} {e:Env} {ah:AH} {K:Exit→Env→AH→Prop} {m:az}
 (h:∀K':Exit→Env→AH→Prop,(∀x e ah e1 cq,WE e e1→iD ah cq→K x e1 cq→GZ (K' x e ah))→GZ (U P L N n0 [.code m] K' .normal e ah)) (ho:sF N (erase m)=true:=by kernel_rfl):AX P L N n0 (erase m) K e ah:=
 AX.go rfl ho fun K' hK=>(h K' fun x e ah e1 cq h1 h2 h3=>⟨hK x e ah e1 cq h1 h2 h3⟩).out
theorem iE {P:Program} {L:List Nat} {N n0:Nat} {e:Env} {ah:AH} {K:Exit→Env→AH→Prop} {m:az} {ρ τ σ:Type} {body:σ→Option (St ρ τ σ)} (J:σ→Env→AH→Prop) {F:Nat} {s0:σ} {o:ρ⊕τ} (hit:Am.iter body F s0=some o) (h0:J s0 e ah)
 (round:∀(K':Exit→Env→AH→Prop) s st e ah,J s e ah→body s=some st→
 (∀s',st= .cA s'→∀e' aH e1 cq,WE e' e1→iD aH cq→J s' e1 cq→GZ (K' .normal e' aH))→
 (∀t,st= .dQ t→o= .inr t)→(∀r,st= .ret r→o= .inl r)→
 (∀x e' aH e1 cq,x≠ .normal→WE e' e1→iD aH cq→K x e1 cq→GZ (K' x e' aH))→GZ (U P L N n0 [.code m] K' .normal e ah)) (ho:sF N (erase m)=true:=by kernel_rfl):AX P L N n0 (.loop (erase m)) K e ah:=
 AX.iter rfl ho J hit h0 fun K' s st e ah h1 h2 h3 h4 h5 h6=>(round K' s st e ah h1 h2 (fun s' h e' aH e1 cq g1 g2 g3=>⟨h3 s' h e' aH e1 cq g1 g2 g3⟩) h4 h5 fun x e' aH e1 cq hx g1 g2 g3=>⟨h6 x e' aH e1 cq hx g1 g2 g3⟩).out
abbrev aj (d:Nat) (p:gK):aQ:=⟨some d,p,none⟩
abbrev ay (d:Nat) (p:gK) (g:Nat) (w:Bool):aQ:=⟨some d,p,some (g,w)⟩
abbrev cZ (p:gK):aQ:=⟨none,p,none⟩
abbrev av (d x:Nat):aQ:=⟨some d, .mv (.t x),none⟩
abbrev aO (d x:Nat):aQ:=⟨some d, .aT (.t x),none⟩
end Go.Am
end
section
namespace Go.Proofs
open Go.Shelf
def Tryz.Kk:Go.Shelf.Ren:=⟨fun|137=>108|217=>88|266=>115|n=>n,fun|9=>9|5=>5|3=>3|n=>n,fun|n=>n⟩
theorem Tryz.XY:Go.Proofs.Lays.n137 Tryz.prog Tryz.Kk:= {
 mixed:=by kernel_rfl
 f137:=Tryz.func108.trans (congrArg some (by kernel_rfl))
 f217:=Tryz.func88.trans (congrArg some (by kernel_rfl))
 f266:=Tryz.func115.trans (congrArg some (by kernel_rfl))
 t3:=Tryz.underlying3
 a3:=Tryz.isAgg3
 z3:=Tryz.sizeOf3
 v3:=Tryz.zeroValue3
 t5:=Tryz.underlying5
 a5:=Tryz.isAgg5
 z5:=Tryz.sizeOf5
 v5:=Tryz.zeroValue5
 t9:=Tryz.underlying9
 a9:=Tryz.isAgg9
 z9:=Tryz.sizeOf9
 v9:=Tryz.zeroValue9}
open Go.RowKit in
theorem Tryz.strings_IndexByte (s:ByteArray) (c:Int) (w:World):
 Calls Tryz.prog 108 #[.string s, .int .u8 c] w fun e w'=>e= .returned (.int .i64 (Lib.indexByte s.data.toList c.toNat.toUInt8))∧w'=w:=Any.strings_IndexByte Tryz.XY s c w
def Tryz.HO:Go.Shelf.Ren:=⟨fun|171=>34|243=>57|246=>82|283=>109|284=>110|285=>111|286=>112|129=>127|317=>126|318=>128|319=>129|320=>130|337=>134|338=>135|n=>n,fun|3=>3|9=>9|2=>2|4=>4|171=>96|0=>0|53=>68|37=>33|5=>5|173=>99|212=>113|51=>102|20=>20|213=>114|46=>88|232=>132|233=>133|n=>n,fun|17=>1|18=>6|19=>7|n=>n⟩
theorem Tryz.Ug:Go.Proofs.LaysM.n171 Tryz.prog Tryz.HO:= {
 mixed:=by kernel_rfl
 f129:=Tryz.func127.trans (congrArg some (by kernel_rfl))
 f171:=Tryz.func34.trans (congrArg some (by kernel_rfl))
 f243:=Tryz.func57.trans (congrArg some (by kernel_rfl))
 f246:=Tryz.func82.trans (congrArg some (by kernel_rfl))
 f283:=Tryz.func109.trans (congrArg some (by kernel_rfl))
 f284:=Tryz.func110.trans (congrArg some (by kernel_rfl))
 f285:=Tryz.func111.trans (congrArg some (by kernel_rfl))
 f286:=Tryz.func112.trans (congrArg some (by kernel_rfl))
 f317:=Tryz.func126.trans (congrArg some (by kernel_rfl))
 f318:=Tryz.func128.trans (congrArg some (by kernel_rfl))
 f319:=Tryz.func129.trans (congrArg some (by kernel_rfl))
 f320:=Tryz.func130.trans (congrArg some (by kernel_rfl))
 f337:=Tryz.func134.trans (congrArg some (by kernel_rfl))
 f338:=Tryz.func135.trans (congrArg some (by kernel_rfl))
 t0:=Tryz.underlying0
 a0:=Tryz.isAgg0
 z0:=Tryz.sizeOf0
 v0:=Tryz.zeroValue0
 t2:=Tryz.underlying2
 a2:=Tryz.isAgg2
 z2:=Tryz.sizeOf2
 v2:=Tryz.zeroValue2
 t3:=Tryz.underlying3
 a3:=Tryz.isAgg3
 z3:=Tryz.sizeOf3
 v3:=Tryz.zeroValue3
 t4:=Tryz.underlying4
 a4:=Tryz.isAgg4
 z4:=Tryz.sizeOf4
 v4:=Tryz.zeroValue4
 t5:=Tryz.underlying5
 a5:=Tryz.isAgg5
 z5:=Tryz.sizeOf5
 v5:=Tryz.zeroValue5
 t9:=Tryz.underlying9
 a9:=Tryz.isAgg9
 z9:=Tryz.sizeOf9
 v9:=Tryz.zeroValue9
 t20:=Tryz.underlying20
 a20:=Tryz.isAgg20
 z20:=Tryz.sizeOf20
 v20:=Tryz.zeroValue20
 t37:=Tryz.underlying33
 a37:=Tryz.isAgg33
 z37:=Tryz.sizeOf33
 v37:=Tryz.zeroValue33
 t46:=Tryz.underlying88
 a46:=Tryz.isAgg88
 z46:=Tryz.sizeOf88
 v46:=Tryz.zeroValue88
 t51:=Tryz.underlying102
 a51:=Tryz.isAgg102
 z51:=Tryz.sizeOf102
 v51:=Tryz.zeroValue102
 t53:=Tryz.underlying68
 a53:=Tryz.isAgg68
 z53:=Tryz.sizeOf68
 v53:=Tryz.zeroValue68
 t171:=Tryz.underlying96
 a171:=Tryz.isAgg96
 z171:=Tryz.sizeOf96
 v171:=Tryz.zeroValue96
 t173:=Tryz.underlying99
 a173:=Tryz.isAgg99
 z173:=Tryz.sizeOf99
 v173:=Tryz.zeroValue99
 t212:=Tryz.underlying113
 a212:=Tryz.isAgg113
 z212:=Tryz.sizeOf113
 v212:=Tryz.zeroValue113
 t213:=Tryz.underlying114
 a213:=Tryz.isAgg114
 z213:=Tryz.sizeOf114
 t232:=Tryz.underlying132
 a232:=Tryz.isAgg132
 z232:=Tryz.sizeOf132
 v232:=Tryz.zeroValue132
 t233:=Tryz.underlying133
 a233:=Tryz.isAgg133
 z233:=Tryz.sizeOf133
 v233:=Tryz.zeroValue133
 g17:=by kernel_rfl
 g18:=by kernel_rfl
 g19:=by kernel_rfl
 i0:=by kernel_rfl
 i2:=by kernel_rfl
 i3:=by kernel_rfl
 i4:=by kernel_rfl
 i5:=by kernel_rfl
 i9:=by kernel_rfl
 i20:=by kernel_rfl
 i37:=by kernel_rfl
 i46:=by kernel_rfl
 i51:=by kernel_rfl
 i53:=by kernel_rfl
 i171:=by kernel_rfl
 i173:=by kernel_rfl
 i212:=by kernel_rfl
 i232:=by kernel_rfl
 i233:=by kernel_rfl
 m17:=by kernel_rfl
 m18:=by kernel_rfl
 m19:=by kernel_rfl}
open Go.RowKit Go.Sort Go.Lib in
theorem Tryz.strconv_Itoa (n:Int) (h0: -9223372036854775808≤n) (h1:n≤9223372036854775807) (w:World) (htab:Lib.TabIs Tryz.prog w "internal/strconv.uint64pow10" .u64 Lib.pow10Tab):
 Calls Tryz.prog 34 #[.int .i64 n] w fun e w'=>e= .returned (.string ⟨(Lib.itoa n).toArray⟩)∧∃k os,w'=grow (w.drewN k) os:=Any.strconv_Itoa Tryz.Ug n h0 h1 w htab
def Tryz.HP:Go.Shelf.Ren:=⟨fun|172=>66|244=>100|245=>101|247=>119|279=>120|280=>121|281=>122|282=>123|287=>131|316=>132|171=>34|205=>133|321=>136|322=>137|243=>57|246=>82|283=>109|284=>110|285=>111|286=>112|129=>127|317=>126|318=>128|319=>129|320=>130|337=>134|338=>135|n=>n,fun|9=>9|3=>3|75=>77|76=>78|4=>4|5=>5|167=>106|37=>33|0=>0|85=>107|2=>2|168=>109|53=>68|175=>121|46=>88|210=>124|127=>128|145=>131|143=>129|21=>21|171=>96|173=>99|212=>113|51=>102|20=>20|213=>114|232=>132|233=>133|80=>93|n=>n,fun|15=>4|16=>5|17=>1|18=>6|19=>7|n=>n⟩
theorem Tryz.C9:Go.Proofs.LaysC.n172 Tryz.prog Tryz.HP:= {
 mixed:=by kernel_rfl
 f129:=Tryz.func127.trans (congrArg some (by kernel_rfl))
 f171:=Tryz.func34.trans (congrArg some (by kernel_rfl))
 f172:=Tryz.func66.trans (congrArg some (by kernel_rfl))
 f205:=Tryz.func133.trans (congrArg some (by kernel_rfl))
 f243:=Tryz.func57.trans (congrArg some (by kernel_rfl))
 f244:=Tryz.func100.trans (congrArg some (by kernel_rfl))
 f245:=Tryz.func101.trans (congrArg some (by kernel_rfl))
 f246:=Tryz.func82.trans (congrArg some (by kernel_rfl))
 f247:=Tryz.func119.trans (congrArg some (by kernel_rfl))
 f279:=Tryz.func120.trans (congrArg some (by kernel_rfl))
 f280:=Tryz.func121.trans (congrArg some (by kernel_rfl))
 f281:=Tryz.func122.trans (congrArg some (by kernel_rfl))
 f282:=Tryz.func123.trans (congrArg some (by kernel_rfl))
 f283:=Tryz.func109.trans (congrArg some (by kernel_rfl))
 f284:=Tryz.func110.trans (congrArg some (by kernel_rfl))
 f285:=Tryz.func111.trans (congrArg some (by kernel_rfl))
 f286:=Tryz.func112.trans (congrArg some (by kernel_rfl))
 f287:=Tryz.func131.trans (congrArg some (by kernel_rfl))
 f316:=Tryz.func132.trans (congrArg some (by kernel_rfl))
 f317:=Tryz.func126.trans (congrArg some (by kernel_rfl))
 f318:=Tryz.func128.trans (congrArg some (by kernel_rfl))
 f319:=Tryz.func129.trans (congrArg some (by kernel_rfl))
 f320:=Tryz.func130.trans (congrArg some (by kernel_rfl))
 f321:=Tryz.func136.trans (congrArg some (by kernel_rfl))
 f322:=Tryz.func137.trans (congrArg some (by kernel_rfl))
 f337:=Tryz.func134.trans (congrArg some (by kernel_rfl))
 f338:=Tryz.func135.trans (congrArg some (by kernel_rfl))
 t0:=Tryz.underlying0
 a0:=Tryz.isAgg0
 z0:=Tryz.sizeOf0
 v0:=Tryz.zeroValue0
 t2:=Tryz.underlying2
 a2:=Tryz.isAgg2
 z2:=Tryz.sizeOf2
 v2:=Tryz.zeroValue2
 t3:=Tryz.underlying3
 a3:=Tryz.isAgg3
 z3:=Tryz.sizeOf3
 v3:=Tryz.zeroValue3
 t4:=Tryz.underlying4
 a4:=Tryz.isAgg4
 z4:=Tryz.sizeOf4
 v4:=Tryz.zeroValue4
 t5:=Tryz.underlying5
 a5:=Tryz.isAgg5
 z5:=Tryz.sizeOf5
 v5:=Tryz.zeroValue5
 t9:=Tryz.underlying9
 a9:=Tryz.isAgg9
 z9:=Tryz.sizeOf9
 v9:=Tryz.zeroValue9
 t20:=Tryz.underlying20
 a20:=Tryz.isAgg20
 z20:=Tryz.sizeOf20
 v20:=Tryz.zeroValue20
 t21:=Tryz.underlying21
 a21:=Tryz.isAgg21
 z21:=Tryz.sizeOf21
 v21:=Tryz.zeroValue21
 t37:=Tryz.underlying33
 a37:=Tryz.isAgg33
 z37:=Tryz.sizeOf33
 v37:=Tryz.zeroValue33
 t46:=Tryz.underlying88
 a46:=Tryz.isAgg88
 z46:=Tryz.sizeOf88
 v46:=Tryz.zeroValue88
 t51:=Tryz.underlying102
 a51:=Tryz.isAgg102
 z51:=Tryz.sizeOf102
 v51:=Tryz.zeroValue102
 t53:=Tryz.underlying68
 a53:=Tryz.isAgg68
 z53:=Tryz.sizeOf68
 v53:=Tryz.zeroValue68
 t75:=Tryz.underlying77
 a75:=Tryz.isAgg77
 z75:=Tryz.sizeOf77
 v75:=Tryz.zeroValue77
 t76:=Tryz.underlying78
 a76:=Tryz.isAgg78
 z76:=Tryz.sizeOf78
 v76:=Tryz.zeroValue78
 t85:=Tryz.underlying107
 a85:=Tryz.isAgg107
 z85:=Tryz.sizeOf107
 v85:=Tryz.zeroValue107
 t127:=Tryz.underlying128
 a127:=Tryz.isAgg128
 z127:=Tryz.sizeOf128
 v127:=Tryz.zeroValue128
 t143:=Tryz.underlying129
 a143:=Tryz.isAgg129
 z143:=Tryz.sizeOf129
 v143:=Tryz.zeroValue129
 t145:=Tryz.underlying131
 a145:=Tryz.isAgg131
 z145:=Tryz.sizeOf131
 v145:=Tryz.zeroValue131
 t167:=Tryz.underlying106
 a167:=Tryz.isAgg106
 z167:=Tryz.sizeOf106
 v167:=Tryz.zeroValue106
 t168:=Tryz.underlying109
 a168:=Tryz.isAgg109
 z168:=Tryz.sizeOf109
 v168:=Tryz.zeroValue109
 t171:=Tryz.underlying96
 a171:=Tryz.isAgg96
 z171:=Tryz.sizeOf96
 v171:=Tryz.zeroValue96
 t173:=Tryz.underlying99
 a173:=Tryz.isAgg99
 z173:=Tryz.sizeOf99
 v173:=Tryz.zeroValue99
 t175:=Tryz.underlying121
 a175:=Tryz.isAgg121
 z175:=Tryz.sizeOf121
 v175:=Tryz.zeroValue121
 t210:=Tryz.underlying124
 a210:=Tryz.isAgg124
 z210:=Tryz.sizeOf124
 v210:=Tryz.zeroValue124
 t212:=Tryz.underlying113
 a212:=Tryz.isAgg113
 z212:=Tryz.sizeOf113
 v212:=Tryz.zeroValue113
 t213:=Tryz.underlying114
 a213:=Tryz.isAgg114
 z213:=Tryz.sizeOf114
 t232:=Tryz.underlying132
 a232:=Tryz.isAgg132
 z232:=Tryz.sizeOf132
 v232:=Tryz.zeroValue132
 t233:=Tryz.underlying133
 a233:=Tryz.isAgg133
 z233:=Tryz.sizeOf133
 v233:=Tryz.zeroValue133
 g15:=by kernel_rfl
 g16:=by kernel_rfl
 g17:=by kernel_rfl
 g18:=by kernel_rfl
 g19:=by kernel_rfl
 t80:=Tryz.underlying93
 a80:=Tryz.isAgg93
 z80:=Tryz.sizeOf93
 v80:=Tryz.zeroValue93
 i0:=by kernel_rfl
 i2:=by kernel_rfl
 i3:=by kernel_rfl
 i4:=by kernel_rfl
 i5:=by kernel_rfl
 i9:=by kernel_rfl
 i20:=by kernel_rfl
 i21:=by kernel_rfl
 i37:=by kernel_rfl
 i46:=by kernel_rfl
 i51:=by kernel_rfl
 i53:=by kernel_rfl
 i75:=by kernel_rfl
 i76:=by kernel_rfl
 i80:=by kernel_rfl
 i85:=by kernel_rfl
 i127:=by kernel_rfl
 i143:=by kernel_rfl
 i145:=by kernel_rfl
 i167:=by kernel_rfl
 i168:=by kernel_rfl
 i171:=by kernel_rfl
 i173:=by kernel_rfl
 i175:=by kernel_rfl
 i210:=by kernel_rfl
 i212:=by kernel_rfl
 i232:=by kernel_rfl
 i233:=by kernel_rfl
 m15:=by kernel_rfl
 m16:=by kernel_rfl
 m17:=by kernel_rfl
 m18:=by kernel_rfl
 m19:=by kernel_rfl
 c0:=by kernel_rfl
 c2:=by kernel_rfl
 c3:=by kernel_rfl
 c4:=by kernel_rfl
 c5:=by kernel_rfl
 c9:=by kernel_rfl
 c20:=by kernel_rfl
 c21:=by kernel_rfl
 c37:=by kernel_rfl
 c46:=by kernel_rfl
 c51:=by kernel_rfl
 c53:=by kernel_rfl
 c75:=by kernel_rfl
 c76:=by kernel_rfl
 c80:=by kernel_rfl
 c85:=by kernel_rfl
 c127:=by kernel_rfl
 c143:=by kernel_rfl
 c145:=by kernel_rfl
 c167:=by kernel_rfl
 c168:=by kernel_rfl
 c171:=by kernel_rfl
 c173:=by kernel_rfl
 c175:=by kernel_rfl
 c210:=by kernel_rfl
 c212:=by kernel_rfl
 c213:=by kernel_rfl
 c232:=by kernel_rfl
 c233:=by kernel_rfl}
open Go.RowKit in
theorem Tryz.strconv_Atoi_ok (s:ByteArray) (hmax:s.size≤9223372036854775806) (v:Int) (h:Lib.atoiAll s.data.toList= .ok v) (w:World):
 Calls Tryz.prog 66 #[.string s] w fun e w'=>e= .returned (.tuple #[.int .i64 v, .nilIface])∧(w'=w∨∃t,w'=Lib.bytesWorld w 5 t):=Any.strconv_Atoi_ok Tryz.C9 s hmax v h w
open Go.RowKit in
theorem Tryz.strconv_Atoi_syntax (s:ByteArray) (hlim:s.size≤281474976710656) (h:Lib.atoiAll s.data.toList=Go.Lib.NumEnd.syntax) (ev:Value) (w:World) (hv:w.cell? ⟨4,0,none⟩=some ev) (hev:ev= .nilIface∨∃te pe,ev= .iface te pe):
 Calls Tryz.prog 66 #[.string s] w fun e w'=>∃N,e= .returned (.tuple #[.int .i64 (0), .iface 109 (.pointer (some ⟨N,0,none⟩))])∧w.heap.size≤N∧w'.heap[N]? =some (.cells #[.string ⟨#[65,116,111,105]⟩, .string s,ev] 124 (0,0))∧Below w.heap.size w w':=Any.strconv_Atoi_syntax Tryz.C9 s hlim h ev w hv hev
open Go.RowKit in
theorem Tryz.strconv_Atoi_range (s:ByteArray) (hlim:s.size≤281474976710656) (h:Lib.atoiAll s.data.toList= .range) (ev:Value) (w:World) (hv:w.cell? ⟨5,0,none⟩=some ev) (hev:ev= .nilIface∨∃te pe,ev= .iface te pe):
 Calls Tryz.prog 66 #[.string s] w fun e w'=>∃N,e= .returned (.tuple #[.int .i64 (Lib.atoiSat s.data.toList), .iface 109 (.pointer (some ⟨N,0,none⟩))])∧w.heap.size≤N∧w'.heap[N]? =some (.cells #[.string ⟨#[65,116,111,105]⟩, .string s,ev] 124 (0,0))∧Below w.heap.size w w':=Any.strconv_Atoi_range Tryz.C9 s hlim h ev w hv hev
def Tryz.Kl:Go.Shelf.Ren:=⟨fun|145=>20|220=>41|219=>63|217=>88|225=>89|224=>90|267=>91|266=>115|314=>116|n=>n,fun|9=>9|4=>4|59=>46|3=>3|5=>5|46=>88|146=>103|51=>102|n=>n,fun|1=>0|n=>n⟩
theorem Tryz.XZ:Go.Proofs.Lays.n145 Tryz.prog Tryz.Kl:= {
 mixed:=by kernel_rfl
 f145:=Tryz.func20.trans (congrArg some (by kernel_rfl))
 f217:=Tryz.func88.trans (congrArg some (by kernel_rfl))
 f219:=Tryz.func63.trans (congrArg some (by kernel_rfl))
 f220:=Tryz.func41.trans (congrArg some (by kernel_rfl))
 f224:=Tryz.func90.trans (congrArg some (by kernel_rfl))
 f225:=Tryz.func89.trans (congrArg some (by kernel_rfl))
 f266:=Tryz.func115.trans (congrArg some (by kernel_rfl))
 f267:=Tryz.func91.trans (congrArg some (by kernel_rfl))
 f314:=Tryz.func116.trans (congrArg some (by kernel_rfl))
 t3:=Tryz.underlying3
 a3:=Tryz.isAgg3
 z3:=Tryz.sizeOf3
 v3:=Tryz.zeroValue3
 t4:=Tryz.underlying4
 a4:=Tryz.isAgg4
 z4:=Tryz.sizeOf4
 v4:=Tryz.zeroValue4
 t5:=Tryz.underlying5
 a5:=Tryz.isAgg5
 z5:=Tryz.sizeOf5
 v5:=Tryz.zeroValue5
 t9:=Tryz.underlying9
 a9:=Tryz.isAgg9
 z9:=Tryz.sizeOf9
 v9:=Tryz.zeroValue9
 t46:=Tryz.underlying88
 a46:=Tryz.isAgg88
 z46:=Tryz.sizeOf88
 v46:=Tryz.zeroValue88
 t51:=Tryz.underlying102
 a51:=Tryz.isAgg102
 z51:=Tryz.sizeOf102
 v51:=Tryz.zeroValue102
 t59:=Tryz.underlying46
 a59:=Tryz.isAgg46
 z59:=Tryz.sizeOf46
 v59:=Tryz.zeroValue46
 t146:=Tryz.underlying103
 a146:=Tryz.isAgg103
 z146:=Tryz.sizeOf103
 v146:=Tryz.zeroValue103
 g1:=by kernel_rfl}
open Go.RowKit Go.Lib in
theorem Tryz.strings_Cut (s sep:ByteArray) (m:Int) (w:World) (hs:s.size<4294967281) (hm:w.cell? ⟨0,0,none⟩=some (.int .i64 m)):
 Calls Tryz.prog 20 #[.string s, .string sep] w fun e w'=>e= .returned (.tuple #[.string ⟨(Lib.cut s.data.toList sep.data.toList).1.toArray⟩, .string ⟨(Lib.cut s.data.toList sep.data.toList).2.1.toArray⟩, .bool (Lib.cut s.data.toList sep.data.toList).2.2])∧∃n,w'=w.drewN n:=Any.strings_Cut Tryz.XZ s sep m w hs hm
def Tryz.Km:Go.Shelf.Ren:=⟨fun|146=>47|221=>73|268=>104|138=>105|143=>106|195=>124|197=>86|218=>125|219=>63|260=>113|217=>88|225=>89|224=>90|267=>91|266=>115|314=>116|n=>n,fun|9=>9|31=>34|3=>3|4=>4|0=>0|105=>69|21=>21|5=>5|46=>88|119=>117|139=>120|138=>119|146=>103|51=>102|n=>n,fun|1=>0|3=>2|4=>3|n=>n⟩
theorem Tryz.X0:Go.Proofs.Lays.n146 Tryz.prog Tryz.Km:= {
 mixed:=by kernel_rfl
 f138:=Tryz.func105.trans (congrArg some (by kernel_rfl))
 f143:=Tryz.func106.trans (congrArg some (by kernel_rfl))
 f146:=Tryz.func47.trans (congrArg some (by kernel_rfl))
 f195:=Tryz.func124.trans (congrArg some (by kernel_rfl))
 f197:=Tryz.func86.trans (congrArg some (by kernel_rfl))
 f217:=Tryz.func88.trans (congrArg some (by kernel_rfl))
 f218:=Tryz.func125.trans (congrArg some (by kernel_rfl))
 f219:=Tryz.func63.trans (congrArg some (by kernel_rfl))
 f221:=Tryz.func73.trans (congrArg some (by kernel_rfl))
 f224:=Tryz.func90.trans (congrArg some (by kernel_rfl))
 f225:=Tryz.func89.trans (congrArg some (by kernel_rfl))
 f260:=Tryz.func113.trans (congrArg some (by kernel_rfl))
 f266:=Tryz.func115.trans (congrArg some (by kernel_rfl))
 f267:=Tryz.func91.trans (congrArg some (by kernel_rfl))
 f268:=Tryz.func104.trans (congrArg some (by kernel_rfl))
 f314:=Tryz.func116.trans (congrArg some (by kernel_rfl))
 t0:=Tryz.underlying0
 a0:=Tryz.isAgg0
 z0:=Tryz.sizeOf0
 v0:=Tryz.zeroValue0
 t3:=Tryz.underlying3
 a3:=Tryz.isAgg3
 z3:=Tryz.sizeOf3
 v3:=Tryz.zeroValue3
 t4:=Tryz.underlying4
 a4:=Tryz.isAgg4
 z4:=Tryz.sizeOf4
 v4:=Tryz.zeroValue4
 t5:=Tryz.underlying5
 a5:=Tryz.isAgg5
 z5:=Tryz.sizeOf5
 v5:=Tryz.zeroValue5
 t9:=Tryz.underlying9
 a9:=Tryz.isAgg9
 z9:=Tryz.sizeOf9
 v9:=Tryz.zeroValue9
 t21:=Tryz.underlying21
 a21:=Tryz.isAgg21
 z21:=Tryz.sizeOf21
 v21:=Tryz.zeroValue21
 t31:=Tryz.underlying34
 a31:=Tryz.isAgg34
 z31:=Tryz.sizeOf34
 v31:=Tryz.zeroValue34
 t46:=Tryz.underlying88
 a46:=Tryz.isAgg88
 z46:=Tryz.sizeOf88
 v46:=Tryz.zeroValue88
 t51:=Tryz.underlying102
 a51:=Tryz.isAgg102
 z51:=Tryz.sizeOf102
 v51:=Tryz.zeroValue102
 t105:=Tryz.underlying69
 a105:=Tryz.isAgg69
 z105:=Tryz.sizeOf69
 v105:=Tryz.zeroValue69
 t119:=Tryz.underlying117
 a119:=Tryz.isAgg117
 z119:=Tryz.sizeOf117
 t138:=Tryz.underlying119
 a138:=Tryz.isAgg119
 z138:=Tryz.sizeOf119
 v138:=Tryz.zeroValue119
 t139:=Tryz.underlying120
 a139:=Tryz.isAgg120
 z139:=Tryz.sizeOf120
 v139:=Tryz.zeroValue120
 t146:=Tryz.underlying103
 a146:=Tryz.isAgg103
 z146:=Tryz.sizeOf103
 v146:=Tryz.zeroValue103
 g1:=by kernel_rfl
 g3:=by kernel_rfl
 g4:=by kernel_rfl}
open Go.RowKit Go.Lib in
theorem Tryz.strings_Split (s sep:ByteArray) (m:Int) (w:World) (hs:s.size<4294967281) (hm:w.cell? ⟨0,0,none⟩=some (.int .i64 m)) (h1:1≤sep.size):
 Calls Tryz.prog 47 #[.string s, .string sep] w fun e w'=>
  e= .returned (.slice (some ⟨w.heap.size,0,none⟩) (Lib.countB s sep+1) (Lib.countB s sep+1))∧w'=w.alloc (.cells ((Lib.splitB sep 0 (Lib.countB s sep) s).map Value.string).toArray 9):=Any.strings_Split Tryz.X0 (by kernel_rfl) s sep m w hs hm h1
def Tryz.Kn:Go.Shelf.Ren:=⟨fun|161=>65|231=>97|227=>38|233=>98|235=>99|228=>60|197=>86|151=>62|260=>113|152=>87|137=>108|119=>114|224=>90|225=>89|217=>88|266=>115|n=>n,fun|9=>9|4=>4|3=>3|5=>5|117=>53|116=>52|0=>0|124=>56|105=>69|21=>21|119=>117|46=>88|139=>120|138=>119|n=>n,fun|3=>2|4=>3|n=>n⟩
theorem Tryz.X1:Go.Proofs.Lays.n161 Tryz.prog Tryz.Kn:= {
 mixed:=by kernel_rfl
 f119:=Tryz.func114.trans (congrArg some (by kernel_rfl))
 f137:=Tryz.func108.trans (congrArg some (by kernel_rfl))
 f151:=Tryz.func62.trans (congrArg some (by kernel_rfl))
 f152:=Tryz.func87.trans (congrArg some (by kernel_rfl))
 f161:=Tryz.func65.trans (congrArg some (by kernel_rfl))
 f197:=Tryz.func86.trans (congrArg some (by kernel_rfl))
 f217:=Tryz.func88.trans (congrArg some (by kernel_rfl))
 f224:=Tryz.func90.trans (congrArg some (by kernel_rfl))
 f225:=Tryz.func89.trans (congrArg some (by kernel_rfl))
 f227:=Tryz.func38.trans (congrArg some (by kernel_rfl))
 f228:=Tryz.func60.trans (congrArg some (by kernel_rfl))
 f231:=Tryz.func97.trans (congrArg some (by kernel_rfl))
 f233:=Tryz.func98.trans (congrArg some (by kernel_rfl))
 f235:=Tryz.func99.trans (congrArg some (by kernel_rfl))
 f260:=Tryz.func113.trans (congrArg some (by kernel_rfl))
 f266:=Tryz.func115.trans (congrArg some (by kernel_rfl))
 t0:=Tryz.underlying0
 a0:=Tryz.isAgg0
 z0:=Tryz.sizeOf0
 v0:=Tryz.zeroValue0
 t3:=Tryz.underlying3
 a3:=Tryz.isAgg3
 z3:=Tryz.sizeOf3
 v3:=Tryz.zeroValue3
 t4:=Tryz.underlying4
 a4:=Tryz.isAgg4
 z4:=Tryz.sizeOf4
 v4:=Tryz.zeroValue4
 t5:=Tryz.underlying5
 a5:=Tryz.isAgg5
 z5:=Tryz.sizeOf5
 v5:=Tryz.zeroValue5
 t9:=Tryz.underlying9
 a9:=Tryz.isAgg9
 z9:=Tryz.sizeOf9
 v9:=Tryz.zeroValue9
 t21:=Tryz.underlying21
 a21:=Tryz.isAgg21
 z21:=Tryz.sizeOf21
 v21:=Tryz.zeroValue21
 t46:=Tryz.underlying88
 a46:=Tryz.isAgg88
 z46:=Tryz.sizeOf88
 v46:=Tryz.zeroValue88
 t105:=Tryz.underlying69
 a105:=Tryz.isAgg69
 z105:=Tryz.sizeOf69
 v105:=Tryz.zeroValue69
 t116:=Tryz.underlying52
 a116:=Tryz.isAgg52
 z116:=Tryz.sizeOf52
 t117:=Tryz.underlying53
 a117:=Tryz.isAgg53
 z117:=Tryz.sizeOf53
 v117:=Tryz.zeroValue53
 t119:=Tryz.underlying117
 a119:=Tryz.isAgg117
 z119:=Tryz.sizeOf117
 t124:=Tryz.underlying56
 a124:=Tryz.isAgg56
 z124:=Tryz.sizeOf56
 v124:=Tryz.zeroValue56
 t138:=Tryz.underlying119
 a138:=Tryz.isAgg119
 z138:=Tryz.sizeOf119
 v138:=Tryz.zeroValue119
 t139:=Tryz.underlying120
 a139:=Tryz.isAgg120
 z139:=Tryz.sizeOf120
 v139:=Tryz.zeroValue120
 g3:=by kernel_rfl
 g4:=by kernel_rfl}
open Go.RowKit in
theorem Tryz.strings_TrimLeft_one (s:ByteArray) (c:UInt8) (hc:c.toNat<128) (w:World):
 Calls Tryz.prog 65 #[.string s, .string ⟨#[c]⟩] w fun e w'=>e= .returned (.string ⟨(Lib.trimLeftB s.data.toList c).toArray⟩)∧w'=w:=Any.strings_TrimLeft_one Tryz.X1 s c hc w
def Tryz.Ko:Go.Shelf.Ren:=⟨fun|162=>19|232=>37|227=>38|234=>39|236=>40|228=>60|271=>61|151=>62|120=>85|197=>86|152=>87|260=>113|137=>108|119=>114|224=>90|225=>89|217=>88|266=>115|n=>n,fun|9=>9|4=>4|3=>3|5=>5|117=>53|116=>52|0=>0|124=>56|21=>21|105=>69|46=>88|119=>117|139=>120|138=>119|n=>n,fun|3=>2|4=>3|n=>n⟩
theorem Tryz.X2:Go.Proofs.Lays.n162 Tryz.prog Tryz.Ko:= {
 mixed:=by kernel_rfl
 f119:=Tryz.func114.trans (congrArg some (by kernel_rfl))
 f120:=Tryz.func85.trans (congrArg some (by kernel_rfl))
 f137:=Tryz.func108.trans (congrArg some (by kernel_rfl))
 f151:=Tryz.func62.trans (congrArg some (by kernel_rfl))
 f152:=Tryz.func87.trans (congrArg some (by kernel_rfl))
 f162:=Tryz.func19.trans (congrArg some (by kernel_rfl))
 f197:=Tryz.func86.trans (congrArg some (by kernel_rfl))
 f217:=Tryz.func88.trans (congrArg some (by kernel_rfl))
 f224:=Tryz.func90.trans (congrArg some (by kernel_rfl))
 f225:=Tryz.func89.trans (congrArg some (by kernel_rfl))
 f227:=Tryz.func38.trans (congrArg some (by kernel_rfl))
 f228:=Tryz.func60.trans (congrArg some (by kernel_rfl))
 f232:=Tryz.func37.trans (congrArg some (by kernel_rfl))
 f234:=Tryz.func39.trans (congrArg some (by kernel_rfl))
 f236:=Tryz.func40.trans (congrArg some (by kernel_rfl))
 f260:=Tryz.func113.trans (congrArg some (by kernel_rfl))
 f266:=Tryz.func115.trans (congrArg some (by kernel_rfl))
 f271:=Tryz.func61.trans (congrArg some (by kernel_rfl))
 t0:=Tryz.underlying0
 a0:=Tryz.isAgg0
 z0:=Tryz.sizeOf0
 v0:=Tryz.zeroValue0
 t3:=Tryz.underlying3
 a3:=Tryz.isAgg3
 z3:=Tryz.sizeOf3
 v3:=Tryz.zeroValue3
 t4:=Tryz.underlying4
 a4:=Tryz.isAgg4
 z4:=Tryz.sizeOf4
 v4:=Tryz.zeroValue4
 t5:=Tryz.underlying5
 a5:=Tryz.isAgg5
 z5:=Tryz.sizeOf5
 v5:=Tryz.zeroValue5
 t9:=Tryz.underlying9
 a9:=Tryz.isAgg9
 z9:=Tryz.sizeOf9
 v9:=Tryz.zeroValue9
 t21:=Tryz.underlying21
 a21:=Tryz.isAgg21
 z21:=Tryz.sizeOf21
 v21:=Tryz.zeroValue21
 t46:=Tryz.underlying88
 a46:=Tryz.isAgg88
 z46:=Tryz.sizeOf88
 v46:=Tryz.zeroValue88
 t105:=Tryz.underlying69
 a105:=Tryz.isAgg69
 z105:=Tryz.sizeOf69
 v105:=Tryz.zeroValue69
 t116:=Tryz.underlying52
 a116:=Tryz.isAgg52
 z116:=Tryz.sizeOf52
 t117:=Tryz.underlying53
 a117:=Tryz.isAgg53
 z117:=Tryz.sizeOf53
 v117:=Tryz.zeroValue53
 t119:=Tryz.underlying117
 a119:=Tryz.isAgg117
 z119:=Tryz.sizeOf117
 t124:=Tryz.underlying56
 a124:=Tryz.isAgg56
 z124:=Tryz.sizeOf56
 v124:=Tryz.zeroValue56
 t138:=Tryz.underlying119
 a138:=Tryz.isAgg119
 z138:=Tryz.sizeOf119
 v138:=Tryz.zeroValue119
 t139:=Tryz.underlying120
 a139:=Tryz.isAgg120
 z139:=Tryz.sizeOf120
 v139:=Tryz.zeroValue120
 g3:=by kernel_rfl
 g4:=by kernel_rfl}
open Go.RowKit in
theorem Tryz.strings_TrimRight_one (s:ByteArray) (c:UInt8) (hc:c.toNat<128) (w:World) (hs:s.size≤9223372036854775807):
 Calls Tryz.prog 19 #[.string s, .string ⟨#[c]⟩] w fun e w'=>e= .returned (.string ⟨(Lib.trimRightB s.data.toList c).toArray⟩)∧w'=w:=Any.strings_TrimRight_one Tryz.X2 s c hc w hs
def Tryz.Kp:Go.Shelf.Ren:=⟨fun|160=>67|232=>37|231=>97|227=>38|234=>39|233=>98|236=>40|235=>99|228=>60|271=>61|151=>62|197=>86|120=>85|152=>87|260=>113|137=>108|119=>114|224=>90|225=>89|217=>88|266=>115|n=>n,fun|9=>9|4=>4|3=>3|5=>5|117=>53|116=>52|0=>0|124=>56|21=>21|105=>69|46=>88|119=>117|139=>120|138=>119|n=>n,fun|3=>2|4=>3|n=>n⟩
theorem Tryz.X3:Go.Proofs.Lays.n160 Tryz.prog Tryz.Kp:= {
 mixed:=by kernel_rfl
 f119:=Tryz.func114.trans (congrArg some (by kernel_rfl))
 f120:=Tryz.func85.trans (congrArg some (by kernel_rfl))
 f137:=Tryz.func108.trans (congrArg some (by kernel_rfl))
 f151:=Tryz.func62.trans (congrArg some (by kernel_rfl))
 f152:=Tryz.func87.trans (congrArg some (by kernel_rfl))
 f160:=Tryz.func67.trans (congrArg some (by kernel_rfl))
 f197:=Tryz.func86.trans (congrArg some (by kernel_rfl))
 f217:=Tryz.func88.trans (congrArg some (by kernel_rfl))
 f224:=Tryz.func90.trans (congrArg some (by kernel_rfl))
 f225:=Tryz.func89.trans (congrArg some (by kernel_rfl))
 f227:=Tryz.func38.trans (congrArg some (by kernel_rfl))
 f228:=Tryz.func60.trans (congrArg some (by kernel_rfl))
 f231:=Tryz.func97.trans (congrArg some (by kernel_rfl))
 f232:=Tryz.func37.trans (congrArg some (by kernel_rfl))
 f233:=Tryz.func98.trans (congrArg some (by kernel_rfl))
 f234:=Tryz.func39.trans (congrArg some (by kernel_rfl))
 f235:=Tryz.func99.trans (congrArg some (by kernel_rfl))
 f236:=Tryz.func40.trans (congrArg some (by kernel_rfl))
 f260:=Tryz.func113.trans (congrArg some (by kernel_rfl))
 f266:=Tryz.func115.trans (congrArg some (by kernel_rfl))
 f271:=Tryz.func61.trans (congrArg some (by kernel_rfl))
 t0:=Tryz.underlying0
 a0:=Tryz.isAgg0
 z0:=Tryz.sizeOf0
 v0:=Tryz.zeroValue0
 t3:=Tryz.underlying3
 a3:=Tryz.isAgg3
 z3:=Tryz.sizeOf3
 v3:=Tryz.zeroValue3
 t4:=Tryz.underlying4
 a4:=Tryz.isAgg4
 z4:=Tryz.sizeOf4
 v4:=Tryz.zeroValue4
 t5:=Tryz.underlying5
 a5:=Tryz.isAgg5
 z5:=Tryz.sizeOf5
 v5:=Tryz.zeroValue5
 t9:=Tryz.underlying9
 a9:=Tryz.isAgg9
 z9:=Tryz.sizeOf9
 v9:=Tryz.zeroValue9
 t21:=Tryz.underlying21
 a21:=Tryz.isAgg21
 z21:=Tryz.sizeOf21
 v21:=Tryz.zeroValue21
 t46:=Tryz.underlying88
 a46:=Tryz.isAgg88
 z46:=Tryz.sizeOf88
 v46:=Tryz.zeroValue88
 t105:=Tryz.underlying69
 a105:=Tryz.isAgg69
 z105:=Tryz.sizeOf69
 v105:=Tryz.zeroValue69
 t116:=Tryz.underlying52
 a116:=Tryz.isAgg52
 z116:=Tryz.sizeOf52
 t117:=Tryz.underlying53
 a117:=Tryz.isAgg53
 z117:=Tryz.sizeOf53
 v117:=Tryz.zeroValue53
 t119:=Tryz.underlying117
 a119:=Tryz.isAgg117
 z119:=Tryz.sizeOf117
 t124:=Tryz.underlying56
 a124:=Tryz.isAgg56
 z124:=Tryz.sizeOf56
 v124:=Tryz.zeroValue56
 t138:=Tryz.underlying119
 a138:=Tryz.isAgg119
 z138:=Tryz.sizeOf119
 v138:=Tryz.zeroValue119
 t139:=Tryz.underlying120
 a139:=Tryz.isAgg120
 z139:=Tryz.sizeOf120
 v139:=Tryz.zeroValue120
 g3:=by kernel_rfl
 g4:=by kernel_rfl}
end Go.Proofs
end
section
set_option maxRecDepth 100000
namespace Go.Proofs.cQ
open Go Go.Am Go.Proofs
def FQ (cs:Array Value):Prop:=∃ev,cs= #[ev]∧(ev= .nilIface∨∃te pe,ev= .iface te pe)
instance zw:Tabs:=⟨[(0,fun cs=>∃m,cs= #[.int .i64 m]),(1,fun cs=>cs=(Lib.pow10Tab.map fun z=>Value.int .u64 z).toArray),(4,FQ),(5,FQ)]⟩
theorem ad5 {F:Nat→Prop} {w:World} (hF:FL F w) {g:Nat} {p:Array Value→Prop} (hm:(g,p)∈Tabs.l) {v:Value} (hp:∀cs,p cs→cs[0]? =some v∨True):∃cs ty fr,w.heap[g]? =some (.cells cs ty fr)∧p cs:=(hF.Le _ hm).2
theorem cell_of {w:World} {g:Nat} {v:Value} {ty:TypeId} {fr:Nat×Nat} (h:w.heap[g]? =some (.cells #[v] ty fr)):w.cell? ⟨g,0,none⟩=some v:=by
 simp [World.cell?,h]
theorem IU {F:Nat→Prop} {w:World} (hF:FL F w):∃m,w.cell? ⟨0,0,none⟩=some (.int .i64 m):=by
 obtain ⟨-,cs,ty,fr,h,m,rfl⟩:=hF.Le (0,fun cs=>∃m,cs= #[.int .i64 m]) (by simp [Tabs.l,zw])
 exact ⟨m,cell_of h⟩
theorem IV {F:Nat→Prop} {w:World} (hF:FL F w) {g:Nat} (hm:(g,FQ)∈Tabs.l):∃ev,w.cell? ⟨g,0,none⟩=some ev∧(ev= .nilIface∨∃te pe,ev= .iface te pe):=by
 obtain ⟨-,cs,ty,fr,h,ev,rfl,he⟩:=hF.Le _ hm
 exact ⟨ev,cell_of h,he⟩
theorem args1 {γ:List Nat} {C:Nat→List Value} {vs:Array Value} {a:AV} {v:Value} (hl:vs.size=[a].length) (h:vs.getD 0 undef=v):vs= #[v]:=by
 apply Array.ext
 · simpa using hl
 · intro i h1 h2
   simp at h2;subst h2
   simpa [Array.getD_eq_getD_getElem?,Array.getElem?_eq_getElem h1] using h
theorem args2 {vs:Array Value} {a b:AV} {v u:Value} (hl:vs.size=[a,b].length) (h:vs.getD 0 undef=v) (h':vs.getD 1 undef=u):vs= #[v,u]:=by
 apply Array.ext
 · simpa using hl
 · intro i h1 h2
   have:i=0∨i=1:=by simp at h2;omega
   rcases this with rfl|rfl
   · simpa [Array.getD_eq_getD_getElem?,Array.getElem?_eq_getElem h1] using h
   · simpa [Array.getD_eq_getD_getElem?,Array.getElem?_eq_getElem h1] using h'
def strconv_Itoa (n:Int):Option (List UInt8):=if -9223372036854775808≤n∧n≤9223372036854775807 then some (Lib.itoa n) else none
theorem uU {i1:Int} {H0:AH} {r0:List UInt8} (h:strconv_Itoa i1=some r0):aG Tryz.prog 34 [(.int .i64 i1)] H0 fun v H'=>v=(.str r0)∧H'=H0:=by
 unfold strconv_Itoa at h
 obtain ⟨⟨h0,h1⟩,h⟩:=JB h
 injection h with h
 subst h
 exact MD i1 (by kernel_rfl) (fun F w hF=>Uf hF (g:=1) (by simp [Tabs.l,zw]) (by kernel_rfl)) (fun w ht=>Tryz.strconv_Itoa i1 h0 h1 w ht)
def strings_IndexByte (s:List UInt8) (c:UInt8):Option Int:=some (Lib.indexByte s c)
theorem xC {s1:List UInt8} {c2:UInt8} {H0:AH} {r0:Int} (h:strings_IndexByte s1 c2=some r0):aG Tryz.prog 108 [(.str s1),(b8 c2)] H0 fun v H'=>v=(.int .i64 r0)∧H'=H0:=by
 unfold strings_IndexByte at h
 injection h with h
 subst h
 refine aG.XU rfl (by simp) (by kernel_rfl) fun F C γ w vs hF hl hv=> ?_
 have h0:=(hv 0 _ rfl).di
 have h1:=VR.dh (hv 1 _ rfl)
 obtain rfl:=args2 hl h0 h1
 refine (Tryz.strings_IndexByte ⟨s1.toArray⟩ _ w).mono ?_
 rintro e w' ⟨rfl,rfl⟩
 refine ⟨_,rfl, ?_,by simp [TC],fun _ _=>rfl,Nat.le_refl _,rfl,rfl,rfl⟩
 have:(c2.toNat:Int).toNat.toUInt8=c2:=by simp
 rw [this]
 exact .int ..
def strconv_Atoi (s:List UInt8):Option (Int×Bool):=if s.length≤281474976710656 then some (match Lib.atoiAll s with| .ok v=>(v,false)|Go.Lib.NumEnd.syntax=>(0,true)| .range=>(Lib.atoiSat s,true)) else none
theorem strconv_Atoi_ok {s1:List UInt8} {H0:AH} {r0:Int} {r1:Bool} (h:strconv_Atoi s1=some (r0,r1)):aG Tryz.prog 66 [(.str s1)] H0 fun v H'=>v=(.bG [(.int .i64 r0),(eB r1)])∧H'=H0:=by
 unfold strconv_Atoi at h
 obtain ⟨hs,h⟩:=JB h
 injection h with h
 refine aG.XU rfl (by simp) (by kernel_rfl) fun F C γ w vs hF hl hv=> ?_
 have h0:=(hv 0 _ rfl).di
 obtain rfl:=args1 (γ:=γ) (C:=C) hl h0
 have hsz:(⟨s1.toArray⟩:ByteArray).size=s1.length:=by simp [ByteArray.size]
 have hd:(⟨s1.toArray⟩:ByteArray).data.toList=s1:=by simp
 rcases Ak:Lib.atoiAll s1 with v|_|_
 · rw [Ak] at h
   injection h with ha hb
   subst ha hb
   refine (Tryz.strconv_Atoi_ok ⟨s1.toArray⟩ (by omega) v (by rw [hd];exact Ak) w).mono ?_
   rintro e w' ⟨rfl,hw⟩
   refine ⟨_,rfl, ?_, ?_, ?_⟩
   · refine .bG _ _ _ rfl fun i a hi=> ?_
     match i,hi with
     |0,hi=>injection hi with hi;subst hi;exact .int ..
     |1,hi=>injection hi with hi;subst hi;exact .v _ _ rfl
   · intro i a hi
     match i,hi with
     |0,hi=>injection hi with hi;subst hi;trivial
     |1,hi=>injection hi with hi;subst hi;trivial
   · rcases hw with rfl|⟨t,rfl⟩
     · exact ⟨fun _ _=>rfl,Nat.le_refl _,rfl,rfl,rfl⟩
     · exact ⟨fun b hb=>Lib.bytesWorld_at_old _ _ _ _ hb,by rw [Lib.bytesWorld_size];omega,rfl,rfl,rfl⟩
 · rw [Ak] at h
   injection h with ha hb
   subst ha hb
   obtain ⟨ev,hc,he⟩:=IV hF (g:=4) (by simp [Tabs.l,zw])
   refine (Tryz.strconv_Atoi_syntax ⟨s1.toArray⟩ (by omega) (by rw [hd];exact Ak) ev w hc he).mono ?_
   rintro e w' ⟨N,rfl, -, -,hb⟩
   refine ⟨_,rfl, ?_, ?_,hb.block,hb.size,hb.os,hb.tape,hb.output⟩
   · refine .bG _ _ _ rfl fun i a hi=> ?_
     match i,hi with
     |0,hi=>injection hi with hi;subst hi;exact .int ..
     |1,hi=>injection hi with hi;subst hi;exact .eF ..
   · intro i a hi
     match i,hi with
     |0,hi=>injection hi with hi;subst hi;trivial
     |1,hi=>injection hi with hi;subst hi;trivial
 · rw [Ak] at h
   injection h with ha hb
   subst ha hb
   obtain ⟨ev,hc,he⟩:=IV hF (g:=5) (by simp [Tabs.l,zw])
   refine (Tryz.strconv_Atoi_range ⟨s1.toArray⟩ (by omega) (by rw [hd];exact Ak) ev w hc he).mono ?_
   rintro e w' ⟨N,rfl, -, -,hb⟩
   refine ⟨_,rfl, ?_, ?_,hb.block,hb.size,hb.os,hb.tape,hb.output⟩
   · refine .bG _ _ _ rfl fun i a hi=> ?_
     match i,hi with
     |0,hi=>injection hi with hi;subst hi;simp only [hd];exact .int ..
     |1,hi=>injection hi with hi;subst hi;exact .eF ..
   · intro i a hi
     match i,hi with
     |0,hi=>injection hi with hi;subst hi;trivial
     |1,hi=>injection hi with hi;subst hi;trivial
theorem yx {sep:List UInt8} (h1:sep≠[]):∀(n:Nat) (l:List UInt8),Lib.count l sep=n→(Lib.splitK sep 0 n l).length=n+1
 |0,_,_=>rfl
 |n+1,l,h=>by
  rcases Lib.index_spec l sep with ⟨hi, -⟩|⟨i,hi, -, -, -⟩
  · rw [Lib.count_miss hi] at h;cases h
  · have hc:=Lib.count_hit h1 hi
    unfold Lib.splitK
    rw [if_neg (by rw [hi];simp),List.length_cons,yx h1 n _ (by rw [hi,Int.toNat_natCast];omega)]
def strings_Split (s sep:List UInt8):Option (List (List UInt8)):=if s.length<4294967281∧1≤sep.length then some (Lib.split s sep) else none
theorem jU {s1 s2:List UInt8} {H0:AH} {r0:List (List UInt8)} (h:strings_Split s1 s2=some r0):aG Tryz.prog 47 [(.str s1),(.str s2)] H0 fun v H'=>v=(.sl .n 1 (ml AV.str r0))∧H'=H0:=by
 unfold strings_Split at h
 obtain ⟨⟨hs,hs2⟩,h⟩:=JB h
 injection h with h
 subst h
 refine aG.XV (by kernel_rfl) fun F C γ w vs hF hl hv=> ?_
 obtain rfl:=args2 hl (hv 0 _ rfl).di (hv 1 _ rfl).di
 obtain ⟨m,hm⟩:=IU hF
 have hsz:(⟨s1.toArray⟩:ByteArray).size=s1.length:=by simp [ByteArray.size]
 have agH:(⟨s2.toArray⟩:ByteArray).size=s2.length:=by simp [ByteArray.size]
 refine (Tryz.strings_Split ⟨s1.toArray⟩ ⟨s2.toArray⟩ m w (by omega) hm (by omega)).mono ?_
 rintro e w' ⟨rfl,rfl⟩
 have hd:(Lib.splitB ⟨s2.toArray⟩ 0 (Lib.countB ⟨s1.toArray⟩ ⟨s2.toArray⟩) ⟨s1.toArray⟩).map (·.data.toList)=Lib.split s1 s2:=by
  rw [Lib.splitB_data];simp [Lib.split,Lib.countB]
 have hlen:(Lib.split s1 s2).length=Lib.countB ⟨s1.toArray⟩ ⟨s2.toArray⟩+1:=by
  exact yx (by intro h;rw [h] at hs2;simp at hs2) _ _ rfl
 refine ⟨9,(0,0),by rw [hlen], ?_,by simp⟩
 rw [←hd,List.map_map]
 congr 3
def strings_Cut (s sep:List UInt8):Option (List UInt8×List UInt8×Bool):=if s.length<4294967281 then some (Lib.cut s sep) else none
theorem Em {s1 s2:List UInt8} {H0:AH} {r0 r1:List UInt8} {r2:Bool} (h:strings_Cut s1 s2=some (r0,r1,r2)):aG Tryz.prog 20 [(.str s1),(.str s2)] H0 fun v H'=>v=(.bG [(.str r0),(.str r1),(.bool r2)])∧H'=H0:=by
 unfold strings_Cut at h
 obtain ⟨hs,h⟩:=JB h
 injection h with h
 refine aG.XU rfl (by simp) (by kernel_rfl) fun F C γ w vs hF hl hv=> ?_
 obtain rfl:=args2 hl (hv 0 _ rfl).di (hv 1 _ rfl).di
 obtain ⟨m,hm⟩:=IU hF
 have hsz:(⟨s1.toArray⟩:ByteArray).size=s1.length:=by simp [ByteArray.size]
 refine (Tryz.strings_Cut ⟨s1.toArray⟩ ⟨s2.toArray⟩ m w (by omega) hm).mono ?_
 rintro e w' ⟨rfl,n,rfl⟩
 have hd1:(⟨s1.toArray⟩:ByteArray).data.toList=s1:=by simp
 have LA:(⟨s2.toArray⟩:ByteArray).data.toList=s2:=by simp
 rw [hd1,LA,h]
 refine ⟨_,rfl, ?_, ?_,fun _ _=>rfl,Nat.le_refl _,rfl,rfl,rfl⟩
 · refine .bG _ _ _ rfl fun i a hi=> ?_
   match i,hi with
   |0,hi=>injection hi with hi;subst hi;exact .str ..
   |1,hi=>injection hi with hi;subst hi;exact .str ..
   |2,hi=>injection hi with hi;subst hi;exact .bool ..
 · intro i a hi
   match i,hi with
   |0,hi=>injection hi with hi;subst hi;trivial
   |1,hi=>injection hi with hi;subst hi;trivial
   |2,hi=>injection hi with hi;subst hi;trivial
def gS (s c:List UInt8):Option (List UInt8):=if c=[32] then some (Lib.trimLeftB s 32) else none
theorem yy {s1 s2:List UInt8} {H0:AH} {r0:List UInt8} (h:gS s1 s2=some r0):aG Tryz.prog 65 [(.str s1),(.str s2)] H0 fun v H'=>v=(.str r0)∧H'=H0:=by
 unfold gS at h
 obtain ⟨hc,h⟩:=JB h
 injection h with h
 subst h
 refine aG.E5 (by kernel_rfl) fun F C γ w vs hF hl hv=> ?_
 obtain rfl:=args2 hl (hv 0 _ rfl).di (hv 1 _ rfl).di
 have hsz:(⟨s1.toArray⟩:ByteArray).size=s1.length:=by simp [ByteArray.size]
 subst hc
 refine (Tryz.strings_TrimLeft_one ⟨s1.toArray⟩ 32 (by decide) w).mono ?_
 rintro e w' ⟨rfl,rfl⟩
 exact ⟨by simp,fun _ _=>rfl,Nat.le_refl _,rfl,rfl,rfl⟩
def gu (s c:List UInt8):Option (List UInt8):=if c=[32]∧s.length≤1000000000 then some (Lib.trimRightB s 32) else none
theorem xD {s1 s2:List UInt8} {H0:AH} {r0:List UInt8} (h:gu s1 s2=some r0):aG Tryz.prog 19 [(.str s1),(.str s2)] H0 fun v H'=>v=(.str r0)∧H'=H0:=by
 unfold gu at h
 obtain ⟨hc,h⟩:=JB h
 injection h with h
 subst h
 refine aG.E5 (by kernel_rfl) fun F C γ w vs hF hl hv=> ?_
 obtain rfl:=args2 hl (hv 0 _ rfl).di (hv 1 _ rfl).di
 have hsz:(⟨s1.toArray⟩:ByteArray).size=s1.length:=by simp [ByteArray.size]
 obtain ⟨rfl,hlen⟩:=hc
 refine (Tryz.strings_TrimRight_one ⟨s1.toArray⟩ 32 (by decide) w (by omega)).mono ?_
 rintro e w' ⟨rfl,rfl⟩
 exact ⟨by simp,fun _ _=>rfl,Nat.le_refl _,rfl,rfl,rfl⟩
def mQ:List UInt8:=[48,49,50,51,52,53,54,55,56,57]
def jK (s c:List UInt8):Option (List UInt8):=if c=mQ∧s.length≤1000000000 then some (Lib.trimS s mQ) else none
theorem Da {s1 s2:List UInt8} {H0:AH} {r0:List UInt8} (h:jK s1 s2=some r0):aG Tryz.prog 67 [(.str s1),(.str s2)] H0 fun v H'=>v=(.str r0)∧H'=H0:=by
 unfold jK at h
 obtain ⟨hc,h2⟩:=JB h
 obtain ⟨rfl,hlen⟩:=hc
 injection h2 with h2
 subst h2
 refine aG.E5 (by kernel_rfl) fun F C γ w vs hF hl hv=> ?_
 obtain rfl:=args2 hl (hv 0 _ rfl).di (hv 1 _ rfl).di
 have hsz:(⟨s1.toArray⟩:ByteArray).size=s1.length:=by simp [ByteArray.size]
 refine (Any.strings_Trim_laid Tryz.X3 (by kernel_rfl) ⟨s1.toArray⟩ ⟨#[48,49,50,51,52,53,54,55,56,57]⟩ w (by omega) (by decide) (ascii_of_all (by decide))).mono ?_
 rintro e w' ⟨rfl,hb⟩
 exact ⟨by simp [mQ],hb.block,hb.size,hb.os,hb.tape,hb.output⟩
end Go.Proofs.cQ
end
section
set_option maxRecDepth 100000
namespace Go.Proofs.cQ
open Go Go.Am Go.Proofs
open Nat renaming reduceEqDiff→nA,reduceLT→nB,reduceLeDiff→nC,reduceAdd→nD,reduceSub→nE,reduceMul→nF,reduceBEq→nG
set_option maxHeartbeats 2000000
structure aB where
 ak:List UInt8
 domain:List UInt8
 deriving DecidableEq
structure aC where
 kind:Int
 arg:List UInt8
 path:aB
 size:Int
 deriving DecidableEq
structure aE where
 s:List UInt8
 c8:Int
 bad:Bool
 deriving DecidableEq
abbrev uV:az:=(.rg [(av 15 5),(aj 16 (.bin .geq (.t 15) (.c (b8 65)))),(av 17 16),(ay 18 (.mv (.t 5)) 17 true),(ay 19 (.bin .leq (.t 18) (.c (b8 90))) 17 true),(aj 20 (.pick (.t 17) (.t 19) (.c (.bool false))))])
abbrev sW:az:=(.seq (.rg [(aj 11 (.bin .lss (.t 10) (.t 9)))]) (.seq (.cond (.t 11) .skip (.exit 0)) (.seq (.blk 1 (.seq (.rg [(av 12 10),(aj 13 (.pI 1 (.t 8) (.t 10))),(aj 14 (.ld (.t 13) none)),(aO 4 12),(aO 5 14)]) (.seq (.sem (erase uV)) (.cond (.t 20) (.rg [(av 21 3),(av 22 4),(aj 23 (.pI 1 (.t 21) (.t 22))),(aj 24 (.ld (.t 23) none)),(aj 25 (.bin .or (.t 24) (.c (b8 32)))),(aj 26 (.pI 1 (.t 21) (.t 22))),(cZ (.st (.t 26) (.t 25) 1))]) .skip)))) (.rg [(aj 27 (.bin .add (.t 10) (.c (.int .i64 1)))),(av 10 27)]))))
abbrev HQ:az:=(.seq (.rg [(aj 2 (.aT (.c (.str []))))]) (.seq (.rg [(av 6 0),(aj 7 (.qC (.t 6))),(aO 3 7)]) (.seq (.seq (.rg [(av 8 3),(aj 9 (.len (.t 8))),(aj 10 (.mv (.c (.int .i64 0))))]) (.blk 0 (.loop (erase sW)))) (.seq (.rg [(av 28 3),(aj 29 (.iT .bs (.t 28))),(aO 2 29)]) .ret))))
theorem HR:bL Tryz.prog 22 30 [(.tmp 2)] (erase HQ):=⟨Tryz.f22,_,rfl,by decide,rfl,by kernel_rfl,rfl,rfl⟩
abbrev uE:List Nat:=[0,2,3,4,5,8,9,10,11,20]
def gv (s1:List UInt8):(Int×(List UInt8))→Option (St (List UInt8) (List UInt8) (Int×(List UInt8)))
 |(t3,s4)=>
  (if (decide (t3<(s1.length:Int))) then
   (zE s1.length t3).bind fun j5=>
   (s4[j5]?).bind fun x6=>
   (if ((decide (65≤x6))&&(decide (x6≤90))) then
    (FN s4 j5 (x6 ||| 32)).bind fun s8=>some (.cA ((IntKind.wrap .i64 (t3+1)),s8))
   else
    some (.cA ((IntKind.wrap .i64 (t3+1)),s4)))
  else
   some (.dQ s4))
def gT (F:Nat) (s1:List UInt8):Option ((List UInt8)):=
 ((iter (gv s1) F (0,s1)).bind fun o12=>
 match o12 with
 | .inr X4=>
   (sub X4 0 (s1.length:Int)).bind fun ig=>some ig
 | .inl _=>none)
theorem BV {q7:Nat} {s1:List UInt8} {t3:Int} {x6:UInt8} {s4:List UInt8} {H0 H:AH} (hfr:Fr H0 H0.length [] H) (ai:H[q7]? =some (ml b8 s4)) (dB:H0.length≤q7) {K:Exit→Env→AH→Prop}
 (kn:∀H':AH,Fr H0 H0.length [] H'→H'[q7]? =some (ml b8 s4)→K .normal [(3,(.cE q7 1 0 s1.length)),(4,(.int .i64 t3)),(8,(.cE q7 1 0 s1.length)),(9,(.int .i64 (s1.length:Int))),(10,(.int .i64 t3)),(20,(.bool ((decide (65≤x6))&&(decide (x6≤90)))))] H'):
 AX Tryz.prog uE 30 H0.length (erase uV) K [(3,(.cE q7 1 0 s1.length)),(4,(.int .i64 t3)),(5,(b8 x6)),(8,(.cE q7 1 0 s1.length)),(9,(.int .i64 (s1.length:Int))),(10,(.int .i64 t3))] H:=by
 refine bY fun K' hK=> ?_
 have hle:=hfr.le
 have aL:=aN ai
 refine ax ai ?_
 refine gG (fun hy4=> ?_) fun hy4=> ?_
 · refine ax (aA hy4 ai) ?_
   exact hK _ _ _ _ _ (dj hy4) aq (kn _ hfr (ai.trans rfl))
 · refine ax (aA hy4 ai) ?_
   exact hK _ _ _ _ _ (dj hy4) aq (kn _ hfr (ai.trans rfl))
theorem BW {F:Nat} {t3:Int} {s1:List UInt8} {s4:List UInt8} {q2:Nat} {H0 H:AH} (hfr:Fr H0 H0.length [] H) (ai:H[q2]? =some (ml b8 s4)) (dB:H0.length≤q2) {K:Exit→Env→AH→Prop} {o:((List UInt8))⊕((List UInt8))}
 (h:iter (gv s1) F (t3,s4)=some o)
 (dz:∀o':(List UInt8),o= .inr o'→∀H':AH,Fr H0 H0.length [] H'→H'[q2]? =some (ml b8 o')→K (.exit 0) [(3,(.cE q2 1 0 s1.length))] H'):
 AX Tryz.prog uE 30 H0.length (.loop (erase sW)) K [(3,(.cE q2 1 0 s1.length)),(8,(.cE q2 1 0 s1.length)),(9,(.int .i64 (s1.length:Int))),(10,(.int .i64 t3))] H:=by
 refine iE (fun s e H1=>match s with|(t3,s4)=>e=[(3,(.cE q2 1 0 s1.length)),(8,(.cE q2 1 0 s1.length)),(9,(.int .i64 (s1.length:Int))),(10,(.int .i64 t3))]∧Fr H0 H0.length [] H1∧H1[q2]? =some (ml b8 s4)) h ⟨rfl,hfr,ai⟩ ?_
 rintro K' ⟨t3,s4⟩ st e H ⟨rfl,hfr,ai⟩ h hN hB hR hX
 have hle:=hfr.le
 have aL:=aN ai
 rw [gv.eq_1] at h
 refine ax ai ?_
 refine bk h (fun hy1 h=> ?_) fun hy1 h=> ?_
 · obtain ⟨j5,hy2,h⟩:=au h
   obtain ⟨x6,hy3,h⟩:=au h
   refine ax (aA hy2 (aA hy3 ai)) ?_
   refine bA aq (BV (q7:=q2) (s1:=s1) (t3:=t3) (x6:=x6) (s4:=s4) hfr (ai.trans rfl) bU ?_)
   intro H hfr ai
   have hle:=hfr.le
   have aL:=aN ai
   refine ax ai ?_
   refine bk h (fun bJ h=> ?_) fun bJ h=> ?_
   · obtain ⟨s8,ck,h⟩:=au h
     refine ax (aA hy2 (aA hy3 (aA hy2 (aA ck ai)))) ?_
     obtain rfl:=aD h
     exact hN _ rfl _ _ _ _ aK aq ⟨rfl,(b6 _ hfr),cL⟩
   · refine ax ai ?_
     obtain rfl:=aD h
     exact hN _ rfl _ _ _ _ aK aq ⟨rfl,hfr,(ai.trans rfl)⟩
 · refine ax ai ?_
   obtain rfl:=aD h
   exact hX _ _ _ _ _ dH aK aq (dz _ (hB _ rfl) _ hfr (ai.trans rfl))
theorem nr {F:Nat} {s1:List UInt8} {H0:AH} {aS:List UInt8} (h:gT F s1=some aS):
 aG Tryz.prog 22 [(.str s1)] H0 fun v H'=>v=(.str aS)∧H'=H0:=by
 refine lN HR uE [] fun hcl K0 aP H hH hfr=> ?_
 clear hH
 have hle:=hfr.le
 rw [gT.eq_1] at h
 refine cj ?_
 obtain ⟨q2,hO⟩:∃q:Nat,H.length=q:=⟨_,rfl⟩
 try rw [hO]
 obtain ⟨o12,cF,h⟩:=au h
 refine bA aq (BW (q2:=q2) (Fr.app hfr) pJ bU cF ?_)
 · rintro X4 rfl H hfr ai
   try dsimp only at h ai
   have hle:=hfr.le
   have aL:=aN ai
   refine cj ?_
   obtain ⟨ig,cv,h⟩:=au h
   refine ax (aA cv ai) ?_
   obtain rfl:=aD h
   exact aP _ _ _ bh (aR hfr hcl (aU aZ (.str ig)) bf aW ⟨rfl,rfl⟩)
abbrev MG:az:=(.seq (.rg [(aj 2 (.aT (.c (.str []))))]) (.seq (.seq (.rg [(av 3 0)]) (.blk 0 (.seq (.rg [(aj 5 (.bin .eql (.t 3) (.c (.int .i64 1)))),(aO 4 5)]) (.cond (.t 4) (.seq (.rg [(aj 2 (.aT (.c (.str [72,69,76,79]))))]) .ret) (.seq (.rg [(aj 7 (.bin .eql (.t 3) (.c (.int .i64 2)))),(aO 6 7)]) (.cond (.t 6) (.seq (.rg [(aj 2 (.aT (.c (.str [69,72,76,79]))))]) .ret) (.seq (.rg [(aj 9 (.bin .eql (.t 3) (.c (.int .i64 3)))),(aO 8 9)]) (.cond (.t 8) (.seq (.rg [(aj 2 (.aT (.c (.str [77,65,73,76]))))]) .ret) (.seq (.rg [(aj 11 (.bin .eql (.t 3) (.c (.int .i64 4)))),(aO 10 11)]) (.cond (.t 10) (.seq (.rg [(aj 2 (.aT (.c (.str [82,67,80,84]))))]) .ret) (.seq (.rg [(aj 13 (.bin .eql (.t 3) (.c (.int .i64 5)))),(aO 12 13)]) (.cond (.t 12) (.seq (.rg [(aj 2 (.aT (.c (.str [68,65,84,65]))))]) .ret) (.seq (.rg [(aj 15 (.bin .eql (.t 3) (.c (.int .i64 6)))),(aO 14 15)]) (.cond (.t 14) (.seq (.rg [(aj 2 (.aT (.c (.str [82,83,69,84]))))]) .ret) (.seq (.rg [(aj 17 (.bin .eql (.t 3) (.c (.int .i64 7)))),(aO 16 17)]) (.cond (.t 16) (.seq (.rg [(aj 2 (.aT (.c (.str [78,79,79,80]))))]) .ret) (.seq (.rg [(aj 19 (.bin .eql (.t 3) (.c (.int .i64 8)))),(aO 18 19)]) (.cond (.t 18) (.seq (.rg [(aj 2 (.aT (.c (.str [81,85,73,84]))))]) .ret) (.seq (.rg [(aj 21 (.bin .eql (.t 3) (.c (.int .i64 9)))),(aO 20 21)]) (.cond (.t 20) (.seq (.rg [(aj 2 (.aT (.c (.str [86,82,70,89]))))]) .ret) .skip)))))))))))))))))))) (.seq (.rg [(aj 2 (.aT (.c (.str []))))]) .ret)))
theorem MH:bL Tryz.prog 33 22 [(.tmp 2)] (erase MG):=⟨Tryz.f33,_,rfl,by decide,rfl,by kernel_rfl,rfl,rfl⟩
abbrev MI:List Nat:=[0,2,3,4,6,8,10,12,14,16,18,20]
def kP (pK:Int):Option ((List UInt8)):=
 (if (decide (pK=1)) then
  some ([72,69,76,79]:List UInt8)
 else
  (if (decide (pK=2)) then
   some ([69,72,76,79]:List UInt8)
  else
   (if (decide (pK=3)) then
    some ([77,65,73,76]:List UInt8)
   else
    (if (decide (pK=4)) then
     some ([82,67,80,84]:List UInt8)
    else
     (if (decide (pK=5)) then
      some ([68,65,84,65]:List UInt8)
     else
      (if (decide (pK=6)) then
       some ([82,83,69,84]:List UInt8)
      else
       (if (decide (pK=7)) then
        some ([78,79,79,80]:List UInt8)
       else
        (if (decide (pK=8)) then
         some ([81,85,73,84]:List UInt8)
        else
         (if (decide (pK=9)) then
          some ([86,82,70,89]:List UInt8)
         else
          some ([]:List UInt8))))))))))
theorem BX {pK:Int} {H0:AH} {aS:List UInt8} (h:kP pK=some aS):
 aG Tryz.prog 33 [(.int .i64 pK)] H0 fun v H'=>v=(.str aS)∧H'=H0:=by
 refine gr MH MI fun hcl K0 aP=> ?_
 rw [kP.eq_1] at h
 refine aF ?_
 refine bk h (fun hy1 h=> ?_) fun hy1 h=> ?_
 · refine aF ?_
   obtain rfl:=aD h
   exact aP _ _ _ bh (aM hcl (aU aZ (.str ([72,69,76,79]:List UInt8))) bf aW ⟨rfl,rfl⟩)
 · refine aF ?_
   refine bk h (fun hy2 h=> ?_) fun hy2 h=> ?_
   · refine aF ?_
     obtain rfl:=aD h
     exact aP _ _ _ bh (aM hcl (aU aZ (.str ([69,72,76,79]:List UInt8))) bf aW ⟨rfl,rfl⟩)
   · refine aF ?_
     refine bk h (fun hy3 h=> ?_) fun hy3 h=> ?_
     · refine aF ?_
       obtain rfl:=aD h
       exact aP _ _ _ bh (aM hcl (aU aZ (.str ([77,65,73,76]:List UInt8))) bf aW ⟨rfl,rfl⟩)
     · refine aF ?_
       refine bk h (fun hy4 h=> ?_) fun hy4 h=> ?_
       · refine aF ?_
         obtain rfl:=aD h
         exact aP _ _ _ bh (aM hcl (aU aZ (.str ([82,67,80,84]:List UInt8))) bf aW ⟨rfl,rfl⟩)
       · refine aF ?_
         refine bk h (fun bJ h=> ?_) fun bJ h=> ?_
         · refine aF ?_
           obtain rfl:=aD h
           exact aP _ _ _ bh (aM hcl (aU aZ (.str ([68,65,84,65]:List UInt8))) bf aW ⟨rfl,rfl⟩)
         · refine aF ?_
           refine bk h (fun ck h=> ?_) fun ck h=> ?_
           · refine aF ?_
             obtain rfl:=aD h
             exact aP _ _ _ bh (aM hcl (aU aZ (.str ([82,83,69,84]:List UInt8))) bf aW ⟨rfl,rfl⟩)
           · refine aF ?_
             refine bk h (fun cF h=> ?_) fun cF h=> ?_
             · refine aF ?_
               obtain rfl:=aD h
               exact aP _ _ _ bh (aM hcl (aU aZ (.str ([78,79,79,80]:List UInt8))) bf aW ⟨rfl,rfl⟩)
             · refine aF ?_
               refine bk h (fun cv h=> ?_) fun cv h=> ?_
               · refine aF ?_
                 obtain rfl:=aD h
                 exact aP _ _ _ bh (aM hcl (aU aZ (.str ([81,85,73,84]:List UInt8))) bf aW ⟨rfl,rfl⟩)
               · refine aF ?_
                 refine bk h (fun cM h=> ?_) fun cM h=> ?_
                 · refine aF ?_
                   obtain rfl:=aD h
                   exact aP _ _ _ bh (aM hcl (aU aZ (.str ([86,82,70,89]:List UInt8))) bf aW ⟨rfl,rfl⟩)
                 · refine aF ?_
                   obtain rfl:=aD h
                   exact aP _ _ _ bh (aM hcl (aU aZ (.str ([]:List UInt8))) bf aW ⟨rfl,rfl⟩)
abbrev wR:az:=(.seq (.seq (.rg [(av 4 3),(aj 5 (.bin .leq (.t 4) (.c (.int .i64 9))))]) (.cond (.t 5) .skip (.exit 0))) (.seq (.blk 1 (.seq (.rg [(av 8 3),(aj 9 (.call (.c (.fn 33 [])) [(.t 8)])),(aj 10 (.call (.c (.fn 22 [])) [(.t 9)])),(av 11 0),(aj 12 (.bin .eql (.t 10) (.t 11)))]) (.cond (.t 12) (.seq (.rg [(av 13 3),(aO 2 13)]) .ret) .skip))) (.rg [(av 6 3),(aj 7 (.bin .add (.t 6) (.c (.int .i64 1)))),(aO 3 7)])))
abbrev MJ:az:=(.seq (.rg [(aj 2 (.aT (.c (.int .i64 0))))]) (.seq (.seq (.rg [(aj 3 (.aT (.c (.int .i64 1))))]) (.blk 0 (.loop (erase wR)))) (.seq (.rg [(aj 2 (.aT (.c (.int .i64 0))))]) .ret)))
theorem MK:bL Tryz.prog 21 14 [(.tmp 2)] (erase MJ):=⟨Tryz.f21,_,rfl,by decide,rfl,by kernel_rfl,rfl,rfl⟩
abbrev D6:List Nat:=[0,2,3,5,12]
def kQ (F:Nat) (s1:List UInt8):(Int×Int)→Option (St Int Unit (Int×Int))
 |(t2,HS)=>
  (if (decide (HS≤9)) then
   (kP HS).bind fun r4=>
   (gT F r4).bind fun r5=>
   (if (decide (r5=s1)) then
    some (.ret HS)
   else
    some (.cA (t2,(IntKind.wrap .i64 (HS+1)))))
  else
   some (.dQ ()))
def uW (F:Nat) (s1:List UInt8):Option (Int):=
 ((iter (kQ F s1) F (0,1)).bind fun o8=>
 match o8 with
 | .inr ()=>
   some 0
 | .inl r7=>
   some r7)
theorem En {F:Nat} {HS:Int} {s1:List UInt8} {t2:Int} {H:AH} {K:Exit→Env→AH→Prop} {o:(Int)⊕(Unit)}
 (h:iter (kQ F s1) F (t2,HS)=some o)
 (dz:∀o':Unit,o= .inr o'→K (.exit 0) [] H)
 (kr:∀o':Int,o= .inl o'→K .ret [(2,(.int .i64 o'))] H):
 AX Tryz.prog D6 14 H.length (.loop (erase wR)) K [(0,(.str s1)),(2,(.int .i64 t2)),(3,(.int .i64 HS))] H:=by
 refine iE (fun s e H1=>match s with|(t2,HS)=>e=[(0,(.str s1)),(2,(.int .i64 t2)),(3,(.int .i64 HS))]∧H1=H) h ⟨rfl,rfl⟩ ?_
 rintro K' ⟨t2,HS⟩ st e H ⟨rfl,rfl⟩ h hN hB hR hX
 rw [kQ.eq_1] at h
 refine aF ?_
 refine bk h (fun hy1 h=> ?_) fun hy1 h=> ?_
 · refine aF ?_
   obtain ⟨r4,hy2,h⟩:=au h
   refine bw aq (BX hy2) ?_
   refine aF ?_
   obtain ⟨r5,hy3,h⟩:=au h
   refine bw aq (nr hy3) ?_
   refine aF ?_
   refine bk h (fun hy4 h=> ?_) fun hy4 h=> ?_
   · refine aF ?_
     obtain rfl:=aD h
     exact hX _ _ _ _ _ dH aK aq (kr _ (hR _ rfl))
   · refine aF ?_
     obtain rfl:=aD h
     exact hN _ rfl _ _ _ _ aK aq ⟨rfl,rfl⟩
 · refine aF ?_
   obtain rfl:=aD h
   exact hX _ _ _ _ _ dH WE.nil aq (dz _ (hB _ rfl))
theorem Kq {F:Nat} {s1:List UInt8} {H0:AH} {aS:Int} (h:uW F s1=some aS):
 aG Tryz.prog 21 [(.str s1)] H0 fun v H'=>v=(.int .i64 aS)∧H'=H0:=by
 refine gr MK D6 fun hcl K0 aP=> ?_
 rw [uW.eq_1] at h
 refine aF ?_
 obtain ⟨o8,bJ,h⟩:=au h
 refine bA aq (En bJ ?_ ?_)
 · rintro ⟨⟩ rfl
   try dsimp only at h
   refine aF ?_
   obtain rfl:=aD h
   exact aP _ _ _ bh (aM hcl (aU aZ (.int .i64 0)) bf aW ⟨rfl,rfl⟩)
 · rintro r7 rfl
   try dsimp only at h
   refine aF ?_
   obtain rfl:=aD h
   exact aP _ _ _ bh (aM hcl (aU aZ (.int .i64 r7)) bf aW ⟨rfl,rfl⟩)
abbrev lC:az:=(.rg [(av 3 0),(aj 4 (.jP (.t 3))),(aj 5 (.cw (.t 4) 2)),(aj 6 (.ld (.t 5) none)),(av 7 6),(ay 8 (.mv (.t 0)) 7 false),(ay 9 (.jP (.t 8)) 7 false),(ay 10 (.cw (.t 9) 1) 7 false),(ay 11 (.ld (.t 10) none) 7 false),(ay 12 (.mv (.t 0)) 7 false),(ay 13 (.jP (.t 12)) 7 false),(ay 14 (.cw (.t 13) 0) 7 false),(ay 15 (.ld (.t 14) none) 7 false),(ay 16 (.lens (.t 15)) 7 false),(ay 17 (.bin .geq (.t 11) (.t 16)) 7 false),(aj 18 (.pick (.t 7) (.c (.bool true)) (.t 17)))])
abbrev vZ:az:=(.seq (.rg [(aj 2 (.aT (.c (b8 0))))]) (.seq (.seq (.sem (erase lC)) (.cond (.t 18) (.seq (.rg [(aj 2 (.aT (.c (b8 0))))]) .ret) .skip)) (.seq (.rg [(av 19 0),(aj 20 (.jP (.t 19))),(aj 21 (.cw (.t 20) 0)),(aj 22 (.ld (.t 21) none)),(av 23 0),(aj 24 (.jP (.t 23))),(aj 25 (.cw (.t 24) 1)),(aj 26 (.ld (.t 25) none)),(aj 27 (.ixs (.t 22) (.t 26))),(aO 2 27)]) .ret)))
theorem v7:bL Tryz.prog 117 28 [(.tmp 2)] (erase vZ):=⟨Tryz.f117,_,rfl,by decide,rfl,by kernel_rfl,rfl,rfl⟩
abbrev nt:List Nat:=[0,2,18]
def bE (x1:aE):Option (UInt8):=
 (if (x1.bad||(decide ((x1.s.length:Int)≤x1.c8))) then
  some 0
 else
  (idx x1.s x1.c8).bind fun x2=>some x2)
theorem qO {x1:aE} {H:AH} {K:Exit→Env→AH→Prop}
 (kn:K .normal [(0,(.ep (.agg [(.str x1.s),(.int .i64 x1.c8),(.bool x1.bad)]) 0)),(18,(.bool (x1.bad||(decide ((x1.s.length:Int)≤x1.c8)))))] H):
 AX Tryz.prog nt 28 H.length (erase lC) K [(0,(.ep (.agg [(.str x1.s),(.int .i64 x1.c8),(.bool x1.bad)]) 0))] H:=by
 refine bY fun K' hK=> ?_
 refine aF ?_
 refine gG (fun hy1=> ?_) fun hy1=> ?_
 · refine aY hy1 ?_
   exact hK _ _ _ _ _ (dj hy1) aq kn
 · refine aY hy1 ?_
   exact hK _ _ _ _ _ (dj hy1) aq kn
theorem cB {x1:aE} {H0:AH} {aS:UInt8} (h:bE x1=some aS):
 aG Tryz.prog 117 [(.ep (.agg [(.str x1.s),(.int .i64 x1.c8),(.bool x1.bad)]) 0)] H0 fun v H'=>v=(b8 aS)∧H'=H0:=by
 refine gr v7 nt fun hcl K0 aP=> ?_
 rw [bE.eq_1] at h
 refine aF ?_
 refine bA aq (qO (x1:=x1) ?_)
 refine aF ?_
 refine bk h (fun hy2 h=> ?_) fun hy2 h=> ?_
 · refine aF ?_
   obtain rfl:=aD h
   exact aP _ _ _ bh (aM hcl (aU aZ (b8 0)) bf aW ⟨rfl,rfl⟩)
 · obtain ⟨x2,hy3,h⟩:=au h
   refine aY hy3 ?_
   obtain rfl:=aD h
   exact aP _ _ _ bh (aM hcl (aU aZ (b8 x2)) bf aW ⟨rfl,rfl⟩)
abbrev xE:az:=(.seq (.rg [(aj 4 (.aT (.c (.bool false))))]) (.seq (.seq (.rg [(av 5 0),(aj 6 (.call (.c (.fn 117 [])) [(.t 5)])),(av 7 1),(aj 8 (.bin .neq (.t 6) (.t 7)))]) (.cond (.t 8) (.seq (.rg [(aj 4 (.aT (.c (.bool false))))]) .ret) .skip)) (.seq (.rg [(av 9 0),(aj 10 (.jP (.t 9))),(aj 11 (.cw (.t 10) 1)),(aj 12 (.ld (.t 11) none)),(aj 13 (.bin .add (.t 12) (.c (.int .i64 1)))),(aj 14 (.jP (.t 9))),(aj 15 (.cw (.t 14) 1)),(cZ (.st (.t 15) (.t 13) 1))]) (.seq (.rg [(aj 4 (.aT (.c (.bool true))))]) .ret))))
theorem xF:bL Tryz.prog 93 16 [(.tmp 4)] (erase xE):=⟨Tryz.f93,_,rfl,by decide,rfl,by kernel_rfl,rfl,rfl⟩
abbrev xG:List Nat:=[0,1,4,8]
def bM (x2:aE) (c3:UInt8):Option (Bool×aE):=
 (bE x2).bind fun r4=>
 (if (!decide (r4=c3)) then
  some (false,x2)
 else
  some (true,(aE.mk x2.s (IntKind.wrap .i64 (x2.c8+1)) x2.bad)))
theorem eG {x2:aE} {c3:UInt8} {q1:Nat} {H0:AH} (ai:H0[q1]? =some [(.str x2.s),(.int .i64 x2.c8),(.bool x2.bad)]) {aS:Bool} {fE:aE} (h:bM x2 c3=some (aS,fE)):
 aG Tryz.prog 93 [(.ptr q1 0),(b8 c3)] H0 fun v H'=>v=(.bool aS)∧H'=(H0.set q1 [(.str fE.s),(.int .i64 fE.c8),(.bool fE.bad)]):=by
 have aL:=aN ai
 refine lN xF xG [q1] fun hcl K0 aP H hH hfr=> ?_
 rw [←hH] at ai
 clear hH
 have hle:=hfr.le
 have FR:=aN ai
 rw [bM.eq_1] at h
 refine ax ai ?_
 obtain ⟨r4,hy1,h⟩:=au h
 refine ME (cB hy1) (n8.cons (.one _ _ (iZ.D5 (ai.trans rfl) MF)) (n8.nil)) ?_
 refine ax ai ?_
 refine bk h (fun hy2 h=> ?_) fun hy2 h=> ?_
 · refine ax ai ?_
   obtain ⟨rfl,rfl⟩:=cT h
   exact aP _ _ _ bh (lT hfr hcl (aU aZ (.bool false)) bf aW (ai.trans rfl) bU HN HM ⟨rfl,rfl⟩)
 · refine ax ai ?_
   obtain ⟨rfl,rfl⟩:=cT h
   exact aP _ _ _ bh (lT (b6 _ hfr) hcl (aU aZ (.bool true)) bf aW cL bU HN HM ⟨rfl,rfl⟩)
abbrev IW:az:=(.rg [(av 4 0),(av 5 0),(aj 6 (.jP (.t 5))),(aj 7 (.cw (.t 6) 2)),(aj 8 (.ld (.t 7) none)),(av 9 8),(ay 10 (.mv (.t 0)) 9 false),(ay 11 (.mv (.t 1)) 9 false),(ay 12 (.call (.c (.fn 93 [])) [(.t 10),(.t 11)]) 9 false),(ay 13 (.un .not (.t 12)) 9 false),(aj 14 (.pick (.t 9) (.c (.bool true)) (.t 13))),(aj 15 (.jP (.t 4))),(aj 16 (.cw (.t 15) 2)),(cZ (.st (.t 16) (.t 14) 1))])
abbrev yz:az:=(.rg [(av 4 0),(av 5 0),(aj 6 (.jP (.t 5))),(aj 7 (.cw (.t 6) 2)),(aj 8 (.ld (.t 7) none)),(av 9 8),(ay 10 (.mv (.t 0)) 9 false),(ay 11 (.mv (.t 1)) 9 false),(ay 12 (.call (.c (.fn 93 [])) [(.t 10),(.t 11)]) 9 false),(ay 13 (.un .not (.t 12)) 9 false),(aj 14 (.pick (.t 9) (.c (.bool true)) (.t 13))),(aj 15 (.jP (.t 4))),(aj 16 (.cw (.t 15) 2)),(cZ (.st (.t 16) (.t 14) 1))])
theorem yA:bL Tryz.prog 92 17 [] (erase yz):=⟨Tryz.f92,_,rfl,by decide,rfl,by kernel_rfl,rfl,rfl⟩
abbrev yB:List Nat:=[0,1]
def bt (x2:aE) (c3:UInt8):Option (aE):=
 (if x2.bad then
  some (aE.mk x2.s x2.c8 true)
 else
  (bM x2 c3).bind fun (r4,r5)=>some (aE.mk r5.s r5.c8 (!r4)))
theorem dO {x2:aE} {c3:UInt8} {q1:Nat} {H0:AH} (ai:H0[q1]? =some [(.str x2.s),(.int .i64 x2.c8),(.bool x2.bad)]) {aS:aE} (h:bt x2 c3=some aS):
 aG Tryz.prog 92 [(.ptr q1 0),(b8 c3)] H0 fun v H'=>v=(.bG [])∧H'=(H0.set q1 [(.str aS.s),(.int .i64 aS.c8),(.bool aS.bad)]):=by
 have aL:=aN ai
 refine lN yA yB [q1] fun hcl K0 aP H hH hfr=> ?_
 rw [←hH] at ai
 clear hH
 have hle:=hfr.le
 have FR:=aN ai
 rw [bt.eq_1] at h
 refine ax ai ?_
 refine bT h (fun hy1 h=> ?_) fun hy1 h=> ?_
 · refine ax (aA hy1 ai) ?_
   obtain rfl:=aD h
   exact aP _ _ _ xlZ (lT (b6 _ hfr) hcl aZ bf aW cL bU HN HM ⟨rfl,rfl⟩)
 · refine ax (aA hy1 ai) ?_
   obtain ⟨⟨r4,r5⟩,hy2,h⟩:=au h
   dsimp only at h
   refine bw aq (eG (ai.trans rfl) hy2) ?_
   refine ax ai ?_
   obtain rfl:=aD h
   exact aP _ _ _ xlZ (lT (b6 _ (b6 _ hfr)) hcl aZ bf aW cL bU HN HM ⟨rfl,rfl⟩)
abbrev sX:az:=(.rg [(av 3 0),(aj 4 (.bin .or (.t 3) (.c (b8 32)))),(aj 5 (.bin .geq (.t 4) (.c (b8 97)))),(av 6 5),(ay 7 (.mv (.t 0)) 6 true),(ay 8 (.bin .or (.t 7) (.c (b8 32))) 6 true),(ay 9 (.bin .leq (.t 8) (.c (b8 122))) 6 true),(aj 10 (.pick (.t 6) (.t 9) (.c (.bool false)))),(av 11 10),(ay 12 (.mv (.t 0)) 11 false),(ay 13 (.bin .geq (.t 12) (.c (b8 48))) 11 false),(ay 14 (.mv (.t 13)) 11 false),(ay 15 (.mv (.t 0)) 14 true),(ay 16 (.bin .leq (.t 15) (.c (b8 57))) 14 true),(ay 17 (.pick (.t 14) (.t 16) (.c (.bool false))) 11 false),(aj 18 (.pick (.t 11) (.c (.bool true)) (.t 17))),(aO 2 18)])
abbrev FT:az:=(.seq (.rg [(aj 2 (.aT (.c (.bool false))))]) (.seq (.sem (erase sX)) .ret))
theorem FU:bL Tryz.prog 103 19 [(.tmp 2)] (erase FT):=⟨Tryz.f103,_,rfl,by decide,rfl,by kernel_rfl,rfl,rfl⟩
abbrev yC:List Nat:=[0,2]
def ja (c1:UInt8):Option (Bool):=
 some (((decide (97≤(c1 ||| 32)))&&(decide ((c1 ||| 32)≤122)))||((decide (48≤c1))&&(decide (c1≤57))))
theorem Al {c1:UInt8} {H:AH} {K:Exit→Env→AH→Prop}
 (kn:K .normal [(2,(.bool (((decide (97≤(c1 ||| 32)))&&(decide ((c1 ||| 32)≤122)))||((decide (48≤c1))&&(decide (c1≤57))))))] H):
 AX Tryz.prog yC 19 H.length (erase sX) K [(0,(b8 c1)),(2,(.bool false))] H:=by
 refine bY fun K' hK=> ?_
 refine aF ?_
 refine gG (fun hy1=> ?_) fun hy1=> ?_
 · refine aY hy1 ?_
   refine gG (fun hy2=> ?_) fun hy2=> ?_
   · refine aY hy2 ?_
     exact hK _ _ _ _ _ (dj (aA hy1 hy2)) aq kn
   · refine aY hy2 ?_
     refine gG (fun hy3=> ?_) fun hy3=> ?_
     · refine aY hy3 ?_
       exact hK _ _ _ _ _ (dj (aA hy1 (aA hy2 hy3))) aq kn
     · refine aY hy3 ?_
       exact hK _ _ _ _ _ (dj (aA hy1 (aA hy2 hy3))) aq kn
 · refine aY hy1 ?_
   refine gG (fun hy4=> ?_) fun hy4=> ?_
   · refine aY hy4 ?_
     exact hK _ _ _ _ _ (dj (aA hy1 hy4)) aq kn
   · refine aY hy4 ?_
     exact hK _ _ _ _ _ (dj (aA hy1 hy4)) aq kn
theorem pL {c1:UInt8} {H0:AH} {aS:Bool} (h:ja c1=some aS):
 aG Tryz.prog 103 [(b8 c1)] H0 fun v H'=>v=(.bool aS)∧H'=H0:=by
 refine gr FU yC fun hcl K0 aP=> ?_
 rw [ja.eq_1] at h
 refine aF ?_
 refine bA aq (Al (c1:=c1) ?_)
 refine aF ?_
 obtain rfl:=aD h
 exact aP _ _ _ bh (aM hcl (aU aZ (.bool (((decide (97≤(c1 ||| 32)))&&(decide ((c1 ||| 32)≤122)))||((decide (48≤c1))&&(decide (c1≤57)))))) bf aW ⟨rfl,rfl⟩)
abbrev sY:az:=(.rg [(av 10 4),(aj 11 (.iq false (.t 10) (.c (.v .nilIface)))),(av 12 11),(ay 13 (.mv (.t 3)) 12 true),(ay 14 (.bin .geq (.t 13) (.c (.int .i64 0))) 12 true),(aj 15 (.pick (.t 12) (.t 14) (.c (.bool false)))),(av 16 15),(ay 17 (.mv (.t 3)) 16 true),(ay 18 (.bin .leq (.t 17) (.c (.int .i64 255))) 16 true),(aj 19 (.pick (.t 16) (.t 18) (.c (.bool false)))),(av 20 19),(ay 21 (.mv (.t 3)) 20 true),(ay 22 (.call (.c (.fn 34 [])) [(.t 21)]) 20 true),(ay 23 (.mv (.t 0)) 20 true),(ay 24 (.bin .eql (.t 22) (.t 23)) 20 true),(aj 25 (.pick (.t 20) (.t 24) (.c (.bool false)))),(aO 2 25)])
abbrev FV:az:=(.seq (.rg [(aj 2 (.aT (.c (.bool false))))]) (.seq (.rg [(av 6 0),(aj 7 (.call (.c (.fn 66 [])) [(.t 6)])),(av 5 7),(aj 8 (.ext (.t 5) 0)),(aj 9 (.ext (.t 5) 1)),(aO 3 8),(aO 4 9)]) (.seq (.sem (erase sY)) .ret)))
theorem FW:bL Tryz.prog 69 26 [(.tmp 2)] (erase FV):=⟨Tryz.f69,_,rfl,by decide,rfl,by kernel_rfl,rfl,rfl⟩
abbrev yD:List Nat:=[0,2,3,4]
def gL (r3:Bool) (r2:Int) (s1:List UInt8):Option (Bool):=
 (if (!r3) then
  (if (decide (0≤r2)) then
   (if (decide (r2≤255)) then
    (strconv_Itoa r2).bind fun r4=>some (decide (r4=s1))
   else
    some false)
  else
   some false)
 else
  some false)
def kR (s1:List UInt8):Option (Bool):=
 (strconv_Atoi s1).bind fun (r2,r3)=>(gL r3 r2 s1).bind fun t6=>
 some t6
theorem An {r3:Bool} {r2:Int} {s1:List UInt8} {H:AH} {K:Exit→Env→AH→Prop} {t5:Bool}
 (h:gL r3 r2 s1=some t5)
 (kn:K .normal [(2,(.bool t5))] H):
 AX Tryz.prog yD 26 H.length (erase sY) K [(0,(.str s1)),(2,(.bool false)),(3,(.int .i64 r2)),(4,(eB r3))] H:=by
 refine bY fun K' hK=> ?_
 rw [gL.eq_1] at h
 refine aF ?_
 refine bT h (fun hy2 h=> ?_) fun hy2 h=> ?_
 · refine aY hy2 ?_
   refine bT h (fun hy3 h=> ?_) fun hy3 h=> ?_
   · refine aY hy3 ?_
     refine bT h (fun hy4 h=> ?_) fun hy4 h=> ?_
     · refine aY hy4 ?_
       obtain ⟨r4,bJ,h⟩:=au h
       refine bw aq (uU (i1:=r2) bJ) ?_
       refine aF ?_
       obtain rfl:=aD h
       exact hK _ _ _ _ _ aK aq kn
     · refine aY hy4 ?_
       obtain rfl:=aD h
       exact hK _ _ _ _ _ aK aq kn
   · refine aY hy3 ?_
     obtain rfl:=aD h
     exact hK _ _ _ _ _ aK aq kn
 · refine aY hy2 ?_
   obtain rfl:=aD h
   exact hK _ _ _ _ _ aK aq kn
theorem Eo {s1:List UInt8} {H0:AH} {aS:Bool} (h:kR s1=some aS):
 aG Tryz.prog 69 [(.str s1)] H0 fun v H'=>v=(.bool aS)∧H'=H0:=by
 refine gr FW yD fun hcl K0 aP=> ?_
 rw [kR.eq_1] at h
 refine aF ?_
 obtain ⟨⟨r2,r3⟩,hy1,h⟩:=au h
 dsimp only at h
 refine bw aq (strconv_Atoi_ok (s1:=s1) hy1) ?_
 refine aF ?_
 obtain ⟨t6,ck,h⟩:=au h
 refine bA aq (An ck ?_)
 refine aF ?_
 obtain rfl:=aD h
 exact aP _ _ _ bh (aM hcl (aU aZ (.bool t6)) bf aW ⟨rfl,rfl⟩)
abbrev Db:az:=(.seq (.rg [(aj 2 (.aT (.c (.bool false))))]) (.seq (.rg [(av 3 0),(aj 4 (.call (.c (.fn 69 [])) [(.t 3)])),(aj 5 (.un .not (.t 4))),(aO 2 5)]) .ret))
theorem Dc:bL Tryz.prog 68 6 [(.tmp 2)] (erase Db):=⟨Tryz.f68,_,rfl,by decide,rfl,by kernel_rfl,rfl,rfl⟩
abbrev Dd:List Nat:=[0,2]
def j8 (x1:List UInt8):Option (Bool):=
 (kR x1).bind fun r2=>some (!r2)
theorem BY {x1:List UInt8} {H0:AH} {aS:Bool} (h:j8 x1=some aS):
 aG Tryz.prog 68 [(.str x1)] H0 fun v H'=>v=(.bool aS)∧H'=H0:=by
 refine gr Dc Dd fun hcl K0 aP=> ?_
 rw [j8.eq_1] at h
 refine aF ?_
 obtain ⟨r2,hy1,h⟩:=au h
 refine bw aq (Eo hy1) ?_
 refine aF ?_
 obtain rfl:=aD h
 exact aP _ _ _ bh (aM hcl (aU aZ (.bool (!r2))) bf aW ⟨rfl,rfl⟩)
abbrev lD:az:=(.seq (.rg [(aj 9 (.bin .lss (.t 8) (.t 7)))]) (.seq (.cond (.t 9) .skip (.exit 0)) (.seq (.blk 1 (.seq (.rg [(av 10 8),(aO 5 10)]) (.seq (.rg [(av 11 1),(av 12 0),(av 13 5),(aj 14 (.pI 1 (.t 12) (.t 13))),(aj 15 (.ld (.t 14) none)),(aj 16 (.call (.t 11) [(.t 15)]))]) (.cond (.t 16) (.seq (.rg [(av 17 5),(aO 4 17)]) .ret) .skip)))) (.rg [(aj 18 (.bin .add (.t 8) (.c (.int .i64 1)))),(av 8 18)]))))
abbrev xH:az:=(.seq (.rg [(aj 4 (.aT (.c (.int .i64 0))))]) (.seq (.seq (.rg [(av 6 0),(aj 7 (.len (.t 6))),(aj 8 (.mv (.c (.int .i64 0))))]) (.blk 0 (.loop (erase lD)))) (.seq (.rg [(aj 4 (.aT (.c (.int .i64 (-1)))))]) .ret)))
theorem xI:bL Tryz.prog 72 19 [(.tmp 4)] (erase xH):=⟨Tryz.f72,_,rfl,by decide,rfl,by kernel_rfl,rfl,rfl⟩
abbrev od:List Nat:=[0,1,4,5,7,8,9,16]
def dc (s1:List (List UInt8)):(Int×Int)→Option (St Int Unit (Int×Int))
 |(t2,t3)=>
  (if (decide (t3<(s1.length:Int))) then
   (idx s1 t3).bind fun x4=>
   (j8 x4).bind fun r5=>
   (if r5 then
    some (.ret t3)
   else
    some (.cA (t2,(IntKind.wrap .i64 (t3+1)))))
  else
   some (.dQ ()))
def iy (F:Nat) (s1:List (List UInt8)):Option (Int):=
 ((iter (dc s1) F (0,0)).bind fun o8=>
 match o8 with
 | .inr ()=>
   some (-1)
 | .inl r7=>
   some r7)
theorem sG {F:Nat} {t3:Int} {s1:List (List UInt8)} {t2:Int} {H:AH} {K:Exit→Env→AH→Prop} {o:(Int)⊕(Unit)}
 (h:iter (dc s1) F (t2,t3)=some o)
 (dz:∀o':Unit,o= .inr o'→K (.exit 0) [] H)
 (kr:∀o':Int,o= .inl o'→K .ret [(4,(.int .i64 o'))] H):
 AX Tryz.prog od 19 H.length (.loop (erase lD)) K [(0,(.sl .n 1 (ml AV.str s1))),(1,(.fn 68 [])),(4,(.int .i64 t2)),(7,(.int .i64 (s1.length:Int))),(8,(.int .i64 t3))] H:=by
 refine iE (fun s e H1=>match s with|(t2,t3)=>e=[(0,(.sl .n 1 (ml AV.str s1))),(1,(.fn 68 [])),(4,(.int .i64 t2)),(7,(.int .i64 (s1.length:Int))),(8,(.int .i64 t3))]∧H1=H) h ⟨rfl,rfl⟩ ?_
 rintro K' ⟨t2,t3⟩ st e H ⟨rfl,rfl⟩ h hN hB hR hX
 rw [dc.eq_1] at h
 refine aF ?_
 refine bk h (fun hy1 h=> ?_) fun hy1 h=> ?_
 · obtain ⟨x4,hy2,h⟩:=au h
   refine aY hy2 ?_
   obtain ⟨r5,hy3,h⟩:=au h
   refine bw aq (BY hy3) ?_
   refine aF ?_
   refine bk h (fun hy4 h=> ?_) fun hy4 h=> ?_
   · refine aF ?_
     obtain rfl:=aD h
     exact hX _ _ _ _ _ dH aK aq (kr _ (hR _ rfl))
   · refine aF ?_
     obtain rfl:=aD h
     exact hN _ rfl _ _ _ _ aK aq ⟨rfl,rfl⟩
 · refine aF ?_
   obtain rfl:=aD h
   exact hX _ _ _ _ _ dH WE.nil aq (dz _ (hB _ rfl))
theorem v8 {F:Nat} {s1:List (List UInt8)} {H0:AH} {aS:Int} (h:iy F s1=some aS):
 aG Tryz.prog 72 [(.sl .n 1 (ml AV.str s1)),(.fn 68 [])] H0 fun v H'=>v=(.int .i64 aS)∧H'=H0:=by
 refine gr xI od fun hcl K0 aP=> ?_
 rw [iy.eq_1] at h
 refine aF ?_
 obtain ⟨o8,bJ,h⟩:=au h
 refine bA aq (sG bJ ?_ ?_)
 · rintro ⟨⟩ rfl
   try dsimp only at h
   refine aF ?_
   obtain rfl:=aD h
   exact aP _ _ _ bh (aM hcl (aU aZ (.int .i64 (-1))) bf aW ⟨rfl,rfl⟩)
 · rintro r7 rfl
   try dsimp only at h
   refine aF ?_
   obtain rfl:=aD h
   exact aP _ _ _ bh (aM hcl (aU aZ (.int .i64 r7)) bf aW ⟨rfl,rfl⟩)
abbrev uF:az:=(.seq (.rg [(aj 4 (.aT (.c (.bool false))))]) (.seq (.rg [(av 5 0),(av 6 1),(aj 7 (.call (.c (.fn 72 [])) [(.t 5),(.t 6)])),(aj 8 (.bin .geq (.t 7) (.c (.int .i64 0)))),(aO 4 8)]) .ret))
theorem uG:bL Tryz.prog 46 9 [(.tmp 4)] (erase uF):=⟨Tryz.f46,_,rfl,by decide,rfl,by kernel_rfl,rfl,rfl⟩
abbrev uH:List Nat:=[0,1,4]
def eH (F:Nat) (s1:List (List UInt8)):Option (Bool):=
 (iy F s1).bind fun r2=>some (decide (0≤r2))
theorem sH {F:Nat} {s1:List (List UInt8)} {H0:AH} {aS:Bool} (h:eH F s1=some aS):
 aG Tryz.prog 46 [(.sl .n 1 (ml AV.str s1)),(.fn 68 [])] H0 fun v H'=>v=(.bool aS)∧H'=H0:=by
 refine gr uG uH fun hcl K0 aP=> ?_
 rw [eH.eq_1] at h
 refine aF ?_
 obtain ⟨r2,hy1,h⟩:=au h
 refine bw aq (v8 hy1) ?_
 refine aF ?_
 obtain rfl:=aD h
 exact aP _ _ _ bh (aM hcl (aU aZ (.bool (decide (0≤r2)))) bf aW ⟨rfl,rfl⟩)
abbrev qP:az:=(.rg [(av 3 0),(aj 4 (.call (.c (.fn 103 [])) [(.t 3)])),(av 5 4),(ay 6 (.mv (.t 0)) 5 false),(ay 7 (.bin .eql (.t 6) (.c (b8 45))) 5 false),(aj 8 (.pick (.t 5) (.c (.bool true)) (.t 7))),(aO 2 8)])
abbrev Ep:az:=(.seq (.rg [(aj 2 (.aT (.c (.bool false))))]) (.seq (.sem (erase qP)) .ret))
theorem Er:bL Tryz.prog 102 9 [(.tmp 2)] (erase Ep):=⟨Tryz.f102,_,rfl,by decide,rfl,by kernel_rfl,rfl,rfl⟩
abbrev wS:List Nat:=[0,2]
def ow (c1:UInt8):Option (Bool):=
 (ja c1).bind fun r2=>(if r2 then
  some true
 else
  some (decide (c1=45)))
def lV (c1:UInt8):Option (Bool):=
 (ow c1).bind fun t4=>
 some t4
theorem zF {c1:UInt8} {H:AH} {K:Exit→Env→AH→Prop} {t3:Bool}
 (h:ow c1=some t3)
 (kn:K .normal [(2,(.bool t3))] H):
 AX Tryz.prog wS 9 H.length (erase qP) K [(0,(b8 c1)),(2,(.bool false))] H:=by
 refine bY fun K' hK=> ?_
 rw [ow.eq_1] at h
 refine aF ?_
 obtain ⟨r2,hy1,h⟩:=au h
 refine bw aq (pL hy1) ?_
 refine aF ?_
 refine bT h (fun hy2 h=> ?_) fun hy2 h=> ?_
 · refine aY hy2 ?_
   obtain rfl:=aD h
   exact hK _ _ _ _ _ aK aq kn
 · refine aY hy2 ?_
   obtain rfl:=aD h
   exact hK _ _ _ _ _ aK aq kn
theorem De {c1:UInt8} {H0:AH} {aS:Bool} (h:lV c1=some aS):
 aG Tryz.prog 102 [(b8 c1)] H0 fun v H'=>v=(.bool aS)∧H'=H0:=by
 refine gr Er wS fun hcl K0 aP=> ?_
 rw [lV.eq_1] at h
 refine aF ?_
 obtain ⟨t4,hy3,h⟩:=au h
 refine bA aq (zF hy3 ?_)
 refine aF ?_
 obtain rfl:=aD h
 exact aP _ _ _ bh (aM hcl (aU aZ (.bool t4)) bf aW ⟨rfl,rfl⟩)
abbrev pW:az:=(.seq (.rg [(aj 9 (.bin .lss (.t 8) (.t 7)))]) (.seq (.cond (.t 9) .skip (.exit 0)) (.seq (.blk 1 (.seq (.rg [(av 10 8),(aO 5 10)]) (.seq (.rg [(av 11 1),(av 12 0),(av 13 5),(aj 14 (.ixs (.t 12) (.t 13))),(aj 15 (.call (.t 11) [(.t 14)])),(aj 16 (.un .not (.t 15)))]) (.cond (.t 16) (.seq (.rg [(aj 4 (.aT (.c (.bool false))))]) .ret) .skip)))) (.rg [(aj 17 (.bin .add (.t 8) (.c (.int .i64 1)))),(av 8 17)]))))
abbrev Es:az:=(.seq (.rg [(aj 4 (.aT (.c (.bool false))))]) (.seq (.seq (.rg [(av 6 0),(aj 7 (.lens (.t 6))),(aj 8 (.mv (.c (.int .i64 0))))]) (.blk 0 (.loop (erase pW)))) (.seq (.rg [(aj 4 (.aT (.c (.bool true))))]) .ret)))
theorem Et:bL Tryz.prog 54 18 [(.tmp 4)] (erase Es):=⟨Tryz.f54,_,rfl,by decide,rfl,by kernel_rfl,rfl,rfl⟩
abbrev wT:List Nat:=[0,1,4,5,7,8,9,16]
def fk (s1:List UInt8):(Bool×Int)→Option (St Bool Unit (Bool×Int))
 |(t2,t3)=>
  (if (decide (t3<(s1.length:Int))) then
   (idx s1 t3).bind fun x4=>
   (lV x4).bind fun r5=>
   (if (!r5) then
    some (.ret false)
   else
    some (.cA (t2,(IntKind.wrap .i64 (t3+1)))))
  else
   some (.dQ ()))
def lW (F:Nat) (s1:List UInt8):Option (Bool):=
 ((iter (fk s1) F (false,0)).bind fun o8=>
 match o8 with
 | .inr ()=>
   some true
 | .inl r7=>
   some r7)
theorem zG {F:Nat} {t3:Int} {s1:List UInt8} {t2:Bool} {H:AH} {K:Exit→Env→AH→Prop} {o:(Bool)⊕(Unit)}
 (h:iter (fk s1) F (t2,t3)=some o)
 (dz:∀o':Unit,o= .inr o'→K (.exit 0) [] H)
 (kr:∀o':Bool,o= .inl o'→K .ret [(4,(.bool o'))] H):
 AX Tryz.prog wT 18 H.length (.loop (erase pW)) K [(0,(.str s1)),(1,(.fn 102 [])),(4,(.bool t2)),(7,(.int .i64 (s1.length:Int))),(8,(.int .i64 t3))] H:=by
 refine iE (fun s e H1=>match s with|(t2,t3)=>e=[(0,(.str s1)),(1,(.fn 102 [])),(4,(.bool t2)),(7,(.int .i64 (s1.length:Int))),(8,(.int .i64 t3))]∧H1=H) h ⟨rfl,rfl⟩ ?_
 rintro K' ⟨t2,t3⟩ st e H ⟨rfl,rfl⟩ h hN hB hR hX
 rw [fk.eq_1] at h
 refine aF ?_
 refine bk h (fun hy1 h=> ?_) fun hy1 h=> ?_
 · obtain ⟨x4,hy2,h⟩:=au h
   refine aY hy2 ?_
   obtain ⟨r5,hy3,h⟩:=au h
   refine bw aq (De hy3) ?_
   refine aF ?_
   refine bk h (fun hy4 h=> ?_) fun hy4 h=> ?_
   · refine aF ?_
     obtain rfl:=aD h
     exact hX _ _ _ _ _ dH aK aq (kr _ (hR _ rfl))
   · refine aF ?_
     obtain rfl:=aD h
     exact hN _ rfl _ _ _ _ aK aq ⟨rfl,rfl⟩
 · refine aF ?_
   obtain rfl:=aD h
   exact hX _ _ _ _ _ dH WE.nil aq (dz _ (hB _ rfl))
theorem Df {F:Nat} {s1:List UInt8} {H0:AH} {aS:Bool} (h:lW F s1=some aS):
 aG Tryz.prog 54 [(.str s1),(.fn 102 [])] H0 fun v H'=>v=(.bool aS)∧H'=H0:=by
 refine gr Et wT fun hcl K0 aP=> ?_
 rw [lW.eq_1] at h
 refine aF ?_
 obtain ⟨o8,bJ,h⟩:=au h
 refine bA aq (zG bJ ?_ ?_)
 · rintro ⟨⟩ rfl
   try dsimp only at h
   refine aF ?_
   obtain rfl:=aD h
   exact aP _ _ _ bh (aM hcl (aU aZ (.bool true)) bf aW ⟨rfl,rfl⟩)
 · rintro r7 rfl
   try dsimp only at h
   refine aF ?_
   obtain rfl:=aD h
   exact aP _ _ _ bh (aM hcl (aU aZ (.bool r7)) bf aW ⟨rfl,rfl⟩)
abbrev uX:az:=(.rg [(av 3 0),(aj 4 (.bin .neq (.t 3) (.c (.str [])))),(av 5 4),(ay 6 (.mv (.t 0)) 5 true),(ay 7 (.ixs (.t 6) (.c (.int .i64 0))) 5 true),(ay 8 (.bin .neq (.t 7) (.c (b8 45))) 5 true),(aj 9 (.pick (.t 5) (.t 8) (.c (.bool false)))),(av 10 9),(ay 11 (.mv (.t 0)) 10 true),(ay 12 (.mv (.t 0)) 10 true),(ay 13 (.lens (.t 12)) 10 true),(ay 14 (.bin .sub (.t 13) (.c (.int .i64 1))) 10 true),(ay 15 (.ixs (.t 11) (.t 14)) 10 true),(ay 16 (.bin .neq (.t 15) (.c (b8 45))) 10 true),(aj 17 (.pick (.t 10) (.t 16) (.c (.bool false)))),(av 18 17),(ay 19 (.mv (.t 0)) 18 true),(ay 20 (.call (.c (.fn 54 [])) [(.t 19),(.c (.fn 102 []))]) 18 true),(aj 21 (.pick (.t 18) (.t 20) (.c (.bool false)))),(aO 2 21)])
abbrev HT:az:=(.seq (.rg [(aj 2 (.aT (.c (.bool false))))]) (.seq (.sem (erase uX)) .ret))
theorem HU:bL Tryz.prog 71 22 [(.tmp 2)] (erase HT):=⟨Tryz.f71,_,rfl,by decide,rfl,by kernel_rfl,rfl,rfl⟩
abbrev z6:List Nat:=[0,2]
def nu (F:Nat) (s1:List UInt8):Option (Bool):=
 (if (!decide (s1=([]:List UInt8))) then
  (idx s1 0).bind fun x2=>
  (if (!decide (x2=45)) then
   (idx s1 (IntKind.wrap .i64 ((s1.length:Int) - 1))).bind fun x3=>
   (if (!decide (x3=45)) then
    (lW F s1).bind fun r4=>some r4
   else
    some false)
  else
   some false)
 else
  some false)
def oQ (F:Nat) (s1:List UInt8):Option (Bool):=
 (nu F s1).bind fun t6=>
 some t6
theorem BZ {F:Nat} {s1:List UInt8} {H:AH} {K:Exit→Env→AH→Prop} {t5:Bool}
 (h:nu F s1=some t5)
 (kn:K .normal [(2,(.bool t5))] H):
 AX Tryz.prog z6 22 H.length (erase uX) K [(0,(.str s1)),(2,(.bool false))] H:=by
 refine bY fun K' hK=> ?_
 rw [nu.eq_1] at h
 refine aF ?_
 refine bT h (fun hy1 h=> ?_) fun hy1 h=> ?_
 · obtain ⟨x2,hy2,h⟩:=au h
   refine aY (aA hy1 hy2) ?_
   refine bT h (fun hy3 h=> ?_) fun hy3 h=> ?_
   · obtain ⟨x3,hy4,h⟩:=au h
     refine aY (aA hy3 hy4) ?_
     refine bT h (fun bJ h=> ?_) fun bJ h=> ?_
     · refine aY bJ ?_
       obtain ⟨r4,ck,h⟩:=au h
       refine bw aq (Df ck) ?_
       refine aF ?_
       obtain rfl:=aD h
       exact hK _ _ _ _ _ aK aq kn
     · refine aY bJ ?_
       obtain rfl:=aD h
       exact hK _ _ _ _ _ aK aq kn
   · refine aY hy3 ?_
     obtain rfl:=aD h
     exact hK _ _ _ _ _ aK aq kn
 · refine aY hy1 ?_
   obtain rfl:=aD h
   exact hK _ _ _ _ _ aK aq kn
theorem FX {F:Nat} {s1:List UInt8} {H0:AH} {aS:Bool} (h:oQ F s1=some aS):
 aG Tryz.prog 71 [(.str s1)] H0 fun v H'=>v=(.bool aS)∧H'=H0:=by
 refine gr HU z6 fun hcl K0 aP=> ?_
 rw [oQ.eq_1] at h
 refine aF ?_
 obtain ⟨t6,cF,h⟩:=au h
 refine bA aq (BZ cF ?_)
 refine aF ?_
 obtain rfl:=aD h
 exact aP _ _ _ bh (aM hcl (aU aZ (.bool t6)) bf aW ⟨rfl,rfl⟩)
abbrev Dg:az:=(.seq (.rg [(aj 2 (.aT (.c (.bool false))))]) (.seq (.rg [(av 3 0),(aj 4 (.call (.c (.fn 71 [])) [(.t 3)])),(aj 5 (.un .not (.t 4))),(aO 2 5)]) .ret))
theorem Dh:bL Tryz.prog 70 6 [(.tmp 2)] (erase Dg):=⟨Tryz.f70,_,rfl,by decide,rfl,by kernel_rfl,rfl,rfl⟩
abbrev Di:List Nat:=[0,2]
def j9 (F:Nat) (x1:List UInt8):Option (Bool):=
 (oQ F x1).bind fun r2=>some (!r2)
theorem B0 {F:Nat} {x1:List UInt8} {H0:AH} {aS:Bool} (h:j9 F x1=some aS):
 aG Tryz.prog 70 [(.str x1)] H0 fun v H'=>v=(.bool aS)∧H'=H0:=by
 refine gr Dh Di fun hcl K0 aP=> ?_
 rw [j9.eq_1] at h
 refine aF ?_
 obtain ⟨r2,hy1,h⟩:=au h
 refine bw aq (FX hy1) ?_
 refine aF ?_
 obtain rfl:=aD h
 exact aP _ _ _ bh (aM hcl (aU aZ (.bool (!r2))) bf aW ⟨rfl,rfl⟩)
abbrev ke:az:=(.seq (.rg [(aj 9 (.bin .lss (.t 8) (.t 7)))]) (.seq (.cond (.t 9) .skip (.exit 0)) (.seq (.blk 1 (.seq (.rg [(av 10 8),(aO 5 10)]) (.seq (.rg [(av 11 1),(av 12 0),(av 13 5),(aj 14 (.pI 1 (.t 12) (.t 13))),(aj 15 (.ld (.t 14) none)),(aj 16 (.call (.t 11) [(.t 15)]))]) (.cond (.t 16) (.seq (.rg [(av 17 5),(aO 4 17)]) .ret) .skip)))) (.rg [(aj 18 (.bin .add (.t 8) (.c (.int .i64 1)))),(av 8 18)]))))
abbrev we:az:=(.seq (.rg [(aj 4 (.aT (.c (.int .i64 0))))]) (.seq (.seq (.rg [(av 6 0),(aj 7 (.len (.t 6))),(aj 8 (.mv (.c (.int .i64 0))))]) (.blk 0 (.loop (erase ke)))) (.seq (.rg [(aj 4 (.aT (.c (.int .i64 (-1)))))]) .ret)))
theorem wg:bL Tryz.prog 72 19 [(.tmp 4)] (erase we):=⟨Tryz.f72,_,rfl,by decide,rfl,by kernel_rfl,rfl,rfl⟩
abbrev nv:List Nat:=[0,1,4,5,7,8,9,16]
def cU (F:Nat) (s1:List (List UInt8)):(Int×Int)→Option (St Int Unit (Int×Int))
 |(t2,t3)=>
  (if (decide (t3<(s1.length:Int))) then
   (idx s1 t3).bind fun x4=>
   (j9 F x4).bind fun r5=>
   (if r5 then
    some (.ret t3)
   else
    some (.cA (t2,(IntKind.wrap .i64 (t3+1)))))
  else
   some (.dQ ()))
def gU (F:Nat) (s1:List (List UInt8)):Option (Int):=
 ((iter (cU F s1) F (0,0)).bind fun o8=>
 match o8 with
 | .inr ()=>
   some (-1)
 | .inl r7=>
   some r7)
theorem qQ {F:Nat} {t3:Int} {s1:List (List UInt8)} {t2:Int} {H:AH} {K:Exit→Env→AH→Prop} {o:(Int)⊕(Unit)}
 (h:iter (cU F s1) F (t2,t3)=some o)
 (dz:∀o':Unit,o= .inr o'→K (.exit 0) [] H)
 (kr:∀o':Int,o= .inl o'→K .ret [(4,(.int .i64 o'))] H):
 AX Tryz.prog nv 19 H.length (.loop (erase ke)) K [(0,(.sl .n 1 (ml AV.str s1))),(1,(.fn 70 [])),(4,(.int .i64 t2)),(7,(.int .i64 (s1.length:Int))),(8,(.int .i64 t3))] H:=by
 refine iE (fun s e H1=>match s with|(t2,t3)=>e=[(0,(.sl .n 1 (ml AV.str s1))),(1,(.fn 70 [])),(4,(.int .i64 t2)),(7,(.int .i64 (s1.length:Int))),(8,(.int .i64 t3))]∧H1=H) h ⟨rfl,rfl⟩ ?_
 rintro K' ⟨t2,t3⟩ st e H ⟨rfl,rfl⟩ h hN hB hR hX
 rw [cU.eq_1] at h
 refine aF ?_
 refine bk h (fun hy1 h=> ?_) fun hy1 h=> ?_
 · obtain ⟨x4,hy2,h⟩:=au h
   refine aY hy2 ?_
   obtain ⟨r5,hy3,h⟩:=au h
   refine bw aq (B0 hy3) ?_
   refine aF ?_
   refine bk h (fun hy4 h=> ?_) fun hy4 h=> ?_
   · refine aF ?_
     obtain rfl:=aD h
     exact hX _ _ _ _ _ dH aK aq (kr _ (hR _ rfl))
   · refine aF ?_
     obtain rfl:=aD h
     exact hN _ rfl _ _ _ _ aK aq ⟨rfl,rfl⟩
 · refine aF ?_
   obtain rfl:=aD h
   exact hX _ _ _ _ _ dH WE.nil aq (dz _ (hB _ rfl))
theorem uY {F:Nat} {s1:List (List UInt8)} {H0:AH} {aS:Int} (h:gU F s1=some aS):
 aG Tryz.prog 72 [(.sl .n 1 (ml AV.str s1)),(.fn 70 [])] H0 fun v H'=>v=(.int .i64 aS)∧H'=H0:=by
 refine gr wg nv fun hcl K0 aP=> ?_
 rw [gU.eq_1] at h
 refine aF ?_
 obtain ⟨o8,bJ,h⟩:=au h
 refine bA aq (qQ bJ ?_ ?_)
 · rintro ⟨⟩ rfl
   try dsimp only at h
   refine aF ?_
   obtain rfl:=aD h
   exact aP _ _ _ bh (aM hcl (aU aZ (.int .i64 (-1))) bf aW ⟨rfl,rfl⟩)
 · rintro r7 rfl
   try dsimp only at h
   refine aF ?_
   obtain rfl:=aD h
   exact aP _ _ _ bh (aM hcl (aU aZ (.int .i64 r7)) bf aW ⟨rfl,rfl⟩)
abbrev sI:az:=(.seq (.rg [(aj 4 (.aT (.c (.bool false))))]) (.seq (.rg [(av 5 0),(av 6 1),(aj 7 (.call (.c (.fn 72 [])) [(.t 5),(.t 6)])),(aj 8 (.bin .geq (.t 7) (.c (.int .i64 0)))),(aO 4 8)]) .ret))
theorem sJ:bL Tryz.prog 46 9 [(.tmp 4)] (erase sI):=⟨Tryz.f46,_,rfl,by decide,rfl,by kernel_rfl,rfl,rfl⟩
abbrev sK:List Nat:=[0,1,4]
def eo (F:Nat) (s1:List (List UInt8)):Option (Bool):=
 (gU F s1).bind fun r2=>some (decide (0≤r2))
theorem qR {F:Nat} {s1:List (List UInt8)} {H0:AH} {aS:Bool} (h:eo F s1=some aS):
 aG Tryz.prog 46 [(.sl .n 1 (ml AV.str s1)),(.fn 70 [])] H0 fun v H'=>v=(.bool aS)∧H'=H0:=by
 refine gr sJ sK fun hcl K0 aP=> ?_
 rw [eo.eq_1] at h
 refine aF ?_
 obtain ⟨r2,hy1,h⟩:=au h
 refine bw aq (uY hy1) ?_
 refine aF ?_
 obtain rfl:=aD h
 exact aP _ _ _ bh (aM hcl (aU aZ (.bool (decide (0≤r2)))) bf aW ⟨rfl,rfl⟩)
abbrev sZ:az:=(.rg [(av 4 0),(aj 5 (.lens (.t 4))),(aj 6 (.bin .gtr (.t 5) (.c (.int .i64 1)))),(av 7 6),(ay 8 (.mv (.t 0)) 7 true),(ay 9 (.ixs (.t 8) (.c (.int .i64 0))) 7 true),(ay 10 (.bin .eql (.t 9) (.c (b8 91))) 7 true),(aj 11 (.pick (.t 7) (.t 10) (.c (.bool false)))),(av 12 11),(ay 13 (.mv (.t 0)) 12 true),(ay 14 (.mv (.t 0)) 12 true),(ay 15 (.lens (.t 14)) 12 true),(ay 16 (.bin .sub (.t 15) (.c (.int .i64 1))) 12 true),(ay 17 (.ixs (.t 13) (.t 16)) 12 true),(ay 18 (.bin .eql (.t 17) (.c (b8 93))) 12 true),(aj 19 (.pick (.t 12) (.t 18) (.c (.bool false))))])
abbrev s7:az:=(.rg [(av 26 3),(aj 27 (.len (.t 26))),(aj 28 (.bin .eql (.t 27) (.c (.int .i64 4)))),(av 29 28),(ay 30 (.mv (.t 3)) 29 true),(ay 31 (.call (.c (.fn 46 [])) [(.t 30),(.c (.fn 68 []))]) 29 true),(ay 32 (.un .not (.t 31)) 29 true),(aj 33 (.pick (.t 29) (.t 32) (.c (.bool false)))),(aO 2 33)])
abbrev FY:az:=(.seq (.rg [(aj 2 (.aT (.c (.bool false))))]) (.seq (.seq (.sem (erase sZ)) (.cond (.t 19) (.seq (.rg [(av 20 0),(av 21 0),(aj 22 (.lens (.t 21))),(aj 23 (.bin .sub (.t 22) (.c (.int .i64 1)))),(aj 24 (.iP (.t 20) (some (.c (.int .i64 1))) (some (.t 23)))),(aj 25 (.call (.c (.fn 47 [])) [(.t 24),(.c (.str [46]))])),(aO 3 25)]) (.seq (.sem (erase s7)) .ret)) .skip)) (.seq (.rg [(av 34 0),(aj 35 (.call (.c (.fn 47 [])) [(.t 34),(.c (.str [46]))])),(aj 36 (.call (.c (.fn 46 [])) [(.t 35),(.c (.fn 70 []))])),(aj 37 (.un .not (.t 36))),(aO 2 37)]) .ret)))
theorem F0:bL Tryz.prog 45 38 [(.tmp 2)] (erase FY):=⟨Tryz.f45,_,rfl,by decide,rfl,by kernel_rfl,rfl,rfl⟩
abbrev qS:List Nat:=[0,2,3,19]
def jk (s1:List UInt8):Option (Bool):=
 (if (decide (1<(s1.length:Int))) then
  (idx s1 0).bind fun x2=>
  (if (decide (x2=91)) then
   (idx s1 (IntKind.wrap .i64 ((s1.length:Int) - 1))).bind fun x3=>some (decide (x3=93))
  else
   some false)
 else
  some false)
def mh (F:Nat) (r7:List (List UInt8)):Option (Bool):=
 (if (decide ((r7.length:Int)=4)) then
  (eH F r7).bind fun r8=>some (!r8)
 else
  some false)
def kS (F:Nat) (s1:List UInt8):Option (Bool):=
 (jk s1).bind fun t5=>
 (if t5 then
  (sub s1 1 (IntKind.wrap .i64 ((s1.length:Int) - 1))).bind fun x6=>
  (strings_Split x6 ([46]:List UInt8)).bind fun r7=>(mh F r7).bind fun t10=>
  some t10
 else
  (strings_Split s1 ([46]:List UInt8)).bind fun mY=>(eo F mY).bind fun jQ=>some (!jQ))
theorem Ao {s1:List UInt8} {H:AH} {K:Exit→Env→AH→Prop} {t4:Bool}
 (h:jk s1=some t4)
 (kn:K .normal [(0,(.str s1)),(19,(.bool t4))] H):
 AX Tryz.prog qS 38 H.length (erase sZ) K [(0,(.str s1))] H:=by
 refine bY fun K' hK=> ?_
 rw [jk.eq_1] at h
 refine aF ?_
 refine bT h (fun hy1 h=> ?_) fun hy1 h=> ?_
 · obtain ⟨x2,hy2,h⟩:=au h
   refine aY (aA hy1 hy2) ?_
   refine bT h (fun hy3 h=> ?_) fun hy3 h=> ?_
   · obtain ⟨x3,hy4,h⟩:=au h
     refine aY (aA hy3 hy4) ?_
     obtain rfl:=aD h
     exact hK _ _ _ _ _ aK aq kn
   · refine aY hy3 ?_
     obtain rfl:=aD h
     exact hK _ _ _ _ _ aK aq kn
 · refine aY hy1 ?_
   obtain rfl:=aD h
   exact hK _ _ _ _ _ aK aq kn
theorem Ap {F:Nat} {r7:List (List UInt8)} {H:AH} {K:Exit→Env→AH→Prop} {t9:Bool}
 (h:mh F r7=some t9)
 (kn:K .normal [(2,(.bool t9))] H):
 AX Tryz.prog qS 38 H.length (erase s7) K [(3,(.sl .n 1 (ml AV.str r7)))] H:=by
 refine bY fun K' hK=> ?_
 rw [mh.eq_1] at h
 refine aF ?_
 refine bT h (fun cM h=> ?_) fun cM h=> ?_
 · refine aY cM ?_
   obtain ⟨r8,cc,h⟩:=au h
   refine bw aq (sH cc) ?_
   refine aF ?_
   obtain rfl:=aD h
   exact hK _ _ _ _ _ aK aq kn
 · refine aY cM ?_
   obtain rfl:=aD h
   exact hK _ _ _ _ _ aK aq kn
theorem wU {F:Nat} {s1:List UInt8} {H0:AH} {aS:Bool} (h:kS F s1=some aS):
 aG Tryz.prog 45 [(.str s1)] H0 fun v H'=>v=(.bool aS)∧H'=H0:=by
 refine gr F0 qS fun hcl K0 aP=> ?_
 rw [kS.eq_1] at h
 refine aF ?_
 obtain ⟨t5,bJ,h⟩:=au h
 refine bA aq (Ao bJ ?_)
 refine aF ?_
 refine bk h (fun ck h=> ?_) fun ck h=> ?_
 · obtain ⟨x6,cF,h⟩:=au h
   refine aY cF ?_
   obtain ⟨r7,cv,h⟩:=au h
   refine bw aq (jU (s1:=x6) (s2:=([46]:List UInt8)) cv) ?_
   refine aF ?_
   obtain ⟨t10,cx,h⟩:=au h
   refine bA aq (Ap cx ?_)
   refine aF ?_
   obtain rfl:=aD h
   exact aP _ _ _ bh (aM hcl (aU aZ (.bool t10)) bf aW ⟨rfl,rfl⟩)
 · refine aF ?_
   obtain ⟨mY,cN,h⟩:=au h
   refine bw aq (jU (s1:=s1) (s2:=([46]:List UInt8)) cN) ?_
   refine aF ?_
   obtain ⟨jQ,cI,h⟩:=au h
   refine bw aq (qR cI) ?_
   refine aF ?_
   obtain rfl:=aD h
   exact aP _ _ _ bh (aM hcl (aU aZ (.bool (!jQ))) bf aW ⟨rfl,rfl⟩)
abbrev lE:az:=(.rg [(av 12 4),(aj 13 (.call (.c (.fn 103 [])) [(.t 12)])),(av 14 13),(ay 15 (.mv (.t 4)) 14 false),(ay 16 (.bin .eql (.t 15) (.c (b8 45))) 14 false),(aj 17 (.pick (.t 14) (.c (.bool true)) (.t 16))),(av 18 17),(ay 19 (.mv (.t 4)) 18 false),(ay 20 (.bin .eql (.t 19) (.c (b8 46))) 18 false),(aj 21 (.pick (.t 18) (.c (.bool true)) (.t 20))),(av 22 21),(ay 23 (.mv (.t 4)) 22 false),(ay 24 (.bin .eql (.t 23) (.c (b8 91))) 22 false),(aj 25 (.pick (.t 22) (.c (.bool true)) (.t 24))),(av 26 25),(ay 27 (.mv (.t 4)) 26 false),(ay 28 (.bin .eql (.t 27) (.c (b8 93))) 26 false),(aj 29 (.pick (.t 26) (.c (.bool true)) (.t 28)))])
abbrev kf:az:=(.seq (.seq (.sem (erase lE)) (.cond (.t 29) .skip (.exit 0))) (.seq (.blk 1 (.rg [(av 32 0),(aj 33 (.jP (.t 32))),(aj 34 (.cw (.t 33) 1)),(aj 35 (.ld (.t 34) none)),(aj 36 (.bin .add (.t 35) (.c (.int .i64 1)))),(aj 37 (.jP (.t 32))),(aj 38 (.cw (.t 37) 1)),(cZ (.st (.t 38) (.t 36) 1))])) (.rg [(av 30 0),(aj 31 (.call (.c (.fn 117 [])) [(.t 30)])),(aO 4 31)])))
abbrev lF:az:=(.rg [(av 49 0),(av 50 0),(aj 51 (.jP (.t 50))),(aj 52 (.cw (.t 51) 2)),(aj 53 (.ld (.t 52) none)),(av 54 53),(ay 55 (.mv (.t 5)) 54 false),(ay 56 (.call (.c (.fn 45 [])) [(.t 55)]) 54 false),(ay 57 (.un .not (.t 56)) 54 false),(aj 58 (.pick (.t 54) (.c (.bool true)) (.t 57))),(aj 59 (.jP (.t 49))),(aj 60 (.cw (.t 59) 2)),(cZ (.st (.t 60) (.t 58) 1))])
abbrev wh:az:=(.seq (.rg [(aj 2 (.aT (.c (.str []))))]) (.seq (.rg [(av 6 0),(aj 7 (.jP (.t 6))),(aj 8 (.cw (.t 7) 1)),(aj 9 (.ld (.t 8) none)),(aO 3 9)]) (.seq (.seq (.rg [(av 10 0),(aj 11 (.call (.c (.fn 117 [])) [(.t 10)])),(aO 4 11)]) (.blk 0 (.loop (erase kf)))) (.seq (.rg [(av 39 0),(aj 40 (.jP (.t 39))),(aj 41 (.cw (.t 40) 0)),(aj 42 (.ld (.t 41) none)),(av 43 3),(av 44 0),(aj 45 (.jP (.t 44))),(aj 46 (.cw (.t 45) 1)),(aj 47 (.ld (.t 46) none)),(aj 48 (.iP (.t 42) (some (.t 43)) (some (.t 47)))),(aO 5 48)]) (.seq (.sem (erase lF)) (.seq (.rg [(av 61 5),(aO 2 61)]) .ret))))))
theorem wj:bL Tryz.prog 96 62 [(.tmp 2)] (erase wh):=⟨Tryz.f96,_,rfl,by decide,rfl,by kernel_rfl,rfl,rfl⟩
abbrev fX:List Nat:=[0,2,3,4,5,29]
def eu (c4:UInt8):Option (Bool):=
 (ja c4).bind fun r6=>
 (if r6 then
  some true
 else
  (if (decide (c4=45)) then
   some true
  else
   (if (decide (c4=46)) then
    some true
   else
    (if (decide (c4=91)) then
     some true
    else
     some (decide (c4=93))))))
def ew:(UInt8×aE)→Option (St ((List UInt8)×aE) aE (UInt8×aE))
 |(c4,s5)=>
  (eu c4).bind fun t8=>
  (if t8 then
   (bE (aE.mk s5.s (IntKind.wrap .i64 (s5.c8+1)) s5.bad)).bind fun r9=>
   some (.cA (r9,(aE.mk s5.s (IntKind.wrap .i64 (s5.c8+1)) s5.bad)))
  else
   some (.dQ s5))
def ey (F:Nat) (qT:aE) (lZ:List UInt8):Option (aE):=
 (if qT.bad then
  some (aE.mk qT.s qT.c8 true)
 else
  (kS F lZ).bind fun mM=>some (aE.mk qT.s qT.c8 (!mM)))
def cm (F:Nat) (x2:aE):Option ((List UInt8)×aE):=
 (bE x2).bind fun r3=>
 ((iter ew F (r3,x2)).bind fun ML=>
 match ML with
 | .inr qT=>
   (sub qT.s x2.c8 qT.c8).bind fun lZ=>
   (ey F qT lZ).bind fun P8=>
   some (lZ,P8)
 | .inl _=>none)
theorem qU {c4:UInt8} {q1:Nat} {x2:aE} {s5:aE} {H0 H:AH} (hfr:Fr H0 H0.length [q1] H) (ai:H[q1]? =some [(.str s5.s),(.int .i64 s5.c8),(.bool s5.bad)]) (dB:q1<H0.length) {K:Exit→Env→AH→Prop} {t7:Bool}
 (h:eu c4=some t7)
 (kn:∀H':AH,Fr H0 H0.length [q1] H'→H'[q1]? =some [(.str s5.s),(.int .i64 s5.c8),(.bool s5.bad)]→K .normal [(0,(.ptr q1 0)),(3,(.int .i64 x2.c8)),(29,(.bool t7))] H'):
 AX Tryz.prog fX 62 H0.length (erase lE) K [(0,(.ptr q1 0)),(3,(.int .i64 x2.c8)),(4,(b8 c4))] H:=by
 refine bY fun K' hK=> ?_
 have hle:=hfr.le
 have aL:=aN ai
 rw [eu.eq_1] at h
 refine ax ai ?_
 obtain ⟨r6,hy2,h⟩:=au h
 refine bw aq (pL hy2) ?_
 refine ax ai ?_
 refine bT h (fun hy3 h=> ?_) fun hy3 h=> ?_
 · refine ax (aA hy3 ai) ?_
   obtain rfl:=aD h
   exact hK _ _ _ _ _ aK aq (kn _ hfr (ai.trans rfl))
 · refine ax (aA hy3 ai) ?_
   refine bT h (fun hy4 h=> ?_) fun hy4 h=> ?_
   · refine ax (aA hy4 ai) ?_
     obtain rfl:=aD h
     exact hK _ _ _ _ _ aK aq (kn _ hfr (ai.trans rfl))
   · refine ax (aA hy4 ai) ?_
     refine bT h (fun bJ h=> ?_) fun bJ h=> ?_
     · refine ax (aA bJ ai) ?_
       obtain rfl:=aD h
       exact hK _ _ _ _ _ aK aq (kn _ hfr (ai.trans rfl))
     · refine ax (aA bJ ai) ?_
       refine bT h (fun ck h=> ?_) fun ck h=> ?_
       · refine ax (aA ck ai) ?_
         obtain rfl:=aD h
         exact hK _ _ _ _ _ aK aq (kn _ hfr (ai.trans rfl))
       · refine ax (aA ck ai) ?_
         obtain rfl:=aD h
         exact hK _ _ _ _ _ aK aq (kn _ hfr (ai.trans rfl))
theorem qV {F:Nat} {c4:UInt8} {s5:aE} {q1:Nat} {x2:aE} {H0 H:AH} (hfr:Fr H0 H0.length [q1] H) (ai:H[q1]? =some [(.str s5.s),(.int .i64 s5.c8),(.bool s5.bad)]) (dB:q1<H0.length) {K:Exit→Env→AH→Prop} {o:((List UInt8)×aE)⊕(aE)}
 (h:iter ew F (c4,s5)=some o)
 (dz:∀o':aE,o= .inr o'→∀H':AH,Fr H0 H0.length [q1] H'→H'[q1]? =some [(.str o'.s),(.int .i64 o'.c8),(.bool o'.bad)]→K (.exit 0) [(0,(.ptr q1 0)),(3,(.int .i64 x2.c8))] H'):
 AX Tryz.prog fX 62 H0.length (.loop (erase kf)) K [(0,(.ptr q1 0)),(3,(.int .i64 x2.c8)),(4,(b8 c4))] H:=by
 refine iE (fun s e H1=>match s with|(c4,s5)=>e=[(0,(.ptr q1 0)),(3,(.int .i64 x2.c8)),(4,(b8 c4))]∧Fr H0 H0.length [q1] H1∧H1[q1]? =some [(.str s5.s),(.int .i64 s5.c8),(.bool s5.bad)]) h ⟨rfl,hfr,ai⟩ ?_
 rintro K' ⟨c4,s5⟩ st e H ⟨rfl,hfr,ai⟩ h hN hB hR hX
 have hle:=hfr.le
 have aL:=aN ai
 rw [ew.eq_1] at h
 refine ax ai ?_
 obtain ⟨t8,cF,h⟩:=au h
 refine bA aq (qU (q1:=q1) (x2:=x2) (s5:=s5) hfr (ai.trans rfl) bU cF ?_)
 intro H hfr ai
 have hle:=hfr.le
 have aL:=aN ai
 refine ax ai ?_
 refine bk h (fun cv h=> ?_) fun cv h=> ?_
 · refine ax ai ?_
   obtain ⟨r9,cM,h⟩:=au h
   refine ME (cB cM) (n8.cons (.one _ _ (iZ.D5 cL MF)) (n8.nil)) ?_
   refine ax ai ?_
   obtain rfl:=aD h
   exact hN _ rfl _ _ _ _ aK aq ⟨rfl,(b6 _ hfr),cL⟩
 · refine ax ai ?_
   obtain rfl:=aD h
   exact hX _ _ _ _ _ dH aK aq (dz _ (hB _ rfl) _ hfr (ai.trans rfl))
theorem qW {F:Nat} {qT:aE} {lZ:List UInt8} {q1:Nat} {H0 H:AH} (hfr:Fr H0 H0.length [q1] H) (ai:H[q1]? =some [(.str qT.s),(.int .i64 qT.c8),(.bool qT.bad)]) (dB:q1<H0.length) {K:Exit→Env→AH→Prop} {ij:aE}
 (h:ey F qT lZ=some ij)
 (kn:∀H':AH,Fr H0 H0.length [q1] H'→H'[q1]? =some [(.str ij.s),(.int .i64 ij.c8),(.bool ij.bad)]→K .normal [(5,(.str lZ))] H'):
 AX Tryz.prog fX 62 H0.length (erase lF) K [(0,(.ptr q1 0)),(5,(.str lZ))] H:=by
 refine bY fun K' hK=> ?_
 have hle:=hfr.le
 have aL:=aN ai
 rw [ey.eq_1] at h
 refine ax ai ?_
 refine bT h (fun cN h=> ?_) fun cN h=> ?_
 · refine ax (aA cN ai) ?_
   obtain rfl:=aD h
   exact hK _ _ _ _ _ aK aq (kn _ (b6 _ hfr) cL)
 · refine ax (aA cN ai) ?_
   obtain ⟨mM,cI,h⟩:=au h
   refine bw aq (wU cI) ?_
   refine ax ai ?_
   obtain rfl:=aD h
   exact hK _ _ _ _ _ aK aq (kn _ (b6 _ hfr) cL)
theorem mR {F:Nat} {x2:aE} {q1:Nat} {H0:AH} (ai:H0[q1]? =some [(.str x2.s),(.int .i64 x2.c8),(.bool x2.bad)]) {aS:List UInt8} {fE:aE} (h:cm F x2=some (aS,fE)):
 aG Tryz.prog 96 [(.ptr q1 0)] H0 fun v H'=>v=(.str aS)∧H'=(H0.set q1 [(.str fE.s),(.int .i64 fE.c8),(.bool fE.bad)]):=by
 have aL:=aN ai
 refine lN wj fX [q1] fun hcl K0 aP H hH hfr=> ?_
 rw [←hH] at ai
 clear hH
 have hle:=hfr.le
 have FR:=aN ai
 rw [cm.eq_1] at h
 refine ax ai ?_
 obtain ⟨r3,hy1,h⟩:=au h
 refine ME (cB hy1) (n8.cons (.one _ _ (iZ.D5 (ai.trans rfl) MF)) (n8.nil)) ?_
 refine ax ai ?_
 obtain ⟨ML,cc,h⟩:=au h
 refine bA aq (qV (q1:=q1) (x2:=x2) hfr (ai.trans rfl) bU cc ?_)
 · rintro qT rfl H hfr ai
   try dsimp only at h ai
   have hle:=hfr.le
   have aL:=aN ai
   refine ax ai ?_
   obtain ⟨lZ,cx,h⟩:=au h
   refine ax (aA cx ai) ?_
   obtain ⟨P8,dD,h⟩:=au h
   refine bA aq (qW (q1:=q1) hfr (ai.trans rfl) bU dD ?_)
   intro H hfr ai
   have hle:=hfr.le
   have aL:=aN ai
   refine ax ai ?_
   obtain ⟨rfl,rfl⟩:=cT h
   exact aP _ _ _ bh (lT hfr hcl (aU aZ (.str lZ)) bf aW (ai.trans rfl) bU HN HM ⟨rfl,rfl⟩)
abbrev l5:az:=(.rg [(av 3 0),(aj 4 (.call (.c (.fn 117 [])) [(.t 3)])),(aj 5 (.bin .eql (.t 4) (.c (b8 64)))),(av 6 5),(ay 7 (.mv (.t 2)) 6 false),(ay 8 (.un .not (.t 7)) 6 false),(aj 9 (.pick (.t 6) (.c (.bool true)) (.t 8)))])
abbrev lG:az:=(.seq (.seq (.sem (erase l5)) (.cond (.t 9) .skip (.exit 0))) (.seq (.blk 1 (.seq (.rg [(av 10 0),(aj 11 (.call (.c (.fn 92 [])) [(.t 10),(.c (b8 64))]))]) (.seq (.rg [(av 12 0),(aj 13 (.call (.c (.fn 96 [])) [(.t 12)]))]) (.seq (.rg [(av 14 0),(aj 15 (.call (.c (.fn 93 [])) [(.t 14),(.c (b8 44))])),(aj 16 (.un .not (.t 15)))]) (.cond (.t 16) (.seq (.rg [(av 17 0),(aj 18 (.call (.c (.fn 92 [])) [(.t 17),(.c (b8 58))]))]) .ret) .skip))))) (.rg [(aj 2 (.aT (.c (.bool false))))])))
abbrev xJ:az:=(.seq (.rg [(aj 2 (.aT (.c (.bool true))))]) (.blk 0 (.loop (erase lG))))
theorem xK:bL Tryz.prog 94 19 [] (erase xJ):=⟨Tryz.f94,_,rfl,by decide,rfl,by kernel_rfl,rfl,rfl⟩
abbrev jR:List Nat:=[0,2,9,16]
def cO (s4:aE) (mj:Bool):Option (Bool):=
 (bE s4).bind fun r5=>
 (if (decide (r5=64)) then
  some true
 else
  some (!mj))
def bK (F:Nat):(Bool×aE)→Option (St aE aE (Bool×aE))
 |(mj,s4)=>
  (cO s4 mj).bind fun t7=>
  (if t7 then
   (bt s4 64).bind fun r8=>
   (cm F r8).bind fun (r9,dR)=>
   (bM dR 44).bind fun (mY,jQ)=>
   (if (!mY) then
    (bt jQ 58).bind fun mM=>some (.ret mM)
   else
    some (.cA (false,jQ)))
  else
   some (.dQ s4))
def dJ (F:Nat) (x2:aE):Option (aE):=
 ((iter (bK F) F (true,x2)).bind fun o18=>
 match o18 with
 | .inr Uh=>
   some Uh
 | .inl uI=>
   some uI)
theorem sL {s4:aE} {mj:Bool} {q1:Nat} {H0 H:AH} (hfr:Fr H0 H0.length [q1] H) (ai:H[q1]? =some [(.str s4.s),(.int .i64 s4.c8),(.bool s4.bad)]) (dB:q1<H0.length) {K:Exit→Env→AH→Prop} {t6:Bool}
 (h:cO s4 mj=some t6)
 (kn:∀H':AH,Fr H0 H0.length [q1] H'→H'[q1]? =some [(.str s4.s),(.int .i64 s4.c8),(.bool s4.bad)]→K .normal [(0,(.ptr q1 0)),(9,(.bool t6))] H'):
 AX Tryz.prog jR 19 H0.length (erase l5) K [(0,(.ptr q1 0)),(2,(.bool mj))] H:=by
 refine bY fun K' hK=> ?_
 have hle:=hfr.le
 have aL:=aN ai
 rw [cO.eq_1] at h
 refine ax ai ?_
 obtain ⟨r5,hy1,h⟩:=au h
 refine ME (cB hy1) (n8.cons (.one _ _ (iZ.D5 (ai.trans rfl) MF)) (n8.nil)) ?_
 refine ax ai ?_
 refine bT h (fun hy2 h=> ?_) fun hy2 h=> ?_
 · refine ax (aA hy2 ai) ?_
   obtain rfl:=aD h
   exact hK _ _ _ _ _ aK aq (kn _ hfr (ai.trans rfl))
 · refine ax (aA hy2 ai) ?_
   obtain rfl:=aD h
   exact hK _ _ _ _ _ aK aq (kn _ hfr (ai.trans rfl))
theorem sM {F:Nat} {s4:aE} {mj:Bool} {q1:Nat} {H0 H:AH} (hfr:Fr H0 H0.length [q1] H) (ai:H[q1]? =some [(.str s4.s),(.int .i64 s4.c8),(.bool s4.bad)]) (dB:q1<H0.length) {K:Exit→Env→AH→Prop} {o:(aE)⊕(aE)}
 (h:iter (bK F) F (mj,s4)=some o)
 (dz:∀o':aE,o= .inr o'→∀H':AH,Fr H0 H0.length [q1] H'→H'[q1]? =some [(.str o'.s),(.int .i64 o'.c8),(.bool o'.bad)]→K (.exit 0) [] H')
 (kr:∀o':aE,o= .inl o'→∀H':AH,Fr H0 H0.length [q1] H'→H'[q1]? =some [(.str o'.s),(.int .i64 o'.c8),(.bool o'.bad)]→K .ret [] H'):
 AX Tryz.prog jR 19 H0.length (.loop (erase lG)) K [(0,(.ptr q1 0)),(2,(.bool mj))] H:=by
 refine iE (fun s e H1=>match s with|(mj,s4)=>e=[(0,(.ptr q1 0)),(2,(.bool mj))]∧Fr H0 H0.length [q1] H1∧H1[q1]? =some [(.str s4.s),(.int .i64 s4.c8),(.bool s4.bad)]) h ⟨rfl,hfr,ai⟩ ?_
 rintro K' ⟨mj,s4⟩ st e H ⟨rfl,hfr,ai⟩ h hN hB hR hX
 have hle:=hfr.le
 have aL:=aN ai
 rw [bK.eq_1] at h
 refine ax ai ?_
 obtain ⟨t7,hy3,h⟩:=au h
 refine bA aq (sL (q1:=q1) hfr (ai.trans rfl) bU hy3 ?_)
 intro H hfr ai
 have hle:=hfr.le
 have aL:=aN ai
 refine ax ai ?_
 refine bk h (fun hy4 h=> ?_) fun hy4 h=> ?_
 · refine ax ai ?_
   obtain ⟨r8,bJ,h⟩:=au h
   refine bw aq (dO (ai.trans rfl) bJ) ?_
   refine ax ai ?_
   obtain ⟨⟨r9,dR⟩,ck,h⟩:=au h
   dsimp only at h
   refine bw aq (mR (q1:=q1) cL ck) ?_
   refine ax ai ?_
   obtain ⟨⟨mY,jQ⟩,cF,h⟩:=au h
   dsimp only at h
   refine bw aq (eG (q1:=q1) cL cF) ?_
   refine ax ai ?_
   refine bk h (fun cv h=> ?_) fun cv h=> ?_
   · refine ax ai ?_
     obtain ⟨mM,cM,h⟩:=au h
     refine bw aq (dO (q1:=q1) cL cM) ?_
     refine ax ai ?_
     obtain rfl:=aD h
     exact hX _ _ _ _ _ dH WE.nil aq (kr _ (hR _ rfl) _ (b6 _ (b6 _ (b6 _ (b6 _ hfr)))) cL)
   · refine ax ai ?_
     obtain rfl:=aD h
     exact hN _ rfl _ _ _ _ aK aq ⟨rfl,(b6 _ (b6 _ (b6 _ hfr))),cL⟩
 · refine ax ai ?_
   obtain rfl:=aD h
   exact hX _ _ _ _ _ dH WE.nil aq (dz _ (hB _ rfl) _ hfr (ai.trans rfl))
theorem wm {F:Nat} {x2:aE} {q1:Nat} {H0:AH} (ai:H0[q1]? =some [(.str x2.s),(.int .i64 x2.c8),(.bool x2.bad)]) {aS:aE} (h:dJ F x2=some aS):
 aG Tryz.prog 94 [(.ptr q1 0)] H0 fun v H'=>v=(.bG [])∧H'=(H0.set q1 [(.str aS.s),(.int .i64 aS.c8),(.bool aS.bad)]):=by
 have aL:=aN ai
 refine lN xK jR [q1] fun hcl K0 aP H hH hfr=> ?_
 rw [←hH] at ai
 clear hH
 have hle:=hfr.le
 have FR:=aN ai
 rw [dJ.eq_1] at h
 refine ax ai ?_
 obtain ⟨o18,cc,h⟩:=au h
 refine bA aq (sM (q1:=q1) hfr (ai.trans rfl) bU cc ?_ ?_)
 · rintro Uh rfl H hfr ai
   try dsimp only at h ai
   have hle:=hfr.le
   have aL:=aN ai
   refine ax ai ?_
   obtain rfl:=aD h
   exact aP _ _ _ xlZ (lT hfr hcl aZ bf aW (ai.trans rfl) bU HN HM ⟨rfl,rfl⟩)
 · rintro uI rfl H hfr ai
   try dsimp only at h ai
   have hle:=hfr.le
   have aL:=aN ai
   refine ax ai ?_
   obtain rfl:=aD h
   exact aP _ _ _ bh (lT hfr hcl aZ bf aW (ai.trans rfl) bU HN HM ⟨rfl,rfl⟩)
abbrev qX:az:=(.rg [(av 3 0),(aj 4 (.bin .geq (.t 3) (.c (b8 32)))),(av 5 4),(ay 6 (.mv (.t 0)) 5 true),(ay 7 (.bin .leq (.t 6) (.c (b8 126))) 5 true),(aj 8 (.pick (.t 5) (.t 7) (.c (.bool false)))),(aO 2 8)])
abbrev Eu:az:=(.seq (.rg [(aj 2 (.aT (.c (.bool false))))]) (.seq (.sem (erase qX)) .ret))
theorem Ev:bL Tryz.prog 55 9 [(.tmp 2)] (erase Eu):=⟨Tryz.f55,_,rfl,by decide,rfl,by kernel_rfl,rfl,rfl⟩
abbrev wV:List Nat:=[0,2]
def l6 (c1:UInt8):Option (Bool):=
 some ((decide (32≤c1))&&(decide (c1≤126)))
theorem zH {c1:UInt8} {H:AH} {K:Exit→Env→AH→Prop}
 (kn:K .normal [(2,(.bool ((decide (32≤c1))&&(decide (c1≤126)))))] H):
 AX Tryz.prog wV 9 H.length (erase qX) K [(0,(b8 c1)),(2,(.bool false))] H:=by
 refine bY fun K' hK=> ?_
 refine aF ?_
 refine gG (fun hy1=> ?_) fun hy1=> ?_
 · refine aY hy1 ?_
   exact hK _ _ _ _ _ (dj hy1) aq kn
 · refine aY hy1 ?_
   exact hK _ _ _ _ _ (dj hy1) aq kn
theorem uZ {c1:UInt8} {H0:AH} {aS:Bool} (h:l6 c1=some aS):
 aG Tryz.prog 55 [(b8 c1)] H0 fun v H'=>v=(.bool aS)∧H'=H0:=by
 refine gr Ev wV fun hcl K0 aP=> ?_
 rw [l6.eq_1] at h
 refine aF ?_
 refine bA aq (zH (c1:=c1) ?_)
 refine aF ?_
 obtain rfl:=aD h
 exact aP _ _ _ bh (aM hcl (aU aZ (.bool ((decide (32≤c1))&&(decide (c1≤126))))) bf aW ⟨rfl,rfl⟩)
abbrev lH:az:=(.rg [(av 7 0),(aj 8 (.jP (.t 7))),(aj 9 (.cw (.t 8) 2)),(aj 10 (.ld (.t 9) none)),(aj 11 (.un .not (.t 10))),(av 12 11),(ay 13 (.mv (.t 0)) 12 true),(ay 14 (.call (.c (.fn 93 [])) [(.t 13),(.c (b8 34))]) 12 true),(ay 15 (.un .not (.t 14)) 12 true),(aj 16 (.pick (.t 12) (.t 15) (.c (.bool false))))])
abbrev kg:az:=(.seq (.seq (.sem (erase lH)) (.cond (.t 16) .skip (.exit 0))) (.blk 1 (.seq (.rg [(av 17 0),(aj 18 (.call (.c (.fn 93 [])) [(.t 17),(.c (b8 92))]))]) (.seq (.rg [(av 19 0),(aj 20 (.call (.c (.fn 117 [])) [(.t 19)])),(aO 4 20)]) (.seq (.seq (.rg [(av 21 4),(aj 22 (.call (.c (.fn 55 [])) [(.t 21)])),(aj 23 (.un .not (.t 22)))]) (.cond (.t 23) (.seq (.rg [(av 24 0),(aj 25 (.jP (.t 24))),(aj 26 (.cw (.t 25) 2)),(cZ (.st (.t 26) (.c (.bool true)) 1))]) (.exit 0)) .skip)) (.seq (.rg [(av 27 0),(aj 28 (.jP (.t 27))),(aj 29 (.cw (.t 28) 1)),(aj 30 (.ld (.t 29) none)),(aj 31 (.bin .add (.t 30) (.c (.int .i64 1)))),(aj 32 (.jP (.t 27))),(aj 33 (.cw (.t 32) 1)),(cZ (.st (.t 33) (.t 31) 1))]) (.rg [(av 34 3),(av 35 4),(aj 36 (.pH 1 [(.t 35)])),(aj 37 (.app 1 1 (.t 34) (.t 36))),(aO 3 37)])))))))
abbrev lI:az:=(.rg [(av 38 0),(av 39 0),(aj 40 (.jP (.t 39))),(aj 41 (.cw (.t 40) 2)),(aj 42 (.ld (.t 41) none)),(av 43 42),(ay 44 (.mv (.t 3)) 43 false),(ay 45 (.len (.t 44)) 43 false),(ay 46 (.bin .eql (.t 45) (.c (.int .i64 0))) 43 false),(aj 47 (.pick (.t 43) (.c (.bool true)) (.t 46))),(aj 48 (.jP (.t 38))),(aj 49 (.cw (.t 48) 2)),(cZ (.st (.t 49) (.t 47) 1))])
abbrev wo:az:=(.seq (.rg [(aj 2 (.aT (.c (.str []))))]) (.seq (.rg [(aj 3 (.aT (.c (.sl .ex 1 []))))]) (.seq (.rg [(av 5 0),(aj 6 (.call (.c (.fn 92 [])) [(.t 5),(.c (b8 34))]))]) (.seq (.blk 0 (.loop (erase kg))) (.seq (.sem (erase lI)) (.seq (.rg [(av 50 3),(aj 51 (.iT .bs (.t 50))),(aO 2 51)]) .ret))))))
theorem wq:bL Tryz.prog 118 52 [(.tmp 2)] (erase wo):=⟨Tryz.f118,_,rfl,by decide,rfl,by kernel_rfl,rfl,rfl⟩
abbrev fY:List Nat:=[0,2,3,4,16,23]
def dy (s5:aE):Option (Bool×aE):=
 (if (!s5.bad) then
  (bM s5 34).bind fun (r6,r7)=>some ((!r6),r7)
 else
  some (false,s5))
def bP:((List UInt8)×aE)→Option (St ((List UInt8)×aE) ((List UInt8)×aE) ((List UInt8)×aE))
 |(b4,s5)=>
  (dy s5).bind fun (t10,qT)=>
  (if t10 then
   (bM qT 92).bind fun (jQ,mM)=>
   (bE mM).bind fun jS=>
   (l6 jS).bind fun de=>
   (if (!de) then
    some (.dQ (b4,(aE.mk mM.s mM.c8 true)))
   else
    (fq 1 b4 ([jS]:List UInt8)).bind fun jl=>
    some (.cA (jl,(aE.mk mM.s (IntKind.wrap .i64 (mM.c8+1)) mM.bad))))
  else
   some (.dQ (b4,qT)))
def ez (zI:aE) (HV:List UInt8):Option (aE):=
 (if zI.bad then
  some (aE.mk zI.s zI.c8 true)
 else
  some (aE.mk zI.s zI.c8 (decide ((HV.length:Int)=0))))
def gV (F:Nat) (x2:aE):Option ((List UInt8)×aE):=
 (bt x2 34).bind fun r3=>
 ((iter bP F (([]:List UInt8),r3)).bind fun o23=>
 match o23 with
 | .inr (HV,zI)=>
   (ez zI HV).bind fun s22=>
   some (HV,s22)
 | .inl _=>none)
theorem qY {s5:aE} {q1:Nat} {b4:List UInt8} {H0 H:AH} (hfr:Fr H0 H0.length [q1] H) (ai:H[q1]? =some [(.str s5.s),(.int .i64 s5.c8),(.bool s5.bad)]) (dB:q1<H0.length) {K:Exit→Env→AH→Prop} {t8:Bool} {s9:aE}
 (h:dy s5=some (t8,s9))
 (kn:∀H':AH,Fr H0 H0.length [q1] H'→H'[q1]? =some [(.str s9.s),(.int .i64 s9.c8),(.bool s9.bad)]→K .normal [(0,(.ptr q1 0)),(3,(.sl .own 1 (ml b8 b4))),(16,(.bool t8))] H'):
 AX Tryz.prog fY 52 H0.length (erase lH) K [(0,(.ptr q1 0)),(3,(.sl .own 1 (ml b8 b4)))] H:=by
 refine bY fun K' hK=> ?_
 have hle:=hfr.le
 have aL:=aN ai
 rw [dy.eq_1] at h
 refine ax ai ?_
 refine bT h (fun hy2 h=> ?_) fun hy2 h=> ?_
 · refine ax (aA hy2 ai) ?_
   obtain ⟨⟨r6,r7⟩,hy3,h⟩:=au h
   dsimp only at h
   refine bw aq (eG (ai.trans rfl) hy3) ?_
   refine ax ai ?_
   obtain ⟨rfl,rfl⟩:=cT h
   exact hK _ _ _ _ _ aK aq (kn _ (b6 _ hfr) cL)
 · refine ax (aA hy2 ai) ?_
   obtain ⟨rfl,rfl⟩:=cT h
   exact hK _ _ _ _ _ aK aq (kn _ hfr (ai.trans rfl))
theorem qZ {F:Nat} {s5:aE} {b4:List UInt8} {q1:Nat} {H0 H:AH} (hfr:Fr H0 H0.length [q1] H) (ai:H[q1]? =some [(.str s5.s),(.int .i64 s5.c8),(.bool s5.bad)]) (dB:q1<H0.length) {K:Exit→Env→AH→Prop} {o:((List UInt8)×aE)⊕((List UInt8)×aE)}
 (h:iter bP F (b4,s5)=some o)
 (dz:∀o':(List UInt8)×aE,o= .inr o'→∀H':AH,Fr H0 H0.length [q1] H'→H'[q1]? =some [(.str o'.2.s),(.int .i64 o'.2.c8),(.bool o'.2.bad)]→K (.exit 0) [(0,(.ptr q1 0)),(3,(.sl .own 1 (ml b8 o'.1)))] H'):
 AX Tryz.prog fY 52 H0.length (.loop (erase kg)) K [(0,(.ptr q1 0)),(3,(.sl .own 1 (ml b8 b4)))] H:=by
 refine iE (fun s e H1=>match s with|(b4,s5)=>e=[(0,(.ptr q1 0)),(3,(.sl .own 1 (ml b8 b4)))]∧Fr H0 H0.length [q1] H1∧H1[q1]? =some [(.str s5.s),(.int .i64 s5.c8),(.bool s5.bad)]) h ⟨rfl,hfr,ai⟩ ?_
 rintro K' ⟨b4,s5⟩ st e H ⟨rfl,hfr,ai⟩ h hN hB hR hX
 have hle:=hfr.le
 have aL:=aN ai
 rw [bP.eq_1] at h
 refine ax ai ?_
 obtain ⟨⟨t10,qT⟩,hy4,h⟩:=au h
 dsimp only at h
 refine bA aq (qY (q1:=q1) (b4:=b4) hfr (ai.trans rfl) bU hy4 ?_)
 intro H hfr ai
 have hle:=hfr.le
 have aL:=aN ai
 refine ax ai ?_
 refine bk h (fun bJ h=> ?_) fun bJ h=> ?_
 · refine ax ai ?_
   obtain ⟨⟨jQ,mM⟩,ck,h⟩:=au h
   dsimp only at h
   refine bw aq (eG (ai.trans rfl) ck) ?_
   refine ax ai ?_
   obtain ⟨jS,cF,h⟩:=au h
   refine ME (cB cF) (n8.cons (.one _ _ (iZ.D5 cL MF)) (n8.nil)) ?_
   refine ax ai ?_
   obtain ⟨de,cv,h⟩:=au h
   refine bw aq (uZ cv) ?_
   refine ax ai ?_
   refine bk h (fun cM h=> ?_) fun cM h=> ?_
   · refine ax ai ?_
     obtain rfl:=aD h
     exact hX _ _ _ _ _ dH aK aq (dz _ (hB _ rfl) _ (b6 _ (b6 _ hfr)) cL)
   · obtain ⟨jl,cc,h⟩:=au h
     have cx:fq 1 (ml b8 b4) [(b8 jS)]=some (ml b8 jl):=oH (f:=b8) cc
     refine ax (aA cx ai) ?_
     obtain rfl:=aD h
     exact hN _ rfl _ _ _ _ aK aq ⟨rfl,(b6 _ (b6 _ hfr)),cL⟩
 · refine ax ai ?_
   obtain rfl:=aD h
   exact hX _ _ _ _ _ dH aK aq (dz _ (hB _ rfl) _ hfr (ai.trans rfl))
theorem ri {zI:aE} {HV:List UInt8} {q1:Nat} {H0 H:AH} (hfr:Fr H0 H0.length [q1] H) (ai:H[q1]? =some [(.str zI.s),(.int .i64 zI.c8),(.bool zI.bad)]) (dB:q1<H0.length) {K:Exit→Env→AH→Prop} {qh:aE}
 (h:ez zI HV=some qh)
 (kn:∀H':AH,Fr H0 H0.length [q1] H'→H'[q1]? =some [(.str qh.s),(.int .i64 qh.c8),(.bool qh.bad)]→K .normal [(3,(.sl .own 1 (ml b8 HV)))] H'):
 AX Tryz.prog fY 52 H0.length (erase lI) K [(0,(.ptr q1 0)),(3,(.sl .own 1 (ml b8 HV)))] H:=by
 refine bY fun K' hK=> ?_
 have hle:=hfr.le
 have aL:=aN ai
 rw [ez.eq_1] at h
 refine ax ai ?_
 refine bT h (fun cI h=> ?_) fun cI h=> ?_
 · refine ax (aA cI ai) ?_
   obtain rfl:=aD h
   exact hK _ _ _ _ _ aK aq (kn _ (b6 _ hfr) cL)
 · refine ax (aA cI ai) ?_
   obtain rfl:=aD h
   exact hK _ _ _ _ _ aK aq (kn _ (b6 _ hfr) cL)
theorem u0 {F:Nat} {x2:aE} {q1:Nat} {H0:AH} (ai:H0[q1]? =some [(.str x2.s),(.int .i64 x2.c8),(.bool x2.bad)]) {aS:List UInt8} {fE:aE} (h:gV F x2=some (aS,fE)):
 aG Tryz.prog 118 [(.ptr q1 0)] H0 fun v H'=>v=(.str aS)∧H'=(H0.set q1 [(.str fE.s),(.int .i64 fE.c8),(.bool fE.bad)]):=by
 have aL:=aN ai
 refine lN wq fY [q1] fun hcl K0 aP H hH hfr=> ?_
 rw [←hH] at ai
 clear hH
 have hle:=hfr.le
 have FR:=aN ai
 rw [gV.eq_1] at h
 refine ax ai ?_
 obtain ⟨r3,hy1,h⟩:=au h
 refine bw aq (dO (ai.trans rfl) hy1) ?_
 refine ax ai ?_
 obtain ⟨o23,cN,h⟩:=au h
 refine bA aq (qZ (q1:=q1) (b6 _ hfr) cL bU cN ?_)
 · rintro ⟨HV,zI⟩ rfl H hfr ai
   try dsimp only at h ai
   have hle:=hfr.le
   have aL:=aN ai
   refine ax ai ?_
   obtain ⟨s22,dD,h⟩:=au h
   refine bA aq (ri (q1:=q1) hfr (ai.trans rfl) bU dD ?_)
   intro H hfr ai
   have hle:=hfr.le
   have aL:=aN ai
   refine ax ai ?_
   obtain ⟨rfl,rfl⟩:=cT h
   exact aP _ _ _ bh (lT hfr hcl (aU aZ (.str HV)) bf aW (ai.trans rfl) bU HN HM ⟨rfl,rfl⟩)
abbrev wW:az:=(.rg [(av 3 0),(aj 4 (.call (.c (.fn 103 [])) [(.t 3)])),(av 5 4),(ay 6 (.mv (.t 0)) 5 false),(ay 7 (.call (.c (.fn 108 [])) [(.c (.str [33,35,36,37,38,39,42,43,45,47,61,63,94,95,96,123,124,125,126])),(.t 6)]) 5 false),(ay 8 (.bin .geq (.t 7) (.c (.int .i64 0))) 5 false),(aj 9 (.pick (.t 5) (.c (.bool true)) (.t 8))),(aO 2 9)])
abbrev Kr:az:=(.seq (.rg [(aj 2 (.aT (.c (.bool false))))]) (.seq (.sem (erase wW)) .ret))
theorem Ks:bL Tryz.prog 81 10 [(.tmp 2)] (erase Kr):=⟨Tryz.f81,_,rfl,by decide,rfl,by kernel_rfl,rfl,rfl⟩
abbrev B1:List Nat:=[0,2]
def uJ (c1:UInt8):Option (Bool):=
 (ja c1).bind fun r2=>
 (if r2 then
  some true
 else
  (strings_IndexByte ([33,35,36,37,38,39,42,43,45,47,61,63,94,95,96,123,124,125,126]:List UInt8) c1).bind fun r3=>some (decide (0≤r3)))
def ox (c1:UInt8):Option (Bool):=
 (uJ c1).bind fun t5=>
 some t5
theorem Dj {c1:UInt8} {H:AH} {K:Exit→Env→AH→Prop} {t4:Bool}
 (h:uJ c1=some t4)
 (kn:K .normal [(2,(.bool t4))] H):
 AX Tryz.prog B1 10 H.length (erase wW) K [(0,(b8 c1)),(2,(.bool false))] H:=by
 refine bY fun K' hK=> ?_
 rw [uJ.eq_1] at h
 refine aF ?_
 obtain ⟨r2,hy1,h⟩:=au h
 refine bw aq (pL hy1) ?_
 refine aF ?_
 refine bT h (fun hy2 h=> ?_) fun hy2 h=> ?_
 · refine aY hy2 ?_
   obtain rfl:=aD h
   exact hK _ _ _ _ _ aK aq kn
 · refine aY hy2 ?_
   obtain ⟨r3,hy3,h⟩:=au h
   refine bw aq (xC (s1:=([33,35,36,37,38,39,42,43,45,47,61,63,94,95,96,123,124,125,126]:List UInt8)) (c2:=c1) hy3) ?_
   refine aF ?_
   obtain rfl:=aD h
   exact hK _ _ _ _ _ aK aq kn
theorem z7 {c1:UInt8} {H0:AH} {aS:Bool} (h:ox c1=some aS):
 aG Tryz.prog 81 [(b8 c1)] H0 fun v H'=>v=(.bool aS)∧H'=H0:=by
 refine gr Ks B1 fun hcl K0 aP=> ?_
 rw [ox.eq_1] at h
 refine aF ?_
 obtain ⟨t5,hy4,h⟩:=au h
 refine bA aq (Dj hy4 ?_)
 refine aF ?_
 obtain rfl:=aD h
 exact aP _ _ _ bh (aM hcl (aU aZ (.bool t5)) bf aW ⟨rfl,rfl⟩)
abbrev oR:az:=(.seq (.rg [(aj 9 (.bin .lss (.t 8) (.t 7)))]) (.seq (.cond (.t 9) .skip (.exit 0)) (.seq (.blk 1 (.seq (.rg [(av 10 8),(aO 5 10)]) (.seq (.rg [(av 11 1),(av 12 0),(av 13 5),(aj 14 (.ixs (.t 12) (.t 13))),(aj 15 (.call (.t 11) [(.t 14)])),(aj 16 (.un .not (.t 15)))]) (.cond (.t 16) (.seq (.rg [(aj 4 (.aT (.c (.bool false))))]) .ret) .skip)))) (.rg [(aj 17 (.bin .add (.t 8) (.c (.int .i64 1)))),(av 8 17)]))))
abbrev Dk:az:=(.seq (.rg [(aj 4 (.aT (.c (.bool false))))]) (.seq (.seq (.rg [(av 6 0),(aj 7 (.lens (.t 6))),(aj 8 (.mv (.c (.int .i64 0))))]) (.blk 0 (.loop (erase oR)))) (.seq (.rg [(aj 4 (.aT (.c (.bool true))))]) .ret)))
theorem Dl:bL Tryz.prog 54 18 [(.tmp 4)] (erase Dk):=⟨Tryz.f54,_,rfl,by decide,rfl,by kernel_rfl,rfl,rfl⟩
abbrev u6:List Nat:=[0,1,4,5,7,8,9,16]
def eI (s1:List UInt8):(Bool×Int)→Option (St Bool Unit (Bool×Int))
 |(t2,t3)=>
  (if (decide (t3<(s1.length:Int))) then
   (idx s1 t3).bind fun x4=>
   (ox x4).bind fun r5=>
   (if (!r5) then
    some (.ret false)
   else
    some (.cA (t2,(IntKind.wrap .i64 (t3+1)))))
  else
   some (.dQ ()))
def kj (F:Nat) (s1:List UInt8):Option (Bool):=
 ((iter (eI s1) F (false,0)).bind fun o8=>
 match o8 with
 | .inr ()=>
   some true
 | .inl r7=>
   some r7)
theorem yE {F:Nat} {t3:Int} {s1:List UInt8} {t2:Bool} {H:AH} {K:Exit→Env→AH→Prop} {o:(Bool)⊕(Unit)}
 (h:iter (eI s1) F (t2,t3)=some o)
 (dz:∀o':Unit,o= .inr o'→K (.exit 0) [] H)
 (kr:∀o':Bool,o= .inl o'→K .ret [(4,(.bool o'))] H):
 AX Tryz.prog u6 18 H.length (.loop (erase oR)) K [(0,(.str s1)),(1,(.fn 81 [])),(4,(.bool t2)),(7,(.int .i64 (s1.length:Int))),(8,(.int .i64 t3))] H:=by
 refine iE (fun s e H1=>match s with|(t2,t3)=>e=[(0,(.str s1)),(1,(.fn 81 [])),(4,(.bool t2)),(7,(.int .i64 (s1.length:Int))),(8,(.int .i64 t3))]∧H1=H) h ⟨rfl,rfl⟩ ?_
 rintro K' ⟨t2,t3⟩ st e H ⟨rfl,rfl⟩ h hN hB hR hX
 rw [eI.eq_1] at h
 refine aF ?_
 refine bk h (fun hy1 h=> ?_) fun hy1 h=> ?_
 · obtain ⟨x4,hy2,h⟩:=au h
   refine aY hy2 ?_
   obtain ⟨r5,hy3,h⟩:=au h
   refine bw aq (z7 hy3) ?_
   refine aF ?_
   refine bk h (fun hy4 h=> ?_) fun hy4 h=> ?_
   · refine aF ?_
     obtain rfl:=aD h
     exact hX _ _ _ _ _ dH aK aq (kr _ (hR _ rfl))
   · refine aF ?_
     obtain rfl:=aD h
     exact hN _ rfl _ _ _ _ aK aq ⟨rfl,rfl⟩
 · refine aF ?_
   obtain rfl:=aD h
   exact hX _ _ _ _ _ dH WE.nil aq (dz _ (hB _ rfl))
theorem B2 {F:Nat} {s1:List UInt8} {H0:AH} {aS:Bool} (h:kj F s1=some aS):
 aG Tryz.prog 54 [(.str s1),(.fn 81 [])] H0 fun v H'=>v=(.bool aS)∧H'=H0:=by
 refine gr Dl u6 fun hcl K0 aP=> ?_
 rw [kj.eq_1] at h
 refine aF ?_
 obtain ⟨o8,bJ,h⟩:=au h
 refine bA aq (yE bJ ?_ ?_)
 · rintro ⟨⟩ rfl
   try dsimp only at h
   refine aF ?_
   obtain rfl:=aD h
   exact aP _ _ _ bh (aM hcl (aU aZ (.bool true)) bf aW ⟨rfl,rfl⟩)
 · rintro r7 rfl
   try dsimp only at h
   refine aF ?_
   obtain rfl:=aD h
   exact aP _ _ _ bh (aM hcl (aU aZ (.bool r7)) bf aW ⟨rfl,rfl⟩)
abbrev rj:az:=(.rg [(av 3 0),(aj 4 (.bin .eql (.t 3) (.c (.str [])))),(av 5 4),(ay 6 (.mv (.t 0)) 5 false),(ay 7 (.call (.c (.fn 54 [])) [(.t 6),(.c (.fn 81 []))]) 5 false),(ay 8 (.un .not (.t 7)) 5 false),(aj 9 (.pick (.t 5) (.c (.bool true)) (.t 8))),(aO 2 9)])
abbrev Ew:az:=(.seq (.rg [(aj 2 (.aT (.c (.bool false))))]) (.seq (.sem (erase rj)) .ret))
theorem Ex:bL Tryz.prog 80 10 [(.tmp 2)] (erase Ew):=⟨Tryz.f80,_,rfl,by decide,rfl,by kernel_rfl,rfl,rfl⟩
abbrev wX:List Nat:=[0,2]
def kT (F:Nat) (x1:List UInt8):Option (Bool):=
 (if (decide (x1=([]:List UInt8))) then
  some true
 else
  (kj F x1).bind fun r2=>some (!r2))
def l7 (F:Nat) (x1:List UInt8):Option (Bool):=
 (kT F x1).bind fun t4=>
 some t4
theorem zJ {F:Nat} {x1:List UInt8} {H:AH} {K:Exit→Env→AH→Prop} {t3:Bool}
 (h:kT F x1=some t3)
 (kn:K .normal [(2,(.bool t3))] H):
 AX Tryz.prog wX 10 H.length (erase rj) K [(0,(.str x1)),(2,(.bool false))] H:=by
 refine bY fun K' hK=> ?_
 rw [kT.eq_1] at h
 refine aF ?_
 refine bT h (fun hy1 h=> ?_) fun hy1 h=> ?_
 · refine aY hy1 ?_
   obtain rfl:=aD h
   exact hK _ _ _ _ _ aK aq kn
 · refine aY hy1 ?_
   obtain ⟨r2,hy2,h⟩:=au h
   refine bw aq (B2 hy2) ?_
   refine aF ?_
   obtain rfl:=aD h
   exact hK _ _ _ _ _ aK aq kn
theorem Dm {F:Nat} {x1:List UInt8} {H0:AH} {aS:Bool} (h:l7 F x1=some aS):
 aG Tryz.prog 80 [(.str x1)] H0 fun v H'=>v=(.bool aS)∧H'=H0:=by
 refine gr Ex wX fun hcl K0 aP=> ?_
 rw [l7.eq_1] at h
 refine aF ?_
 obtain ⟨t4,hy3,h⟩:=au h
 refine bA aq (zJ hy3 ?_)
 refine aF ?_
 obtain rfl:=aD h
 exact aP _ _ _ bh (aM hcl (aU aZ (.bool t4)) bf aW ⟨rfl,rfl⟩)
abbrev jV:az:=(.seq (.rg [(aj 9 (.bin .lss (.t 8) (.t 7)))]) (.seq (.cond (.t 9) .skip (.exit 0)) (.seq (.blk 1 (.seq (.rg [(av 10 8),(aO 5 10)]) (.seq (.rg [(av 11 1),(av 12 0),(av 13 5),(aj 14 (.pI 1 (.t 12) (.t 13))),(aj 15 (.ld (.t 14) none)),(aj 16 (.call (.t 11) [(.t 15)]))]) (.cond (.t 16) (.seq (.rg [(av 17 5),(aO 4 17)]) .ret) .skip)))) (.rg [(aj 18 (.bin .add (.t 8) (.c (.int .i64 1)))),(av 8 18)]))))
abbrev u7:az:=(.seq (.rg [(aj 4 (.aT (.c (.int .i64 0))))]) (.seq (.seq (.rg [(av 6 0),(aj 7 (.len (.t 6))),(aj 8 (.mv (.c (.int .i64 0))))]) (.blk 0 (.loop (erase jV)))) (.seq (.rg [(aj 4 (.aT (.c (.int .i64 (-1)))))]) .ret)))
theorem u9:bL Tryz.prog 72 19 [(.tmp 4)] (erase u7):=⟨Tryz.f72,_,rfl,by decide,rfl,by kernel_rfl,rfl,rfl⟩
abbrev mS:List Nat:=[0,1,4,5,7,8,9,16]
def cP (F:Nat) (s1:List (List UInt8)):(Int×Int)→Option (St Int Unit (Int×Int))
 |(t2,t3)=>
  (if (decide (t3<(s1.length:Int))) then
   (idx s1 t3).bind fun x4=>
   (l7 F x4).bind fun r5=>
   (if r5 then
    some (.ret t3)
   else
    some (.cA (t2,(IntKind.wrap .i64 (t3+1)))))
  else
   some (.dQ ()))
def gE (F:Nat) (s1:List (List UInt8)):Option (Int):=
 ((iter (cP F s1) F (0,0)).bind fun o8=>
 match o8 with
 | .inr ()=>
   some (-1)
 | .inl r7=>
   some r7)
theorem qi {F:Nat} {t3:Int} {s1:List (List UInt8)} {t2:Int} {H:AH} {K:Exit→Env→AH→Prop} {o:(Int)⊕(Unit)}
 (h:iter (cP F s1) F (t2,t3)=some o)
 (dz:∀o':Unit,o= .inr o'→K (.exit 0) [] H)
 (kr:∀o':Int,o= .inl o'→K .ret [(4,(.int .i64 o'))] H):
 AX Tryz.prog mS 19 H.length (.loop (erase jV)) K [(0,(.sl .n 1 (ml AV.str s1))),(1,(.fn 80 [])),(4,(.int .i64 t2)),(7,(.int .i64 (s1.length:Int))),(8,(.int .i64 t3))] H:=by
 refine iE (fun s e H1=>match s with|(t2,t3)=>e=[(0,(.sl .n 1 (ml AV.str s1))),(1,(.fn 80 [])),(4,(.int .i64 t2)),(7,(.int .i64 (s1.length:Int))),(8,(.int .i64 t3))]∧H1=H) h ⟨rfl,rfl⟩ ?_
 rintro K' ⟨t2,t3⟩ st e H ⟨rfl,rfl⟩ h hN hB hR hX
 rw [cP.eq_1] at h
 refine aF ?_
 refine bk h (fun hy1 h=> ?_) fun hy1 h=> ?_
 · obtain ⟨x4,hy2,h⟩:=au h
   refine aY hy2 ?_
   obtain ⟨r5,hy3,h⟩:=au h
   refine bw aq (Dm hy3) ?_
   refine aF ?_
   refine bk h (fun hy4 h=> ?_) fun hy4 h=> ?_
   · refine aF ?_
     obtain rfl:=aD h
     exact hX _ _ _ _ _ dH aK aq (kr _ (hR _ rfl))
   · refine aF ?_
     obtain rfl:=aD h
     exact hN _ rfl _ _ _ _ aK aq ⟨rfl,rfl⟩
 · refine aF ?_
   obtain rfl:=aD h
   exact hX _ _ _ _ _ dH WE.nil aq (dz _ (hB _ rfl))
theorem uK {F:Nat} {s1:List (List UInt8)} {H0:AH} {aS:Int} (h:gE F s1=some aS):
 aG Tryz.prog 72 [(.sl .n 1 (ml AV.str s1)),(.fn 80 [])] H0 fun v H'=>v=(.int .i64 aS)∧H'=H0:=by
 refine gr u9 mS fun hcl K0 aP=> ?_
 rw [gE.eq_1] at h
 refine aF ?_
 obtain ⟨o8,bJ,h⟩:=au h
 refine bA aq (qi bJ ?_ ?_)
 · rintro ⟨⟩ rfl
   try dsimp only at h
   refine aF ?_
   obtain rfl:=aD h
   exact aP _ _ _ bh (aM hcl (aU aZ (.int .i64 (-1))) bf aW ⟨rfl,rfl⟩)
 · rintro r7 rfl
   try dsimp only at h
   refine aF ?_
   obtain rfl:=aD h
   exact aP _ _ _ bh (aM hcl (aU aZ (.int .i64 r7)) bf aW ⟨rfl,rfl⟩)
abbrev rq:az:=(.seq (.rg [(aj 4 (.aT (.c (.bool false))))]) (.seq (.rg [(av 5 0),(av 6 1),(aj 7 (.call (.c (.fn 72 [])) [(.t 5),(.t 6)])),(aj 8 (.bin .geq (.t 7) (.c (.int .i64 0)))),(aO 4 8)]) .ret))
theorem ru:bL Tryz.prog 46 9 [(.tmp 4)] (erase rq):=⟨Tryz.f46,_,rfl,by decide,rfl,by kernel_rfl,rfl,rfl⟩
abbrev ry:List Nat:=[0,1,4]
def fz (F:Nat) (s1:List (List UInt8)):Option (Bool):=
 (gE F s1).bind fun r2=>some (decide (0≤r2))
theorem qj {F:Nat} {s1:List (List UInt8)} {H0:AH} {aS:Bool} (h:fz F s1=some aS):
 aG Tryz.prog 46 [(.sl .n 1 (ml AV.str s1)),(.fn 80 [])] H0 fun v H'=>v=(.bool aS)∧H'=H0:=by
 refine gr ru ry fun hcl K0 aP=> ?_
 rw [fz.eq_1] at h
 refine aF ?_
 obtain ⟨r2,hy1,h⟩:=au h
 refine bw aq (uK hy1) ?_
 refine aF ?_
 obtain rfl:=aD h
 exact aP _ _ _ bh (aM hcl (aU aZ (.bool (decide (0≤r2)))) bf aW ⟨rfl,rfl⟩)
abbrev HW:az:=(.seq (.rg [(aj 2 (.aT (.c (.bool false))))]) (.seq (.rg [(av 3 0),(aj 4 (.call (.c (.fn 47 [])) [(.t 3),(.c (.str [46]))])),(aj 5 (.call (.c (.fn 46 [])) [(.t 4),(.c (.fn 80 []))])),(aj 6 (.un .not (.t 5))),(aO 2 6)]) .ret))
theorem HX:bL Tryz.prog 56 7 [(.tmp 2)] (erase HW):=⟨Tryz.f56,_,rfl,by decide,rfl,by kernel_rfl,rfl,rfl⟩
abbrev HY:List Nat:=[0,2]
def mT (F:Nat) (s1:List UInt8):Option (Bool):=
 (strings_Split s1 ([46]:List UInt8)).bind fun r2=>(fz F r2).bind fun r3=>some (!r3)
theorem yF {F:Nat} {s1:List UInt8} {H0:AH} {aS:Bool} (h:mT F s1=some aS):
 aG Tryz.prog 56 [(.str s1)] H0 fun v H'=>v=(.bool aS)∧H'=H0:=by
 refine gr HX HY fun hcl K0 aP=> ?_
 rw [mT.eq_1] at h
 refine aF ?_
 obtain ⟨r2,hy1,h⟩:=au h
 refine bw aq (jU (s1:=s1) (s2:=([46]:List UInt8)) hy1) ?_
 refine aF ?_
 obtain ⟨r3,hy2,h⟩:=au h
 refine bw aq (qj hy2) ?_
 refine aF ?_
 obtain rfl:=aD h
 exact aP _ _ _ bh (aM hcl (aU aZ (.bool (!r3))) bf aW ⟨rfl,rfl⟩)
abbrev l8:az:=(.rg [(av 17 4),(aj 18 (.bin .eql (.t 17) (.c (b8 46)))),(av 19 18),(ay 20 (.mv (.t 4)) 19 false),(ay 21 (.bin .neq (.t 20) (.c (b8 0))) 19 false),(ay 22 (.mv (.t 21)) 19 false),(ay 23 (.mv (.t 4)) 22 true),(ay 24 (.call (.c (.fn 81 [])) [(.t 23)]) 22 true),(ay 25 (.pick (.t 22) (.t 24) (.c (.bool false))) 19 false),(aj 26 (.pick (.t 19) (.c (.bool true)) (.t 25)))])
abbrev lJ:az:=(.seq (.seq (.sem (erase l8)) (.cond (.t 26) .skip (.exit 0))) (.seq (.blk 1 (.rg [(av 29 0),(aj 30 (.jP (.t 29))),(aj 31 (.cw (.t 30) 1)),(aj 32 (.ld (.t 31) none)),(aj 33 (.bin .add (.t 32) (.c (.int .i64 1)))),(aj 34 (.jP (.t 29))),(aj 35 (.cw (.t 34) 1)),(cZ (.st (.t 35) (.t 33) 1))])) (.rg [(av 27 0),(aj 28 (.call (.c (.fn 117 [])) [(.t 27)])),(aO 4 28)])))
abbrev l9:az:=(.rg [(av 46 0),(av 47 0),(aj 48 (.jP (.t 47))),(aj 49 (.cw (.t 48) 2)),(aj 50 (.ld (.t 49) none)),(av 51 50),(ay 52 (.mv (.t 5)) 51 false),(ay 53 (.call (.c (.fn 56 [])) [(.t 52)]) 51 false),(ay 54 (.un .not (.t 53)) 51 false),(aj 55 (.pick (.t 51) (.c (.bool true)) (.t 54))),(aj 56 (.jP (.t 46))),(aj 57 (.cw (.t 56) 2)),(cZ (.st (.t 57) (.t 55) 1))])
abbrev xL:az:=(.seq (.rg [(aj 2 (.aT (.c (.str []))))]) (.seq (.seq (.rg [(av 6 0),(aj 7 (.call (.c (.fn 117 [])) [(.t 6)])),(aj 8 (.bin .eql (.t 7) (.c (b8 34))))]) (.cond (.t 8) (.seq (.rg [(av 9 0),(aj 10 (.call (.c (.fn 118 [])) [(.t 9)])),(aO 2 10)]) .ret) .skip)) (.seq (.rg [(av 11 0),(aj 12 (.jP (.t 11))),(aj 13 (.cw (.t 12) 1)),(aj 14 (.ld (.t 13) none)),(aO 3 14)]) (.seq (.seq (.rg [(av 15 0),(aj 16 (.call (.c (.fn 117 [])) [(.t 15)])),(aO 4 16)]) (.blk 0 (.loop (erase lJ)))) (.seq (.rg [(av 36 0),(aj 37 (.jP (.t 36))),(aj 38 (.cw (.t 37) 0)),(aj 39 (.ld (.t 38) none)),(av 40 3),(av 41 0),(aj 42 (.jP (.t 41))),(aj 43 (.cw (.t 42) 1)),(aj 44 (.ld (.t 43) none)),(aj 45 (.iP (.t 39) (some (.t 40)) (some (.t 44)))),(aO 5 45)]) (.seq (.sem (erase l9)) (.seq (.rg [(av 58 5),(aO 2 58)]) .ret)))))))
theorem xM:bL Tryz.prog 95 59 [(.tmp 2)] (erase xL):=⟨Tryz.f95,_,rfl,by decide,rfl,by kernel_rfl,rfl,rfl⟩
abbrev gF:List Nat:=[0,2,3,4,5,8,26]
def eJ (c7:UInt8):Option (Bool):=
 (if (decide (c7=46)) then
  some true
 else
  (if (!decide (c7=0)) then
   (ox c7).bind fun r9=>some r9
  else
   some false))
def eK:(UInt8×aE)→Option (St ((List UInt8)×aE) aE (UInt8×aE))
 |(c7,s8)=>
  (eJ c7).bind fun t11=>
  (if t11 then
   (bE (aE.mk s8.s (IntKind.wrap .i64 (s8.c8+1)) s8.bad)).bind fun jQ=>
   some (.cA (jQ,(aE.mk s8.s (IntKind.wrap .i64 (s8.c8+1)) s8.bad)))
  else
   some (.dQ s8))
def eL (F:Nat) (ij:aE) (n9:List UInt8):Option (aE):=
 (if ij.bad then
  some (aE.mk ij.s ij.c8 true)
 else
  (mT F n9).bind fun r16=>some (aE.mk ij.s ij.c8 (!r16)))
def dK (F:Nat) (x2:aE):Option ((List UInt8)×aE):=
 (bE x2).bind fun r3=>
 (if (decide (r3=34)) then
  (gV F x2).bind fun (r4,r5)=>some (r4,r5)
 else
  (bE x2).bind fun r6=>
  ((iter eK F (r6,x2)).bind fun o19=>
  match o19 with
  | .inr ij=>
    (sub ij.s x2.c8 ij.c8).bind fun n9=>
    (eL F ij n9).bind fun qk=>
    some (n9,qk)
  | .inl _=>none))
theorem sN {c7:UInt8} {q1:Nat} {x2:aE} {s8:aE} {H0 H:AH} (hfr:Fr H0 H0.length [q1] H) (ai:H[q1]? =some [(.str s8.s),(.int .i64 s8.c8),(.bool s8.bad)]) (dB:q1<H0.length) {K:Exit→Env→AH→Prop} {t10:Bool}
 (h:eJ c7=some t10)
 (kn:∀H':AH,Fr H0 H0.length [q1] H'→H'[q1]? =some [(.str s8.s),(.int .i64 s8.c8),(.bool s8.bad)]→K .normal [(0,(.ptr q1 0)),(3,(.int .i64 x2.c8)),(26,(.bool t10))] H'):
 AX Tryz.prog gF 59 H0.length (erase l8) K [(0,(.ptr q1 0)),(3,(.int .i64 x2.c8)),(4,(b8 c7))] H:=by
 refine bY fun K' hK=> ?_
 have hle:=hfr.le
 have aL:=aN ai
 rw [eJ.eq_1] at h
 refine ax ai ?_
 refine bT h (fun bJ h=> ?_) fun bJ h=> ?_
 · refine ax (aA bJ ai) ?_
   obtain rfl:=aD h
   exact hK _ _ _ _ _ aK aq (kn _ hfr (ai.trans rfl))
 · refine ax (aA bJ ai) ?_
   refine bT h (fun ck h=> ?_) fun ck h=> ?_
   · refine ax (aA ck ai) ?_
     obtain ⟨r9,cF,h⟩:=au h
     refine bw aq (z7 cF) ?_
     refine ax ai ?_
     obtain rfl:=aD h
     exact hK _ _ _ _ _ aK aq (kn _ hfr (ai.trans rfl))
   · refine ax (aA ck ai) ?_
     obtain rfl:=aD h
     exact hK _ _ _ _ _ aK aq (kn _ hfr (ai.trans rfl))
theorem sO {F:Nat} {c7:UInt8} {s8:aE} {q1:Nat} {x2:aE} {H0 H:AH} (hfr:Fr H0 H0.length [q1] H) (ai:H[q1]? =some [(.str s8.s),(.int .i64 s8.c8),(.bool s8.bad)]) (dB:q1<H0.length) {K:Exit→Env→AH→Prop} {o:((List UInt8)×aE)⊕(aE)}
 (h:iter eK F (c7,s8)=some o)
 (dz:∀o':aE,o= .inr o'→∀H':AH,Fr H0 H0.length [q1] H'→H'[q1]? =some [(.str o'.s),(.int .i64 o'.c8),(.bool o'.bad)]→K (.exit 0) [(0,(.ptr q1 0)),(3,(.int .i64 x2.c8))] H'):
 AX Tryz.prog gF 59 H0.length (.loop (erase lJ)) K [(0,(.ptr q1 0)),(3,(.int .i64 x2.c8)),(4,(b8 c7))] H:=by
 refine iE (fun s e H1=>match s with|(c7,s8)=>e=[(0,(.ptr q1 0)),(3,(.int .i64 x2.c8)),(4,(b8 c7))]∧Fr H0 H0.length [q1] H1∧H1[q1]? =some [(.str s8.s),(.int .i64 s8.c8),(.bool s8.bad)]) h ⟨rfl,hfr,ai⟩ ?_
 rintro K' ⟨c7,s8⟩ st e H ⟨rfl,hfr,ai⟩ h hN hB hR hX
 have hle:=hfr.le
 have aL:=aN ai
 rw [eK.eq_1] at h
 refine ax ai ?_
 obtain ⟨t11,cv,h⟩:=au h
 refine bA aq (sN (q1:=q1) (x2:=x2) (s8:=s8) hfr (ai.trans rfl) bU cv ?_)
 intro H hfr ai
 have hle:=hfr.le
 have aL:=aN ai
 refine ax ai ?_
 refine bk h (fun cM h=> ?_) fun cM h=> ?_
 · refine ax ai ?_
   obtain ⟨jQ,cc,h⟩:=au h
   refine ME (cB cc) (n8.cons (.one _ _ (iZ.D5 cL MF)) (n8.nil)) ?_
   refine ax ai ?_
   obtain rfl:=aD h
   exact hN _ rfl _ _ _ _ aK aq ⟨rfl,(b6 _ hfr),cL⟩
 · refine ax ai ?_
   obtain rfl:=aD h
   exact hX _ _ _ _ _ dH aK aq (dz _ (hB _ rfl) _ hfr (ai.trans rfl))
theorem sP {F:Nat} {ij:aE} {n9:List UInt8} {q1:Nat} {H0 H:AH} (hfr:Fr H0 H0.length [q1] H) (ai:H[q1]? =some [(.str ij.s),(.int .i64 ij.c8),(.bool ij.bad)]) (dB:q1<H0.length) {K:Exit→Env→AH→Prop} {uI:aE}
 (h:eL F ij n9=some uI)
 (kn:∀H':AH,Fr H0 H0.length [q1] H'→H'[q1]? =some [(.str uI.s),(.int .i64 uI.c8),(.bool uI.bad)]→K .normal [(5,(.str n9))] H'):
 AX Tryz.prog gF 59 H0.length (erase l9) K [(0,(.ptr q1 0)),(5,(.str n9))] H:=by
 refine bY fun K' hK=> ?_
 have hle:=hfr.le
 have aL:=aN ai
 rw [eL.eq_1] at h
 refine ax ai ?_
 refine bT h (fun cI h=> ?_) fun cI h=> ?_
 · refine ax (aA cI ai) ?_
   obtain rfl:=aD h
   exact hK _ _ _ _ _ aK aq (kn _ (b6 _ hfr) cL)
 · refine ax (aA cI ai) ?_
   obtain ⟨r16,dD,h⟩:=au h
   refine bw aq (yF dD) ?_
   refine ax ai ?_
   obtain rfl:=aD h
   exact hK _ _ _ _ _ aK aq (kn _ (b6 _ hfr) cL)
theorem wv {F:Nat} {x2:aE} {q1:Nat} {H0:AH} (ai:H0[q1]? =some [(.str x2.s),(.int .i64 x2.c8),(.bool x2.bad)]) {aS:List UInt8} {fE:aE} (h:dK F x2=some (aS,fE)):
 aG Tryz.prog 95 [(.ptr q1 0)] H0 fun v H'=>v=(.str aS)∧H'=(H0.set q1 [(.str fE.s),(.int .i64 fE.c8),(.bool fE.bad)]):=by
 have aL:=aN ai
 refine lN xM gF [q1] fun hcl K0 aP H hH hfr=> ?_
 rw [←hH] at ai
 clear hH
 have hle:=hfr.le
 have FR:=aN ai
 rw [dK.eq_1] at h
 refine ax ai ?_
 obtain ⟨r3,hy1,h⟩:=au h
 refine ME (cB hy1) (n8.cons (.one _ _ (iZ.D5 (ai.trans rfl) MF)) (n8.nil)) ?_
 refine ax ai ?_
 refine bk h (fun hy2 h=> ?_) fun hy2 h=> ?_
 · refine ax ai ?_
   obtain ⟨⟨r4,r5⟩,hy3,h⟩:=au h
   dsimp only at h
   refine bw aq (u0 (ai.trans rfl) hy3) ?_
   refine ax ai ?_
   obtain ⟨rfl,rfl⟩:=cT h
   exact aP _ _ _ bh (lT (b6 _ hfr) hcl (aU aZ (.str r4)) bf aW cL bU HN HM ⟨rfl,rfl⟩)
 · refine ax ai ?_
   obtain ⟨r6,hy4,h⟩:=au h
   refine ME (cB hy4) (n8.cons (.one _ _ (iZ.D5 (ai.trans rfl) MF)) (n8.nil)) ?_
   refine ax ai ?_
   obtain ⟨o19,cx,h⟩:=au h
   refine bA aq (sO (q1:=q1) (x2:=x2) hfr (ai.trans rfl) bU cx ?_)
   · rintro ij rfl H hfr ai
     try dsimp only at h ai
     have hle:=hfr.le
     have aL:=aN ai
     refine ax ai ?_
     obtain ⟨n9,cN,h⟩:=au h
     refine ax (aA cN ai) ?_
     obtain ⟨qk,eM,h⟩:=au h
     refine bA aq (sP (q1:=q1) hfr (ai.trans rfl) bU eM ?_)
     intro H hfr ai
     have hle:=hfr.le
     have aL:=aN ai
     refine ax ai ?_
     obtain ⟨rfl,rfl⟩:=cT h
     exact aP _ _ _ bh (lT hfr hcl (aU aZ (.str n9)) bf aW (ai.trans rfl) bU HN HM ⟨rfl,rfl⟩)
abbrev Kt:az:=(.seq (.rg [(aj 1 (.box (.t 0))),(aj 2 (.aT (.c (.bool false))))]) (.seq (.rg [(aj 3 (.ld (.t 1) (some 2))),(aj 4 (.build [(.str []),(.str [])] [])),(aj 5 (.seq [.s, .s] false (.t 3) (.t 4))),(aO 2 5)]) .ret))
theorem Ku:bL Tryz.prog 30 6 [(.tmp 2)] (erase Kt):=⟨Tryz.f30,_,rfl,by decide,rfl,by kernel_rfl,rfl,rfl⟩
abbrev Kv:List Nat:=[0,1,2]
def oy (a1:aB):Option (Bool):=
 some (decide (a1.ak=([]:List UInt8))&&decide (a1.domain=([]:List UInt8)))
theorem z8 {a1:aB} {H0:AH} {aS:Bool} (h:oy a1=some aS):
 aG Tryz.prog 30 [(.agg [(.str a1.ak),(.str a1.domain)])] H0 fun v H'=>v=(.bool aS)∧H'=H0:=by
 refine lN Ku Kv [] fun hcl K0 aP H hH hfr=> ?_
 clear hH
 have hle:=hfr.le
 rw [oy.eq_1] at h
 refine cj ?_
 obtain rfl:=aD h
 exact aP _ _ _ bh (aR (Fr.app hfr) hcl (aU aZ (.bool (decide (a1.ak=([]:List UInt8))&&decide (a1.domain=([]:List UInt8))))) bf aW ⟨rfl,rfl⟩)
abbrev oe:az:=(.seq (.rg [(aj 9 (.bin .lss (.t 8) (.t 7)))]) (.seq (.cond (.t 9) .skip (.exit 0)) (.seq (.blk 1 (.seq (.rg [(av 10 8),(aO 5 10)]) (.seq (.rg [(av 11 1),(av 12 0),(av 13 5),(aj 14 (.ixs (.t 12) (.t 13))),(aj 15 (.call (.t 11) [(.t 14)])),(aj 16 (.un .not (.t 15)))]) (.cond (.t 16) (.seq (.rg [(aj 4 (.aT (.c (.bool false))))]) .ret) .skip)))) (.rg [(aj 17 (.bin .add (.t 8) (.c (.int .i64 1)))),(av 8 17)]))))
abbrev B3:az:=(.seq (.rg [(aj 4 (.aT (.c (.bool false))))]) (.seq (.seq (.rg [(av 6 0),(aj 7 (.lens (.t 6))),(aj 8 (.mv (.c (.int .i64 0))))]) (.blk 0 (.loop (erase oe)))) (.seq (.rg [(aj 4 (.aT (.c (.bool true))))]) .ret)))
theorem B4:bL Tryz.prog 54 18 [(.tmp 4)] (erase B3):=⟨Tryz.f54,_,rfl,by decide,rfl,by kernel_rfl,rfl,rfl⟩
abbrev td:List Nat:=[0,1,4,5,7,8,9,16]
def ec (s1:List UInt8):(Bool×Int)→Option (St Bool Unit (Bool×Int))
 |(t2,t3)=>
  (if (decide (t3<(s1.length:Int))) then
   (idx s1 t3).bind fun x4=>
   (l6 x4).bind fun r5=>
   (if (!r5) then
    some (.ret false)
   else
    some (.cA (t2,(IntKind.wrap .i64 (t3+1)))))
  else
   some (.dQ ()))
def jm (F:Nat) (s1:List UInt8):Option (Bool):=
 ((iter (ec s1) F (false,0)).bind fun o8=>
 match o8 with
 | .inr ()=>
   some true
 | .inl r7=>
   some r7)
theorem xN {F:Nat} {t3:Int} {s1:List UInt8} {t2:Bool} {H:AH} {K:Exit→Env→AH→Prop} {o:(Bool)⊕(Unit)}
 (h:iter (ec s1) F (t2,t3)=some o)
 (dz:∀o':Unit,o= .inr o'→K (.exit 0) [] H)
 (kr:∀o':Bool,o= .inl o'→K .ret [(4,(.bool o'))] H):
 AX Tryz.prog td 18 H.length (.loop (erase oe)) K [(0,(.str s1)),(1,(.fn 55 [])),(4,(.bool t2)),(7,(.int .i64 (s1.length:Int))),(8,(.int .i64 t3))] H:=by
 refine iE (fun s e H1=>match s with|(t2,t3)=>e=[(0,(.str s1)),(1,(.fn 55 [])),(4,(.bool t2)),(7,(.int .i64 (s1.length:Int))),(8,(.int .i64 t3))]∧H1=H) h ⟨rfl,rfl⟩ ?_
 rintro K' ⟨t2,t3⟩ st e H ⟨rfl,rfl⟩ h hN hB hR hX
 rw [ec.eq_1] at h
 refine aF ?_
 refine bk h (fun hy1 h=> ?_) fun hy1 h=> ?_
 · obtain ⟨x4,hy2,h⟩:=au h
   refine aY hy2 ?_
   obtain ⟨r5,hy3,h⟩:=au h
   refine bw aq (uZ hy3) ?_
   refine aF ?_
   refine bk h (fun hy4 h=> ?_) fun hy4 h=> ?_
   · refine aF ?_
     obtain rfl:=aD h
     exact hX _ _ _ _ _ dH aK aq (kr _ (hR _ rfl))
   · refine aF ?_
     obtain rfl:=aD h
     exact hN _ rfl _ _ _ _ aK aq ⟨rfl,rfl⟩
 · refine aF ?_
   obtain rfl:=aD h
   exact hX _ _ _ _ _ dH WE.nil aq (dz _ (hB _ rfl))
theorem Aq {F:Nat} {s1:List UInt8} {H0:AH} {aS:Bool} (h:jm F s1=some aS):
 aG Tryz.prog 54 [(.str s1),(.fn 55 [])] H0 fun v H'=>v=(.bool aS)∧H'=H0:=by
 refine gr B4 td fun hcl K0 aP=> ?_
 rw [jm.eq_1] at h
 refine aF ?_
 obtain ⟨o8,bJ,h⟩:=au h
 refine bA aq (xN bJ ?_ ?_)
 · rintro ⟨⟩ rfl
   try dsimp only at h
   refine aF ?_
   obtain rfl:=aD h
   exact aP _ _ _ bh (aM hcl (aU aZ (.bool true)) bf aW ⟨rfl,rfl⟩)
 · rintro r7 rfl
   try dsimp only at h
   refine aF ?_
   obtain rfl:=aD h
   exact aP _ _ _ bh (aM hcl (aU aZ (.bool r7)) bf aW ⟨rfl,rfl⟩)
abbrev vb:az:=(.rg [(av 3 0),(aj 4 (.bin .neq (.t 3) (.c (.str [])))),(av 5 4),(ay 6 (.mv (.t 0)) 5 true),(ay 7 (.lens (.t 6)) 5 true),(ay 8 (.bin .leq (.t 7) (.c (.int .i64 64))) 5 true),(aj 9 (.pick (.t 5) (.t 8) (.c (.bool false)))),(av 10 9),(ay 11 (.mv (.t 0)) 10 true),(ay 12 (.call (.c (.fn 54 [])) [(.t 11),(.c (.fn 55 []))]) 10 true),(aj 13 (.pick (.t 10) (.t 12) (.c (.bool false)))),(aO 2 13)])
abbrev HZ:az:=(.seq (.rg [(aj 2 (.aT (.c (.bool false))))]) (.seq (.sem (erase vb)) .ret))
theorem H6:bL Tryz.prog 31 14 [(.tmp 2)] (erase HZ):=⟨Tryz.f31,_,rfl,by decide,rfl,by kernel_rfl,rfl,rfl⟩
abbrev Aa:List Nat:=[0,2]
def ny (F:Nat) (s1:List UInt8):Option (Bool):=
 (if (!decide (s1=([]:List UInt8))) then
  (if (decide ((s1.length:Int)≤64)) then
   (jm F s1).bind fun r2=>some r2
  else
   some false)
 else
  some false)
def oS (F:Nat) (s1:List UInt8):Option (Bool):=
 (ny F s1).bind fun t4=>
 some t4
theorem B5 {F:Nat} {s1:List UInt8} {H:AH} {K:Exit→Env→AH→Prop} {t3:Bool}
 (h:ny F s1=some t3)
 (kn:K .normal [(2,(.bool t3))] H):
 AX Tryz.prog Aa 14 H.length (erase vb) K [(0,(.str s1)),(2,(.bool false))] H:=by
 refine bY fun K' hK=> ?_
 rw [ny.eq_1] at h
 refine aF ?_
 refine bT h (fun hy1 h=> ?_) fun hy1 h=> ?_
 · refine aY hy1 ?_
   refine bT h (fun hy2 h=> ?_) fun hy2 h=> ?_
   · refine aY hy2 ?_
     obtain ⟨r2,hy3,h⟩:=au h
     refine bw aq (Aq hy3) ?_
     refine aF ?_
     obtain rfl:=aD h
     exact hK _ _ _ _ _ aK aq kn
   · refine aY hy2 ?_
     obtain rfl:=aD h
     exact hK _ _ _ _ _ aK aq kn
 · refine aY hy1 ?_
   obtain rfl:=aD h
   exact hK _ _ _ _ _ aK aq kn
theorem F1 {F:Nat} {s1:List UInt8} {H0:AH} {aS:Bool} (h:oS F s1=some aS):
 aG Tryz.prog 31 [(.str s1)] H0 fun v H'=>v=(.bool aS)∧H'=H0:=by
 refine gr H6 Aa fun hcl K0 aP=> ?_
 rw [oS.eq_1] at h
 refine aF ?_
 obtain ⟨t4,hy4,h⟩:=au h
 refine bA aq (B5 hy4 ?_)
 refine aF ?_
 obtain rfl:=aD h
 exact aP _ _ _ bh (aM hcl (aU aZ (.bool t4)) bf aW ⟨rfl,rfl⟩)
abbrev Dn:az:=(.seq (.rg [(aj 2 (.aT (.c (.bool false))))]) (.seq (.rg [(av 3 0),(aj 4 (.lens (.t 3))),(aj 5 (.bin .gtr (.t 4) (.c (.int .i64 63)))),(aO 2 5)]) .ret))
theorem Dp:bL Tryz.prog 44 6 [(.tmp 2)] (erase Dn):=⟨Tryz.f44,_,rfl,by decide,rfl,by kernel_rfl,rfl,rfl⟩
abbrev Dq:List Nat:=[0,2]
def ko (x1:List UInt8):Option (Bool):=
 some (decide (63<(x1.length:Int)))
theorem B6 {x1:List UInt8} {H0:AH} {aS:Bool} (h:ko x1=some aS):
 aG Tryz.prog 44 [(.str x1)] H0 fun v H'=>v=(.bool aS)∧H'=H0:=by
 refine gr Dp Dq fun hcl K0 aP=> ?_
 rw [ko.eq_1] at h
 refine aF ?_
 obtain rfl:=aD h
 exact aP _ _ _ bh (aM hcl (aU aZ (.bool (decide (63<(x1.length:Int))))) bf aW ⟨rfl,rfl⟩)
abbrev jn:az:=(.seq (.rg [(aj 9 (.bin .lss (.t 8) (.t 7)))]) (.seq (.cond (.t 9) .skip (.exit 0)) (.seq (.blk 1 (.seq (.rg [(av 10 8),(aO 5 10)]) (.seq (.rg [(av 11 1),(av 12 0),(av 13 5),(aj 14 (.pI 1 (.t 12) (.t 13))),(aj 15 (.ld (.t 14) none)),(aj 16 (.call (.t 11) [(.t 15)]))]) (.cond (.t 16) (.seq (.rg [(av 17 5),(aO 4 17)]) .ret) .skip)))) (.rg [(aj 18 (.bin .add (.t 8) (.c (.int .i64 1)))),(av 8 18)]))))
abbrev uL:az:=(.seq (.rg [(aj 4 (.aT (.c (.int .i64 0))))]) (.seq (.seq (.rg [(av 6 0),(aj 7 (.len (.t 6))),(aj 8 (.mv (.c (.int .i64 0))))]) (.blk 0 (.loop (erase jn)))) (.seq (.rg [(aj 4 (.aT (.c (.int .i64 (-1)))))]) .ret)))
theorem uM:bL Tryz.prog 72 19 [(.tmp 4)] (erase uL):=⟨Tryz.f72,_,rfl,by decide,rfl,by kernel_rfl,rfl,rfl⟩
abbrev mb:List Nat:=[0,1,4,5,7,8,9,16]
def cG (s1:List (List UInt8)):(Int×Int)→Option (St Int Unit (Int×Int))
 |(t2,t3)=>
  (if (decide (t3<(s1.length:Int))) then
   (idx s1 t3).bind fun x4=>
   (ko x4).bind fun r5=>
   (if r5 then
    some (.ret t3)
   else
    some (.cA (t2,(IntKind.wrap .i64 (t3+1)))))
  else
   some (.dQ ()))
def fZ (F:Nat) (s1:List (List UInt8)):Option (Int):=
 ((iter (cG s1) F (0,0)).bind fun o8=>
 match o8 with
 | .inr ()=>
   some (-1)
 | .inl r7=>
   some r7)
theorem pM {F:Nat} {t3:Int} {s1:List (List UInt8)} {t2:Int} {H:AH} {K:Exit→Env→AH→Prop} {o:(Int)⊕(Unit)}
 (h:iter (cG s1) F (t2,t3)=some o)
 (dz:∀o':Unit,o= .inr o'→K (.exit 0) [] H)
 (kr:∀o':Int,o= .inl o'→K .ret [(4,(.int .i64 o'))] H):
 AX Tryz.prog mb 19 H.length (.loop (erase jn)) K [(0,(.sl .n 1 (ml AV.str s1))),(1,(.fn 44 [])),(4,(.int .i64 t2)),(7,(.int .i64 (s1.length:Int))),(8,(.int .i64 t3))] H:=by
 refine iE (fun s e H1=>match s with|(t2,t3)=>e=[(0,(.sl .n 1 (ml AV.str s1))),(1,(.fn 44 [])),(4,(.int .i64 t2)),(7,(.int .i64 (s1.length:Int))),(8,(.int .i64 t3))]∧H1=H) h ⟨rfl,rfl⟩ ?_
 rintro K' ⟨t2,t3⟩ st e H ⟨rfl,rfl⟩ h hN hB hR hX
 rw [cG.eq_1] at h
 refine aF ?_
 refine bk h (fun hy1 h=> ?_) fun hy1 h=> ?_
 · obtain ⟨x4,hy2,h⟩:=au h
   refine aY hy2 ?_
   obtain ⟨r5,hy3,h⟩:=au h
   refine bw aq (B6 hy3) ?_
   refine aF ?_
   refine bk h (fun hy4 h=> ?_) fun hy4 h=> ?_
   · refine aF ?_
     obtain rfl:=aD h
     exact hX _ _ _ _ _ dH aK aq (kr _ (hR _ rfl))
   · refine aF ?_
     obtain rfl:=aD h
     exact hN _ rfl _ _ _ _ aK aq ⟨rfl,rfl⟩
 · refine aF ?_
   obtain rfl:=aD h
   exact hX _ _ _ _ _ dH WE.nil aq (dz _ (hB _ rfl))
theorem sQ {F:Nat} {s1:List (List UInt8)} {H0:AH} {aS:Int} (h:fZ F s1=some aS):
 aG Tryz.prog 72 [(.sl .n 1 (ml AV.str s1)),(.fn 44 [])] H0 fun v H'=>v=(.int .i64 aS)∧H'=H0:=by
 refine gr uM mb fun hcl K0 aP=> ?_
 rw [fZ.eq_1] at h
 refine aF ?_
 obtain ⟨o8,bJ,h⟩:=au h
 refine bA aq (pM bJ ?_ ?_)
 · rintro ⟨⟩ rfl
   try dsimp only at h
   refine aF ?_
   obtain rfl:=aD h
   exact aP _ _ _ bh (aM hcl (aU aZ (.int .i64 (-1))) bf aW ⟨rfl,rfl⟩)
 · rintro r7 rfl
   try dsimp only at h
   refine aF ?_
   obtain rfl:=aD h
   exact aP _ _ _ bh (aM hcl (aU aZ (.int .i64 r7)) bf aW ⟨rfl,rfl⟩)
abbrev ql:az:=(.seq (.rg [(aj 4 (.aT (.c (.bool false))))]) (.seq (.rg [(av 5 0),(av 6 1),(aj 7 (.call (.c (.fn 72 [])) [(.t 5),(.t 6)])),(aj 8 (.bin .geq (.t 7) (.c (.int .i64 0)))),(aO 4 8)]) .ret))
theorem qm:bL Tryz.prog 46 9 [(.tmp 4)] (erase ql):=⟨Tryz.f46,_,rfl,by decide,rfl,by kernel_rfl,rfl,rfl⟩
abbrev qn:List Nat:=[0,1,4]
def dI (F:Nat) (s1:List (List UInt8)):Option (Bool):=
 (fZ F s1).bind fun r2=>some (decide (0≤r2))
theorem pN {F:Nat} {s1:List (List UInt8)} {H0:AH} {aS:Bool} (h:dI F s1=some aS):
 aG Tryz.prog 46 [(.sl .n 1 (ml AV.str s1)),(.fn 44 [])] H0 fun v H'=>v=(.bool aS)∧H'=H0:=by
 refine gr qm qn fun hcl K0 aP=> ?_
 rw [dI.eq_1] at h
 refine aF ?_
 obtain ⟨r2,hy1,h⟩:=au h
 refine bw aq (sQ hy1) ?_
 refine aF ?_
 obtain rfl:=aD h
 exact aP _ _ _ bh (aM hcl (aU aZ (.bool (decide (0≤r2)))) bf aW ⟨rfl,rfl⟩)
abbrev tf:az:=(.rg [(av 4 0),(aj 5 (.lens (.t 4))),(aj 6 (.bin .leq (.t 5) (.c (.int .i64 255)))),(av 7 6),(ay 8 (.mv (.t 0)) 7 true),(ay 9 (.call (.c (.fn 45 [])) [(.t 8)]) 7 true),(aj 10 (.pick (.t 7) (.t 9) (.c (.bool false)))),(av 11 10),(ay 12 (.mv (.t 0)) 11 true),(ay 13 (.call (.c (.fn 47 [])) [(.t 12),(.c (.str [46]))]) 11 true),(ay 14 (.mv (.t 3)) 11 true),(ay 15 (.call (.c (.fn 46 [])) [(.t 13),(.t 14)]) 11 true),(ay 16 (.un .not (.t 15)) 11 true),(aj 17 (.pick (.t 11) (.t 16) (.c (.bool false)))),(aO 2 17)])
abbrev F2:az:=(.seq (.rg [(aj 2 (.aT (.c (.bool false))))]) (.seq (.rg [(aj 3 (.aT (.c (.fn 44 []))))]) (.seq (.sem (erase tf)) .ret)))
theorem F3:bL Tryz.prog 25 18 [(.tmp 2)] (erase F2):=⟨Tryz.f25,_,rfl,by decide,rfl,by kernel_rfl,rfl,rfl⟩
abbrev yG:List Nat:=[0,2,3]
def mo (F:Nat) (s1:List UInt8):Option (Bool):=
 (if (decide ((s1.length:Int)≤255)) then
  (kS F s1).bind fun r2=>
  (if r2 then
   (strings_Split s1 ([46]:List UInt8)).bind fun r3=>(dI F r3).bind fun r4=>some (!r4)
  else
   some false)
 else
  some false)
def jb (F:Nat) (s1:List UInt8):Option (Bool):=
 (mo F s1).bind fun t6=>
 some t6
theorem As {F:Nat} {s1:List UInt8} {H:AH} {K:Exit→Env→AH→Prop} {t5:Bool}
 (h:mo F s1=some t5)
 (kn:K .normal [(2,(.bool t5))] H):
 AX Tryz.prog yG 18 H.length (erase tf) K [(0,(.str s1)),(2,(.bool false)),(3,(.fn 44 []))] H:=by
 refine bY fun K' hK=> ?_
 rw [mo.eq_1] at h
 refine aF ?_
 refine bT h (fun hy1 h=> ?_) fun hy1 h=> ?_
 · refine aY hy1 ?_
   obtain ⟨r2,hy2,h⟩:=au h
   refine bw aq (wU hy2) ?_
   refine aF ?_
   refine bT h (fun hy3 h=> ?_) fun hy3 h=> ?_
   · refine aY hy3 ?_
     obtain ⟨r3,hy4,h⟩:=au h
     refine bw aq (jU (s1:=s1) (s2:=([46]:List UInt8)) hy4) ?_
     refine aF ?_
     obtain ⟨r4,bJ,h⟩:=au h
     refine bw aq (pN bJ) ?_
     refine aF ?_
     obtain rfl:=aD h
     exact hK _ _ _ _ _ aK aq kn
   · refine aY hy3 ?_
     obtain rfl:=aD h
     exact hK _ _ _ _ _ aK aq kn
 · refine aY hy1 ?_
   obtain rfl:=aD h
   exact hK _ _ _ _ _ aK aq kn
theorem wY {F:Nat} {s1:List UInt8} {H0:AH} {aS:Bool} (h:jb F s1=some aS):
 aG Tryz.prog 25 [(.str s1)] H0 fun v H'=>v=(.bool aS)∧H'=H0:=by
 refine gr F3 yG fun hcl K0 aP=> ?_
 rw [jb.eq_1] at h
 refine aF ?_
 obtain ⟨t6,ck,h⟩:=au h
 refine bA aq (As ck ?_)
 refine aF ?_
 obtain rfl:=aD h
 exact aP _ _ _ bh (aM hcl (aU aZ (.bool t6)) bf aW ⟨rfl,rfl⟩)
abbrev wZ:az:=(.rg [(av 17 3),(av 18 5),(aj 19 (.ixs (.t 17) (.t 18))),(aj 20 (.bin .eql (.t 19) (.c (b8 34)))),(av 21 20),(ay 22 (.mv (.t 3)) 21 false),(ay 23 (.mv (.t 5)) 21 false),(ay 24 (.ixs (.t 22) (.t 23)) 21 false),(ay 25 (.bin .eql (.t 24) (.c (b8 92))) 21 false),(aj 26 (.pick (.t 21) (.c (.bool true)) (.t 25)))])
abbrev ve:az:=(.seq (.rg [(aj 15 (.bin .lss (.t 14) (.t 13)))]) (.seq (.cond (.t 15) .skip (.exit 0)) (.seq (.blk 1 (.seq (.rg [(av 16 14),(aO 5 16)]) (.seq (.seq (.sem (erase wZ)) (.cond (.t 26) (.rg [(av 27 4),(aj 28 (.pH 1 [(.c (b8 92))])),(aj 29 (.app 1 1 (.t 27) (.t 28))),(aO 4 29)]) .skip)) (.rg [(av 30 4),(av 31 3),(av 32 5),(aj 33 (.ixs (.t 31) (.t 32))),(aj 34 (.pH 1 [(.t 33)])),(aj 35 (.app 1 1 (.t 30) (.t 34))),(aO 4 35)])))) (.rg [(aj 36 (.bin .add (.t 14) (.c (.int .i64 1)))),(av 14 36)]))))
abbrev Kw:az:=(.seq (.rg [(aj 1 (.box (.t 0))),(aj 2 (.aT (.c (.str []))))]) (.seq (.rg [(aj 6 (.cw (.t 1) 0)),(aj 7 (.ld (.t 6) none)),(aO 3 7)]) (.seq (.seq (.rg [(av 8 3),(aj 9 (.call (.c (.fn 56 [])) [(.t 8)])),(aj 10 (.un .not (.t 9)))]) (.cond (.t 10) (.seq (.rg [(aj 11 (.pH 1 [(.c (b8 34))])),(aO 4 11)]) (.seq (.seq (.rg [(av 12 3),(aj 13 (.lens (.t 12))),(aj 14 (.mv (.c (.int .i64 0))))]) (.blk 0 (.loop (erase ve)))) (.rg [(av 37 4),(aj 38 (.pH 1 [(.c (b8 34))])),(aj 39 (.app 1 1 (.t 37) (.t 38))),(aj 40 (.iT .bs (.t 39))),(aO 3 40)]))) .skip)) (.seq (.rg [(av 41 3),(aj 42 (.bin .add (.c (.str [60])) (.t 41))),(aj 43 (.bin .add (.t 42) (.c (.str [64])))),(aj 44 (.cw (.t 1) 1)),(aj 45 (.ld (.t 44) none)),(aj 46 (.bin .add (.t 43) (.t 45))),(aj 47 (.bin .add (.t 46) (.c (.str [62])))),(aO 2 47)]) .ret))))
theorem Kx:bL Tryz.prog 32 48 [(.tmp 2)] (erase Kw):=⟨Tryz.f32,_,rfl,by decide,rfl,by kernel_rfl,rfl,rfl⟩
abbrev wz:List Nat:=[0,1,2,3,4,5,10,13,14,15,26]
def oI (a1:aB) (t5:Int):Option (Bool):=
 (idx a1.ak t5).bind fun x7=>
 (if (decide (x7=34)) then
  some true
 else
  some (decide (x7=92)))
def ia (a1:aB):((List UInt8)×Int)→Option (St (List UInt8) (List UInt8) ((List UInt8)×Int))
 |(b4,t5)=>
  (if (decide (t5<(a1.ak.length:Int))) then
   (oI a1 t5).bind fun t9=>
   (if t9 then
    (fq 1 b4 ([92]:List UInt8)).bind fun wA=>
    (idx a1.ak t5).bind fun ig=>
    (fq 1 wA ([ig]:List UInt8)).bind fun lZ=>some (.cA (lZ,(IntKind.wrap .i64 (t5+1))))
   else
    (idx a1.ak t5).bind fun iu=>
    (fq 1 b4 ([iu]:List UInt8)).bind fun Dr=>some (.cA (Dr,(IntKind.wrap .i64 (t5+1)))))
  else
   some (.dQ b4))
def oz (F:Nat) (a1:aB):Option ((List UInt8)):=
 (mT F a1.ak).bind fun r2=>
 (if (!r2) then
  ((iter (ia a1) F (([34]:List UInt8),0)).bind fun X5=>
  match X5 with
  | .inr b16=>
    (fq 1 b16 ([34]:List UInt8)).bind fun jT=>
    (cat ([60]:List UInt8) jT).bind fun Ey=>
    (cat Ey ([64]:List UInt8)).bind fun yH=>
    (cat yH a1.domain).bind fun oa=>(cat oa ([62]:List UInt8)).bind fun yI=>some yI
  | .inl _=>none)
 else
  (cat ([60]:List UInt8) a1.ak).bind fun F4=>
  (cat F4 ([64]:List UInt8)).bind fun F5=>
  (cat F5 a1.domain).bind fun F6=>(cat F6 ([62]:List UInt8)).bind fun Ui=>some Ui)
theorem Ds {a1:aB} {t5:Int} {q6:Nat} {b4:List UInt8} {H0 H:AH} (hfr:Fr H0 H0.length [] H) (ai:H[q6]? =some [(.str a1.ak),(.str a1.domain)]) (dB:H0.length≤q6) {K:Exit→Env→AH→Prop} {t8:Bool}
 (h:oI a1 t5=some t8)
 (kn:∀H':AH,Fr H0 H0.length [] H'→H'[q6]? =some [(.str a1.ak),(.str a1.domain)]→K .normal [(1,(.ptr q6 0)),(3,(.str a1.ak)),(4,(.sl .own 1 (ml b8 b4))),(5,(.int .i64 t5)),(13,(.int .i64 (a1.ak.length:Int))),(14,(.int .i64 t5)),(26,(.bool t8))] H'):
 AX Tryz.prog wz 48 H0.length (erase wZ) K [(1,(.ptr q6 0)),(3,(.str a1.ak)),(4,(.sl .own 1 (ml b8 b4))),(5,(.int .i64 t5)),(13,(.int .i64 (a1.ak.length:Int))),(14,(.int .i64 t5))] H:=by
 refine bY fun K' hK=> ?_
 have hle:=hfr.le
 have aL:=aN ai
 rw [oI.eq_1] at h
 obtain ⟨x7,hy4,h⟩:=au h
 refine ax (aA hy4 ai) ?_
 refine bT h (fun bJ h=> ?_) fun bJ h=> ?_
 · refine ax (aA bJ ai) ?_
   obtain rfl:=aD h
   exact hK _ _ _ _ _ aK aq (kn _ hfr (ai.trans rfl))
 · refine ax (aA bJ (aA hy4 ai)) ?_
   obtain rfl:=aD h
   exact hK _ _ _ _ _ aK aq (kn _ hfr (ai.trans rfl))
theorem Dt {F:Nat} {t5:Int} {a1:aB} {b4:List UInt8} {q3:Nat} {H0 H:AH} (hfr:Fr H0 H0.length [] H) (ai:H[q3]? =some [(.str a1.ak),(.str a1.domain)]) (dB:H0.length≤q3) {K:Exit→Env→AH→Prop} {o:((List UInt8))⊕((List UInt8))}
 (h:iter (ia a1) F (b4,t5)=some o)
 (dz:∀o':(List UInt8),o= .inr o'→∀H':AH,Fr H0 H0.length [] H'→H'[q3]? =some [(.str a1.ak),(.str a1.domain)]→K (.exit 0) [(1,(.ptr q3 0)),(4,(.sl .own 1 (ml b8 o')))] H'):
 AX Tryz.prog wz 48 H0.length (.loop (erase ve)) K [(1,(.ptr q3 0)),(3,(.str a1.ak)),(4,(.sl .own 1 (ml b8 b4))),(13,(.int .i64 (a1.ak.length:Int))),(14,(.int .i64 t5))] H:=by
 refine iE (fun s e H1=>match s with|(b4,t5)=>e=[(1,(.ptr q3 0)),(3,(.str a1.ak)),(4,(.sl .own 1 (ml b8 b4))),(13,(.int .i64 (a1.ak.length:Int))),(14,(.int .i64 t5))]∧Fr H0 H0.length [] H1∧H1[q3]? =some [(.str a1.ak),(.str a1.domain)]) h ⟨rfl,hfr,ai⟩ ?_
 rintro K' ⟨b4,t5⟩ st e H ⟨rfl,hfr,ai⟩ h hN hB hR hX
 have hle:=hfr.le
 have aL:=aN ai
 rw [ia.eq_1] at h
 refine ax ai ?_
 refine bk h (fun hy3 h=> ?_) fun hy3 h=> ?_
 · refine ax ai ?_
   obtain ⟨t9,ck,h⟩:=au h
   refine bA aq (Ds (b4:=b4) (q6:=q3) hfr (ai.trans rfl) bU ck ?_)
   intro H hfr ai
   have hle:=hfr.le
   have aL:=aN ai
   refine ax ai ?_
   refine bk h (fun cF h=> ?_) fun cF h=> ?_
   · obtain ⟨wA,cv,h⟩:=au h
     have cM:fq 1 (ml b8 b4) [(b8 92)]=some (ml b8 wA):=oH (f:=b8) cv
     obtain ⟨ig,cc,h⟩:=au h
     obtain ⟨lZ,cx,h⟩:=au h
     have cN:fq 1 (ml b8 wA) [(b8 ig)]=some (ml b8 lZ):=oH (f:=b8) cx
     refine ax (aA cM (aA cc (aA cN ai))) ?_
     obtain rfl:=aD h
     exact hN _ rfl _ _ _ _ aK aq ⟨rfl,hfr,(ai.trans rfl)⟩
   · obtain ⟨iu,cI,h⟩:=au h
     obtain ⟨Dr,dD,h⟩:=au h
     have eM:fq 1 (ml b8 b4) [(b8 iu)]=some (ml b8 Dr):=oH (f:=b8) dD
     refine ax (aA cI (aA eM ai)) ?_
     obtain rfl:=aD h
     exact hN _ rfl _ _ _ _ aK aq ⟨rfl,hfr,(ai.trans rfl)⟩
 · refine ax ai ?_
   obtain rfl:=aD h
   exact hX _ _ _ _ _ dH aK aq (dz _ (hB _ rfl) _ hfr (ai.trans rfl))
theorem Ab {F:Nat} {a1:aB} {H0:AH} {aS:List UInt8} (h:oz F a1=some aS):
 aG Tryz.prog 32 [(.agg [(.str a1.ak),(.str a1.domain)])] H0 fun v H'=>v=(.str aS)∧H'=H0:=by
 refine lN Kx wz [] fun hcl K0 aP H hH hfr=> ?_
 clear hH
 have hle:=hfr.le
 rw [oz.eq_1] at h
 refine cj ?_
 obtain ⟨r2,hy1,h⟩:=au h
 refine bw aq (yF hy1) ?_
 refine cj ?_
 refine bk h (fun hy2 h=> ?_) fun hy2 h=> ?_
 · refine cj ?_
   obtain ⟨q3,Au⟩:∃q:Nat,H.length=q:=⟨_,rfl⟩
   try rw [Au]
   obtain ⟨X5,dM,h⟩:=au h
   refine bA aq (Dt (q3:=q3) (Fr.app hfr) pJ bU dM ?_)
   · rintro b16 rfl H hfr ai
     try dsimp only at h ai
     have hle:=hfr.le
     have aL:=aN ai
     refine cj ?_
     obtain ⟨jT,gi,h⟩:=au h
     have fS:fq 1 (ml b8 b16) [(b8 34)]=some (ml b8 jT):=oH (f:=b8) gi
     obtain ⟨Ey,fC,h⟩:=au h
     obtain ⟨yH,eA,h⟩:=au h
     obtain ⟨oa,eT,h⟩:=au h
     obtain ⟨yI,fT,h⟩:=au h
     refine ax (aA fS (aA fC (aA eA (aA eT (aA fT ai))))) ?_
     obtain rfl:=aD h
     exact aP _ _ _ bh (aR hfr hcl (aU aZ (.str yI)) bf aW ⟨rfl,rfl⟩)
 · obtain ⟨F4,jo,h⟩:=au h
   obtain ⟨F5,ie,h⟩:=au h
   obtain ⟨F6,iF,h⟩:=au h
   obtain ⟨Ui,kq,h⟩:=au h
   refine ax (aA jo (aA ie (aA iF kq))) ?_
   obtain rfl:=aD h
   exact aP _ _ _ bh (aR (Fr.app hfr) hcl (aU aZ (.str Ui)) bf aW ⟨rfl,rfl⟩)
abbrev vf:az:=(.rg [(aj 3 (.ld (.t 1) (some 2))),(aj 4 (.call (.c (.fn 30 [])) [(.t 3)])),(av 5 4),(ay 6 (.cw (.t 1) 0) 5 false),(ay 7 (.ld (.t 6) none) 5 false),(ay 8 (.call (.c (.fn 31 [])) [(.t 7)]) 5 false),(ay 9 (.mv (.t 8)) 5 false),(ay 10 (.cw (.t 1) 1) 9 true),(ay 11 (.ld (.t 10) none) 9 true),(ay 12 (.call (.c (.fn 25 [])) [(.t 11)]) 9 true),(ay 13 (.pick (.t 9) (.t 12) (.c (.bool false))) 5 false),(ay 14 (.mv (.t 13)) 5 false),(ay 15 (.ld (.t 1) (some 2)) 14 true),(ay 16 (.call (.c (.fn 32 [])) [(.t 15)]) 14 true),(ay 17 (.lens (.t 16)) 14 true),(ay 18 (.bin .leq (.t 17) (.c (.int .i64 256))) 14 true),(ay 19 (.pick (.t 14) (.t 18) (.c (.bool false))) 5 false),(aj 20 (.pick (.t 5) (.c (.bool true)) (.t 19))),(aO 2 20)])
abbrev H7:az:=(.seq (.rg [(aj 1 (.box (.t 0))),(aj 2 (.aT (.c (.bool false))))]) (.seq (.sem (erase vf)) .ret))
theorem H8:bL Tryz.prog 10 21 [(.tmp 2)] (erase H7):=⟨Tryz.f10,_,rfl,by decide,rfl,by kernel_rfl,rfl,rfl⟩
abbrev Ac:List Nat:=[0,1,2]
def nH (F:Nat) (a1:aB):Option (Bool):=
 (oy a1).bind fun r3=>
 (if r3 then
  some true
 else
  (oS F a1.ak).bind fun r4=>
  (if r4 then
   (jb F a1.domain).bind fun r5=>
   (if r5 then
    (oz F a1).bind fun r6=>some (decide ((r6.length:Int)≤256))
   else
    some false)
  else
   some false))
def ku (F:Nat) (a1:aB):Option (Bool):=
 (nH F a1).bind fun t8=>
 some t8
theorem B7 {F:Nat} {a1:aB} {q2:Nat} {H0 H:AH} (hfr:Fr H0 H0.length [] H) (ai:H[q2]? =some [(.str a1.ak),(.str a1.domain)]) (dB:H0.length≤q2) {K:Exit→Env→AH→Prop} {t7:Bool}
 (h:nH F a1=some t7)
 (kn:∀H':AH,Fr H0 H0.length [] H'→H'[q2]? =some [(.str a1.ak),(.str a1.domain)]→K .normal [(2,(.bool t7))] H'):
 AX Tryz.prog Ac 21 H0.length (erase vf) K [(1,(.ptr q2 0)),(2,(.bool false))] H:=by
 refine bY fun K' hK=> ?_
 have hle:=hfr.le
 have aL:=aN ai
 rw [nH.eq_1] at h
 refine ax ai ?_
 obtain ⟨r3,hy1,h⟩:=au h
 refine bw aq (z8 hy1) ?_
 refine ax ai ?_
 refine bT h (fun hy2 h=> ?_) fun hy2 h=> ?_
 · refine ax (aA hy2 ai) ?_
   obtain rfl:=aD h
   exact hK _ _ _ _ _ aK aq (kn _ hfr (ai.trans rfl))
 · refine ax (aA hy2 ai) ?_
   obtain ⟨r4,hy3,h⟩:=au h
   refine bw aq (F1 hy3) ?_
   refine ax ai ?_
   refine bT h (fun hy4 h=> ?_) fun hy4 h=> ?_
   · refine ax (aA hy4 ai) ?_
     obtain ⟨r5,bJ,h⟩:=au h
     refine bw aq (wY bJ) ?_
     refine ax ai ?_
     refine bT h (fun ck h=> ?_) fun ck h=> ?_
     · refine ax (aA ck ai) ?_
       obtain ⟨r6,cF,h⟩:=au h
       refine bw aq (Ab cF) ?_
       refine ax ai ?_
       obtain rfl:=aD h
       exact hK _ _ _ _ _ aK aq (kn _ hfr (ai.trans rfl))
     · refine ax (aA ck ai) ?_
       obtain rfl:=aD h
       exact hK _ _ _ _ _ aK aq (kn _ hfr (ai.trans rfl))
   · refine ax (aA hy4 ai) ?_
     obtain rfl:=aD h
     exact hK _ _ _ _ _ aK aq (kn _ hfr (ai.trans rfl))
theorem rz {F:Nat} {a1:aB} {H0:AH} {aS:Bool} (h:ku F a1=some aS):
 aG Tryz.prog 10 [(.agg [(.str a1.ak),(.str a1.domain)])] H0 fun v H'=>v=(.bool aS)∧H'=H0:=by
 refine lN H8 Ac [] fun hcl K0 aP H hH hfr=> ?_
 clear hH
 have hle:=hfr.le
 rw [ku.eq_1] at h
 refine cj ?_
 obtain ⟨q2,hO⟩:∃q:Nat,H.length=q:=⟨_,rfl⟩
 try rw [hO]
 obtain ⟨t8,cv,h⟩:=au h
 refine bA aq (B7 (q2:=q2) (Fr.app hfr) pJ bU cv ?_)
 intro H hfr ai
 have hle:=hfr.le
 have aL:=aN ai
 refine ax ai ?_
 obtain rfl:=aD h
 exact aP _ _ _ bh (aR hfr hcl (aU aZ (.bool t8)) bf aW ⟨rfl,rfl⟩)
abbrev w5:az:=(.cond (.t 14) (.seq (.rg [(av 15 5),(aj 16 (.call (.c (.fn 94 [])) [(.t 15)]))]) (.seq (.rg [(av 17 5),(aj 18 (.call (.c (.fn 95 [])) [(.t 17)])),(aj 19 (.cw (.t 6) 0)),(cZ (.st (.t 19) (.t 18) 1))]) (.seq (.rg [(av 20 5),(aj 21 (.call (.c (.fn 92 [])) [(.t 20),(.c (b8 64))]))]) (.seq (.rg [(av 22 5),(aj 23 (.call (.c (.fn 96 [])) [(.t 22)])),(aj 24 (.cw (.t 6) 1)),(cZ (.st (.t 24) (.t 23) 1))]) (.rg [(av 25 5),(aj 26 (.call (.c (.fn 92 [])) [(.t 25),(.c (b8 62))]))]))))) .skip)
abbrev w6:az:=(.rg [(aj 38 (.CT (.t 6) (some 2))),(av 39 0),(av 40 5),(aj 41 (.jP (.t 40))),(aj 42 (.cw (.t 41) 1)),(aj 43 (.CT (.t 42) none)),(aj 44 (.iP (.t 39) (some (.t 43)) none)),(cZ (.st (.t 2) (.t 38) 2)),(aO 3 44),(aj 4 (.aT (.c (.int .i64 0))))])
abbrev Ky:az:=(.seq (.rg [(aj 2 (.alloc [(.str []),(.str [])])),(aj 3 (.aT (.c (.str [])))),(aj 4 (.aT (.c (.int .i64 0))))]) (.seq (.rg [(av 7 0),(aj 8 (.build [(.str []),(.int .i64 0),(.bool false)] [(0,(1,(.t 7)))])),(aj 9 (.box (.t 8))),(aO 5 9)]) (.seq (.rg [(av 10 5),(aj 11 (.call (.c (.fn 92 [])) [(.t 10),(.c (b8 60))]))]) (.seq (.rg [(aj 6 (.alloc [(.str []),(.str [])]))]) (.seq (.seq (.rg [(av 12 5),(aj 13 (.call (.c (.fn 93 [])) [(.t 12),(.c (b8 62))])),(aj 14 (.un .not (.t 13)))]) (.sem (erase w5))) (.seq (.blk 0 (.seq (.rg [(av 28 5),(aj 29 (.jP (.t 28))),(aj 30 (.cw (.t 29) 2)),(aj 31 (.ld (.t 30) none)),(aO 27 31)]) (.cond (.t 27) (.seq (.rg [(aj 32 (.build [(.str []),(.str [])] [])),(cZ (.st (.t 2) (.t 32) 2)),(aj 3 (.aT (.c (.str [])))),(aj 4 (.aT (.c (.int .i64 3))))]) .ret) (.seq (.rg [(aj 34 (.ld (.t 6) (some 2))),(aj 35 (.call (.c (.fn 10 [])) [(.t 34)])),(aj 36 (.un .not (.t 35))),(aO 33 36)]) (.cond (.t 33) (.seq (.rg [(aj 37 (.build [(.str []),(.str [])] [])),(cZ (.st (.t 2) (.t 37) 2)),(aj 3 (.aT (.c (.str [])))),(aj 4 (.aT (.c (.int .i64 5))))]) .ret) .skip))))) (.seq (.sem (erase w6)) .ret)))))))
theorem Kz:bL Tryz.prog 64 45 [(.cell 2 24),(.tmp 3),(.tmp 4)] (erase Ky):=⟨Tryz.f64,_,rfl,by decide,rfl,by kernel_rfl,rfl,rfl⟩
abbrev wB:List Nat:=[0,2,3,4,5,6,14,27,33]
def gj (F:Nat) (r3:Bool) (r4:aE):Option (aE×aB):=
 (if (!r3) then
  (dJ F r4).bind fun r8=>
  (dK F r8).bind fun (r9,dR)=>
  (bt dR 64).bind fun mY=>
  (cm F mY).bind fun (jQ,mM)=>
  (bt mM 62).bind fun jS=>some (jS,(aB.mk r9 jQ))
 else
  some (r4,(aB.mk ([]:List UInt8) ([]:List UInt8))))
def mc (s1:List UInt8) (uI:aE) (qk:aB):Option ((List UInt8)×Int×aB):=
 (sub s1 uI.c8 (s1.length:Int)).bind fun yI=>some (yI,0,qk)
def rA (F:Nat) (s1:List UInt8):Option (aB×(List UInt8)×Int):=
 (bt (aE.mk s1 0 false) 60).bind fun r2=>
 (bM r2 62).bind fun (r3,r4)=>
 (gj F r3 r4).bind fun (uI,qk)=>
 (if uI.bad then
  some ((aB.mk ([]:List UInt8) ([]:List UInt8)),([]:List UInt8),3)
 else
  (ku F qk).bind fun lO=>
  (if (!lO) then
   some ((aB.mk ([]:List UInt8) ([]:List UInt8)),([]:List UInt8),5)
  else
   (mc s1 uI qk).bind fun (t25,t26,Uj)=>
   some (Uj,t25,t26)))
theorem Du {F:Nat} {r3:Bool} {r4:aE} {s1:List UInt8} {q5:Nat} {q6:Nat} {q7:Nat} {H0 H:AH} (hfr:Fr H0 H0.length [] H) (ai:H[q5]? =some [(.str ([]:List UInt8)),(.str ([]:List UInt8))]) (aJ:H[q6]? =some [(.str r4.s),(.int .i64 r4.c8),(.bool r4.bad)]) (bg:H[q7]? =some [(.str ([]:List UInt8)),(.str ([]:List UInt8))]) (dB:H0.length≤q5) (hi1:H0.length≤q6) (hi2:q5≠q6) (hi3:H0.length≤q7) (hi4:q5≠q7) (hi5:q6≠q7) {K:Exit→Env→AH→Prop} {P8:aE} {Uh:aB}
 (h:gj F r3 r4=some (P8,Uh))
 (kn:∀H':AH,Fr H0 H0.length [] H'→H'[q5]? =some [(.str ([]:List UInt8)),(.str ([]:List UInt8))]→H'[q6]? =some [(.str P8.s),(.int .i64 P8.c8),(.bool P8.bad)]→H'[q7]? =some [(.str Uh.ak),(.str Uh.domain)]→K .normal [(0,(.str s1)),(2,(.ptr q5 0)),(5,(.ptr q6 0)),(6,(.ptr q7 0))] H'):
 AX Tryz.prog wB 45 H0.length (erase w5) K [(0,(.str s1)),(2,(.ptr q5 0)),(5,(.ptr q6 0)),(6,(.ptr q7 0)),(14,(.bool (!r3)))] H:=by
 refine bY fun K' hK=> ?_
 have hle:=hfr.le
 have aL:=aN ai
 have jc:=aN aJ
 have wC:=aN bg
 rw [gj.eq_1] at h
 refine ax (aA ai (aA aJ bg)) ?_
 refine bk h (fun hy3 h=> ?_) fun hy3 h=> ?_
 · refine ax (aA ai (aA aJ bg)) ?_
   obtain ⟨r8,hy4,h⟩:=au h
   refine bw aq (wm (aJ.trans rfl) hy4) ?_
   refine ax (aA ai (aA aJ bg)) ?_
   obtain ⟨⟨r9,dR⟩,bJ,h⟩:=au h
   dsimp only at h
   refine bw aq (wv (q1:=q6) cL bJ) ?_
   refine ax (aA ai (aA aJ bg)) ?_
   obtain ⟨mY,ck,h⟩:=au h
   refine bw aq (dO (q1:=q6) (gq cL) ck) ?_
   refine ax (aA ai (aA aJ bg)) ?_
   obtain ⟨⟨jQ,mM⟩,cF,h⟩:=au h
   dsimp only at h
   refine bw aq (mR (q1:=q6) cL cF) ?_
   refine ax (aA ai (aA aJ bg)) ?_
   obtain ⟨jS,cv,h⟩:=au h
   refine bw aq (dO (q1:=q6) (gq cL) cv) ?_
   refine ax (aA ai (aA aJ bg)) ?_
   obtain ⟨rfl,rfl⟩:=cT h
   exact hK _ _ _ _ _ aK aq (kn _ (b6 _ (b6 _ (b6 _ (b6 _ (b6 _ (b6 _ (b6 _ hfr))))))) (gq (gq (gq (gq (gq (gq (gq (ai.trans rfl)))))))) cL (gq cL))
 · refine ax (aA ai (aA aJ bg)) ?_
   obtain ⟨rfl,rfl⟩:=cT h
   exact hK _ _ _ _ _ aK aq (kn _ hfr (ai.trans rfl) (aJ.trans rfl) (bg.trans rfl))
theorem Dv {s1:List UInt8} {uI:aE} {qk:aB} {zK:Nat} {H0 H:AH} (hfr:Fr H0 H0.length [] H) (ai:H[zK]? =some [(.str ([]:List UInt8)),(.str ([]:List UInt8))]) (dB:H0.length≤zK) {K:Exit→Env→AH→Prop} {t22:List UInt8} {t23:Int} {s24:aB}
 (h:mc s1 uI qk=some (t22,t23,s24))
 (kn:∀H':AH,Fr H0 H0.length [] H'→H'[zK]? =some [(.str s24.ak),(.str s24.domain)]→K .normal [(2,(.ptr zK 0)),(3,(.str t22)),(4,(.int .i64 t23))] H'):
 AX Tryz.prog wB 45 H0.length (erase w6) K [(0,(.str s1)),(2,(.ptr zK 0)),(5,(.ep (.agg [(.str uI.s),(.int .i64 uI.c8),(.bool uI.bad)]) 0)),(6,(.ep (.agg [(.str qk.ak),(.str qk.domain)]) 0))] H:=by
 refine bY fun K' hK=> ?_
 have hle:=hfr.le
 have aL:=aN ai
 rw [mc.eq_1] at h
 obtain ⟨yI,cI,h⟩:=au h
 refine ax (aA cI ai) ?_
 obtain ⟨rfl,rfl,rfl⟩:=qN h
 exact hK _ _ _ _ _ aK aq (kn _ (b6 _ hfr) cL)
theorem H9 {F:Nat} {s1:List UInt8} {H0:AH} {aS:aB} {fE:List UInt8} {MM:Int} (h:rA F s1=some (aS,fE,MM)):
 aG Tryz.prog 64 [(.str s1)] H0 fun v H'=>v=(.bG [(.agg [(.str aS.ak),(.str aS.domain)]),(.str fE),(.int .i64 MM)])∧H'=H0:=by
 refine lN Kz wB [] fun hcl K0 aP H hH hfr=> ?_
 clear hH
 have hle:=hfr.le
 rw [rA.eq_1] at h
 refine cj ?_
 obtain ⟨r2,hy1,h⟩:=au h
 refine bw aq (dO (q1:=(H.length+1)) pJ hy1) ?_
 refine cj ?_
 obtain ⟨⟨r3,r4⟩,hy2,h⟩:=au h
 dsimp only at h
 refine bw aq (eG (q1:=(H.length+1)) (lU cL) hy2) ?_
 refine cj ?_
 obtain ⟨q6,rB⟩:∃q:Nat,(H.length+1)=q:=⟨_,rfl⟩
 try rw [rB]
 obtain ⟨q7,adD⟩:∃q:Nat,(H.length+2)=q:=⟨_,rfl⟩
 try rw [adD]
 obtain ⟨q5,rC⟩:∃q:Nat,H.length=q:=⟨_,rfl⟩
 try rw [rC]
 try rw [show q5+1=q6 from by omega]
 try rw [show q6+1=q7 from by omega]
 obtain ⟨⟨uI,qk⟩,cM,h⟩:=au h
 dsimp only at h
 refine bA aq (Du (s1:=s1) (q5:=q5) (q6:=q6) (q7:=q7) (b6 _ (Fr.app (b6 _ (Fr.app (Fr.app hfr))))) (gq (lU (gq (lU pJ)))) cL (gq pJ) bU bU bU bU bU bU cM ?_)
 intro H hfr ai aJ bg
 have hle:=hfr.le
 have aL:=aN ai
 have jc:=aN aJ
 have wC:=aN bg
 refine ax (aA ai (aA aJ bg)) ?_
 refine bk h (fun cc h=> ?_) fun cc h=> ?_
 · refine ax (aA ai (aA aJ bg)) ?_
   obtain ⟨rfl,rfl,rfl⟩:=qN h
   exact aP _ _ _ bh (aR (b6 _ hfr) hcl (br (cs:=[(.str ([]:List UInt8)),(.str ([]:List UInt8))]) (v:=(.agg [(.str ([]:List UInt8)),(.str ([]:List UInt8))])) (by kernel_rfl) (n:=(some 2)) (by kernel_rfl) rfl cL (by simp [bO,bN,eC,aX,AV.flat,cu,cR,AV.bB,Tg.sh]) (aU (aU aZ (.int .i64 3)) (.str ([]:List UInt8)))) bf aW ⟨rfl,rfl⟩)
 · refine ax (aA ai (aA aJ bg)) ?_
   obtain ⟨lO,cx,h⟩:=au h
   refine bw aq (rz cx) ?_
   refine ax (aA ai (aA aJ bg)) ?_
   refine bk h (fun cN h=> ?_) fun cN h=> ?_
   · refine ax (aA ai (aA aJ bg)) ?_
     obtain ⟨rfl,rfl,rfl⟩:=qN h
     exact aP _ _ _ bh (aR (b6 _ hfr) hcl (br (cs:=[(.str ([]:List UInt8)),(.str ([]:List UInt8))]) (v:=(.agg [(.str ([]:List UInt8)),(.str ([]:List UInt8))])) (by kernel_rfl) (n:=(some 2)) (by kernel_rfl) rfl cL (by simp [bO,bN,eC,aX,AV.flat,cu,cR,AV.bB,Tg.sh]) (aU (aU aZ (.int .i64 5)) (.str ([]:List UInt8)))) bf aW ⟨rfl,rfl⟩)
   · refine ax (aA ai (aA aJ bg)) ?_
     refine XX ?_
     apply AX.freeze (s:=q7) (cs:=[(.str qk.ak),(.str qk.domain)]) (by exact (bg.trans rfl)) (gR.same (gR.same (gR.nil))) (by simp) rfl
     · repeat (first|exact FZ.nil|apply FZ.ep|apply FZ.same)
     apply AX.freeze (s:=q6) (cs:=[(.str uI.s),(.int .i64 uI.c8),(.bool uI.bad)]) (by exact (gq (aJ.trans rfl))) (gR.same (gR.same (gR.same (gR.nil)))) (by simp) rfl
     · repeat (first|exact FZ.nil|apply FZ.ep|apply FZ.same)
     refine ouZ ?_
     obtain ⟨⟨t25,t26,Uj⟩,dD,h⟩:=au h
     dsimp only at h
     refine bA aq (Dv (zK:=q5) (b6 _ (b6 _ hfr)) (gq (gq (ai.trans rfl))) bU dD ?_)
     intro H hfr ai
     have hle:=hfr.le
     have aL:=aN ai
     refine ax ai ?_
     obtain ⟨rfl,rfl,rfl⟩:=qN h
     exact aP _ _ _ bh (aR hfr hcl (br (cs:=[(.str Uj.ak),(.str Uj.domain)]) (v:=(.agg [(.str Uj.ak),(.str Uj.domain)])) (by kernel_rfl) (n:=(some 2)) (by kernel_rfl) rfl (ai.trans rfl) (by simp [bO,bN,eC,aX,AV.flat,cu,cR,AV.bB,Tg.sh]) (aU (aU aZ (.int .i64 t26)) (.str t25))) bf aW ⟨rfl,rfl⟩)
abbrev yJ:az:=(.rg [(av 10 0),(aj 11 (.lens (.t 10))),(av 12 1),(aj 13 (.lens (.t 12))),(aj 14 (.bin .lss (.t 11) (.t 13))),(av 15 14),(ay 16 (.mv (.t 0)) 15 false),(ay 17 (.mv (.t 1)) 15 false),(ay 18 (.lens (.t 17)) 15 false),(ay 19 (.iP (.t 16) none (some (.t 18))) 15 false),(ay 20 (.call (.c (.fn 22 [])) [(.t 19)]) 15 false),(ay 21 (.mv (.t 1)) 15 false),(ay 22 (.bin .neq (.t 20) (.t 21)) 15 false),(aj 23 (.pick (.t 15) (.c (.bool true)) (.t 22)))])
abbrev MN:az:=(.seq (.rg [(aj 4 (.alloc [(.str []),(.str [])])),(aj 5 (.aT (.c (.str [])))),(aj 6 (.aT (.c (.bool false))))]) (.seq (.seq (.sem (erase yJ)) (.cond (.t 23) (.seq (.rg [(aj 24 (.build [(.str []),(.str [])] [])),(cZ (.st (.t 4) (.t 24) 2)),(aj 5 (.aT (.c (.str [])))),(aj 6 (.aT (.c (.bool false))))]) .ret) .skip)) (.seq (.rg [(av 26 0),(av 27 1),(aj 28 (.lens (.t 27))),(aj 29 (.iP (.t 26) (some (.t 28)) none)),(aj 30 (.call (.c (.fn 65 [])) [(.t 29),(.c (.str [32]))])),(aj 31 (.call (.c (.fn 64 [])) [(.t 30)])),(av 25 31),(aj 32 (.ext (.t 25) 0)),(aj 33 (.ext (.t 25) 1)),(aj 34 (.ext (.t 25) 2)),(aj 7 (.alloc [(.str []),(.str [])])),(cZ (.st (.t 7) (.t 32) 2)),(aO 8 33),(aO 9 34)]) (.seq (.rg [(aj 35 (.ld (.t 7) (some 2))),(av 36 8),(av 37 9),(aj 38 (.bin .eql (.t 37) (.c (.int .i64 0)))),(cZ (.st (.t 4) (.t 35) 2)),(aO 5 36),(aO 6 38)]) .ret))))
theorem MO:bL Tryz.prog 42 39 [(.cell 4 24),(.tmp 5),(.tmp 6)] (erase MN):=⟨Tryz.f42,_,rfl,by decide,rfl,by kernel_rfl,rfl,rfl⟩
abbrev D7:List Nat:=[0,1,4,5,6,7,8,9,23]
def nI (F:Nat) (s1:List UInt8) (kU:List UInt8):Option (Bool):=
 (if (decide ((s1.length:Int)<(kU.length:Int))) then
  some true
 else
  (sub s1 0 (kU.length:Int)).bind fun x4=>
  (gT F x4).bind fun r5=>some (!decide (r5=kU)))
def qA (F:Nat) (s1:List UInt8) (kU:List UInt8):Option (aB×(List UInt8)×Bool):=
 (nI F s1 kU).bind fun t7=>
 (if t7 then
  some ((aB.mk ([]:List UInt8) ([]:List UInt8)),([]:List UInt8),false)
 else
  (sub s1 (kU.length:Int) (s1.length:Int)).bind fun x8=>
  (gS x8 ([32]:List UInt8)).bind fun r9=>
  (rA F r9).bind fun (dR,mY,jQ)=>some (dR,mY,(decide (jQ=0))))
theorem Ez {F:Nat} {s1:List UInt8} {kU:List UInt8} {q3:Nat} {H0 H:AH} (hfr:Fr H0 H0.length [] H) (ai:H[q3]? =some [(.str ([]:List UInt8)),(.str ([]:List UInt8))]) (dB:H0.length≤q3) {K:Exit→Env→AH→Prop} {t6:Bool}
 (h:nI F s1 kU=some t6)
 (kn:∀H':AH,Fr H0 H0.length [] H'→H'[q3]? =some [(.str ([]:List UInt8)),(.str ([]:List UInt8))]→K .normal [(0,(.str s1)),(1,(.str kU)),(4,(.ptr q3 0)),(23,(.bool t6))] H'):
 AX Tryz.prog D7 39 H0.length (erase yJ) K [(0,(.str s1)),(1,(.str kU)),(4,(.ptr q3 0))] H:=by
 refine bY fun K' hK=> ?_
 have hle:=hfr.le
 have aL:=aN ai
 rw [nI.eq_1] at h
 refine ax ai ?_
 refine bT h (fun hy1 h=> ?_) fun hy1 h=> ?_
 · refine ax (aA hy1 ai) ?_
   obtain rfl:=aD h
   exact hK _ _ _ _ _ aK aq (kn _ hfr (ai.trans rfl))
 · obtain ⟨x4,hy2,h⟩:=au h
   refine ax (aA hy1 (aA hy2 ai)) ?_
   obtain ⟨r5,hy3,h⟩:=au h
   refine bw aq (nr hy3) ?_
   refine ax ai ?_
   obtain rfl:=aD h
   exact hK _ _ _ _ _ aK aq (kn _ hfr (ai.trans rfl))
theorem B8 {F:Nat} {s1:List UInt8} {kU:List UInt8} {H0:AH} {aS:aB} {fE:List UInt8} {MM:Bool} (h:qA F s1 kU=some (aS,fE,MM)):
 aG Tryz.prog 42 [(.str s1),(.str kU)] H0 fun v H'=>v=(.bG [(.agg [(.str aS.ak),(.str aS.domain)]),(.str fE),(.bool MM)])∧H'=H0:=by
 refine lN MO D7 [] fun hcl K0 aP H hH hfr=> ?_
 clear hH
 have hle:=hfr.le
 rw [qA.eq_1] at h
 refine cj ?_
 obtain ⟨q3,Au⟩:∃q:Nat,H.length=q:=⟨_,rfl⟩
 try rw [Au]
 obtain ⟨t7,hy4,h⟩:=au h
 refine bA aq (Ez (q3:=q3) (Fr.app hfr) pJ bU hy4 ?_)
 intro H hfr ai
 have hle:=hfr.le
 have aL:=aN ai
 refine ax ai ?_
 refine bk h (fun bJ h=> ?_) fun bJ h=> ?_
 · refine ax ai ?_
   obtain ⟨rfl,rfl,rfl⟩:=qN h
   exact aP _ _ _ bh (aR (b6 _ hfr) hcl (br (cs:=[(.str ([]:List UInt8)),(.str ([]:List UInt8))]) (v:=(.agg [(.str ([]:List UInt8)),(.str ([]:List UInt8))])) (by kernel_rfl) (n:=(some 2)) (by kernel_rfl) rfl cL (by simp [bO,bN,eC,aX,AV.flat,cu,cR,AV.bB,Tg.sh]) (aU (aU aZ (.bool false)) (.str ([]:List UInt8)))) bf aW ⟨rfl,rfl⟩)
 · obtain ⟨x8,ck,h⟩:=au h
   refine ax (aA ck ai) ?_
   obtain ⟨r9,cF,h⟩:=au h
   refine bw aq (yy (s1:=x8) (s2:=([32]:List UInt8)) cF) ?_
   refine ax ai ?_
   obtain ⟨⟨dR,mY,jQ⟩,cv,h⟩:=au h
   dsimp only at h
   refine bw aq (H9 cv) ?_
   refine ax ai ?_
   obtain ⟨rfl,rfl,rfl⟩:=qN h
   exact aP _ _ _ bh (aR (b6 _ (b6 _ (Fr.app hfr))) hcl (br (cs:=[(.str dR.ak),(.str dR.domain)]) (v:=(.agg [(.str dR.ak),(.str dR.domain)])) (by kernel_rfl) (n:=(some 2)) (by kernel_rfl) rfl cL (by simp [bO,bN,eC,aX,AV.flat,cu,cR,AV.bB,Tg.sh]) (aU (aU aZ (.bool (decide (jQ=0)))) (.str mY))) bf aW ⟨rfl,rfl⟩)
abbrev yK:az:=(.rg [(av 7 0),(aj 8 (.lens (.t 7))),(aj 9 (.bin .lss (.t 8) (.c (.int .i64 6)))),(av 10 9),(ay 11 (.mv (.t 0)) 10 false),(ay 12 (.iP (.t 11) none (some (.c (.int .i64 6)))) 10 false),(ay 13 (.call (.c (.fn 22 [])) [(.t 12)]) 10 false),(ay 14 (.bin .neq (.t 13) (.c (.str [32,115,105,122,101,61]))) 10 false),(aj 15 (.pick (.t 10) (.c (.bool true)) (.t 14)))])
abbrev yL:az:=(.rg [(av 23 5),(av 24 6),(aj 25 (.iq false (.t 24) (.c (.v .nilIface)))),(av 26 25),(ay 27 (.mv (.t 4)) 26 true),(ay 28 (.lens (.t 27)) 26 true),(ay 29 (.bin .leq (.t 28) (.c (.int .i64 9))) 26 true),(aj 30 (.pick (.t 26) (.t 29) (.c (.bool false)))),(av 31 30),(ay 32 (.mv (.t 4)) 31 true),(ay 33 (.call (.c (.fn 67 [])) [(.t 32),(.c (.str [48,49,50,51,52,53,54,55,56,57]))]) 31 true),(ay 34 (.bin .eql (.t 33) (.c (.str []))) 31 true),(aj 35 (.pick (.t 31) (.t 34) (.c (.bool false)))),(aO 2 23),(aO 3 35)])
abbrev MP:az:=(.seq (.rg [(aj 2 (.aT (.c (.int .i64 0)))),(aj 3 (.aT (.c (.bool false))))]) (.seq (.seq (.sem (erase yK)) (.cond (.t 15) (.seq (.rg [(aj 2 (.aT (.c (.int .i64 0)))),(aj 3 (.aT (.c (.bool false))))]) .ret) .skip)) (.seq (.rg [(av 16 0),(aj 17 (.iP (.t 16) (some (.c (.int .i64 6))) none)),(aO 4 17)]) (.seq (.rg [(av 19 4),(aj 20 (.call (.c (.fn 66 [])) [(.t 19)])),(av 18 20),(aj 21 (.ext (.t 18) 0)),(aj 22 (.ext (.t 18) 1)),(aO 5 21),(aO 6 22)]) (.seq (.sem (erase yL)) .ret)))))
theorem MQ:bL Tryz.prog 43 36 [(.tmp 2),(.tmp 3)] (erase MP):=⟨Tryz.f43,_,rfl,by decide,rfl,by kernel_rfl,rfl,rfl⟩
abbrev yM:List Nat:=[0,2,3,4,5,6,15]
def nJ (F:Nat) (s1:List UInt8):Option (Bool):=
 (if (decide ((s1.length:Int)<6)) then
  some true
 else
  (sub s1 0 6).bind fun x2=>
  (gT F x2).bind fun r3=>
  some (!decide (r3=([32,115,105,122,101,61]:List UInt8))))
def qo (r8:Bool) (x6:List UInt8) (r7:Int):Option (Int×Bool):=
 (if (!r8) then
  (if (decide ((x6.length:Int)≤9)) then
   (jK x6 ([48,49,50,51,52,53,54,55,56,57]:List UInt8)).bind fun r9=>some (r7,(decide (r9=([]:List UInt8))))
  else
   some (r7,false))
 else
  some (r7,false))
def vg (F:Nat) (s1:List UInt8):Option (Int×Bool):=
 (nJ F s1).bind fun t5=>
 (if t5 then
  some (0,false)
 else
  (sub s1 6 (s1.length:Int)).bind fun x6=>
  (strconv_Atoi x6).bind fun (r7,r8)=>
  (qo r8 x6 r7).bind fun (t12,t13)=>
  some (t12,t13))
theorem EA {F:Nat} {s1:List UInt8} {H:AH} {K:Exit→Env→AH→Prop} {t4:Bool}
 (h:nJ F s1=some t4)
 (kn:K .normal [(0,(.str s1)),(15,(.bool t4))] H):
 AX Tryz.prog yM 36 H.length (erase yK) K [(0,(.str s1))] H:=by
 refine bY fun K' hK=> ?_
 rw [nJ.eq_1] at h
 refine aF ?_
 refine bT h (fun hy1 h=> ?_) fun hy1 h=> ?_
 · refine aY hy1 ?_
   obtain rfl:=aD h
   exact hK _ _ _ _ _ aK aq kn
 · obtain ⟨x2,hy2,h⟩:=au h
   refine aY (aA hy1 hy2) ?_
   obtain ⟨r3,hy3,h⟩:=au h
   refine bw aq (nr hy3) ?_
   refine aF ?_
   obtain rfl:=aD h
   exact hK _ _ _ _ _ aK aq kn
theorem EB {r8:Bool} {x6:List UInt8} {r7:Int} {H:AH} {K:Exit→Env→AH→Prop} {t10:Int} {t11:Bool}
 (h:qo r8 x6 r7=some (t10,t11))
 (kn:K .normal [(2,(.int .i64 t10)),(3,(.bool t11))] H):
 AX Tryz.prog yM 36 H.length (erase yL) K [(4,(.str x6)),(5,(.int .i64 r7)),(6,(eB r8))] H:=by
 refine bY fun K' hK=> ?_
 rw [qo.eq_1] at h
 refine aF ?_
 refine bT h (fun cv h=> ?_) fun cv h=> ?_
 · refine aY cv ?_
   refine bT h (fun cM h=> ?_) fun cM h=> ?_
   · refine aY cM ?_
     obtain ⟨r9,cc,h⟩:=au h
     refine bw aq (Da (s1:=x6) (s2:=([48,49,50,51,52,53,54,55,56,57]:List UInt8)) cc) ?_
     refine aF ?_
     obtain ⟨rfl,rfl⟩:=cT h
     exact hK _ _ _ _ _ aK aq kn
   · refine aY cM ?_
     obtain ⟨rfl,rfl⟩:=cT h
     exact hK _ _ _ _ _ aK aq kn
 · refine aY cv ?_
   obtain ⟨rfl,rfl⟩:=cT h
   exact hK _ _ _ _ _ aK aq kn
theorem KB {F:Nat} {s1:List UInt8} {H0:AH} {aS:Int} {fE:Bool} (h:vg F s1=some (aS,fE)):
 aG Tryz.prog 43 [(.str s1)] H0 fun v H'=>v=(.bG [(.int .i64 aS),(.bool fE)])∧H'=H0:=by
 refine gr MQ yM fun hcl K0 aP=> ?_
 rw [vg.eq_1] at h
 refine aF ?_
 obtain ⟨t5,hy4,h⟩:=au h
 refine bA aq (EA hy4 ?_)
 refine aF ?_
 refine bk h (fun bJ h=> ?_) fun bJ h=> ?_
 · refine aF ?_
   obtain ⟨rfl,rfl⟩:=cT h
   exact aP _ _ _ bh (aM hcl (aU (aU aZ (.bool false)) (.int .i64 0)) bf aW ⟨rfl,rfl⟩)
 · obtain ⟨x6,ck,h⟩:=au h
   refine aY ck ?_
   obtain ⟨⟨r7,r8⟩,cF,h⟩:=au h
   dsimp only at h
   refine bw aq (strconv_Atoi_ok (s1:=x6) cF) ?_
   refine aF ?_
   obtain ⟨⟨t12,t13⟩,cx,h⟩:=au h
   dsimp only at h
   refine bA aq (EB cx ?_)
   refine aF ?_
   obtain ⟨rfl,rfl⟩:=cT h
   exact aP _ _ _ bh (aM hcl (aU (aU aZ (.bool t13)) (.int .i64 t12)) bf aW ⟨rfl,rfl⟩)
abbrev yN:az:=(.cond (.t 18) (.rg [(av 20 5),(aj 21 (.call (.c (.fn 43 [])) [(.t 20)])),(av 19 21),(aj 22 (.ext (.t 19) 0)),(aj 23 (.ext (.t 19) 1)),(aO 7 22),(aO 8 23)]) .skip)
abbrev yO:az:=(.rg [(av 25 6),(aj 26 (.un .not (.t 25))),(av 27 26),(ay 28 (.mv (.t 5)) 27 false),(ay 29 (.bin .neq (.t 28) (.c (.str []))) 27 false),(ay 30 (.mv (.t 29)) 27 false),(ay 31 (.mv (.t 5)) 30 true),(ay 32 (.ixs (.t 31) (.c (.int .i64 0))) 30 true),(ay 33 (.bin .neq (.t 32) (.c (b8 32))) 30 true),(ay 34 (.pick (.t 30) (.t 33) (.c (.bool false))) 27 false),(aj 35 (.pick (.t 27) (.c (.bool true)) (.t 34))),(aO 24 35)])
abbrev MR:az:=(.seq (.rg [(aj 2 (.alloc [(.int .i64 0),(.str []),(.str []),(.str []),(.int .i64 0)])),(aj 3 (.aT (.c (.int .i64 0))))]) (.seq (.rg [(av 10 0),(aj 11 (.call (.c (.fn 42 [])) [(.t 10),(.c (.str [32,102,114,111,109,58]))])),(av 9 11),(aj 12 (.ext (.t 9) 0)),(aj 13 (.ext (.t 9) 1)),(aj 14 (.ext (.t 9) 2)),(aj 4 (.alloc [(.str []),(.str [])])),(cZ (.st (.t 4) (.t 12) 2)),(aO 5 13),(aO 6 14)]) (.seq (.rg [(av 15 5),(aj 16 (.bin .eql (.t 15) (.c (.str [])))),(aj 7 (.aT (.c (.int .i64 (-1))))),(aO 8 16)]) (.seq (.seq (.rg [(av 17 8),(aj 18 (.un .not (.t 17)))]) (.sem (erase yN))) (.seq (.blk 0 (.seq (.sem (erase yO)) (.cond (.t 24) (.seq (.rg [(aj 36 (.build [(.int .i64 0),(.str []),(.str []),(.str []),(.int .i64 0)] [])),(cZ (.st (.t 2) (.t 36) 5)),(aj 3 (.aT (.c (.int .i64 501))))]) .ret) (.seq (.rg [(av 38 8),(aj 39 (.un .not (.t 38))),(aO 37 39)]) (.cond (.t 37) (.seq (.rg [(aj 40 (.build [(.int .i64 0),(.str []),(.str []),(.str []),(.int .i64 0)] [])),(cZ (.st (.t 2) (.t 40) 5)),(aj 3 (.aT (.c (.int .i64 555))))]) .ret) .skip))))) (.seq (.rg [(aj 41 (.ld (.t 4) (some 2))),(av 42 7),(aj 43 (.build [(.int .i64 0),(.str []),(.str []),(.str []),(.int .i64 0)] [(0,(1,(.c (.int .i64 3)))),(2,(2,(.t 41))),(4,(1,(.t 42)))])),(cZ (.st (.t 2) (.t 43) 5)),(aj 3 (.aT (.c (.int .i64 0))))]) .ret))))))
theorem MS:bL Tryz.prog 23 44 [(.cell 2 26),(.tmp 3)] (erase MR):=⟨Tryz.f23,_,rfl,by decide,rfl,by kernel_rfl,rfl,rfl⟩
abbrev yP:List Nat:=[0,2,3,4,5,6,7,8,18,24,37]
def qp (F:Nat) (r3:List UInt8):Option (Int×Bool):=
 (if (!(decide (r3=([]:List UInt8)))) then
  (vg F r3).bind fun (r7,r8)=>some (r7,r8)
 else
  some ((-1),(decide (r3=([]:List UInt8)))))
def qq (r4:Bool) (r3:List UInt8):Option (Bool):=
 (if (!r4) then
  some true
 else
  (if (!decide (r3=([]:List UInt8))) then
   (idx r3 0).bind fun n9=>some (!decide (n9=32))
  else
   some false))
def vh (F:Nat) (s1:List UInt8):Option (aC×Int):=
 (qA F s1 ([32,102,114,111,109,58]:List UInt8)).bind fun (r2,r3,r4)=>
 (qp F r3).bind fun (vi,F7)=>
 (qq r4 r3).bind fun t17=>
 (if t17 then
  some ((aC.mk 0 ([]:List UInt8) (aB.mk ([]:List UInt8) ([]:List UInt8)) 0),501)
 else
  (if (!F7) then
   some ((aC.mk 0 ([]:List UInt8) (aB.mk ([]:List UInt8) ([]:List UInt8)) 0),555)
  else
   some ((aC.mk 3 ([]:List UInt8) r2 vi),0)))
theorem EC {F:Nat} {r3:List UInt8} {q5:Nat} {q6:Nat} {r4:Bool} {r2:aB} {H0 H:AH} (hfr:Fr H0 H0.length [] H) (ai:H[q5]? =some [(.int .i64 0),(.str ([]:List UInt8)),(.str ([]:List UInt8)),(.str ([]:List UInt8)),(.int .i64 0)]) (aJ:H[q6]? =some [(.str r2.ak),(.str r2.domain)]) (dB:H0.length≤q5) (hi1:H0.length≤q6) (hi2:q5≠q6) {K:Exit→Env→AH→Prop} {Uk:Int} {abO:Bool}
 (h:qp F r3=some (Uk,abO))
 (kn:∀H':AH,Fr H0 H0.length [] H'→H'[q5]? =some [(.int .i64 0),(.str ([]:List UInt8)),(.str ([]:List UInt8)),(.str ([]:List UInt8)),(.int .i64 0)]→H'[q6]? =some [(.str r2.ak),(.str r2.domain)]→K .normal [(2,(.ptr q5 0)),(4,(.ptr q6 0)),(5,(.str r3)),(6,(.bool r4)),(7,(.int .i64 Uk)),(8,(.bool abO))] H'):
 AX Tryz.prog yP 44 H0.length (erase yN) K [(2,(.ptr q5 0)),(4,(.ptr q6 0)),(5,(.str r3)),(6,(.bool r4)),(7,(.int .i64 (-1))),(8,(.bool (decide (r3=([]:List UInt8))))),(18,(.bool (!(decide (r3=([]:List UInt8))))))] H:=by
 refine bY fun K' hK=> ?_
 have hle:=hfr.le
 have aL:=aN ai
 have jc:=aN aJ
 rw [qp.eq_1] at h
 refine ax (aA ai aJ) ?_
 refine bk h (fun hy2 h=> ?_) fun hy2 h=> ?_
 · refine ax (aA ai aJ) ?_
   obtain ⟨⟨r7,r8⟩,hy3,h⟩:=au h
   dsimp only at h
   refine bw aq (KB hy3) ?_
   refine ax (aA ai aJ) ?_
   obtain ⟨rfl,rfl⟩:=cT h
   exact hK _ _ _ _ _ aK aq (kn _ hfr (ai.trans rfl) (aJ.trans rfl))
 · refine ax (aA ai aJ) ?_
   obtain ⟨rfl,rfl⟩:=cT h
   exact hK _ _ _ _ _ aK aq (kn _ hfr (ai.trans rfl) (aJ.trans rfl))
theorem ED {r4:Bool} {r3:List UInt8} {kz:Nat} {Av:Nat} {vi:Int} {F7:Bool} {r2:aB} {H0 H:AH} (hfr:Fr H0 H0.length [] H) (ai:H[kz]? =some [(.int .i64 0),(.str ([]:List UInt8)),(.str ([]:List UInt8)),(.str ([]:List UInt8)),(.int .i64 0)]) (aJ:H[Av]? =some [(.str r2.ak),(.str r2.domain)]) (dB:H0.length≤kz) (hi1:H0.length≤Av) (hi2:kz≠Av) {K:Exit→Env→AH→Prop} {t16:Bool}
 (h:qq r4 r3=some t16)
 (kn:∀H':AH,Fr H0 H0.length [] H'→H'[kz]? =some [(.int .i64 0),(.str ([]:List UInt8)),(.str ([]:List UInt8)),(.str ([]:List UInt8)),(.int .i64 0)]→H'[Av]? =some [(.str r2.ak),(.str r2.domain)]→K .normal [(2,(.ptr kz 0)),(4,(.ptr Av 0)),(7,(.int .i64 vi)),(8,(.bool F7)),(24,(.bool t16))] H'):
 AX Tryz.prog yP 44 H0.length (erase yO) K [(2,(.ptr kz 0)),(4,(.ptr Av 0)),(5,(.str r3)),(6,(.bool r4)),(7,(.int .i64 vi)),(8,(.bool F7))] H:=by
 refine bY fun K' hK=> ?_
 have hle:=hfr.le
 have aL:=aN ai
 have jc:=aN aJ
 rw [qq.eq_1] at h
 refine ax (aA ai aJ) ?_
 refine bT h (fun bJ h=> ?_) fun bJ h=> ?_
 · refine ax (aA bJ (aA ai aJ)) ?_
   obtain rfl:=aD h
   exact hK _ _ _ _ _ aK aq (kn _ hfr (ai.trans rfl) (aJ.trans rfl))
 · refine ax (aA bJ (aA ai aJ)) ?_
   refine bT h (fun ck h=> ?_) fun ck h=> ?_
   · obtain ⟨n9,cF,h⟩:=au h
     refine ax (aA ck (aA cF (aA ai aJ))) ?_
     obtain rfl:=aD h
     exact hK _ _ _ _ _ aK aq (kn _ hfr (ai.trans rfl) (aJ.trans rfl))
   · refine ax (aA ck (aA ai aJ)) ?_
     obtain rfl:=aD h
     exact hK _ _ _ _ _ aK aq (kn _ hfr (ai.trans rfl) (aJ.trans rfl))
theorem KC {F:Nat} {s1:List UInt8} {H0:AH} {aS:aC} {fE:Int} (h:vh F s1=some (aS,fE)):
 aG Tryz.prog 23 [(.str s1)] H0 fun v H'=>v=(.bG [(.agg [(.int .i64 aS.kind),(.str aS.arg),(.str aS.path.ak),(.str aS.path.domain),(.int .i64 aS.size)]),(.int .i64 fE)])∧H'=H0:=by
 refine lN MS yP [] fun hcl K0 aP H hH hfr=> ?_
 clear hH
 have hle:=hfr.le
 rw [vh.eq_1] at h
 refine cj ?_
 obtain ⟨⟨r2,r3,r4⟩,hy1,h⟩:=au h
 dsimp only at h
 refine bw aq (B8 hy1) ?_
 refine cj ?_
 obtain ⟨q6,rB⟩:∃q:Nat,(H.length+1)=q:=⟨_,rfl⟩
 try rw [rB]
 obtain ⟨q5,rC⟩:∃q:Nat,H.length=q:=⟨_,rfl⟩
 try rw [rC]
 try rw [show q5+1=q6 from by omega]
 obtain ⟨⟨vi,F7⟩,hy4,h⟩:=au h
 dsimp only at h
 refine bA aq (EC (r4:=r4) (r2:=r2) (q5:=q5) (q6:=q6) (b6 _ (Fr.app (Fr.app hfr))) (gq (lU pJ)) cL bU bU bU hy4 ?_)
 intro H hfr ai aJ
 have hle:=hfr.le
 have aL:=aN ai
 have jc:=aN aJ
 refine ax (aA ai aJ) ?_
 obtain ⟨t17,cv,h⟩:=au h
 refine bA aq (ED (vi:=vi) (F7:=F7) (r2:=r2) (kz:=q5) (Av:=q6) hfr (ai.trans rfl) (aJ.trans rfl) bU bU bU cv ?_)
 intro H hfr ai aJ
 have hle:=hfr.le
 have aL:=aN ai
 have jc:=aN aJ
 refine ax (aA ai aJ) ?_
 refine bk h (fun cM h=> ?_) fun cM h=> ?_
 · refine ax (aA ai aJ) ?_
   obtain ⟨rfl,rfl⟩:=cT h
   exact aP _ _ _ bh (aR (b6 _ hfr) hcl (br (cs:=[(.int .i64 0),(.str ([]:List UInt8)),(.str ([]:List UInt8)),(.str ([]:List UInt8)),(.int .i64 0)]) (v:=(.agg [(.int .i64 0),(.str ([]:List UInt8)),(.str ([]:List UInt8)),(.str ([]:List UInt8)),(.int .i64 0)])) (by kernel_rfl) (n:=(some 5)) (by kernel_rfl) rfl cL (by simp [bO,bN,eC,aX,AV.flat,cu,cR,AV.bB,Tg.sh]) (aU aZ (.int .i64 501))) bf aW ⟨rfl,rfl⟩)
 · refine ax (aA ai aJ) ?_
   refine bk h (fun cc h=> ?_) fun cc h=> ?_
   · refine ax (aA ai aJ) ?_
     obtain ⟨rfl,rfl⟩:=cT h
     exact aP _ _ _ bh (aR (b6 _ hfr) hcl (br (cs:=[(.int .i64 0),(.str ([]:List UInt8)),(.str ([]:List UInt8)),(.str ([]:List UInt8)),(.int .i64 0)]) (v:=(.agg [(.int .i64 0),(.str ([]:List UInt8)),(.str ([]:List UInt8)),(.str ([]:List UInt8)),(.int .i64 0)])) (by kernel_rfl) (n:=(some 5)) (by kernel_rfl) rfl cL (by simp [bO,bN,eC,aX,AV.flat,cu,cR,AV.bB,Tg.sh]) (aU aZ (.int .i64 555))) bf aW ⟨rfl,rfl⟩)
   · refine ax (aA ai aJ) ?_
     obtain ⟨rfl,rfl⟩:=cT h
     exact aP _ _ _ bh (aR (b6 _ hfr) hcl (br (cs:=[(.int .i64 3),(.str ([]:List UInt8)),(.str r2.ak),(.str r2.domain),(.int .i64 vi)]) (v:=(.agg [(.int .i64 3),(.str ([]:List UInt8)),(.str r2.ak),(.str r2.domain),(.int .i64 vi)])) (by kernel_rfl) (n:=(some 5)) (by kernel_rfl) rfl cL (by simp [bO,bN,eC,aX,AV.flat,cu,cR,AV.bB,Tg.sh]) (aU aZ (.int .i64 0))) bf aW ⟨rfl,rfl⟩)
abbrev yQ:az:=(.rg [(av 14 6),(aj 15 (.un .not (.t 14))),(av 16 15),(ay 17 (.ld (.t 4) (some 2)) 16 false),(ay 18 (.build [(.str []),(.str [])] []) 16 false),(ay 19 (.seq [.s, .s] false (.t 17) (.t 18)) 16 false),(aj 20 (.pick (.t 16) (.c (.bool true)) (.t 19))),(av 21 20),(ay 22 (.mv (.t 5)) 21 false),(ay 23 (.bin .neq (.t 22) (.c (.str []))) 21 false),(ay 24 (.mv (.t 23)) 21 false),(ay 25 (.mv (.t 5)) 24 true),(ay 26 (.ixs (.t 25) (.c (.int .i64 0))) 24 true),(ay 27 (.bin .neq (.t 26) (.c (b8 32))) 24 true),(ay 28 (.pick (.t 24) (.t 27) (.c (.bool false))) 21 false),(aj 29 (.pick (.t 21) (.c (.bool true)) (.t 28))),(aO 13 29)])
abbrev MT:az:=(.seq (.rg [(aj 2 (.alloc [(.int .i64 0),(.str []),(.str []),(.str []),(.int .i64 0)])),(aj 3 (.aT (.c (.int .i64 0))))]) (.seq (.rg [(av 8 0),(aj 9 (.call (.c (.fn 42 [])) [(.t 8),(.c (.str [32,116,111,58]))])),(av 7 9),(aj 10 (.ext (.t 7) 0)),(aj 11 (.ext (.t 7) 1)),(aj 12 (.ext (.t 7) 2)),(aj 4 (.alloc [(.str []),(.str [])])),(cZ (.st (.t 4) (.t 10) 2)),(aO 5 11),(aO 6 12)]) (.seq (.blk 0 (.seq (.sem (erase yQ)) (.cond (.t 13) (.seq (.rg [(aj 30 (.build [(.int .i64 0),(.str []),(.str []),(.str []),(.int .i64 0)] [])),(cZ (.st (.t 2) (.t 30) 5)),(aj 3 (.aT (.c (.int .i64 501))))]) .ret) (.seq (.rg [(av 32 5),(aj 33 (.bin .neq (.t 32) (.c (.str [])))),(aO 31 33)]) (.cond (.t 31) (.seq (.rg [(aj 34 (.build [(.int .i64 0),(.str []),(.str []),(.str []),(.int .i64 0)] [])),(cZ (.st (.t 2) (.t 34) 5)),(aj 3 (.aT (.c (.int .i64 555))))]) .ret) .skip))))) (.seq (.rg [(aj 35 (.ld (.t 4) (some 2))),(aj 36 (.build [(.int .i64 0),(.str []),(.str []),(.str []),(.int .i64 0)] [(0,(1,(.c (.int .i64 4)))),(2,(2,(.t 35)))])),(cZ (.st (.t 2) (.t 36) 5)),(aj 3 (.aT (.c (.int .i64 0))))]) .ret))))
theorem MU:bL Tryz.prog 24 37 [(.cell 2 26),(.tmp 3)] (erase MT):=⟨Tryz.f24,_,rfl,by decide,rfl,by kernel_rfl,rfl,rfl⟩
abbrev D8:List Nat:=[0,2,3,4,5,6,13,31]
def qs (r4:Bool) (r2:aB) (r3:List UInt8):Option (Bool):=
 (if (!r4) then
  some true
 else
  (if (decide (r2.ak=([]:List UInt8))&&decide (r2.domain=([]:List UInt8))) then
   some true
  else
   (if (!decide (r3=([]:List UInt8))) then
    (idx r3 0).bind fun x7=>some (!decide (x7=32))
   else
    some false)))
def vj (F:Nat) (s1:List UInt8):Option (aC×Int):=
 (qA F s1 ([32,116,111,58]:List UInt8)).bind fun (r2,r3,r4)=>
 (qs r4 r2 r3).bind fun t9=>
 (if t9 then
  some ((aC.mk 0 ([]:List UInt8) (aB.mk ([]:List UInt8) ([]:List UInt8)) 0),501)
 else
  (if (!decide (r3=([]:List UInt8))) then
   some ((aC.mk 0 ([]:List UInt8) (aB.mk ([]:List UInt8) ([]:List UInt8)) 0),555)
  else
   some ((aC.mk 4 ([]:List UInt8) r2 0),0)))
theorem EE {r4:Bool} {r2:aB} {r3:List UInt8} {q5:Nat} {q6:Nat} {H0 H:AH} (hfr:Fr H0 H0.length [] H) (ai:H[q5]? =some [(.int .i64 0),(.str ([]:List UInt8)),(.str ([]:List UInt8)),(.str ([]:List UInt8)),(.int .i64 0)]) (aJ:H[q6]? =some [(.str r2.ak),(.str r2.domain)]) (dB:H0.length≤q5) (hi1:H0.length≤q6) (hi2:q5≠q6) {K:Exit→Env→AH→Prop} {t8:Bool}
 (h:qs r4 r2 r3=some t8)
 (kn:∀H':AH,Fr H0 H0.length [] H'→H'[q5]? =some [(.int .i64 0),(.str ([]:List UInt8)),(.str ([]:List UInt8)),(.str ([]:List UInt8)),(.int .i64 0)]→H'[q6]? =some [(.str r2.ak),(.str r2.domain)]→K .normal [(2,(.ptr q5 0)),(4,(.ptr q6 0)),(5,(.str r3)),(13,(.bool t8))] H'):
 AX Tryz.prog D8 37 H0.length (erase yQ) K [(2,(.ptr q5 0)),(4,(.ptr q6 0)),(5,(.str r3)),(6,(.bool r4))] H:=by
 refine bY fun K' hK=> ?_
 have hle:=hfr.le
 have aL:=aN ai
 have jc:=aN aJ
 rw [qs.eq_1] at h
 refine ax (aA ai aJ) ?_
 refine bT h (fun hy2 h=> ?_) fun hy2 h=> ?_
 · refine ax (aA hy2 (aA ai aJ)) ?_
   obtain rfl:=aD h
   exact hK _ _ _ _ _ aK aq (kn _ hfr (ai.trans rfl) (aJ.trans rfl))
 · refine ax (aA hy2 (aA ai aJ)) ?_
   refine bT h (fun hy3 h=> ?_) fun hy3 h=> ?_
   · refine ax (aA hy3 (aA ai aJ)) ?_
     obtain rfl:=aD h
     exact hK _ _ _ _ _ aK aq (kn _ hfr (ai.trans rfl) (aJ.trans rfl))
   · refine ax (aA hy3 (aA ai aJ)) ?_
     refine bT h (fun hy4 h=> ?_) fun hy4 h=> ?_
     · obtain ⟨x7,bJ,h⟩:=au h
       refine ax (aA hy4 (aA bJ (aA ai aJ))) ?_
       obtain rfl:=aD h
       exact hK _ _ _ _ _ aK aq (kn _ hfr (ai.trans rfl) (aJ.trans rfl))
     · refine ax (aA hy4 (aA ai aJ)) ?_
       obtain rfl:=aD h
       exact hK _ _ _ _ _ aK aq (kn _ hfr (ai.trans rfl) (aJ.trans rfl))
theorem KD {F:Nat} {s1:List UInt8} {H0:AH} {aS:aC} {fE:Int} (h:vj F s1=some (aS,fE)):
 aG Tryz.prog 24 [(.str s1)] H0 fun v H'=>v=(.bG [(.agg [(.int .i64 aS.kind),(.str aS.arg),(.str aS.path.ak),(.str aS.path.domain),(.int .i64 aS.size)]),(.int .i64 fE)])∧H'=H0:=by
 refine lN MU D8 [] fun hcl K0 aP H hH hfr=> ?_
 clear hH
 have hle:=hfr.le
 rw [vj.eq_1] at h
 refine cj ?_
 obtain ⟨⟨r2,r3,r4⟩,hy1,h⟩:=au h
 dsimp only at h
 refine bw aq (B8 hy1) ?_
 refine cj ?_
 obtain ⟨q6,rB⟩:∃q:Nat,(H.length+1)=q:=⟨_,rfl⟩
 try rw [rB]
 obtain ⟨q5,rC⟩:∃q:Nat,H.length=q:=⟨_,rfl⟩
 try rw [rC]
 try rw [show q5+1=q6 from by omega]
 obtain ⟨t9,ck,h⟩:=au h
 refine bA aq (EE (q5:=q5) (q6:=q6) (b6 _ (Fr.app (Fr.app hfr))) (gq (lU pJ)) cL bU bU bU ck ?_)
 intro H hfr ai aJ
 have hle:=hfr.le
 have aL:=aN ai
 have jc:=aN aJ
 refine ax (aA ai aJ) ?_
 refine bk h (fun cF h=> ?_) fun cF h=> ?_
 · refine ax (aA ai aJ) ?_
   obtain ⟨rfl,rfl⟩:=cT h
   exact aP _ _ _ bh (aR (b6 _ hfr) hcl (br (cs:=[(.int .i64 0),(.str ([]:List UInt8)),(.str ([]:List UInt8)),(.str ([]:List UInt8)),(.int .i64 0)]) (v:=(.agg [(.int .i64 0),(.str ([]:List UInt8)),(.str ([]:List UInt8)),(.str ([]:List UInt8)),(.int .i64 0)])) (by kernel_rfl) (n:=(some 5)) (by kernel_rfl) rfl cL (by simp [bO,bN,eC,aX,AV.flat,cu,cR,AV.bB,Tg.sh]) (aU aZ (.int .i64 501))) bf aW ⟨rfl,rfl⟩)
 · refine ax (aA ai aJ) ?_
   refine bk h (fun cv h=> ?_) fun cv h=> ?_
   · refine ax (aA ai aJ) ?_
     obtain ⟨rfl,rfl⟩:=cT h
     exact aP _ _ _ bh (aR (b6 _ hfr) hcl (br (cs:=[(.int .i64 0),(.str ([]:List UInt8)),(.str ([]:List UInt8)),(.str ([]:List UInt8)),(.int .i64 0)]) (v:=(.agg [(.int .i64 0),(.str ([]:List UInt8)),(.str ([]:List UInt8)),(.str ([]:List UInt8)),(.int .i64 0)])) (by kernel_rfl) (n:=(some 5)) (by kernel_rfl) rfl cL (by simp [bO,bN,eC,aX,AV.flat,cu,cR,AV.bB,Tg.sh]) (aU aZ (.int .i64 555))) bf aW ⟨rfl,rfl⟩)
   · refine ax (aA ai aJ) ?_
     obtain ⟨rfl,rfl⟩:=cT h
     exact aP _ _ _ bh (aR (b6 _ hfr) hcl (br (cs:=[(.int .i64 4),(.str ([]:List UInt8)),(.str r2.ak),(.str r2.domain),(.int .i64 0)]) (v:=(.agg [(.int .i64 4),(.str ([]:List UInt8)),(.str r2.ak),(.str r2.domain),(.int .i64 0)])) (by kernel_rfl) (n:=(some 5)) (by kernel_rfl) rfl cL (by simp [bO,bN,eC,aX,AV.flat,cu,cR,AV.bB,Tg.sh]) (aU aZ (.int .i64 0))) bf aW ⟨rfl,rfl⟩)
end Go.Proofs.cQ
end
