import Derived.Test.YtomkmghgppgegaaGreatDoorM2
import Derived.Shelf.Strconv.Itoa3
import Derived.Shelf.Strings.BuilderF
import Derived.Sort.Row
import Derived.Shelf.Spec.SlicesGrow
import Derived.Shelf.SlGeneric
import Derived.Shelf.SlicesE.DeleteFunc
import Derived.Test.YtomkmghgppgegaaGreatDoorProg
import Derived.Shelf.Strings.Builder1
import Derived.Shelf.Strings.Builder2
import Derived.Shelf.Strings.OnBuilder
import Derived.Shelf.Small.Strs
import Derived.Shelf.Small.Wraps
import Derived.Shelf.Utf8.RuneCount
import Derived.Shelf.Strconv.Atoi
import Derived.Shelf.Strconv.Itoa0
import Derived.Shelf.Strconv.Itoa1
import Derived.Shelf.LaysM
import Derived.Shelf.Strconv.Itoa2
import Derived.Shelf.Strconv.AtoiErrFast
import Derived.Shelf.Strconv.ParseIntEmpty
import Derived.Shelf.Strconv.AtoiFail
import Derived.Shelf.Strconv.Clone
import Derived.Shelf.Strconv.SyntaxError
import Derived.Shelf.LaysC
import Derived.Shelf.Strconv.ToError
import Derived.Shelf.Strconv.Lower
import Derived.Shelf.Strconv.ParseUint10
import Derived.Shelf.Strconv.ParseUint10Empty
import Derived.Shelf.Strconv.ParseUint10Any
import Derived.Shelf.Strconv.ParseInt10
import Derived.Shelf.Strconv.AtoiLong
import Derived.Shelf.Strconv.AtoiInnerAll
import Derived.Shelf.Strconv.RangeError
import Derived.Shelf.Strconv.ToErrorRange
import Derived.Shelf.Strconv.AtoiAll
import Derived.Shelf.Strconv.ErrVarAll
import Derived.Shelf.Strconv.ParseUintEmpty
import Derived.Shelf.Strconv.ParseUint10b64
import Derived.Shelf.Strconv.ParseUint10b32
import Derived.Shelf.Strconv.ParseUint10b16
import Derived.Shelf.Strconv.ParseUint10b8
import Derived.Shelf.Strings.Search1
import Derived.Shelf.Strings.Search2
import Derived.Shelf.Strings.Search3
import Derived.Shelf.Strings.Cut
import Derived.Shelf.Strings.Count
import Derived.Shelf.Strings.Shaped
import Derived.Shelf.Strings.Prefix
import Derived.Shelf.Strings.Split
import Derived.Shelf.Strings.SplitShaped
import Derived.Shelf.Unicode.Decode
import Derived.Shelf.Strings.RuneCount
import Derived.Shelf.Strings.Explode
import Derived.Shelf.Unicode.DecodeSlow
import Derived.Shelf.Unicode.DecodeAny
import Derived.Shelf.SlicesE.IndexFunc
import Derived.Shelf.Bytes.Small
import Derived.Lib.Split
set_option linter.unusedSimpArgs false
set_option linter.unusedVariables false
set_option linter.unusedSectionVars false
set_option linter.defProp false
section
namespace Go.Am
open Go
variable [Tabs]
section
variable {P:Program} {L:List Nat} {N n0:Nat} {F:Nat→Prop} {γ:List Nat} {C:Nat→List Value} {e e':Env} {ah:AH} {ts:Array Value} {w:World} {Q K:Exit→Env→AH→Prop}
theorem SR.freeze (h:SR L N F γ C e ah ts w) {s:Nat} {cs ds:List AV} (hs:ah[s]? =some cs) (hne:cs≠[]) (hw:eV cs ds)
 (he:∀t,get e' t=get e t∨∃o,get e t= .ptr s o∧get e' t= .ep (.agg ds) o):∃C',SR L N F γ C' e' (ah.set s []) ts w∧Ext F C w C' w:=by
 have hlt:s<γ.length:=by rw [h.mem.len];exact (List.getElem?_eq_some_iff.1 hs).1
 obtain ⟨b,hb⟩:∃b,γ[s]? =some b:=⟨_,List.getElem?_eq_getElem hlt⟩
 obtain ⟨vs,ty,hh,hsz,hcell⟩:=h.mem.obj s b cs hs hb
 have Bp:=h.mem.lZ s b cs hs hne hb
 have rF:blk γ e ah ts w (.obj s) b:=hb
 refine ⟨fun x=>if x=b then vs.toList else C x, ?_⟩
 generalize uu:(fun x=>if x=b then vs.toList else C x)=C'
 have c0:C' b=vs.toList:=by rw [←uu];simp
 have c1:∀x,x≠b→C' x=C x:=fun x hx=>by rw [←uu];simp [hx]
 have hpre:∀x,C x <+: C' x:=by
  intro x
  by_cases hx:x=b
  · subst hx;rw [Bp];exact List.nil_prefix
  · rw [c1 x hx];exact List.prefix_refl _
 have cV:∀(s':Nat),s'≠s→(ah.set s [])[s']? =ah[s']? :=fun s' hn=>List.getElem?_set_ne (Ne.symm hn)
 have di:(ah.set s [])[s]? =some []:=List.getElem?_set_self (by rw [←h.mem.len];exact hlt)
 have tF:∀(s':Nat),γ[s']? =some b→s'=s:=fun s' hs'=>by
  have:=h.dD (.obj s') (.obj s) b hs' hb;injection this
 have hbk:∀p x,blk γ e' (ah.set s []) ts w p x→blk γ e ah ts w p x:=by
  intro p x hp
  cases p with
  |obj s'=>exact hp
  |cell s' i=>
   obtain ⟨ds,a,b0,h1,h2,h3,h4⟩:=hp
   by_cases hn:s'=s
   · subst hn;rw [di] at h1;injection h1 with h1;subst h1;simp at h2
   · rw [cV s' hn] at h1;exact ⟨ds,a,b0,h1,h2,h3,h4⟩
  |tmp t=>
   simp only [blk] at hp ⊢
   rcases he t with h1|⟨o,h1,h2⟩
   · rwa [h1] at hp
   · rw [h2] at hp;simp [bG] at hp
 have mA:∀(a:AV) (v:Value),TC w C a v→(∀x,bG a v=some x→x≠b)→TC w C' a v:=fun a v ht hn=>ht.mono fun x hx=>⟨rfl,c1 x (hn x hx)⟩
 refine ⟨⟨⟨by simp [h.mem.len],fun s' x ds h1 h2=> ?_,fun x hx=> ?_,fun s' x ds h1 h0 h2=> ?_,fun s' x ds us ty' fr h1 h2 h3=> ?_,fun s' x ds T h1 h2 h3=> ?_⟩,h.sz,fun t=> ?_,fun p q x hp hq=>h.dD p q x (hbk p x hp) (hbk q x hq),fun p x hp=>h.nf p x (hbk p x hp),h.iT,fun t l k xs ht=> ?_⟩,
  ⟨hpre,fun x hx=>⟨rfl,c1 x (fun e=>h.nf _ _ rF (e▸hx))⟩,Nat.le_refl _,rfl,rfl,rfl⟩⟩
 · by_cases hn:s'=s
   · subst hn
     rw [di] at h1;injection h1 with h1;subst h1
     rw [hb] at h2;injection h2 with h2;subst h2
     exact ⟨vs,ty,hh,by simp,by simp⟩
   · rw [cV s' hn] at h1
     obtain ⟨us,ty',g1,g2,g3⟩:=h.mem.obj s' x ds h1 h2
     refine ⟨us,ty',g1,g2,fun i a hi=>⟨(g3 i a hi).1.mono hpre _ (fun _ _ h=>h),mA _ _ (g3 i a hi).2 fun y hy e=> ?_⟩⟩
     subst e
     obtain ⟨v,hv, -, -⟩:=cellAt h.mem h1 hi h2
     have Jb:v=us.getD i undef:=by
      have hlt:i<us.size:=Nat.lt_of_lt_of_le (List.getElem?_eq_some_iff.1 hi).1 g2
      rw [cz g1,Array.getElem?_eq_getElem hlt] at hv
      simp [Array.getD_eq_getD_getElem?,Array.getElem?_eq_getElem hlt,Option.some.inj hv]
     have:blk γ e ah ts w (.cell s' i) y:=⟨ds,a,x,h1,hi,h2,by rw [hv,Jb];exact hy⟩
     have:=h.dD _ _ _ this rF
     cases this
 · by_cases Mt:x=b
   · subst Mt;exact ⟨vs,ty.1,ty.2,hh,by rw [c0];exact List.prefix_refl _⟩
   · rw [c1 x Mt] at hx ⊢;exact h.mem.pn x hx
 · have hn:s'≠s:=by
    rintro rfl
    rw [di] at h1;injection h1 with h1;exact h0 h1.symm
   rw [cV s' hn] at h1
   rw [c1 x (fun e=>hn (tF s' (e▸h2)))]
   exact h.mem.lZ s' x ds h1 h0 h2
 · by_cases hn:s'=s
   · subst hn
     rw [di] at h1;injection h1 with h1;subst h1
     intro i hi;simp at hi
   · rw [cV s' hn] at h1
     exact h.mem.xq s' x ds us ty' fr h1 h2 h3
 · by_cases hn:s'=s
   · subst hn
     rw [di] at h1;injection h1 with h1;subst h1
     simp at h3
   · rw [cV s' hn] at h1
     exact h.mem.zM s' x ds T h1 h2 h3
 · rcases he t with h1|⟨o,h1,h2⟩
   · rw [h1]
     refine ⟨(h.env t).1.mono hpre _ (fun _ _ h=>h),mA _ _ (h.env t).2 fun y hy e=> ?_⟩
     subst e
     have:=h.dD (.tmp t) (.obj s) y hy rF
     cases this
   · have hv:=(h.env t).1
     rw [h1] at hv
     obtain ⟨b',hb',hv⟩:=hv.gb
     rw [hb] at hb';injection hb' with hb';subst hb'
     rw [h2,hv]
     refine ⟨?_,by trivial⟩
     have hep:=VR.ep (C:=C') γ (.agg ds) o b 0 (by rw [c0];simpa [AV.cells,hw.len] using hsz) (fun j a hj=>by
      have hj2:ds[j]? =some a:=hj
      have hjl:j<cs.length:=by rw [←hw.len];exact (List.getElem?_eq_some_iff.1 hj2).1
      have hj':cs[j]? =some cs[j]:=List.getElem?_eq_getElem hjl
      have:=(Wk.jz (hw.get j _ _ hj' hj2).w).vr ((hcell j _ hj').1.mono hpre γ (fun _ _ h=>h))
      rw [c0,Nat.zero_add]
      have e1:vs.toList.getD j undef=vs.getD j undef:=by simp [List.getD_eq_getElem?_getD,Array.getD_eq_getD_getElem?]
      rw [e1];exact this)
     rwa [Nat.zero_add] at hep
 · rcases he t with h1|⟨o,h1,h2⟩
   · have hf:=h.fr t l k xs (by rw [←h1];exact ht)
     cases l with
     |tmp u=>
      refine ⟨hf.1,fun hu=>hf.2 ?_⟩
      rcases he u with g1|⟨o,g1,g2⟩
      · rwa [g1] at hu
      · rw [g2] at hu;cases hu
     |cell s' o=>
      intro ds a x g1 g2 g3 g4
      by_cases hn:s'=s
      · subst hn;rw [di] at g1;injection g1 with g1;subst g1;simp at g2
      · rw [cV s' hn] at g1;exact hf ds a x g1 g2 g3 g4
   · rw [h2] at ht;cases ht
theorem AW.freeze {c:Code} {s:Nat} {cs ds:List AV} (hs:ah[s]? =some cs) (hne:cs≠[]) (hw:eV cs ds)
 (he:∀t,get e' t=get e t∨∃o,get e t= .ptr s o∧get e' t= .ep (.agg ds) o) (h:AW P L N n0 c Q e' (ah.set s [])):AW P L N n0 c Q e ah:=by
 intro F γ C ts w lS hn
 obtain ⟨C',h1,h2⟩:=lS.freeze hs hne hw he
 refine wp_mono (h F γ C' ts w h1 hn) ?_
 rintro x a w' ⟨q1,q2,e2,rG,γ2,C2,q3,q4,q5,q6⟩
 exact ⟨q1,q2,e2,rG,γ2,C2,q3,q4,q5,h2.trans q6⟩
inductive FZ (s:Nat) (cs:List AV):Env→Env→Prop
 |nil:FZ s cs [] []
 |same (i:Nat) (a:AV) (r r':Env):FZ s cs r r'→FZ s cs ((i,a)::r) ((i,a)::r')
 |ep (i o:Nat) (r r':Env):FZ s cs r r'→FZ s cs ((i, .ptr s o)::r) ((i, .ep (.agg cs) o)::r')
theorem FZ.get {s:Nat} {cs:List AV} {e e':Env} (h:FZ s cs e e') (t:Nat):Am.get e' t=Am.get e t∨∃o,Am.get e t= .ptr s o∧Am.get e' t= .ep (.agg cs) o:=by
 induction h with
 |nil=>exact .inl rfl
 |same i a r r' _ ih=>
  simp only [Am.get]
  by_cases hi:i=t
  · simp [hi]
  · simpa [hi] using ih
 |ep i o r r' _ ih=>
  simp only [Am.get]
  by_cases hi:i=t
  · exact .inr ⟨o,by simp [hi],by simp [hi]⟩
  · simpa [hi] using ih
theorem AX.freeze {c:av} {s:Nat} {cs ds:List AV} (hs:ah[s]? =some cs) (hw:eV cs ds) (hne:cs≠[]) (he:FZ s ds e e') (h:AX P L N n0 c K e' (ah.set s [])):AX P L N n0 c K e ah:=
 fun c' ck=>AW.freeze hs hne hw he.get (h c' ck)
end
end Go.Am
end
section
namespace Go.Am
open Go
variable [Tabs]
def EK (k:Nat) (xs:List AV):Prop:=∀(i:Nat) (a:AV),xs[i]? =some a→a.cells.length=k∧bU a.cells=true∧gz a.cells=true∧bP a.cells=true
theorem EK.ml {α:Type} {f:α→AV} {k:Nat} (h:∀x,(f x).cells.length=k∧bU (f x).cells=true∧gz (f x).cells=true∧bP (f x).cells=true) (l:List α):EK k (ml f l):=by
 intro i a hi
 simp only [Am.ml,List.getElem?_map,Option.map_eq_some_iff] at hi
 obtain ⟨x, -,rfl⟩:=hi
 exact h x
def fla (xs:List AV):List AV:=(xs.map fun a=>a.cells.map AV.s1).flatten
theorem nQ (a:AV) (xs:List AV):fla (a::xs)=a.cells.map AV.s1++fla xs:=rfl
theorem Mu (xs ys:List AV):fla (xs++ys)=fla xs++fla ys:=by simp [fla]
theorem EK.tail {k:Nat} {a:AV} {xs:List AV} (h:EK k (a::xs)):EK k xs:=fun i b hb=>h (i+1) b (by simpa using hb)
theorem oh {k:Nat}:∀ {xs:List AV},EK k xs→(fla xs).length=xs.length*k:=by
 intro xs
 induction xs with
 |nil=>intro _;simp [fla]
 |cons a r ih=>intro h;rw [nQ,List.length_append,List.length_map,ih h.tail,(h 0 a rfl).1,List.length_cons,Nat.succ_mul];omega
theorem Mv {k:Nat}:∀ {xs:List AV},EK k xs→∀(i j:Nat) (a:AV),xs[i]? =some a→j<k→(fla xs)[i*k+j]? =(a.cells.map AV.s1)[j]? :=by
 intro xs
 induction xs with
 |nil=>intro _ i j a h;simp at h
 |cons y r ih=>
  intro h i j a hi hj
  have hy:=(h 0 y rfl).1
  rw [nQ]
  cases i with
  |zero=>
   simp at hi;subst hi
   rw [List.getElem?_append_left (by simp;omega)];simp
  |succ i=>
   rw [List.getElem?_append_right (by simp only [List.length_map,hy,Nat.succ_mul];omega)]
   rw [show (i+1)*k+j - (y.cells.map AV.s1).length=i*k+j by simp only [List.length_map,hy,Nat.succ_mul];omega]
   exact ih h.tail i j a (by simpa using hi) hj
theorem W9 {k:Nat}:∀ {xs:List AV},EK k xs→∀(i j:Nat) (a a' w:AV),xs[i]? =some a→j<k→a'.cells.map AV.s1=(a.cells.map AV.s1).set j w→fla (xs.set i a')=(fla xs).set (i*k+j) w:=by
 intro xs
 induction xs with
 |nil=>intro _ i j a a' w h;simp at h
 |cons y r ih=>
  intro h i j a a' w hi hj hw
  have hy:=(h 0 y rfl).1
  cases i with
  |zero=>
   simp at hi;subst hi
   rw [List.set_cons_zero,nQ,nQ,hw,List.set_append_left _ _ (by simp;omega)];simp
  |succ i=>
   rw [List.set_cons_succ,nQ,nQ,ih h.tail i j a a' w (by simpa using hi) hj hw,List.set_append_right _ _ (by simp only [List.length_map,hy,Nat.succ_mul];omega)]
   rw [show (i+1)*k+j - (y.cells.map AV.s1).length=i*k+j by simp only [List.length_map,hy,Nat.succ_mul];omega]
theorem acu (a:AV):a.s1.s1=a.s1:=by cases a<;>rfl
theorem Z1 (xs:List AV):(fla xs).map AV.s1=fla xs:=by
 unfold fla
 rw [List.map_flatten,List.map_map]
 congr 1
 apply List.map_congr_left
 intro a _
 simp [List.map_map,Function.comp_def,acu]
theorem FH {k:Nat}:∀ {xs:List AV},EK k xs→∀(q:Nat) (a:AV),(fla xs)[q]? =some a→a.flat=true∧a.np=true∧a.iR=true:=by
 intro xs
 induction xs with
 |nil=>intro _ q a h;simp [fla] at h
 |cons y r ih=>
  intro h q a hq
  rw [nQ] at hq
  by_cases hlt:q<(y.cells.map AV.s1).length
  · rw [List.getElem?_append_left hlt,List.getElem?_map,Option.map_eq_some_iff] at hq
    obtain ⟨z,hz,rfl⟩:=hq
    have h1:=j5 (h 0 y rfl).2.2.2 hz
    have h2:=vu (h 0 y rfl).2.2.1 hz
    have h3:z.iR=true:=by
     have:=(h 0 y rfl).2.1
     generalize y.cells=l at this hz
     clear hlt
     induction l generalizing q with
     |nil=>simp at hz
     |cons b l ihl=>
      simp only [bU,Bool.and_eq_true] at this
      cases q with
      |zero=>simp at hz;subst hz;exact this.1
      |succ q=>exact ihl q this.2 (by simpa using hz)
    cases z<;>simp_all [AV.s1,AV.flat,AV.np,AV.iR]
  · rw [List.getElem?_append_right (by omega)] at hq
    exact ih h.tail _ a hq
theorem Mw {l:List AV} (h:∀(q:Nat) (a:AV),l[q]? =some a→a.flat=true):bP l=true:=by
 induction l with
 |nil=>rfl
 |cons a r ih=>simp only [bP,Bool.and_eq_true];exact ⟨h 0 a rfl,ih fun q b hb=>h (q+1) b (by simpa using hb)⟩
theorem mC (k:Nat) (xs:List AV) (c:Nat):j4 k xs c=fla xs++List.replicate ((c - xs.length)*k) .un:=rfl
theorem Bx {k c:Nat} {xs:List AV} (h:EK k xs) (hc:xs.length≤c):(j4 k xs c).length=c*k:=by
 rw [mC,List.length_append,oh h,List.length_replicate, ←Nat.add_mul];congr 1;omega
theorem CL {k c:Nat} {xs:List AV} (h:EK k xs):(j4 k xs c).take (xs.length*k)=fla xs:=by
 rw [mC,List.take_append_of_le_length (by rw [oh h];exact Nat.le_refl _),List.take_of_length_le (by rw [oh h];exact Nat.le_refl _)]
theorem Xa {k c i j:Nat} {xs:List AV} {a:AV} (h:EK k xs) (hi:xs[i]? =some a) (hj:j<k):(j4 k xs c)[i*k+j]? =(a.cells.map AV.s1)[j]? :=by
 have hlt:i<xs.length:=(List.getElem?_eq_some_iff.1 hi).1
 have:(i+1)*k≤xs.length*k:=Nat.mul_le_mul_right _ hlt
 rw [Nat.succ_mul] at this
 rw [mC,List.getElem?_append_left (by rw [oh h];omega),Mv h i j a hi hj]
theorem TA {k c i j:Nat} {xs:List AV} {a a' w:AV} (h:EK k xs) (hi:xs[i]? =some a) (hj:j<k) (hw:a'.cells.map AV.s1=(a.cells.map AV.s1).set j w):
 over (j4 k xs c) (i*k+j) [w]=some (j4 k (xs.set i a') c):=by
 have hlt:i<xs.length:=(List.getElem?_eq_some_iff.1 hi).1
 have hm:(i+1)*k≤xs.length*k:=Nat.mul_le_mul_right _ hlt
 rw [Nat.succ_mul] at hm
 have hl:=oh h
 unfold over
 rw [if_pos (by rw [mC,List.length_append,hl,List.length_singleton];omega)]
 congr 1
 rw [mC k (xs.set i a'),List.length_set,W9 h i j a a' w hi hj hw,mC]
 rw [←List.set_append_left _ _ (by rw [hl];omega)]
 rw [List.set_eq_take_append_cons_drop,if_pos (by rw [List.length_append,hl];omega)]
 simp
def GF (k n0 q:Nat) (xs:List AV) (c:Nat) (ah:AH):Prop:=
 (c=0∧xs=[])∨(n0≤q∧0<c∧xs.length≤c∧ah[q]? =some (j4 k xs c))
theorem GF.lt {k n0 q c:Nat} {xs:List AV} {ah:AH} (h:GF k n0 q xs c ah) (hc:0<c):q<ah.length∧n0≤q:=by
 rcases h with ⟨h, -⟩|⟨h1, -, -,h2⟩
 · omega
 · exact ⟨(List.getElem?_eq_some_iff.1 h2).1,h1⟩
theorem GF.nil {k n0 q:Nat} {ah:AH}:GF k n0 q [] 0 ah:= .inl ⟨rfl,rfl⟩
theorem GF.at {k n0 q c i:Nat} {xs:List AV} {ah:AH} {a:AV} (h:GF k n0 q xs c ah) (hi:xs[i]? =some a):n0≤q∧ah[q]? =some (j4 k xs c):=by
 rcases h with ⟨-,rfl⟩|⟨h1, -, -,h2⟩
 · simp at hi
 · exact ⟨h1,h2⟩
theorem GF.of {k n0 q c:Nat} {xs:List AV} {ah aE:AH} (h:GF k n0 q xs c ah) (he:q<ah.length→n0≤q→aE[q]? =ah[q]?):GF k n0 q xs c aE:=by
 rcases h with h|⟨h1,h2,h3,h4⟩
 · exact .inl h
 · exact .inr ⟨h1,h2,h3,by rw [he (List.getElem?_eq_some_iff.1 h4).1 h1];exact h4⟩
theorem GF.set {k n0 q c i:Nat} {xs:List AV} {ah:AH} {a a':AV} (h:GF k n0 q xs c ah) (hi:xs[i]? =some a):GF k n0 q (xs.set i a') c (ah.set q (j4 k (xs.set i a') c)):=by
 rcases h with ⟨-,rfl⟩|⟨h1,h2,h3,h4⟩
 · simp at hi
 · exact .inr ⟨h1,h2,by simpa using h3,List.getElem?_set_self (List.getElem?_eq_some_iff.1 h4).1⟩
section
variable {P:Program} {L:List Nat} {N n0:Nat} {e:Env} {ah:AH} {t:List It} {Q:Exit→Env→AH→Prop} {r:List aM} {d:Option Nat} {g:Option (Nat×Bool)}
theorem Xb {α:Type} {f:α→AV} {k b q c n1:Nat} {x y:Ar} {tg:Tg} {X Y Z:List α} {ys:List AV} (hf:∀x,(f x).cells.length=k∧bU (f x).cells=true∧gz (f x).cells=true∧bP (f x).cells=true)
 (hk0:0<k) (hx:ev e x= .cr q k X.length c) (hy:ev e y= .sl tg k ys) (hys:ys=ml f Y) (hY:Y≠[]) (hz:cw b X Y=some Z) (hG:GF k n1 q (ml f X) c ah) (hn:n1≤ah.length)
 (hK:∀q' c' aE,GF k n1 q' (ml f Z) c' aE→(∀s,s<ah.length→s<n1∨(0<c→s≠q)→aE[s]? =ah[s]?)→ah.length≤aE.length→(q'=q∧0<c∨ah.length≤q')→
  U P L N n0 (.ops r::t) Q .normal (aF L e d (.cr q' k Z.length c')) aE):
 UG P L N n0 ⟨d, .mu k b x y,g⟩ r t Q e ah (some true):=by
 subst hys
 obtain ⟨hc,hZ⟩:=Fz hz
 injection hZ with hZ
 subst hZ
 have eX:=EK.ml hf X
 have eY:=EK.ml hf Y
 have eXY:EK k (ml f (X++Y)):=EK.ml hf _
 have hap:ml f (X++Y)=ml f X++ml f Y:=by simp [ml]
 have lX:(ml f X).length=X.length:=by simp [ml]
 have lY:(ml f Y).length=Y.length:=by simp [ml]
 have hyp:0<Y.length:=List.length_pos_iff.2 hY
 show pX L d k b x y e ah fun e ah=>U P L N n0 (.ops r::t) Q .normal e ah
 unfold pX
 rw [hx,hy]
 refine ⟨rfl,rfl,by simpa [ml] using hY,by rw [lY];exact hc.1,by rw [lY];exact hc.2, ?_⟩
 have lXY:(X++Y).length=X.length+Y.length:=List.length_append
 rcases hG with ⟨rfl,hX⟩|⟨h1,h2,h3,h4⟩
 · have hX:X=[]:=by simpa [ml] using hX
   subst hX
   refine .inl ⟨rfl,rfl,fun c' ck=> ?_⟩
   rw [lY] at ck ⊢
   have:=hK ah.length c' (ah++[j4 k (ml f Y) c']) (.inr ⟨hn,by omega,by simpa [ml] using ck,by simp⟩) (fun s hs _=>List.getElem?_append_left hs) (by simp) (.inr (Nat.le_refl _))
   simpa using this
 · rw [lX] at h3
   have hlt:=(List.getElem?_eq_some_iff.1 h4).1
   refine .inr ⟨_,h4,fun h0=> ?_,Bx eX (by rw [lX];exact h3),h3, ?_,fun hr=> ?_,fun hr c' ck=> ?_⟩
   · have:=Bx eX (c:=c) (by rw [lX];exact h3)
     rw [h0] at this
     have h5:=Nat.mul_pos h2 hk0
     simp at this
     omega
   · rw [←lX,CL eX];exact Mw fun q a hq=>(FH eX q a hq).1
   · rw [lY] at hr ⊢
     have e1:(j4 k (ml f X) c).take (X.length*k)++((ml f Y).map fun a=>a.cells.map AV.s1).flatten++(j4 k (ml f X) c).drop ((X.length+Y.length)*k)=j4 k (ml f (X++Y)) c:=by
      have t1:=CL (c:=c) eX
      rw [lX] at t1
      rw [t1,mC k (ml f (X++Y)),hap,Mu]
      show fla (ml f X)++fla (ml f Y)++_=_
      congr 1
      rw [mC,List.drop_append,List.drop_of_length_le (by rw [oh eX,lX];exact Nat.mul_le_mul_right _ (by omega)),List.nil_append,List.drop_replicate]
      congr 1
      rw [oh eX,List.length_append,lX,lY, ←Nat.sub_mul, ←Nat.sub_mul]
      congr 1
      omega
     rw [e1]
     have:=hK q c (ah.set q (j4 k (ml f (X++Y)) c)) (.inr ⟨h1,h2,by simpa [ml] using hr,List.getElem?_set_self hlt⟩) (fun s hs hq=>List.getElem?_set_ne (hq.elim (fun h=>by omega) (fun h=>Ne.symm (h h2)))) (by simp) (.inl ⟨rfl,h2⟩)
     rw [lXY] at this
     exact this
   · rw [lY] at ck hr ⊢
     have e1:((j4 k (ml f X) c).take (X.length*k)).map AV.s1++j4 k (ml f Y) (c' - X.length)=j4 k (ml f (X++Y)) c':=by
      have t1:=CL (c:=c) eX
      rw [lX] at t1
      rw [t1,Z1,mC,mC,hap,Mu,List.append_assoc]
      congr 3
      rw [List.length_append,lX,lY];congr 1;omega
     rw [e1]
     have:=hK ah.length c' (ah++[j4 k (ml f (X++Y)) c']) (.inr ⟨hn,by omega,by simpa [ml] using ck,by simp⟩) (fun s hs _=>List.getElem?_append_left hs) (by simp) (.inr (Nat.le_refl _))
     rw [lXY] at this
     exact this
theorem acv {q k n c:Nat}:QL L e ah d (.cr q k n c)=some (aF L e d (.int .i64 n),ah):=rfl
theorem aeq {q k n c:Nat} {ki:IntKind} {i:Int}:uv L e ah d k (.cr q k n c) (.int ki i)=(Bw n i).map fun j=>(aF L e d (.ptr q (j*k)),ah):=by
 simp only [uv,Bw,and_true]
 split<;>simp
theorem acw {k m s p:Nat} {ki:IntKind} {i:Int}:Lx L e ah d k m (.ptr s p) (.int ki i)=(Bw m i).map fun j=>(aF L e d (.ptr s (p+j*k)),ah):=by
 simp only [Lx,Bw]
 split<;>simp
theorem acy {k m p:Nat} {a:AV} {ki:IntKind} {i:Int}:Lx L e ah d k m (.ep a p) (.int ki i)=(Bw m i).map fun j=>(aF L e d (.ep a (p+j*k)),ah):=by
 simp only [Lx,Bw]
 split<;>simp
theorem acz {k:Nat}:Ly L e ah d k (.sl .ex k [])=some (aF L e d (.cr 0 k 0 0),ah):=by simp [Ly]
theorem acA {s k n c j:Nat}:Ly L e ah d j (.cr s k n c)=some (aF L e d (.cr s k n c),ah):=rfl
theorem acB {u k j:Nat} {xs:List AV}:Ly L e ah d j (.sl (.fr (.tmp u)) k xs)=QB L e ah d u k xs (Am.get e u):=rfl
theorem Z2 {u k:Nat} {xs zs:List AV}:QB L e ah d u k xs (.sl .own k zs)=some (aF L (put e u (.sl .n k zs)) d (.sl .own k xs),ah):=by simp [QB]
end
theorem Wx.af3 {s k n m c:Nat} (h:n=m):Wx (.cr s k n c) (.cr s k m c):=by subst h;exact .same (by simp)
theorem Wx.cr {s k n c:Nat}:Wx (.cr s k n c) (.cr s k n c):= .same (by simp)
def WG:=And.intro @acB<|And.intro @Z2<|And.intro @Zp<|And.intro @Zq<|And.intro @Zr<|And.intro @Zs<|And.intro @Zt<|And.intro @Zu<|And.intro @Zv<|And.intro @Zw<|And.intro @Zx<|And.intro @Zy<|And.intro @Zz<|And.intro @ZA<|And.intro @ZB<|And.intro @ZC<|And.intro @ZD<|And.intro @ZE<|And.intro @VJ<|And.intro @VK<|And.intro @VL<|And.intro @VM<|And.intro @acv<|And.intro @aeq<|And.intro @acw<|And.intro @acy<|And.intro @acz<|And.intro @acA<|And.intro @abp<|And.intro @abr<|And.intro @Nat.add_zero<|And.intro @Nat.zero_add @Nat.mul_one
section
variable {P:Program} {L:List Nat} {N n0:Nat} {F:Nat→Prop} {γ:List Nat} {C:Nat→List Value} {e e':Env} {ah:AH} {ts:Array Value} {w:World} {Q K:Exit→Env→AH→Prop}
theorem VR.one' {x:AV} {u:Value} (hx:VR C γ x u) (hk:x.iR=true):u.oneCell'=true:=by
 cases hx<;>first|rfl|cases hk|skip
 rename_i hs
 cases u<;>first|rfl|cases hs
theorem SR.Mx (h:SR L N F γ C e ah ts w) {s k n1 c:Nat} {xs:List AV} (hkp:0<k) (hk:EK k xs) (hG:GF k n1 s xs c ah)
 (he:∀t,get e' t=get e t∨(get e t= .cr s k xs.length c∧get e' t= .sl .n k xs)):∃C',SR L N F γ C' e' (if c=0 then ah else ah.set s []) ts w∧Ext F C w C' w:=by
 rcases hG with ⟨rfl,rfl⟩|⟨-,hc0,hcl,hs⟩
 · refine ⟨C, ?_,Ext.refl ..⟩
   rw [if_pos rfl]
   have hbk:∀p b,blk γ e' ah ts w p b→blk γ e ah ts w p b:=by
    intro p b hp
    cases p with
    |tmp t=>
     simp only [blk] at hp ⊢
     rcases he t with h1|⟨h1,h2⟩
     · rwa [h1] at hp
     · rw [h2] at hp;simp [bG] at hp
    |obj s=>exact hp
    |cell s i=>exact hp
   refine ⟨h.mem,h.sz,fun t=> ?_,fun p q b hp hq=>h.dD p q b (hbk p b hp) (hbk q b hq),fun p b hp=>h.nf p b (hbk p b hp),h.iT,fun t l k' xs' ht=> ?_⟩
   · rcases he t with h1|⟨h1,h2⟩
     · rw [h1];exact h.env t
     · rw [h2]
       have hv:=(h.env t).1
       rw [h1] at hv
       obtain ⟨a,hv, -⟩:=hv.xp
       rw [hv]
       exact ⟨.tC ..,by simp [TC]⟩
   · rcases he t with h1|⟨h1,h2⟩
     · rw [h1] at ht
       have hf:=h.fr t l k' xs' ht
       cases l with
       |tmp u=>
        refine ⟨hf.1,fun hu=>hf.2 ?_⟩
        rcases he u with g1|⟨g1,g2⟩
        · rwa [g1] at hu
        · rw [g2] at hu;cases hu
       |cell s' o=>exact hf
     · rw [h2] at ht;cases ht
 rw [if_neg (by omega)]
 have hlt:s<γ.length:=by rw [h.mem.len];exact (List.getElem?_eq_some_iff.1 hs).1
 obtain ⟨b,hb⟩:∃b,γ[s]? =some b:=⟨_,List.getElem?_eq_getElem hlt⟩
 obtain ⟨vs,ty,hh,hsz,hcell⟩:=h.mem.obj s b _ hs hb
 have rF:blk γ e ah ts w (.obj s) b:=hb
 have hk0:j4 k xs c≠[]:=by
  intro h0
  have:=Bx (c:=c) hk hcl
  rw [h0] at this
  have h5:=Nat.mul_pos hc0 hkp
  simp at this
  omega
 have Bp:=h.mem.lZ s b _ hs hk0 hb
 refine ⟨fun x=>if x=b then vs.toList.take (xs.length*k) else C x, ?_⟩
 generalize uu:(fun x=>if x=b then vs.toList.take (xs.length*k) else C x)=C'
 have c0:C' b=vs.toList.take (xs.length*k):=by rw [←uu];simp
 have c1:∀x,x≠b→C' x=C x:=fun x hx=>by rw [←uu];simp [hx]
 have hgl:=Bx (c:=c) hk hcl
 have hmul:xs.length*k≤c*k:=Nat.mul_le_mul_right _ hcl
 have hvl:(C' b).length=xs.length*k:=by rw [c0,List.length_take,show vs.toList.length=vs.size from Array.length_toList];omega
 have hpre:∀x,C x <+: C' x:=by
  intro x
  by_cases hx:x=b
  · subst hx;rw [Bp];exact List.nil_prefix
  · rw [c1 x hx];exact List.prefix_refl _
 have cV:∀(s':Nat),s'≠s→(ah.set s [])[s']? =ah[s']? :=fun s' hn=>List.getElem?_set_ne (Ne.symm hn)
 have di:(ah.set s [])[s]? =some []:=List.getElem?_set_self (by rw [←h.mem.len];exact hlt)
 have tF:∀(s':Nat),γ[s']? =some b→s'=s:=fun s' hs'=>by
  have:=h.dD (.obj s') (.obj s) b hs' hb;injection this
 have hbk:∀p x,blk γ e' (ah.set s []) ts w p x→blk γ e ah ts w p x:=by
  intro p x hp
  cases p with
  |obj s'=>exact hp
  |cell s' i=>
   obtain ⟨ds,a,b0,h1,h2,h3,h4⟩:=hp
   by_cases hn:s'=s
   · subst hn;rw [di] at h1;injection h1 with h1;subst h1;simp at h2
   · rw [cV s' hn] at h1;exact ⟨ds,a,b0,h1,h2,h3,h4⟩
  |tmp t=>
   simp only [blk] at hp ⊢
   rcases he t with h1|⟨h1,h2⟩
   · rwa [h1] at hp
   · rw [h2] at hp;simp [bG] at hp
 have mA:∀(a:AV) (v:Value),TC w C a v→(∀x,bG a v=some x→x≠b)→TC w C' a v:=fun a v ht hn=>ht.mono fun x hx=>⟨rfl,c1 x (hn x hx)⟩
 refine ⟨⟨⟨by simp [h.mem.len],fun s' x ds h1 h2=> ?_,fun x hx=> ?_,fun s' x ds h1 h0 h2=> ?_,fun s' x ds us ty' fr h1 h2 h3=> ?_,fun s' x ds T h1 h2 h3=> ?_⟩,h.sz,fun t=> ?_,fun p q x hp hq=>h.dD p q x (hbk p x hp) (hbk q x hq),fun p x hp=>h.nf p x (hbk p x hp),h.iT,fun t l k xs ht=> ?_⟩,
  ⟨hpre,fun x hx=>⟨rfl,c1 x (fun e=>h.nf _ _ rF (e▸hx))⟩,Nat.le_refl _,rfl,rfl,rfl⟩⟩
 · by_cases hn:s'=s
   · subst hn
     rw [di] at h1;injection h1 with h1;subst h1
     rw [hb] at h2;injection h2 with h2;subst h2
     exact ⟨vs,ty,hh,by simp,by simp⟩
   · rw [cV s' hn] at h1
     obtain ⟨us,ty',g1,g2,g3⟩:=h.mem.obj s' x ds h1 h2
     refine ⟨us,ty',g1,g2,fun i a hi=>⟨(g3 i a hi).1.mono hpre _ (fun _ _ h=>h),mA _ _ (g3 i a hi).2 fun y hy e=> ?_⟩⟩
     subst e
     obtain ⟨v,hv, -, -⟩:=cellAt h.mem h1 hi h2
     have Jb:v=us.getD i undef:=by
      have hlt:i<us.size:=Nat.lt_of_lt_of_le (List.getElem?_eq_some_iff.1 hi).1 g2
      rw [cz g1,Array.getElem?_eq_getElem hlt] at hv
      simp [Array.getD_eq_getD_getElem?,Array.getElem?_eq_getElem hlt,Option.some.inj hv]
     have:blk γ e ah ts w (.cell s' i) y:=⟨ds,a,x,h1,hi,h2,by rw [hv,Jb];exact hy⟩
     have:=h.dD _ _ _ this rF
     cases this
 · by_cases Mt:x=b
   · subst Mt;exact ⟨vs,ty.1,ty.2,hh,by rw [c0];exact List.take_prefix _ _⟩
   · rw [c1 x Mt] at hx ⊢;exact h.mem.pn x hx
 · have hn:s'≠s:=by
    rintro rfl
    rw [di] at h1;injection h1 with h1;exact h0 h1.symm
   rw [cV s' hn] at h1
   rw [c1 x (fun e=>hn (tF s' (e▸h2)))]
   exact h.mem.lZ s' x ds h1 h0 h2
 · by_cases hn:s'=s
   · subst hn
     rw [di] at h1;injection h1 with h1;subst h1
     intro i hi;simp at hi
   · rw [cV s' hn] at h1
     exact h.mem.xq s' x ds us ty' fr h1 h2 h3
 · by_cases hn:s'=s
   · subst hn
     rw [di] at h1;injection h1 with h1;subst h1
     simp at h3
   · rw [cV s' hn] at h1
     exact h.mem.zM s' x ds T h1 h2 h3
 · rcases he t with h1|⟨h1,h2⟩
   · rw [h1]
     refine ⟨(h.env t).1.mono hpre _ (fun _ _ h=>h),mA _ _ (h.env t).2 fun y hy e=> ?_⟩
     subst e
     have:=h.dD (.tmp t) (.obj s) y hy rF
     cases this
   · have hv:=(h.env t).1
     rw [h1] at hv
     obtain ⟨ad,hv,hnc,hcase⟩:=hv.xp
     have hcase:ad=some ⟨b,0,none⟩:=by
      rcases hcase with ⟨-,h0⟩|⟨b',hb',e⟩
      · omega
      · rw [hb] at hb';injection hb' with hb';subst hb';exact e
     subst hcase
     rw [h2,hv]
     have hval:∀q,q<xs.length*k→(C' b).getD q undef=vs.getD q undef:=by
      intro q hq
      rw [c0]
      simp [List.getD_eq_getElem?_getD,Array.getD_eq_getD_getElem?,List.getElem?_take_of_lt hq]
     have pF:∀q a,(fla xs)[q]? =some a→VR C γ a (vs.getD q undef):=by
      intro q a hq
      refine (hcell q a ?_).1
      rw [mC,List.getElem?_append_left (List.getElem?_eq_some_iff.1 hq).1];exact hq
     have hfl:=oh hk
     refine ⟨.sl _ _ _ _ _ _ _ _ rfl hnc (fun i a hi=>(hk i a hi).1) (by omega) (fun q _ hq=> ?_) (fun i a hi j y hj=> ?_),by simp [TC]⟩
     · rw [Nat.zero_add] at hq
       rw [hval q hq]
       have UQ:(fla xs)[q]? =some ((fla xs)[q]'(by omega)):=List.getElem?_eq_getElem (by omega)
       have h3:=pF q _ UQ
       have h4:=(FH hk q _ UQ).2.2
       exact VR.one' h3 h4
     · have hlt':i<xs.length:=(List.getElem?_eq_some_iff.1 hi).1
       have I2:j<k:=by rw [←(hk i a hi).1];exact (List.getElem?_eq_some_iff.1 hj).1
       have hm:(i+1)*k≤xs.length*k:=Nat.mul_le_mul_right _ hlt'
       rw [Nat.succ_mul] at hm
       rw [Nat.zero_add,hval _ (by omega)]
       have hg:=Mv hk i j a hi I2
       rw [List.getElem?_map,hj] at hg
       have h3:=pF _ _ hg
       have hnp:=vu (hk i a hi).2.2.1 hj
       have h4:VR C [] y.s1 (vs.getD (i*k+j) undef):=h3.np (FH hk _ _ hg).2.1
       have h5:VR C' [] y.s1 (vs.getD (i*k+j) undef):=h4.mono hpre [] (fun _ _ h=>h)
       cases y with
       |sl t k xs=>exact h5.kR _
       |dy=>cases hnp
       |dn=>cases hnp
       |_=>exact h5
 · rcases he t with h1|⟨h1,h2⟩
   · have hf:=h.fr t l k xs (by rw [←h1];exact ht)
     cases l with
     |tmp u=>
      refine ⟨hf.1,fun hu=>hf.2 ?_⟩
      rcases he u with g1|⟨g1,g2⟩
      · rwa [g1] at hu
      · rw [g2] at hu;cases hu
     |cell s' o=>
      intro ds a x g1 g2 g3 g4
      by_cases hn:s'=s
      · subst hn;rw [di] at g1;injection g1 with g1;subst g1;simp at g2
      · rw [cV s' hn] at g1;exact hf ds a x g1 g2 g3 g4
   · rw [h2] at ht;cases ht
end
end Go.Am
namespace Go.Am
open Go
variable [Tabs]
section
variable {P:Program} {L:List Nat} {N n0:Nat} {e e':Env} {ah:AH} {K:Exit→Env→AH→Prop}
inductive FG (s k c:Nat) (xs:List AV):Env→Env→Prop
 |nil:FG s k c xs [] []
 |same (i:Nat) (a:AV) (r r':Env):FG s k c xs r r'→FG s k c xs ((i,a)::r) ((i,a)::r')
 |lay (i n:Nat) (r r':Env):n=xs.length→FG s k c xs r r'→FG s k c xs ((i, .cr s k n c)::r) ((i, .sl .n k xs)::r')
theorem FG.get {s k c:Nat} {xs:List AV} {e e':Env} (h:FG s k c xs e e') (t:Nat):Am.get e' t=Am.get e t∨(Am.get e t= .cr s k xs.length c∧Am.get e' t= .sl .n k xs):=by
 induction h with
 |nil=>exact .inl rfl
 |same i a r r' _ ih=>
  simp only [Am.get]
  by_cases hi:i=t
  · simp [hi]
  · simpa [hi] using ih
 |lay i n r r' hn _ ih=>
  simp only [Am.get]
  by_cases hi:i=t
  · exact .inr ⟨by simp [hi,hn],by simp [hi]⟩
  · simpa [hi] using ih
theorem AX.Mx {c0:av} {s k n1 c:Nat} {xs:List AV} (hkp:0<k) (hk:EK k xs) (hG:GF k n1 s xs c ah) (he:FG s k c xs e e')
 (h:∀H',(∀s',s'<n1∨(0<c→s'≠s)→H'[s']? =ah[s']?)→H'.length=ah.length→AX P L N n0 c0 K e' H'):AX P L N n0 c0 K e ah:=by
 intro c' ck F γ C ts w lS hn
 obtain ⟨C',h1,h2⟩:=lS.Mx hkp hk hG he.get
 have hsame:∀s',s'<n1∨(0<c→s'≠s)→(if c=0 then ah else ah.set s [])[s']? =ah[s']? :=by
  intro s' hs'
  rcases hG with ⟨rfl, -⟩|⟨g1,g2, -, -⟩
  · rw [if_pos rfl]
  · rw [if_neg (by omega),List.getElem?_set_ne]
    rcases hs' with h|h
    · omega
    · exact Ne.symm (h g2)
 refine wp_mono (h _ hsame (by split<;>simp) c' ck F γ C' ts w h1 hn) ?_
 rintro x a w' ⟨q1,q2,e2,rG,γ2,C2,q3,q4,q5,q6⟩
 exact ⟨q1,q2,e2,rG,γ2,C2,q3,q4,q5,h2.trans q6⟩
end
end Go.Am
namespace Go.Am
open Go
variable [Tabs]
def EF {α:Type} (k:Nat) (f:α→AV):Prop:=∀x,(f x).cells.length=k∧bU (f x).cells=true∧gz (f x).cells=true∧bP (f x).cells=true
section
variable {α:Type} {f:α→AV} {k c j o n q:Nat} {X:List α} {x x':α} {w:AV} {ah:AH}
theorem yD (h:X[j]? =some x):(ml f X)[j]? =some (f x):=by simp [ml,h]
theorem QS:(ml f X).set j (f x')=ml f (X.set j x'):=by simp [ml,List.map_set]
theorem IB (he:EF k f) (h:X[j]? =some x) (ho:o<k):(j4 k (ml f X) c)[j*k+o]? =((f x).cells.map AV.s1)[o]? :=Xa (EK.ml he X) (yD h) ho
theorem acC (he:EF k f) (h:X[j]? =some x) (ho:0<k):(j4 k (ml f X) c)[j*k]? =((f x).cells.map AV.s1)[0]? :=IB (o:=0) he h ho
theorem FI (he:EF k f) (h:X[j]? =some x) (ho:o<k) (hw:(f x').cells.map AV.s1=((f x).cells.map AV.s1).set o w):over (j4 k (ml f X) c) (j*k+o) [w]=some (j4 k (ml f (X.set j x')) c):=by
 rw [TA (EK.ml he X) (yD h) ho hw,QS]
theorem aaL (he:EF k f) (h:X[j]? =some x) (ho:0<k) (hw:(f x').cells.map AV.s1=((f x).cells.map AV.s1).set 0 w):over (j4 k (ml f X) c) (j*k) [w]=some (j4 k (ml f (X.set j x')) c):=FI (o:=0) he h ho hw
theorem GF.Xc (h:GF k n q (ml f X) c ah) (hj:X[j]? =some x):GF k n q (ml f (X.set j x')) c (ah.set q (j4 k (ml f (X.set j x')) c)):=by
 have:=h.set (a':=f x') (yD hj)
 rwa [QS] at this
theorem GF.atM (h:GF k n q (ml f X) c ah) (hj:X[j]? =some x):ah[q]? =some (j4 k (ml f X) c):=(h.at (yD hj)).2
theorem GF.geM (h:GF k n q (ml f X) c ah) (hj:X[j]? =some x):n≤q:=(h.at (yD hj)).1
end
theorem Fr.grow {H0 H H':AH} {S:List Nat} {n q c:Nat} (h:Fr H0 n S H) (hs:∀s,s<H.length→s<n∨(0<c→s≠q)→H'[s]? =H[s]?) (hl:H.length≤H'.length):Fr H0 n S H':=
 ⟨Nat.le_trans h.le hl,fun j hj FE=>(hs j (Nat.lt_of_lt_of_le hj h.le) (.inl hj)).trans (h.eq j hj FE)⟩
theorem Fr.lay {H0 H H':AH} {S:List Nat} {n q c:Nat} (h:Fr H0 n S H) (hs:∀s,s<n∨(0<c→s≠q)→H'[s]? =H[s]?) (hl:H'.length=H.length):Fr H0 n S H':=
 ⟨by rw [hl];exact h.le,fun j hj FE=>(hs j (.inl hj)).trans (h.eq j hj FE)⟩
end Go.Am
end
section
namespace Go.Am
open Go
variable [Tabs]
theorem aer {e:Env} {n:Nat}:ev e (.t n)=Am.get e n:=rfl
theorem aes {e:Env} {a:AV}:ev e (.c a)=a:=rfl
theorem Xd {e:Env} {n:Int}:bI e n none= .int .i64 n:=rfl
theorem Xe {e:Env} {n:Int} {x:Ar}:bI e n (some x)=ev e x:=rfl
def WU:=And.intro @aa5<|And.intro @YY<|And.intro @aa6<|And.intro @YZ<|And.intro @aa7<|And.intro @aa8<|And.intro @adv<|And.intro @Y0<|And.intro @aa9<|And.intro @Y1<|And.intro @Y2<|And.intro @Vc<|And.intro @Vd<|And.intro @Ve<|And.intro @Rt<|And.intro @Ru<|And.intro @NN<|And.intro @aba<|And.intro @Vf<|And.intro @Rv<|And.intro @Vg<|And.intro @Rx<|And.intro @abb<|And.intro @Y8<|And.intro @Y9<|And.intro @Ry<|And.intro @Za<|And.intro @adA<|And.intro @abe<|And.intro @Zb<|And.intro @Vh<|And.intro @abf<|And.intro @Vi<|And.intro @abg<|And.intro @Vk<|And.intro @Vj<|And.intro @abz<|And.intro @abh<|And.intro @abi<|And.intro @QN<|And.intro @adB<|And.intro @W5<|And.intro @aaK<|And.intro @abj<|And.intro @adC<|And.intro @adD<|And.intro @abk<|And.intro @adE<|And.intro @abl<|And.intro @abm<|And.intro @abn<|And.intro @abo<|And.intro @Zg<|And.intro @abt<|And.intro @abu<|And.intro @W4<|And.intro @W0<|And.intro @QM<|And.intro @abx<|And.intro @Zh<|@Zi
def WV:=And.intro @aer<|And.intro @aes<|And.intro @QF<|And.intro @QG<|And.intro @Zk<|And.intro @Zl<|And.intro @Vv<|And.intro @Zm<|And.intro @Vw<|And.intro @Zn<|And.intro @Vx<|And.intro @Xd<|And.intro @Xe<|And.intro @Vy<|And.intro @Vz<|And.intro @abA<|And.intro @abB<|And.intro @VA<|And.intro @VB<|And.intro @aaD<|And.intro @VC<|And.intro @VD<|And.intro @VE<|And.intro @VF<|And.intro @VG<|And.intro @VH<|And.intro @VI<|And.intro @abC<|And.intro @abD<|And.intro @abE<|And.intro @abF<|And.intro @abG<|And.intro @abH<|And.intro @adM<|And.intro @abI<|And.intro @abJ<|And.intro @abK<|And.intro @abL<|And.intro @abM<|And.intro @abN<|And.intro @abO<|And.intro @abP<|And.intro @adN<|And.intro @adO<|And.intro @adP<|And.intro @adQ<|And.intro @abQ<|And.intro @abR<|And.intro @abS<|And.intro @abT<|And.intro @abU<|And.intro @abV<|And.intro @adR<|And.intro @adS<|And.intro @adT<|And.intro @abW<|And.intro @abX<|And.intro @abY<|And.intro @NT<|And.intro @Jr<|And.intro @DU<|And.intro @Q_i<|And.intro @Q_s<|And.intro @Q_b<|And.intro @Q_n<|And.intro @adV<|And.intro @adW<|And.intro @adX<|And.intro @adY<|And.intro @QJ<|And.intro @abZ<|And.intro @ab0<|And.intro @ab1<|And.intro @QE<|And.intro @Jn<|And.intro @LD<|And.intro @yC<|And.intro @ab2<|And.intro @zo<|And.intro @zp<|And.intro @abv<|And.intro @abw<|And.intro @fM<|@fN
theorem AX.Xf {P:Program} {L:List Nat} {N n0:Nat} {K:Exit→Env→AH→Prop} {e:Env} {ah:AH} {m c:av} (hm:erase m=c) (ho:rH N c=true) (h:U P L N n0 [.code m] K .normal e ah):AX P L N n0 c K e ah:=by
 subst hm
 exact fun c' ck=>pV c' m _ e ah ck ho h
theorem Wx.acD {a b:Bool} (h:a=b):Wx (.bool a) (.bool b):=by subst h;exact Wx.bool
theorem Wx.aet {k:IntKind} {a b:Int} (h:a=b):Wx (.int k a) (.int k b):=by subst h;exact Wx.int
theorem Wx.af4 {a b:List UInt8} (h:a=b):Wx (.str a) (.str b):=by subst h;exact Wx.str
theorem gr.af5 {ah:AH} {q:Nat} {cs:List AV} (hq:ah[q]? =some cs):gr ah (ah.set q cs):=by
 rw [RC hq];exact gr.refl _
theorem afK {α:Type} {f:α→AV} {xs:List α} {i:Int} {x:α} (h:idx xs i=some x):idx (ml f xs) i=some (f x):=by rw [QE,h];rfl
theorem CM {α:Type} {f:α→AV} {xs ys:List α} {i j:Int} (h:sub xs i j=some ys):sub (ml f xs) i j=some (ml f ys):=by rw [Jn,h];rfl
theorem afj {α:Type} {f:α→AV} {xs ys:List α} {i j m:Int} (h:DV xs i j m=some ys):DV (ml f xs) i j m=some (ml f ys):=by rw [LD,h];rfl
end Go.Am
namespace Go.Am
open Go
variable [Tabs]
section
variable {P:Program} {L:List Nat} {N n0:Nat} {e:Env} {ah:AH} {t:List It} {Q:Exit→Env→AH→Prop} {r:List aM}
theorem aeu {a b:av} {B:Bool} (h:B=true) (hk:U P L N n0 (.code a::t) Q .normal e ah):UC P L N n0 a b t Q e ah (.bool B):=by subst h;exact hk
theorem aew {a b:av} {B:Bool} (h:B=false) (hk:U P L N n0 (.code b::t) Q .normal e ah):UC P L N n0 a b t Q e ah (.bool B):=by subst h;exact hk
theorem afL {o:aM} {B want:Bool} (h:B=want) (hk:UG P L N n0 o r t Q e ah (some true)):UG P L N n0 o r t Q e ah (some (B==want)):=by subst h;simpa using hk
theorem Xg {o:aM} {B want:Bool} (h:B= !want) (hk:U P L N n0 (.ops r::t) Q .normal (qc e o.d) ah):UG P L N n0 o r t Q e ah (some (B==want)):=by
 subst h;cases want<;>exact hk
theorem afM {o:aM} {B:Bool} (h:B=false) (hk:U P L N n0 (.ops r::t) Q .normal (qc e o.d) ah):UG P L N n0 o r t Q e ah (some (B==true)):=Xg h hk
theorem afN {o:aM} {B:Bool} (h:B=true) (hk:U P L N n0 (.ops r::t) Q .normal (qc e o.d) ah):UG P L N n0 o r t Q e ah (some (B==false)):=Xg h hk
end
theorem afk (B:Bool):B=true∨B=false:=by cases B<;>simp
theorem bq1:(true==true)=true:=rfl
theorem bq2:(true==false)=false:=rfl
theorem bq3:(false==true)=false:=rfl
theorem bq4:(false==false)=true:=rfl
def WB:=And.intro @bq1<|And.intro @bq2<|And.intro @bq3<|And.intro @bq4<|And.intro @Bool.and_true<|And.intro @Bool.true_and<|And.intro @Bool.and_false<|And.intro @Bool.false_and<|And.intro @Bool.or_true<|And.intro @Bool.true_or<|And.intro @Bool.or_false<|And.intro @Bool.false_or<|And.intro @Bool.not_true<|And.intro @Bool.not_false<|And.intro @decide_true<|And.intro @decide_false<|And.intro @and_true<|And.intro @true_and<|And.intro @and_self<|And.intro @and_false<|And.intro @false_and<|And.intro @Nat.zero_add<|And.intro @Nat.add_zero<|And.intro @Nat.succ_ne_zero<|And.intro @Nat.lt_irrefl<|And.intro @Bool.false_eq_true<|And.intro @List.contains_cons.{0}<|And.intro @List.contains_nil.{0}<|And.intro @List.take_succ_cons.{0}<|And.intro @List.take_zero.{0}<|And.intro @List.drop_succ_cons.{0}<|And.intro @List.drop_zero.{0}<|And.intro @List.length_cons.{0}<|And.intro @List.length_nil.{0}<|And.intro @List.getElem?_cons_zero.{0}<|And.intro @List.getElem?_cons_succ.{0}<|And.intro @List.getElem?_nil.{0}<|And.intro @List.cons_append.{0}<|And.intro @List.nil_append.{0}<|And.intro @List.append_nil.{0}<|And.intro @List.all_cons.{0}<|And.intro @List.all_nil.{0}<|And.intro @List.set_cons_zero.{0}<|And.intro @List.set_cons_succ.{0}<|And.intro @List.isEmpty_cons.{0}<|And.intro @List.isEmpty_nil.{0}<|And.intro @List.map_cons.{0,0}<|And.intro @List.map_nil.{0,0}<|And.intro @Option.map_some.{0,0}<|And.intro @Option.map_none.{0,0}<|@Option.bind_some.{0,0}
end Go.Am
namespace Go.Am
open Go
variable [Tabs]
section
variable {P:Program} {e':Env} {H0 H':AH} {rs:List ResultVar} {vs:List AV} {r':AV} {R:AV→AH→Prop}
theorem aI (hcl:nt H0.length H0) (hr:gX P e' H0 rs=some vs) (hc:Cl H0.length (fin vs)) (hw:Wx (fin vs) r') (hR:R r' H0):xG P H0 rs R e' H0:=
 ⟨vs,r',H0,hr,hw,hR, .inl ⟨hc,by rw [List.take_length];exact hcl,Nat.le_refl _,by rw [List.take_length];exact gr.refl _⟩⟩
theorem bE (hf:Fr H0 H0.length [] H') (hcl:nt H0.length H0) (hr:gX P e' H' rs=some vs) (hc:Cl H0.length (fin vs)) (hw:Wx (fin vs) r') (hR:R r' H0):xG P H0 rs R e' H':=
 ⟨vs,r',H0,hr,hw,hR, .inl ⟨hc,by rw [hf.aaH];exact hcl,hf.le,by rw [hf.aaH];exact gr.refl _⟩⟩
theorem aex (hr:gX P e' H' rs=some vs) (hw:Wx (fin vs) r') {aE:AH} (hh:gr H' aE) (hR:R r' aE):xG P H0 rs R e' H':=
 ⟨vs,r',aE,hr,hw,hR, .inr hh⟩
theorem jK {s:Nat} {c c':List AV} (hf:Fr H0 H0.length [s] H') (hcl:nt H0.length H0) (hr:gX P e' H' rs=some vs) (hc:Cl H0.length (fin vs)) (hw:Wx (fin vs) r')
 (hs:H'[s]? =some c) (hl:s<H0.length) (PF:∀a∈c,Cl H0.length a) (hwc:wU c c') (hR:R r' (H0.set s c')):xG P H0 rs R e' H':=by
 refine ⟨vs,r',H0.set s c',hr,hw,hR, .inl ⟨hc,by rw [hf.aaI hs hl];exact hcl.set PF,hf.le, ?_⟩⟩
 rw [hf.aaI hs hl]
 have:=gr.set (ah:=H0.set s c) (q:=s) (cs':=c') (h_eq hl) hwc
 rwa [List.set_set] at this
theorem gr.trans {a b c:AH} (h1:gr a b) (h2:∀(s:Nat) (cs':List AV),c[s]? =some cs'→∃cs,b[s]? =some cs∧(cs'=cs∨(wU cs cs'∧a[s]? =some cs))) (hl:c.length=b.length):gr a c:=by
 refine ⟨by rw [hl,h1.1],fun s cs' hs=> ?_⟩
 obtain ⟨cs,hb,rfl|⟨hw,ha⟩⟩:=h2 s cs' hs
 · exact h1.2 s _ hb
 · exact ⟨cs,ha, .inr hw⟩
theorem gr.aey {ah:AH} {q q2:Nat} {cs cs' ds ds':List AV} (hne:q≠q2) (hq:ah[q]? =some cs) (hc:wU cs cs') (Ho:ah[q2]? =some ds) (hd:wU ds ds'):gr ah ((ah.set q cs').set q2 ds'):=by
 refine gr.trans (gr.set hq hc) (fun s es hs=> ?_) (by simp)
 rw [List.getElem?_set] at hs
 split at hs
 · rename_i h;subst h
   split at hs
   · injection hs with hs;subst hs
     exact ⟨ds,by rw [List.getElem?_set_ne hne];exact Ho, .inr ⟨hd,Ho⟩⟩
   · cases hs
 · exact ⟨es,hs, .inl rfl⟩
theorem aez {s s2:Nat} {c c' d d':List AV} (hf:Fr H0 H0.length [s,s2] H') (hcl:nt H0.length H0) (hr:gX P e' H' rs=some vs) (hc:Cl H0.length (fin vs)) (hw:Wx (fin vs) r')
 (hs:H'[s]? =some c) (hl:s<H0.length) (PF:∀a∈c,Cl H0.length a) (hwc:wU c c') (hs2:H'[s2]? =some d) (Ec:s2<H0.length) (aeA:∀a∈d,Cl H0.length a) (aeB:wU d d') (hne:s≠s2)
 (hR:R r' ((H0.set s c').set s2 d')):xG P H0 rs R e' H':=by
 refine ⟨vs,r',(H0.set s c').set s2 d',hr,hw,hR, .inl ⟨hc,by rw [hf.aaJ hs hs2 hl Ec hne];exact (hcl.set PF).set aeA,hf.le, ?_⟩⟩
 rw [hf.aaJ hs hs2 hl Ec hne]
 have:=gr.aey (ah:=(H0.set s c).set s2 d) (q:=s) (q2:=s2) (cs:=c) (cs':=c') (ds:=d) (ds':=d') hne (by rw [List.getElem?_set_ne (Ne.symm hne)];exact h_eq hl) hwc (h_eq (by simpa using Ec)) aeB
 have e1:(((H0.set s c).set s2 d).set s c').set s2 d'=(H0.set s c').set s2 d':=by
  rw [List.set_comm d c' (Ne.symm hne),List.set_set,List.set_set]
 rwa [e1] at this
end
theorem Fr.trans {ah H H':AH} {n0:Nat} {S S2:List Nat} (h:Fr ah n0 S H) (h2:Fr H H.length S2 H') (hs:∀s∈S2,s∈S∨n0≤s):Fr ah n0 S H':=by
 have h3:=h.le
 refine ⟨Nat.le_trans h.le h2.le,fun j hj FE=> ?_⟩
 rw [h2.eq j (by omega),h.eq j hj FE]
 intro hm
 rcases hs j hm with h4|h4
 · exact FE h4
 · omega
end Go.Am
namespace Go.Am
open Go
variable [Tabs]
theorem aaM {P:Program} {L:List Nat} {N n0:Nat} {e:Env} {ah:AH} {t:List It} {Q:Exit→Env→AH→Prop} {r:List aM} {d:Option Nat} {f:Nat} {zq zq':List AV} {cc HE:AH} {V:AV}
 (h:aA P f zq' cc fun v H'=>v=V∧H'=HE) (hw:WL zq zq') (hh:gr ah cc) (hk:U P L N n0 (.ops r::t) Q .normal (aF L (xC e) d V.df) HE):UK P L N n0 f zq d r t Q e ah:=by
 refine aaC h hw hh ?_
 rintro _ _ ⟨rfl,rfl⟩
 exact hk
end Go.Am
namespace Go.Am
open Go
variable [Tabs]
def WW:=And.intro WG<|And.intro WM<|And.intro WU<|And.intro WV<|And.intro WB<|And.intro WA0<|And.intro WA1<|And.intro WA2<|And.intro WA3<|And.intro WA4<|And.intro WA5 WA6
def WH:=And.intro @h_eq<|And.intro @aaG<|And.intro @VO @QK
theorem tg1:Tg.sh .ex= .ex:=rfl
theorem Zo:Tg.sh .own= .n:=rfl
theorem tg3:Tg.sh .n= .n:=rfl
end Go.Am
end
section
namespace Go.Am
open Go
variable [Tabs]
theorem SR.DW {L:List Nat} {N:Nat} {F:Nat→Prop} {γ:List Nat} {C:Nat→List Value} {e:Env} {ah:AH} {ts:Array Value} {w:World} (h:SR L N F γ C e ah ts w) {r:AV} {v:Value} (hv:VR C γ r v) (ht:TC w C r v)
 (ho:r.bY=false) (hf:∀l k xs,r≠ .sl (.fr l) k xs):SR [] 1 F γ C [(0,r)] ah #[v] w:=by
 have hbk:∀p b,blk γ [(0,r)] ah #[v] w p b→blk γ e ah ts w p b∧∀t,p≠ .tmp t:=by
  intro p b hp
  cases p with
  |obj s=>exact ⟨hp,by simp⟩
  |cell s i=>exact ⟨hp,by simp⟩
  |tmp t=>
   simp only [blk,get] at hp
   split at hp
   · rename_i h0;subst h0;rw [jr _ ho] at hp;cases hp
   · simp [bG] at hp
 refine ⟨h.mem,rfl,fun t=> ?_,fun p q b hp hq=>h.dD p q b (hbk p b hp).1 (hbk q b hq).1,fun p b hp=>h.nf p b (hbk p b hp).1,h.iT,fun t l k xs htl=> ?_⟩
 · by_cases h0:0=t
   · subst h0;simp only [get,if_true];exact ⟨hv,ht⟩
   · simp only [get,if_neg h0];exact ⟨.un ..,by generalize (#[v]:Array Value).getD t undef=u;cases u<;>trivial⟩
 · simp only [get] at htl
   split at htl
   · exact absurd htl (hf l k xs)
   · cases htl
theorem aA.Z3 {P:Program} {f:Nat} {args:List AV} {ah:AH} {l:List UInt8} (hc:fW P f=true)
 (h:∀(F:Nat→Prop) (C:Nat→List Value) (γ:List Nat) (w:World) (vs:Array Value),FL F w→vs.size=args.length→(∀(i:Nat) (a:AV),args[i]? =some a→VR C γ a (vs.getD i undef))→
  Calls P f vs w fun en w'=>en= .returned (.string ⟨l.toArray⟩)∧(∀b,b<w.heap.size→w'.heap[b]? =w.heap[b]?)∧w.heap.size≤w'.heap.size∧jH w w'):
 aA P f args ah fun r aE=>r= .str l∧aE=ah:=by
 refine ⟨hc,fun F γ C w vs hs=> ?_⟩
 refine (h F C γ w vs hs.iT hs.sz fun i a hi=> ?_).mono ?_
 · have:=(hs.env i).1
   rw [dH] at this
   simpa [hi] using this
 · rintro en w' ⟨rfl,h1,h2,h3⟩
   have hg:=hs.grow (C':=C) h1 h2 (fun _ _=>rfl) (fun b hb hne=>by
    exfalso
    obtain ⟨vs',ty,fr,hh, -⟩:=hs.mem.pn b hne
    have:b<w.heap.size:=by
     rcases Nat.lt_or_ge b w.heap.size with h4|h4
     · exact h4
     · rw [Array.getElem?_eq_none h4] at hh;cases hh
    omega) h3
   exact ⟨.str l, .string ⟨l.toArray⟩,ah,γ,C,rfl,⟨rfl,rfl⟩,List.prefix_refl _,hg.1.DW (.str ..) (by simp [TC]) rfl (by simp),hg.2⟩
theorem aA.Xh {P:Program} {f:Nat} {args:List AV} {ah:AH} {r:AV} (ho:r.bY=false) (hf:∀l k xs,r≠ .sl (.fr l) k xs) (hc:fW P f=true)
 (h:∀(F:Nat→Prop) (C:Nat→List Value) (γ:List Nat) (w:World) (vs:Array Value),FL F w→vs.size=args.length→(∀(i:Nat) (a:AV),args[i]? =some a→VR C γ a (vs.getD i undef))→
  Calls P f vs w fun en w'=>∃v,en= .returned v∧VR C γ r v∧TC w' C r v∧(∀b,b<w.heap.size→w'.heap[b]? =w.heap[b]?)∧w.heap.size≤w'.heap.size∧jH w w'):
 aA P f args ah fun r' aE=>r'=r∧aE=ah:=by
 refine ⟨hc,fun F γ C w vs hs=> ?_⟩
 refine (h F C γ w vs hs.iT hs.sz fun i a hi=> ?_).mono ?_
 · have:=(hs.env i).1
   rw [dH] at this
   simpa [hi] using this
 · rintro en w' ⟨v,rfl,hv,ht,h1,h2,h3⟩
   have hg:=hs.grow (C':=C) h1 h2 (fun _ _=>rfl) (fun b hb hne=>by
    exfalso
    obtain ⟨vs',ty,fr,hh, -⟩:=hs.mem.pn b hne
    have:b<w.heap.size:=by
     rcases Nat.lt_or_ge b w.heap.size with h4|h4
     · exact h4
     · rw [Array.getElem?_eq_none h4] at hh;cases hh
    omega) h3
   exact ⟨r,v,ah,γ,C,rfl,⟨rfl,rfl⟩,List.prefix_refl _,hg.1.DW hv ht ho hf,hg.2⟩
theorem aA.Xi {P:Program} {f:Nat} {args:List AV} {ah:AH} {ps:List (List UInt8)} (hc:fW P f=true)
 (h:∀(F:Nat→Prop) (C:Nat→List Value) (γ:List Nat) (w:World) (vs:Array Value),FL F w→vs.size=args.length→(∀(i:Nat) (a:AV),args[i]? =some a→VR C γ a (vs.getD i undef))→
  Calls P f vs w fun en w'=>∃t fr,en= .returned (.slice (some ⟨w.heap.size,0,none⟩) ps.length ps.length)∧w'=w.alloc (.cells (ps.map fun l=>Value.string ⟨l.toArray⟩).toArray t fr)∧fr.2≤fr.1):
 aA P f args ah fun r' aE=>r'= .sl .n 1 (ml .str ps)∧aE=ah:=by
 refine ⟨hc,fun F γ C w vs hs=> ?_⟩
 refine (h F C γ w vs hs.iT hs.sz fun i a hi=> ?_).mono ?_
 · have:=(hs.env i).1
   rw [dH] at this
   simpa [hi] using this
 · rintro en w' ⟨t,fr,rfl,rfl,hfr⟩
   obtain ⟨C', -,he,hg,hv⟩:=xz (w':=w.alloc (.cells (ps.map fun l=>Value.string ⟨l.toArray⟩).toArray t fr)) (ds:=[]) hs (d:=none) (by simp) (cs:=(ps.map fun l=>Value.string ⟨l.toArray⟩).toArray) (t:=t) (fr:=fr)
    (Eb:=ps.map fun l=>Value.string ⟨l.toArray⟩) (xs:=ml .str ps) (k:=1) (n:=ps.length) (c:=ps.length)
    (fun b hb=>by show (w.heap.push _)[b]? =_;rw [Array.getElem?_push_lt hb,Array.getElem?_eq_getElem hb]) (by show (w.heap.push _).size=_;simp) (by show (w.heap.push _)[w.heap.size]? =_;simp)
    (by simp) (by simp only [List.mem_map];rintro v ⟨l, -,rfl⟩;rfl) (by simp) (by simp [ml]) (Nat.le_refl _) (by simp) (by intro i _;omega)
    (by intro i a hi;simp only [ml,List.getElem?_map,Option.map_eq_some_iff] at hi;obtain ⟨l, -,rfl⟩:=hi;rfl)
    (by
     intro i a hi j y hj
     simp only [ml,List.getElem?_map,Option.map_eq_some_iff] at hi
     obtain ⟨l,hl,rfl⟩:=hi
     cases j with
     |succ j=>simp [AV.cells] at hj
     |zero=>
      simp only [AV.cells,List.getElem?_cons_zero,Option.some.injEq] at hj
      subst hj
      simp only [Nat.mul_one,Nat.add_zero,List.getD_eq_getElem?_getD,List.getElem?_map,hl,Option.map_some,Option.getD_some]
      exact .str ..)
   exact ⟨.sl .n 1 (ml .str ps),_,ah,γ,C',rfl,⟨rfl,rfl⟩,List.prefix_refl _,hg.DW (hv.kR _) (by simp [TC]) rfl (by simp),he⟩
theorem My {P:Program} {f:Nat} {ah:AH} (n:Int) (hc:fW P f=true) (htab:∀F w,FL F w→Lib.TabIs P w "internal/strconv.uint64pow10" .u64 Lib.pow10Tab)
 (aeC:∀w,Lib.TabIs P w "internal/strconv.uint64pow10" .u64 Lib.pow10Tab→Calls P f #[.int .i64 n] w fun e w'=>e= .returned (.string ⟨(Lib.itoa n).toArray⟩)∧∃k os,w'=Go.Sort.grow (w.drewN k) os):
 aA P f [.int .i64 n] ah fun r aE=>r= .str (Lib.itoa n)∧aE=ah:=by
 refine aA.Z3 hc fun F C γ w vs hF hl hv=> ?_
 have h0:=(hv 0 _ rfl).dh
 have hvs:vs= #[.int .i64 n]:=by
  apply Array.ext
  · simpa using hl
  · intro i h1 h2
    simp at h2;subst h2
    simpa [Array.getD_eq_getD_getElem?,Array.getElem?_eq_getElem h1] using h0
 subst hvs
 refine (aeC w (htab F w hF)).mono ?_
 rintro e w' ⟨rfl,k,os,rfl⟩
 refine ⟨rfl,fun b hb=> ?_, ?_,rfl,rfl,rfl⟩
 · show (w.heap++os)[b]? =_
   rw [Array.getElem?_append_left hb]
 · show w.heap.size≤(w.heap++os).size
   simp
theorem TB {P:Program} {w:World} {F:Nat→Prop} {name:String} {k:IntKind} {zs:List Int} {g:Nat} (hF:FL F w) (hm:(g,fun cs=>cs=(zs.map fun z=>Value.int k z).toArray)∈Tabs.l) (hg:P.globalNamed name=some g):Lib.TabIs P w name k zs:=by
 obtain ⟨-,cs,ty,fr,h,hcs⟩:=hF.K5 _ hm
 simp only at h hcs
 subst hcs
 unfold Lib.TabIs World.var?
 rw [hg]
 simp [h]
end Go.Am
end
section
namespace Go.Am
open Go
variable [Tabs]
def AV.By:AV→Bool
 | .int _ _| .bool _| .str _| .v _=>true
 |_=>false
def J1:List AV→Bool
 |[]=>true
 |a::r=>a.By&&J1 r
def AV.J2:AV→Bool
 | .agg cs=>J1 cs
 |a=>a.By
def E4:List AV→Bool
 |[]=>true
 |a::r=>a.J2&&E4 r
def AV.Hx:AV→Bool
 | .bz cs=>E4 cs
 |a=>a.J2
theorem vz {l:List AV} (h:J1 l=true) {i:Nat} {a:AV} (hi:l[i]? =some a):a.By=true:=by
 induction l generalizing i with
 |nil=>simp at hi
 |cons b r ih=>
  simp only [J1,Bool.and_eq_true] at h
  cases i with
  |zero=>simp at hi;subst hi;exact h.1
  |succ i=>exact ih h.2 (by simpa using hi)
theorem DX {l:List AV} (h:E4 l=true) {i:Nat} {a:AV} (hi:l[i]? =some a):a.J2=true:=by
 induction l generalizing i with
 |nil=>simp at hi
 |cons b r ih=>
  simp only [E4,Bool.and_eq_true] at h
  cases i with
  |zero=>simp at hi;subst hi;exact h.1
  |succ i=>exact ih h.2 (by simpa using hi)
theorem VR.By {C C':Nat→List Value} {γ γ':List Nat} {a:AV} {v:Value} (h:VR C γ a v) (hs:a.By=true):VR C' γ' a v:=by
 cases h with
 |v _ _ hv=>exact .v _ _ hv
 |int=>exact .int ..
 |bool=>exact .bool ..
 |str=>exact .str ..
 |_=>cases hs
theorem VR.J2 {C C':Nat→List Value} {γ γ':List Nat} {a:AV} {v:Value} (h:VR C γ a v) (hs:a.J2=true):VR C' γ' a v:=by
 cases h with
 |agg _ cs vs h1 h2=>exact .agg _ _ _ h1 fun i a hi=>(h2 i a hi).By (vz hs hi)
 |v _ _ hv=>exact .v _ _ hv
 |int=>exact .int ..
 |bool=>exact .bool ..
 |str=>exact .str ..
 |_=>cases hs
theorem VR.Hx {C C':Nat→List Value} {γ γ':List Nat} {a:AV} {v:Value} (h:VR C γ a v) (hs:a.Hx=true):VR C' γ' a v:=by
 cases h with
 |bz _ cs vs h1 h2=>exact .bz _ _ _ h1 fun i a hi=>(h2 i a hi).J2 (DX hs hi)
 |agg _ cs vs h1 h2=>exact .agg _ _ _ h1 fun i a hi=>(h2 i a hi).By (vz hs hi)
 |v _ _ hv=>exact .v _ _ hv
 |int=>exact .int ..
 |bool=>exact .bool ..
 |str=>exact .str ..
 |_=>cases hs
theorem mo.By {a:AV} (hs:a.By=true) (v:Value):mo a v:=by
 cases a<;>first|(cases hs;done)|(cases v<;>trivial)
theorem I5.J2 {a:AV} (hs:a.J2=true) (v:Value):I5 a v:=by
 cases a with
 |agg cs=>cases v<;>first|trivial|exact fun i a hi=>mo.By (vz hs hi) _
 |_=>first|(cases hs;done)|(cases v<;>trivial)
theorem TC.Hx {w:World} {C:Nat→List Value} {a:AV} (hs:a.Hx=true) (v:Value):TC w C a v:=by
 cases a with
 |bz cs=>cases v<;>first|trivial|exact fun i a hi=>I5.J2 (DX hs hi) _
 |agg cs=>cases v<;>first|trivial|exact fun i a hi=>mo.By (vz hs hi) _
 |_=>first|(cases hs;done)|(cases v<;>trivial)
theorem Xj {a:AV} (hs:a.Hx=true):a.bY=false:=by
 cases a<;>first|rfl|cases hs
theorem Z4 {a:AV} (hs:a.Hx=true) (l:Loc) (k:Nat) (xs:List AV):a≠ .sl (.fr l) k xs:=by
 rintro rfl;cases hs
inductive iK (ah:AH):AV→AV→Prop
 |same (a):a.By=true→iK ah a a
 |ep (a p):Cl 0 (.ep a p)→iK ah (.ep a p) (.ep a p)
 |sl (t k xs):iK ah (.sl t k xs) (.sl .n k xs)
 |ptr (s o:Nat) (cs cs':List AV):ah[s]? =some cs→cs'.length=cs.length→(∀(i:Nat) (a a':AV),cs[i]? =some a→cs'[i]? =some a'→iK ah a a')→iK ah (.ptr s o) (.ep (.agg cs') o)
inductive PE (ah:AH):AV→AV→Prop
 |one (a a'):iK ah a a'→PE ah a a'
 |fn (f:Nat) (cs:List AV):PE ah (.fn f []) (.fn f [])
 |agg (cs cs':List AV):cs'.length=cs.length→(∀(i:Nat) (a a':AV),cs[i]? =some a→cs'[i]? =some a'→iK ah a a')→PE ah (.agg cs) (.agg cs')
def FJ (w:World) (b:Nat):List Value:=match w.heap[b]? with|some (.cells vs _ _)=>vs.toList|_=>[]
open Classical in
noncomputable def Cx (w:World) (γ:List Nat) (C:Nat→List Value):Nat→List Value:=fun b=>if b∈γ then FJ w b else C b
section
variable {L:List Nat} {N:Nat} {F:Nat→Prop} {γ:List Nat} {C:Nat→List Value} {e:Env} {ah:AH} {ts:Array Value} {w:World}
theorem QT (h:Mem γ C ah w) (b:Nat):C b <+: Cx w γ C b:=by
 unfold Cx
 split
 · rename_i hb
   by_cases hne:C b=[]
   · rw [hne];exact List.nil_prefix
   · obtain ⟨vs,ty,fr,hh,hp⟩:=h.pn b hne
     unfold FJ;rw [hh];exact hp
 · exact List.prefix_refl _
theorem QU {s b:Nat} {vs:Array Value} {ty:TypeId} {fr:Nat×Nat} (hs:γ[s]? =some b) (hb:w.heap[b]? =some (.cells vs ty fr)):Cx w γ C b=vs.toList:=by
 unfold Cx FJ
 rw [if_pos (List.mem_of_getElem? hs),hb]
theorem VR.Z5 {C:Nat→List Value} {γ:List Nat} {t:Tg} {k:Nat} {xs:List AV} {v:Value} (h:VR C γ (.sl t k xs) v) (γ':List Nat):VR C γ' (.sl .n k xs) v:=by
 cases h with
 |tC=>exact .tC ..
 |sl _ _ _ _ b o n c hn hc hk hl ho hx=>exact .sl _ _ _ _ _ _ _ _ hn hc hk hl ho hx
theorem iK.vr (hm:Mem γ C ah w) {a a':AV} (hp:iK ah a a'):∀ {v:Value},VR C γ a v→VR (Cx w γ C) [] a' v:=by
 induction hp with
 |same a hs=>intro v h;exact h.By hs
 |ep a p hc=>
  intro v h
  have h':=h.take hc
  rw [List.take_zero] at h'
  exact h'.mono (QT hm) [] (fun _ _ h=>h)
 |sl t k xs=>
  intro v h
  exact (h.Z5 []).mono (QT hm) [] (fun _ _ h=>h)
 |ptr s o cs cs' hs hl hc ih=>
  intro v h
  obtain ⟨b,hb,rfl⟩:=h.gb
  obtain ⟨vs,ty,hh,hsz,hcell⟩:=hm.obj s b cs hs hb
  have hx:Cx w γ C b=vs.toList:=QU hb hh
  suffices hS:VR (Cx w γ C) [] (.ep (.agg cs') o) (.pointer (some ⟨b,0+o,none⟩)) by rwa [Nat.zero_add] at hS
  refine VR.ep [] (.agg cs') o b 0 (by rw [hx];simpa [AV.cells,hl] using hsz) fun j a' hj=> ?_
  simp only [AV.cells] at hj
  have hlt:j<cs.length:=by rw [←hl];exact (List.getElem?_eq_some_iff.1 hj).1
  have h0:cs[j]? =some cs[j]:=List.getElem?_eq_getElem hlt
  have:=ih j _ _ h0 hj (hcell j _ h0).1
  rw [hx,Nat.zero_add]
  have e1:vs.toList.getD j undef=vs.getD j undef:=by simp [List.getD_eq_getElem?_getD,Array.getD_eq_getD_getElem?]
  rw [e1];exact this
theorem iK.flat {a a':AV} (hp:iK ah a a') (v:Value):mo a' v∧a'.plain=true:=by
 cases hp with
 |same _ hs=>exact ⟨mo.By hs v,by cases a<;>first|rfl|cases hs⟩
 |ep=>exact ⟨by cases v<;>trivial,rfl⟩
 |sl=>exact ⟨I6 ..,rfl⟩
 |ptr=>exact ⟨by cases v<;>trivial,rfl⟩
theorem PE.vr (hm:Mem γ C ah w) {a a':AV} (hp:PE ah a a') {v:Value} (h:VR C γ a v):VR (Cx w γ C) [] a' v:=by
 cases hp with
 |one _ _ h1=>exact h1.vr hm h
 |fn f cs=>
  obtain ⟨vs,rfl,h1,h2⟩:=h.Bl
  exact .fn _ _ _ _ h1 (by simp)
 |agg cs cs' hl hc=>
  obtain ⟨vs,rfl,h1,h2⟩:=h.og
  refine .agg _ _ _ (by omega) fun i a' hi=> ?_
  have hlt:i<cs.length:=by rw [←hl];exact (List.getElem?_eq_some_iff.1 hi).1
  have h0:cs[i]? =some cs[i]:=List.getElem?_eq_getElem hlt
  exact (hc i _ _ h0 hi).vr hm (h2 i _ h0)
theorem PE.tc {a a':AV} (hp:PE ah a a') {C':Nat→List Value} (v:Value):TC w C' a' v∧a'.plain=true:=by
 cases hp with
 |one _ _ h1=>
  cases h1 with
  |same _ hs=>exact ⟨by cases a<;>first|(cases hs;done)|(cases v<;>trivial),by cases a<;>first|rfl|cases hs⟩
  |ep=>exact ⟨by cases v<;>trivial,rfl⟩
  |sl=>exact ⟨by cases v<;>trivial,rfl⟩
  |ptr=>exact ⟨by cases v<;>trivial,rfl⟩
 |fn=>exact ⟨by cases v<;>trivial,rfl⟩
 |agg cs cs' hl hc=>
  refine ⟨?_,rfl⟩
  cases v with
  |agg vs=>
   intro i a' hi
   have hlt:i<cs.length:=by rw [←hl];exact (List.getElem?_eq_some_iff.1 hi).1
   exact ((hc i _ _ (List.getElem?_eq_getElem hlt) hi).flat _).1
  |_=>trivial
def nu (ah:AH):List AV→List AV→Prop
 |[],[]=>True
 |a::r,a'::r'=>PE ah a a'∧nu ah r r'
 |_,_=>False
theorem nu.len:∀ {xs ys:List AV},nu ah xs ys→ys.length=xs.length:=by
 intro xs
 induction xs with
 |nil=>intro ys h;cases ys with|nil=>rfl|cons=>exact h.elim
 |cons a r ih=>intro ys h;cases ys with|nil=>exact h.elim|cons a' r'=>simp [ih h.2]
theorem nu.get:∀ {xs ys:List AV},nu ah xs ys→∀(i:Nat) (a a':AV),xs[i]? =some a→ys[i]? =some a'→PE ah a a':=by
 intro xs
 induction xs with
 |nil=>intro ys _ i a a' h;simp at h
 |cons a r ih=>
  intro ys h i b b' h1 h2
  cases ys with
  |nil=>exact h.elim
  |cons a' r'=>
   rcases i with _|i
   · simp at h1 h2;subst h1;subst h2;exact h.1
   · exact ih h.2 i b b' (by simpa using h1) (by simpa using h2)
def oU (ah:AH):List AV→List AV→Prop
 |[],[]=>True
 |a::r,a'::r'=>iK ah a a'∧oU ah r r'
 |_,_=>False
theorem oU.len:∀ {xs ys:List AV},oU ah xs ys→ys.length=xs.length:=by
 intro xs
 induction xs with
 |nil=>intro ys h;cases ys with|nil=>rfl|cons=>exact h.elim
 |cons a r ih=>intro ys h;cases ys with|nil=>exact h.elim|cons a' r'=>simp [ih h.2]
theorem oU.get:∀ {xs ys:List AV},oU ah xs ys→∀(i:Nat) (a a':AV),xs[i]? =some a→ys[i]? =some a'→iK ah a a':=by
 intro xs
 induction xs with
 |nil=>intro ys _ i a a' h;simp at h
 |cons a r ih=>
  intro ys h i b b' h1 h2
  cases ys with
  |nil=>exact h.elim
  |cons a' r'=>
   rcases i with _|i
   · simp at h1 h2;subst h1;subst h2;exact h.1
   · exact ih h.2 i b b' (by simpa using h1) (by simpa using h2)
theorem nu.nil:nu ah [] []:=trivial
theorem nu.cons {a a':AV} {r r':List AV} (h:PE ah a a') (hr:nu ah r r'):nu ah (a::r) (a'::r'):=⟨h,hr⟩
theorem oU.nil:oU ah [] []:=trivial
theorem oU.cons {a a':AV} {r r':List AV} (h:iK ah a a') (hr:oU ah r r'):oU ah (a::r) (a'::r'):=⟨h,hr⟩
theorem iK.int {k:IntKind} {i:Int}:iK ah (.int k i) (.int k i):= .same _ rfl
theorem iK.b8 {c:UInt8}:iK ah (Am.b8 c) (Am.b8 c):= .same _ rfl
theorem iK.bool {b:Bool}:iK ah (.bool b) (.bool b):= .same _ rfl
theorem iK.str {l:List UInt8}:iK ah (.str l) (.str l):= .same _ rfl
theorem iK.v {x:Value}:iK ah (.v x) (.v x):= .same _ rfl
theorem iK.DY {s o:Nat} {cs cs':List AV} (hs:ah[s]? =some cs) (h:oU ah cs cs'):iK ah (.ptr s o) (.ep (.agg cs') o):= .ptr _ _ _ _ hs h.len h.get
theorem PE.af6 {cs cs':List AV} (h:oU ah cs cs'):PE ah (.agg cs) (.agg cs'):= .agg _ _ h.len h.get
theorem aA.ofE {P:Program} {f:Nat} {args args':List AV} {R:AV→Prop} (h:aA P f args' [] fun r aE=>R r∧aE=[]) (hp:nu ah args args') (hs:∀r,R r→r.Hx=true):
 aA P f args ah fun r aE=>R r∧aE=ah:=by
 refine ⟨h.1,fun F γ C w vs lS=> ?_⟩
 have Rn:∀(l:List AV) (t:Nat),get (fL 0 l) t=(l[t]?).getD .un:=fun l t=>by rw [dH];simp
 have QV:∀t,VR (Cx w γ C) [] (get (fL 0 args') t) (vs.getD t undef)∧TC w (Cx w γ C) (get (fL 0 args') t) (vs.getD t undef)∧(get (fL 0 args') t).plain=true:=by
  intro t
  rw [Rn]
  cases ht:args'[t]? with
  |none=>exact ⟨.un ..,by cases vs.getD t undef<;>trivial,rfl⟩
  |some a'=>
   have hlt:t<args.length:=by rw [←hp.len];exact (List.getElem?_eq_some_iff.1 ht).1
   have h0:args[t]? =some args[t]:=List.getElem?_eq_getElem hlt
   have h1:=(lS.env t).1
   rw [Rn,h0] at h1
   have hpe:=hp.get t _ _ h0 ht
   exact ⟨hpe.vr lS.mem h1,hpe.tc _⟩
 have hnb:∀p b,¬blk [] (fL 0 args') [] vs w p b:=by
  intro p b hb
  cases p with
  |obj s=>simp [blk] at hb
  |cell s i=>obtain ⟨cs,a,b0,h1, -⟩:=hb;simp at h1
  |tmp t=>simp only [blk] at hb;rw [jr _ (iH (QV t).2.2)] at hb;cases hb
 have hs0:SR [] args'.length (fun b=>b<w.heap.size) [] (Cx w γ C) (fL 0 args') [] vs w:=by
  refine ⟨⟨rfl,fun s b cs h1=>by simp at h1,fun b hne=> ?_,fun s b cs h1=>by simp at h1,fun s b cs us ty fr h1=>by simp at h1,fun s b cs T h1=>by simp at h1⟩,by rw [lS.sz,hp.len],fun t=>⟨(QV t).1,(QV t).2.1⟩,fun p q b h1=>absurd h1 (hnb p b),fun p b h1=>absurd h1 (hnb p b),
   ⟨fun b hb=>hb,fun e he=>⟨lS.iT.lt _ (lS.iT.K5 e he).1,(lS.iT.K5 e he).2⟩⟩,fun t l k xs ht=>absurd ht (yy (QV t).2.2 l k xs)⟩
  by_cases hb:b∈γ
  · obtain ⟨s,hsb⟩:=List.getElem?_of_mem hb
    have hlt:s<ah.length:=by rw [←lS.mem.len];exact (List.getElem?_eq_some_iff.1 hsb).1
    obtain ⟨xs,ty,hh, -⟩:=lS.mem.obj s b _ (List.getElem?_eq_getElem hlt) hsb
    exact ⟨xs,ty.1,ty.2,hh,by rw [QU hsb hh];exact List.prefix_refl _⟩
  · have:Cx w γ C b=C b:=by unfold Cx;rw [if_neg hb]
    rw [this] at hne ⊢
    exact lS.mem.pn b hne
 refine (h.2 _ [] (Cx w γ C) w vs hs0).mono ?_
 rintro en w' ⟨r,v,aE,γ',C'',rfl,⟨hR,rfl⟩,hγ,aeD,hx⟩
 have hold:∀b,b<w.heap.size→w'.heap[b]? =w.heap[b]? :=fun b hb=>(hx.keep b hb).1
 have hg:=lS.grow (w':=w') (C':=C) hold hx.size (fun _ _=>rfl) (fun b hb hne=>by
  exfalso
  obtain ⟨vs',ty,fr,hh, -⟩:=lS.mem.pn b hne
  exact absurd (kY hh) (by omega)) hx.out
 have hv:=(aeD.env 0).1
 simp only [get,if_true] at hv
 have hsc:=hs r hR
 exact ⟨r,v,ah,γ,C,rfl,⟨hR,rfl⟩,List.prefix_refl _,hg.1.DW (hv.Hx hsc) (TC.Hx hsc _) (Xj hsc) (Z4 hsc),hg.2⟩
end
end Go.Am
end
section
set_option maxRecDepth 100000
namespace Go.Am
open Go
open Nat renaming reduceEqDiff→nA,reduceLT→nB,reduceLeDiff→nC,reduceAdd→nD,reduceSub→nE,reduceMul→nF,reduceBEq→nG
variable [Tabs]
theorem acE {P:Program} {L:List Nat} {N n0:Nat} {e:Env} {ah:AH} {t:List It} {Q:Exit→Env→AH→Prop} {r:List aM} {d:Option Nat} {g:Option (Nat×Bool)} {n:Bool} {x:Ar} {tg:Tg} {k:Nat} {xs:List AV}
 (hx:ev e x= .sl tg k xs) (h1:xs=[]→∀b,U P L N n0 (.ops r::t) Q .normal (aF L e d (.bool b)) ah) (h2:xs≠[]→U P L N n0 (.ops r::t) Q .normal (aF L e d (.bool n)) ah):
 UG P L N n0 ⟨d, .nq n x,g⟩ r t Q e ah (some true):=by
 show E8 L d n x e ah _
 unfold E8
 rw [hx]
 exact ⟨h1,h2⟩
def yE (k b:Nat):av:= .seq (.rg [⟨some 2, .aO (.c (.sl .ex k [])),none⟩]) (.seq (.seq (.rg [⟨some 3, .mv (.t 0),none⟩,⟨some 4, .nq false (.t 3),none⟩]) (.cond (.t 4) (.seq (.rg [⟨some 2, .aO (.c (.sl .ex k [])),none⟩]) .ret) .skip))
 (.seq (.rg [⟨some 5, .gA k [],none⟩,⟨some 6, .mv (.t 0),none⟩,⟨some 7, .app k b (.t 5) (.t 6),none⟩,⟨some 2, .aO (.t 7),none⟩]) .ret))
theorem Bz {P:Program} {f k b:Nat} {xs ys:List AV} {H0:AH} (hF:bw P f 8 [.tmp 2] (yE k b)) (hz:cw b [] xs=some ys):aA P f [.sl .n k xs] H0 fun v H'=>v= .sl .own k ys∧H'=H0:=by
 refine aA.goX hF (m:=yE k b) rfl [0,2,4] rfl (by simp) fun hcl K0 aN=> ?_
 refine AX.Xf (m:=yE k b) rfl rfl ?_
 have hys:ys=xs:=by unfold cw at hz;split at hz<;>simp_all
 subst hys
 simp only [WW, ↓reduceIte,nA,nB,nC,nD,nE,nF,nG,reduceCtorEq,yE]
 have step:U P [0,2,4] 8 H0.length [.code .skip, .code (.seq (.rg [⟨some 5, .gA k [],none⟩,⟨some 6, .mv (.t 0),none⟩,⟨some 7, .app k b (.t 5) (.t 6),none⟩,⟨some 2, .aO (.t 7),none⟩]) .ret)] K0 .normal
  [(0, .sl .n k ys),(2, .sl .ex k []),(4, .bool false)] H0:=by
  simp only [WW, ↓reduceIte,nA,nB,nC,nD,nE,nF,nG,reduceCtorEq,hz,List.all_nil,List.map_nil]
  refine aN _ _ _ (.inr rfl) ?_
  exact aI hcl (yB (a:= .sl .own k ys) rfl rfl CK) (by simp [fin,AV.df]) Wx.oo (r':= .sl .own k ys) ⟨rfl,rfl⟩
 refine acE (by rfl) (fun h0 b=> ?_) (fun h0=> ?_)
 · subst h0
   simp only [WW, ↓reduceIte,nA,nB,nC,nD,nE,nF,nG,reduceCtorEq]
   cases b
   · refine aew rfl ?_
     exact step
   · refine aeu rfl ?_
     simp only [WW, ↓reduceIte,nA,nB,nC,nD,nE,nF,nG,reduceCtorEq]
     refine aN _ _ _ (.inr rfl) ?_
     exact aI hcl (yB (a:= .sl .ex k []) rfl rfl CK) (by simp [fin,AV.df]) (Wx.own ..) (r':= .sl .own k []) ⟨rfl,rfl⟩
 · simp only [WW, ↓reduceIte,nA,nB,nC,nD,nE,nF,nG,reduceCtorEq,hz,List.all_nil,List.map_nil]
   refine aN _ _ _ (.inr rfl) ?_
   exact aI hcl (yB (a:= .sl .own k ys) rfl rfl CK) (by simp [fin,AV.df]) Wx.oo (r':= .sl .own k ys) ⟨rfl,rfl⟩
end Go.Am
namespace Go.Am
open Go
variable [Tabs]
theorem SR.aaN {L:List Nat} {N:Nat} {F:Nat→Prop} {γ:List Nat} {C:Nat→List Value} {e:Env} {ah:AH} {ts:Array Value} {w:World} (h:SR L N F γ C e ah ts w) {r:AV} {v:Value} (hr:Am.get e 0=r) (hv:ts.getD 0 undef=v)
 (hf:∀l k xs,r≠ .sl (.fr l) k xs):SR [] 1 F γ C [(0,r)] ah #[v] w:=by
 subst hr;subst hv
 have hbk:∀p b,blk γ [(0,Am.get e 0)] ah #[ts.getD 0 undef] w p b→blk γ e ah ts w p b:=by
  intro p b hp
  cases p with
  |obj s=>exact hp
  |cell s i=>exact hp
  |tmp t=>
   simp only [blk,Am.get] at hp ⊢
   split at hp
   · rename_i h0;subst h0;exact hp
   · simp [bG] at hp
 refine ⟨h.mem,rfl,fun t=> ?_,fun p q b hp hq=>h.dD p q b (hbk p b hp) (hbk q b hq),fun p b hp=>h.nf p b (hbk p b hp),h.iT,fun t l k xs htl=> ?_⟩
 · by_cases h0:0=t
   · subst h0;simp only [Am.get,if_true];exact h.env 0
   · simp only [Am.get,if_neg h0];exact ⟨.un ..,by generalize (#[ts.getD 0 undef]:Array Value).getD t undef=u;cases u<;>trivial⟩
 · simp only [Am.get] at htl
   split at htl
   · exact absurd htl (hf l k xs)
   · cases htl
theorem Mz {P:Program} {f:Nat} {n:Int} {H0:AH} {el:TypeId} {z:Value} (hc:fW P f=true) (hz:z.cells.size=1) (h0:0≤n)
 (hroom:∀(base:Option Addr) (w:World),n=0→Calls P f #[.slice base 0 0, .int .i64 n] w fun e w'=>e= .returned (.slice base 0 0)∧w'=w)
 (hgrow:∀(base:Option Addr) (w:World),0<n→Calls P f #[.slice base 0 0, .int .i64 n] w fun e w'=>e= .returned (.slice (some ⟨w.heap.size,0,none⟩) 0 (grownCap w n.toNat 0 el))∧
  w'=w.drew.alloc (.cells ((#[]:Array Value)++Builtin.zeroCells z.cells n.toNat++Builtin.zeroCells z.cells (grownCap w n.toNat 0 el - n.toNat)) el)):
 aA P f [.sl .ex 1 [], .int .i64 n] H0 fun v H'=>v= .sl .own 1 []∧H'=H0:=by
 refine ⟨hc,fun F γ C w vs hs=> ?_⟩
 have h1:=hs.env 0
 have h2:=(hs.env 1).1
 rw [dH] at h1 h2
 simp only [Nat.zero_le,if_true,Nat.sub_zero,List.getElem?_cons_zero,Option.getD_some] at h1
 simp only [Nat.zero_le,if_true,Nat.sub_zero,List.getElem?_cons_succ,List.getElem?_cons_zero,Option.getD_some] at h2
 obtain ⟨a,c,e1, -⟩:=h1.1.ff
 rw [e1] at h1
 have hc0:c=0:=h1.2
 subst hc0
 have e2:=h2.dh
 have hvs:vs= #[.slice a 0 0, .int .i64 n]:=by
  have hsz:vs.size=2:=hs.sz
  apply Array.ext
  · simpa using hsz
  · intro i g1 g2
    have:i=0∨i=1:=by omega
    rcases this with rfl|rfl
    · simpa [Array.getD_eq_getD_getElem?,Array.getElem?_eq_getElem g1] using e1
    · simpa [Array.getD_eq_getD_getElem?,Array.getElem?_eq_getElem g1] using e2
 by_cases hn:n=0
 · rw [hvs]
   refine (hroom a w hn).mono ?_
   rintro en w' ⟨rfl,rfl⟩
   have hw:SR [] 2 F γ C (Am.put (fL 0 [.sl .ex 1 [], .int .i64 n]) 0 (.sl .own 1 [])) H0 vs w':=by
    refine hs.wx ⟨fun t=> ?_,gr.refl _⟩
    rw [fK]
    split
    · rename_i ht;subst ht
      rw [dH]
      exact Wx.own _ _
    · refine Wx.same fun l k xs=> ?_
      rw [dH]
      match t with
      |0=>simp
      |1=>simp
      |t+2=>simp
   exact ⟨.sl .own 1 [],_,H0,γ,C,rfl,⟨rfl,rfl⟩,List.prefix_refl _,hw.aaN (by rw [fK];simp) (by rw [hvs];rfl) (by simp),Ext.refl ..⟩
 · have hpos:0<n:=by omega
   rw [hvs]
   refine (hgrow a w hpos).mono ?_
   rintro en w' ⟨rfl,rfl⟩
   generalize hcap:grownCap w n.toNat 0 el=cap
   have hge:n.toNat≤cap:=by rw [←hcap];exact grownCap_ge w _ _ _
   generalize hrow:(#[]:Array Value)++Builtin.zeroCells z.cells n.toNat++Builtin.zeroCells z.cells (cap - n.toNat)=row
   have hrl:row.size=cap:=by
    rw [←hrow];simp only [Array.size_append,size_zeroCells,hz];simp;omega
   obtain ⟨q1,q2,q3⟩:=heap_alloc w.drew (.cells row el)
   obtain ⟨C',g1,g2, -, -⟩:=xz (ds:=[]) (w':=w.drew.alloc (.cells row el)) (d:=some 0) (Eb:=[]) (xs:=[]) (k:=1) (n:=0) (c:=cap)
    hs (by intro x hx;injection hx with hx;subst hx;simp) q2 q3 q1 (by simp) (by simp) (by simp) rfl (Nat.zero_le _) (by omega) (fun q hq=>by simp) (by simp) (by simp)
   refine ⟨.sl .own 1 [],_,H0,γ,C',rfl,⟨rfl,rfl⟩,List.prefix_refl _,g1.aaN ?_ ?_ (by simp),g2⟩
   · simp [Am.aF,fK,AV.bY,AV.df]
   · rw [hvs];rfl
end Go.Am
end
section
set_option maxRecDepth 100000
namespace Go.Am
open Go
open Nat renaming reduceEqDiff→nA,reduceLT→nB,reduceLeDiff→nC,reduceAdd→nD,reduceSub→nE,reduceMul→nF,reduceBEq→nG
variable [Tabs]
theorem dG {p:Prop} (h:p:=by first|assumption|omega|(simp only [zo,zp]<;>omega)):p:=h
section
variable {H T:AH} {q s:Nat} {c c':List AV}
theorem dK (h:q<H.length:=by first|assumption|omega|(simp only [zo,zp]<;>omega)) (hc:c=c':=by rfl):(H.set q c)[q]? =some c':=hc▸h_eq h
theorem iB {r:Option (List AV)} (hx:H[q]? =r) (h:s≠q:=by first|assumption|omega|(simp only [zo,zp]<;>omega)):(H.set s c)[q]? =r:=(aaG h).trans hx
theorem Ee {r:Option (List AV)} (hx:H[q]? =r) (h:q<H.length:=by first|assumption|omega|(simp only [zo,zp]<;>omega)):(H++T)[q]? =r:=(VO h).trans hx
theorem xH (h:q=H.length:=by first|assumption|omega|(simp only [zo,zp]<;>omega)) (hc:c=c':=by rfl):(H++[c])[q]? =some c':=hc▸QK h
theorem cE {ah:AH} {n0:Nat} {S:List Nat} (s:Nat) (h:Fr ah n0 S H) (hs:s∈S∨n0≤s:=by first|exact .inr (by first|assumption|omega|(simp only [zo,zp]<;>omega))|exact .inl (by simp)):Fr ah n0 S (H.set s c):=Fr.set h hs
end
theorem aq {H:AH}:gr H H:=gr.refl _
theorem az {g g':Prop} (k:g') (h:g=g':=by
 first|(conv=>lhs;simp only [WW, ↓reduceIte,nA,nB,nC,nD,nE,nF,nG,reduceCtorEq])|rfl):g:=h▸k
theorem aQ {p g g':Prop} (f:p) (k:g') (h:p→g=g':=by
 intro f;first|(conv=>lhs;simp only [WW, ↓reduceIte,nA,nB,nC,nD,nE,nF,nG,reduceCtorEq,f])|rfl):g:=h f▸k
theorem cm {g g':Prop} (k:g') (h:g=g':=by
 first|(conv=>lhs;simp (disch:=first|assumption|omega|(simp only [zo,zp]<;>omega)|fail) only [WW,WH, ↓reduceIte,nA,nB,nC,nD,nE,nF,nG,reduceCtorEq])|rfl):g:=h▸k
theorem aG {p g g':Prop} (f:p) (k:g') (h:p→g=g':=by
 intro f;first|(conv=>lhs;simp (disch:=first|assumption|omega|(simp only [zo,zp]<;>omega)|fail) only [WW,WH, ↓reduceIte,nA,nB,nC,nD,nE,nF,nG,reduceCtorEq,f])|rfl):g:=h f▸k
structure GZ (p:Prop):Prop where
 out:p
section
variable {P:Program} {L:List Nat} {N n0:Nat} {e:Env} {ah:AH} {t:List It} {Q:Exit→Env→AH→Prop} {r:List aM}
theorem bZ {β:Type} {x y:Option β} {z:β} {o:aM} {B want:Bool} (h:(if B=true then x else y)=some z) (k1:B=true→x=some z→GZ (UG P L N n0 o r t Q e ah (some (true==want))))
 (k2:B=false→y=some z→GZ (UG P L N n0 o r t Q e ah (some (false==want)))):GZ (UG P L N n0 o r t Q e ah (some (B==want))):=by
 cases B
 · exact k2 rfl h
 · exact k1 rfl h
theorem om {o:aM} {B want:Bool} (k1:B=true→GZ (UG P L N n0 o r t Q e ah (some (true==want))))
 (k2:B=false→GZ (UG P L N n0 o r t Q e ah (some (false==want)))):GZ (UG P L N n0 o r t Q e ah (some (B==want))):=by
 cases B
 · exact k2 rfl
 · exact k1 rfl
theorem bL {β:Type} {x y:Option β} {z:β} {a b:av} {B:Bool} (h:(if B=true then x else y)=some z) (k1:B=true→x=some z→GZ (U P L N n0 (.code a::t) Q .normal e ah))
 (k2:B=false→y=some z→GZ (U P L N n0 (.code b::t) Q .normal e ah)):GZ (UC P L N n0 a b t Q e ah (.bool B)):=by
 cases B
 · exact k2 rfl h
 · exact k1 rfl h
end
def AV.aeE:AV→Bool
 | .sl (.fr _) _ _=>false
 |_=>true
theorem Wx.smZ {a:AV} (h:a.aeE=true):Wx a a:= .same fun l k xs e=>by subst e;cases h
theorem Wx.gsZ {s k n n' c:Nat} (h:n=n'):Wx (.cr s k n c) (.cr s k n' c):=by subst h;exact Wx.smZ rfl
theorem wAZ {cs cs':List AV} (h:eV cs cs':=by repeat (first|exact eV.nil|apply eV.same|apply eV.n)):eV cs cs':=h
theorem wBZ {cs cs':List AV} (h:pH cs cs':=by repeat (first|exact pH.nil|apply pH.same|apply pH.n|refine pH.agg wAZ ?_)):pH cs cs':=h
theorem aX {a a':AV} (h:Wx a a':=by
 first|exact Wx.smZ rfl|exact Wx.n|exact Wx.own .. |exact Wx.un _|exact Wx.agg wAZ|exact Wx.err|exact Wx.gsZ (by simp)|exact Wx.adL wBZ):Wx a a':=h
theorem aK {e e1:Env} (h:WE e e1:=by
 repeat (refine WE.cons aX ?_)
 exact WE.nil):WE e e1:=h
theorem fh {p:Prop} {e e1:Env} (f:p) (h:p→WE e e1:=by
 intro f
 repeat (refine WE.cons (by first|exact aX|exact Wx.acD (by simp only [f,WB])|exact Wx.aet (by simp only [f,WB])|exact Wx.epE (by simp only [f])) ?_)
 exact WE.nil):WE e e1:=h f
theorem wlZ {a a':List AV} (h:WL a a':=by
 repeat (refine WL.cons aX ?_)
 exact WL.nil):WL a a':=h
theorem CN {a a':List AV} (h:wU a a':=by
 repeat (refine wU.cons aX ?_)
 exact wU.nil):wU a a':=h
theorem dI {x:Exit} (h:x≠ .normal:=by simp):x≠ .normal:=h
section
variable {P:Program} {L:List Nat} {N n0:Nat} {e:Env} {ah:AH} {t:List It} {Q:Exit→Env→AH→Prop} {r:List aM} {d:Option Nat} {f:Nat}
theorem aY {zs zs':List AV} {cc HE:AH} {V:AV} (hh:gr ah cc) (h:aA P f zs' cc fun v H'=>v=V∧H'=HE) (hk:GZ (U P L N n0 (.ops r::t) Q .normal (aF L (xC e) d V.df) HE))
 (hw:WL zs zs':=by
 repeat (refine WL.cons aX ?_)
 exact WL.nil):GZ (UK P L N n0 f zs d r t Q e ah):=⟨aaM h hw hh hk.out⟩
theorem uXZ {zs zs':List AV} {cc:AH} {R:AV→AH→Prop} (hh:gr ah cc) (h:aA P f zs' cc R) (hk:∀v aE,R v aE→GZ (U P L N n0 (.ops r::t) Q .normal (aF L (xC e) d v.df) aE))
 (hw:WL zs zs':=by
 repeat (refine WL.cons aX ?_)
 exact WL.nil):GZ (UK P L N n0 f zs d r t Q e ah):=⟨aaC h hw hh fun v aE hR=>(hk v aE hR).out⟩
theorem MA {zs zs':List AV} {V:AV} (h:aA P f zs' [] fun v H'=>v=V∧H'=[]) (hp:nu ah zs zs') (hk:GZ (U P L N n0 (.ops r::t) Q .normal (aF L (xC e) d V.df) ah)) (hs:V.Hx=true:=by rfl) (hw:WL zs zs:=by
 repeat (refine WL.cons (Wx.smZ rfl) ?_)
 exact WL.nil):GZ (UK P L N n0 f zs d r t Q e ah):=
 ⟨aaM (aA.ofE h hp (by rintro _ rfl;exact hs)) hw (gr.refl _) hk.out⟩
theorem MB {cs cs':List AV} (h:oU ah cs cs':=by
 repeat (first|exact oU.nil|refine oU.cons (by first|exact iK.int|exact iK.b8|exact iK.bool|exact iK.str|exact iK.v|exact .sl _ _ _|exact .ep _ _) ?_)):oU ah cs cs':=h
theorem J3 {c:av} (h:AX P L N n0 c (fun x e ah=>GZ (U P L N n0 t Q x e ah)) e ah):GZ (UX P L N n0 c t Q e ah):=⟨aby (AX.mono h fun _ _ _ h=>h.out)⟩
theorem PG {c:av} (h:GZ (UX P L N n0 c t Q e ah)):AX P L N n0 c (fun x e ah=>GZ (U P L N n0 t Q x e ah)) e ah:=AX.mono h.out fun _ _ _ h=>⟨h⟩
theorem bF {c:av} {e1:Env} {cc:AH} (hh:gr ah cc) (h:AX P L N n0 c (fun x e ah=>GZ (U P L N n0 t Q x e ah)) e1 cc) (he:WE e e1:=by
 repeat (refine WE.cons aX ?_)
 exact WE.nil):GZ (UX P L N n0 c t Q e ah):=J3 (AX.weak he hh h)
theorem gaZ {α:Type} {f:α→AV} {k b q c n1:Nat} {x y:Ar} {tg:Tg} {X Y Z:List α} {ys:List AV} {g:Option (Nat×Bool)} (hf:∀x,(f x).cells.length=k∧bU (f x).cells=true∧gz (f x).cells=true∧bP (f x).cells=true)
 (hk0:0<k) (hx:ev e x= .cr q k X.length c) (hy:ev e y= .sl tg k ys) (hys:ys=ml f Y) (hY:Y≠[]) (hz:cw b X Y=some Z) (hG:GF k n1 q (ml f X) c ah) (hn:n1≤ah.length)
 (hK:∀q' c' aE,GF k n1 q' (ml f Z) c' aE→(∀s,s<ah.length→s<n1∨(0<c→s≠q)→aE[s]? =ah[s]?)→ah.length≤aE.length→(q'=q∧0<c∨ah.length≤q')→
  GZ (U P L N n0 (.ops r::t) Q .normal (aF L e d (.cr q' k Z.length c')) aE)):
 GZ (UG P L N n0 ⟨d, .mu k b x y,g⟩ r t Q e ah (some true)):=⟨Xb hf hk0 hx hy hys hY hz hG hn fun q' c' aE h1 h2 h3 h4=>(hK q' c' aE h1 h2 h3 h4).out⟩
end
theorem aB {α:Type} {a b:α} (h:some a=some b):a=b:=Option.some.inj h
theorem gw {α β:Type} {a b:α} {c d:β} (h:some (a,c)=some (b,d)):a=b∧c=d:=Prod.mk.inj (Option.some.inj h)
theorem rZ {α β γ:Type} {a b:α} {c d:β} {e f:γ} (h:some (a,c,e)=some (b,d,f)):a=b∧c=d∧e=f:=by
 obtain ⟨h1,h2⟩:=gw h;exact ⟨h1,Prod.mk.inj h2⟩
theorem aeF {α β γ δ:Type} {a b:α} {c d:β} {e f:γ} {g i:δ} (h:some (a,c,e,g)=some (b,d,f,i)):a=b∧c=d∧e=f∧g=i:=by
 obtain ⟨h1,h2,h3⟩:=rZ h;exact ⟨h1,h2,Prod.mk.inj h3⟩
theorem aeG {α β γ δ ε:Type} {a b:α} {c d:β} {e f:γ} {g i:δ} {j k:ε} (h:some (a,c,e,g,j)=some (b,d,f,i,k)):a=b∧c=d∧e=f∧g=i∧j=k:=by
 obtain ⟨h1,h2,h3,h4⟩:=aeF h;exact ⟨h1,h2,h3,Prod.mk.inj h4⟩
theorem af7 {α β γ δ ε ζ:Type} {a b:α} {c d:β} {e f:γ} {g i:δ} {j k:ε} {l m:ζ} (h:some (a,c,e,g,j,l)=some (b,d,f,i,k,m)):a=b∧c=d∧e=f∧g=i∧j=k∧l=m:=by
 obtain ⟨h1,h2,h3,h4,h5⟩:=aeG h;exact ⟨h1,h2,h3,h4,Prod.mk.inj h5⟩
theorem bn {P:Program} {e:Env} {ah:AH}:gX P e ah []=some []:=rfl
theorem aT {P:Program} {e:Env} {ah:AH} {t:Nat} {rs:List ResultVar} {vs:List AV} (hr:gX P e ah rs=some vs) (a:AV) (h:Am.get e t=a:=by rfl) (ht:a.fo=false:=by rfl):gX P e ah (.tmp t::rs)=some (a::vs):=yB h ht hr
theorem bp {n:Nat} {a:AV} (h:Cl n a:=by first|(simp [fin,aaF,aaE,jJ,QJ];done)|(simp [fin,AV.df,AV.sh,AV.bN,aaF,aaE,jJ,QJ];done)):Cl n a:=h
theorem FK {n:Nat} {c:List AV} (h:∀a∈c,Cl n a:=by simp [QJ];try omega):∀a∈c,Cl n a:=h
theorem aH {p q:Prop} (a:p) (b:q):p∧q:=⟨a,b⟩
theorem bt:Exit.ret= .normal∨Exit.ret= .ret:= .inr rfl
theorem Z6:Exit.normal= .normal∨Exit.normal= .ret:= .inl rfl
theorem mD {P:Program} {N f:Nat} {rs:List ResultVar} {m:av} (hF:bw P f N rs (erase m)) (L:List Nat) {args:List AV} {R:AV→AH→Prop} {H0:AH} (S:List Nat)
 (h:nt H0.length H0→∀K0:Exit→Env→AH→Prop,(∀x e' H,x= .normal∨x= .ret→xG P H0 rs R e' H→GZ (K0 x e' H))→
  ∀H,H=H0→Fr H0 H0.length S H→GZ (U P L N H0.length [.code m] K0 .normal (fL 0 args) H)) (ho:rH N (erase m)=true:=by kernel_rfl) (hN:args.length≤N:=by simp):aA P f args H0 R:=by
 refine aA.goX hF (m:=m) rfl L ho hN fun hcl K0 aN=> ?_
 refine AX.Xf (m:=m) rfl ho ?_
 exact (h hcl K0 (fun x e' H h1 h2=>⟨aN x e' H h1 h2⟩) H0 rfl (Fr.refl H0 S)).out
theorem eF {P:Program} {N f:Nat} {rs:List ResultVar} {m:av} (hF:bw P f N rs (erase m)) (L:List Nat) {args:List AV} {R:AV→AH→Prop} {H0:AH}
 (h:nt H0.length H0→∀K0:Exit→Env→AH→Prop,(∀x e' H,x= .normal∨x= .ret→xG P H0 rs R e' H→GZ (K0 x e' H))→
  GZ (U P L N H0.length [.code m] K0 .normal (fL 0 args) H0)) (ho:rH N (erase m)=true:=by kernel_rfl) (hN:args.length≤N:=by simp):aA P f args H0 R:=by
 refine aA.goX hF (m:=m) rfl L ho hN fun hcl K0 aN=> ?_
 exact AX.Xf (m:=m) rfl ho (h hcl K0 (fun x e' H h1 h2=>⟨aN x e' H h1 h2⟩)).out
theorem cB {P:Program} {L:List Nat} {N n0:Nat} {e:Env} {ah:AH} {K:Exit→Env→AH→Prop} {m:av}
 (h:∀K':Exit→Env→AH→Prop,(∀x e ah e1 cc,WE e e1→gr ah cc→K x e1 cc→GZ (K' x e ah))→GZ (U P L N n0 [.code m] K' .normal e ah)) (ho:rH N (erase m)=true:=by kernel_rfl):AX P L N n0 (erase m) K e ah:=
 AX.go rfl ho fun K' hK=>(h K' fun x e ah e1 cc h1 h2 h3=>⟨hK x e ah e1 cc h1 h2 h3⟩).out
theorem gY {P:Program} {L:List Nat} {N n0:Nat} {e:Env} {ah:AH} {K:Exit→Env→AH→Prop} {m:av} {ρ τ σ:Type} {body:σ→Option (St ρ τ σ)} (J:σ→Env→AH→Prop) {F:Nat} {s0:σ} {o:ρ⊕τ} (hit:Am.iter body F s0=some o) (h0:J s0 e ah)
 (round:∀(K':Exit→Env→AH→Prop) s st e ah,J s e ah→body s=some st→
 (∀s',st= .cv s'→∀e' aE e1 cc,WE e' e1→gr aE cc→J s' e1 cc→GZ (K' .normal e' aE))→
 (∀t,st= .eC t→o= .inr t)→(∀r,st= .ret r→o= .inl r)→
 (∀x e' aE e1 cc,x≠ .normal→WE e' e1→gr aE cc→K x e1 cc→GZ (K' x e' aE))→GZ (U P L N n0 [.code m] K' .normal e ah)) (ho:rH N (erase m)=true:=by kernel_rfl):AX P L N n0 (.loop (erase m)) K e ah:=
 AX.iter rfl ho J hit h0 fun K' s st e ah h1 h2 h3 h4 h5 h6=>(round K' s st e ah h1 h2 (fun s' h e' aE e1 cc g1 g2 g3=>⟨h3 s' h e' aE e1 cc g1 g2 g3⟩) h4 h5 fun x e' aE e1 cc hx g1 g2 g3=>⟨h6 x e' aE e1 cc hx g1 g2 g3⟩).out
abbrev aj (d:Nat) (p:fV):aM:=⟨some d,p,none⟩
abbrev ax (d:Nat) (p:fV) (g:Nat) (w:Bool):aM:=⟨some d,p,some (g,w)⟩
abbrev gu (p:fV):aM:=⟨none,p,none⟩
abbrev au (d x:Nat):aM:=⟨some d, .mv (.t x),none⟩
abbrev aP (d x:Nat):aM:=⟨some d, .aO (.t x),none⟩
end Go.Am
end
section
namespace Go.Am
open Go
variable [Tabs]
theorem gr.Xc {ah aE:AH} {q:Nat} {cs cs':List AV} (h:gr ah aE) (hq:ah[q]? =some cs) (hc:wU cs cs'):gr ah (aE.set q cs'):=by
 refine ⟨by simpa using h.1,fun s ds hs=> ?_⟩
 by_cases hqs:q=s
 · subst hqs
   have hl:q<aE.length:=by rw [h.1];exact (List.getElem?_eq_some_iff.1 hq).1
   rw [List.getElem?_set_self hl] at hs
   injection hs with hs
   subst hs
   exact ⟨cs,hq, .inr hc⟩
 · rw [List.getElem?_set_ne hqs] at hs
   exact h.2 s ds hs
def aaO (k:IntKind) (i j:Int):Option Int:=if j<0 then none else some (k.wrap (i*2 ^ (min j.toNat k.bits)))
def Xk (k:IntKind) (i j:Int):Option Int:=if j<0 then none else some (i.fdiv (2 ^ (min j.toNat k.bits)))
theorem aeH {k k':IntKind} {i j r:Int} (h:aaO k i j=some r):bl .shl (.int k i) (.int k' j)=some (.int k r):=by
 unfold aaO at h
 split at h
 · cases h
 · rename_i hj
   injection h with h
   simp only [bl,if_neg hj,h]
theorem Xl {k k':IntKind} {i j r:Int} (h:Xk k i j=some r):bl .shr (.int k i) (.int k' j)=some (.int k r):=by
 unfold Xk at h
 split at h
 · cases h
 · rename_i hj
   injection h with h
   simp only [bl,if_neg hj,h]
def J4 {α:Type} (b:Nat) (xs ys:List α):Option (List α):=if ys.isEmpty then none else cw b xs ys
theorem ada {α:Type} {b:Nat} {xs ys zs:List α} (h:J4 b xs ys=some zs):ys≠[]:=by
 unfold J4 at h
 rintro rfl
 simp at h
theorem adb {α:Type} {b:Nat} {xs ys zs:List α} (h:J4 b xs ys=some zs):cw b xs ys=some zs:=by
 unfold J4 at h
 split at h
 · cases h
 · exact h
end Go.Am
end
section
namespace Go.Am
open Go
variable [Tabs]
section
variable {P:Program} {L:List Nat} {N n0:Nat} {F:Nat→Prop} {γ:List Nat} {C:Nat→List Value} {e e':Env} {ah:AH} {ts:Array Value} {w:World} {Q K:Exit→Env→AH→Prop}
theorem SR.Xm (h:SR L N F γ C e ah ts w) {s:Nat} {cs ds:List AV} (hs:ah[s]? =some cs) (hne:cs≠[]) (hw:eV cs ds)
 (he:∀t,get e' t=get e t∨∃o,get e t= .ptr s o∧get e' t= .ep (.agg ds) o):∃C',(SR L N F γ C' e' (ah.set s []) ts w∧Ext F C w C' w)∧∃b,γ[s]? =some b∧ds.length≤(C' b).length∧∀(j:Nat) (a:AV),ds[j]? =some a→VR C' γ a ((C' b).getD j undef):=by
 have hlt:s<γ.length:=by rw [h.mem.len];exact (List.getElem?_eq_some_iff.1 hs).1
 obtain ⟨b,hb⟩:∃b,γ[s]? =some b:=⟨_,List.getElem?_eq_getElem hlt⟩
 obtain ⟨vs,ty,hh,hsz,hcell⟩:=h.mem.obj s b cs hs hb
 have Bp:=h.mem.lZ s b cs hs hne hb
 have rF:blk γ e ah ts w (.obj s) b:=hb
 refine ⟨fun x=>if x=b then vs.toList else C x, ?_⟩
 generalize uu:(fun x=>if x=b then vs.toList else C x)=C'
 have c0:C' b=vs.toList:=by rw [←uu];simp
 have c1:∀x,x≠b→C' x=C x:=fun x hx=>by rw [←uu];simp [hx]
 have hpre:∀x,C x <+: C' x:=by
  intro x
  by_cases hx:x=b
  · subst hx;rw [Bp];exact List.nil_prefix
  · rw [c1 x hx];exact List.prefix_refl _
 refine ⟨?_,b,hb,by rw [c0,hw.len];simpa using hsz,fun j a hj=> ?_⟩
 rotate_left
 · have hjl:j<cs.length:=by rw [←hw.len];exact (List.getElem?_eq_some_iff.1 hj).1
   have hj':cs[j]? =some cs[j]:=List.getElem?_eq_getElem hjl
   have:=(Wk.jz (hw.get j _ _ hj' hj).w).vr ((hcell j _ hj').1.mono hpre γ (fun _ _ h=>h))
   rw [c0]
   have e1:vs.toList.getD j undef=vs.getD j undef:=by simp [List.getD_eq_getElem?_getD,Array.getD_eq_getD_getElem?]
   rw [e1];exact this
 have cV:∀(s':Nat),s'≠s→(ah.set s [])[s']? =ah[s']? :=fun s' hn=>List.getElem?_set_ne (Ne.symm hn)
 have di:(ah.set s [])[s]? =some []:=List.getElem?_set_self (by rw [←h.mem.len];exact hlt)
 have tF:∀(s':Nat),γ[s']? =some b→s'=s:=fun s' hs'=>by
  have:=h.dD (.obj s') (.obj s) b hs' hb;injection this
 have hbk:∀p x,blk γ e' (ah.set s []) ts w p x→blk γ e ah ts w p x:=by
  intro p x hp
  cases p with
  |obj s'=>exact hp
  |cell s' i=>
   obtain ⟨ds,a,b0,h1,h2,h3,h4⟩:=hp
   by_cases hn:s'=s
   · subst hn;rw [di] at h1;injection h1 with h1;subst h1;simp at h2
   · rw [cV s' hn] at h1;exact ⟨ds,a,b0,h1,h2,h3,h4⟩
  |tmp t=>
   simp only [blk] at hp ⊢
   rcases he t with h1|⟨o,h1,h2⟩
   · rwa [h1] at hp
   · rw [h2] at hp;simp [bG] at hp
 have mA:∀(a:AV) (v:Value),TC w C a v→(∀x,bG a v=some x→x≠b)→TC w C' a v:=fun a v ht hn=>ht.mono fun x hx=>⟨rfl,c1 x (hn x hx)⟩
 refine ⟨⟨⟨by simp [h.mem.len],fun s' x ds h1 h2=> ?_,fun x hx=> ?_,fun s' x ds h1 h0 h2=> ?_,fun s' x ds us ty' fr h1 h2 h3=> ?_,fun s' x ds T h1 h2 h3=> ?_⟩,h.sz,fun t=> ?_,fun p q x hp hq=>h.dD p q x (hbk p x hp) (hbk q x hq),fun p x hp=>h.nf p x (hbk p x hp),h.iT,fun t l k xs ht=> ?_⟩,
  ⟨hpre,fun x hx=>⟨rfl,c1 x (fun e=>h.nf _ _ rF (e▸hx))⟩,Nat.le_refl _,rfl,rfl,rfl⟩⟩
 · by_cases hn:s'=s
   · subst hn
     rw [di] at h1;injection h1 with h1;subst h1
     rw [hb] at h2;injection h2 with h2;subst h2
     exact ⟨vs,ty,hh,by simp,by simp⟩
   · rw [cV s' hn] at h1
     obtain ⟨us,ty',g1,g2,g3⟩:=h.mem.obj s' x ds h1 h2
     refine ⟨us,ty',g1,g2,fun i a hi=>⟨(g3 i a hi).1.mono hpre _ (fun _ _ h=>h),mA _ _ (g3 i a hi).2 fun y hy e=> ?_⟩⟩
     subst e
     obtain ⟨v,hv, -, -⟩:=cellAt h.mem h1 hi h2
     have Jb:v=us.getD i undef:=by
      have hlt:i<us.size:=Nat.lt_of_lt_of_le (List.getElem?_eq_some_iff.1 hi).1 g2
      rw [cz g1,Array.getElem?_eq_getElem hlt] at hv
      simp [Array.getD_eq_getD_getElem?,Array.getElem?_eq_getElem hlt,Option.some.inj hv]
     have:blk γ e ah ts w (.cell s' i) y:=⟨ds,a,x,h1,hi,h2,by rw [hv,Jb];exact hy⟩
     have:=h.dD _ _ _ this rF
     cases this
 · by_cases Mt:x=b
   · subst Mt;exact ⟨vs,ty.1,ty.2,hh,by rw [c0];exact List.prefix_refl _⟩
   · rw [c1 x Mt] at hx ⊢;exact h.mem.pn x hx
 · have hn:s'≠s:=by
    rintro rfl
    rw [di] at h1;injection h1 with h1;exact h0 h1.symm
   rw [cV s' hn] at h1
   rw [c1 x (fun e=>hn (tF s' (e▸h2)))]
   exact h.mem.lZ s' x ds h1 h0 h2
 · by_cases hn:s'=s
   · subst hn
     rw [di] at h1;injection h1 with h1;subst h1
     intro i hi;simp at hi
   · rw [cV s' hn] at h1
     exact h.mem.xq s' x ds us ty' fr h1 h2 h3
 · by_cases hn:s'=s
   · subst hn
     rw [di] at h1;injection h1 with h1;subst h1
     simp at h3
   · rw [cV s' hn] at h1
     exact h.mem.zM s' x ds T h1 h2 h3
 · rcases he t with h1|⟨o,h1,h2⟩
   · rw [h1]
     refine ⟨(h.env t).1.mono hpre _ (fun _ _ h=>h),mA _ _ (h.env t).2 fun y hy e=> ?_⟩
     subst e
     have:=h.dD (.tmp t) (.obj s) y hy rF
     cases this
   · have hv:=(h.env t).1
     rw [h1] at hv
     obtain ⟨b',hb',hv⟩:=hv.gb
     rw [hb] at hb';injection hb' with hb';subst hb'
     rw [h2,hv]
     refine ⟨?_,by trivial⟩
     have hep:=VR.ep (C:=C') γ (.agg ds) o b 0 (by rw [c0];simpa [AV.cells,hw.len] using hsz) (fun j a hj=>by
      have hj2:ds[j]? =some a:=hj
      have hjl:j<cs.length:=by rw [←hw.len];exact (List.getElem?_eq_some_iff.1 hj2).1
      have hj':cs[j]? =some cs[j]:=List.getElem?_eq_getElem hjl
      have:=(Wk.jz (hw.get j _ _ hj' hj2).w).vr ((hcell j _ hj').1.mono hpre γ (fun _ _ h=>h))
      rw [c0,Nat.zero_add]
      have e1:vs.toList.getD j undef=vs.getD j undef:=by simp [List.getD_eq_getElem?_getD,Array.getD_eq_getD_getElem?]
      rw [e1];exact this)
     rwa [Nat.zero_add] at hep
 · rcases he t with h1|⟨o,h1,h2⟩
   · have hf:=h.fr t l k xs (by rw [←h1];exact ht)
     cases l with
     |tmp u=>
      refine ⟨hf.1,fun hu=>hf.2 ?_⟩
      rcases he u with g1|⟨o,g1,g2⟩
      · rwa [g1] at hu
      · rw [g2] at hu;cases hu
     |cell s' o=>
      intro ds a x g1 g2 g3 g4
      by_cases hn:s'=s
      · subst hn;rw [di] at g1;injection g1 with g1;subst g1;simp at g2
      · rw [cV s' hn] at g1;exact hf ds a x g1 g2 g3 g4
   · rw [h2] at ht;cases ht
def Rw (C:Nat→List Value) (γ:List Nat) (w:World) (a a':AV):Prop:=
 (∀v,VR C γ a v→VR C γ a' v)∧(∀v,VR C γ a v→TC w C a v→TC w C a' v)∧(∀v b,VR C γ a v→TC w C a v→bG a' v=some b→bG a v=some b)∧(a'.DN=true→a.DN=true)∧∀T,a'= .dy T→a= .dy T
theorem Rw.refl (a:AV):Rw C γ w a a:=⟨fun _ h=>h,fun _ _ h=>h,fun _ _ _ _ h=>h,fun h=>h,fun _ h=>h⟩
theorem SR.Z7 (h:SR L N F γ C e ah ts w) {aE:AH} (hl:aE.length=ah.length)
 (hh:∀(s:Nat) (cs':List AV),aE[s]? =some cs'→∃cs,ah[s]? =some cs∧cs'.length=cs.length∧∀(i:Nat) (a a':AV),cs[i]? =some a→cs'[i]? =some a'→Rw C γ w a a'):SR L N F γ C e aE ts w:=by
 have hcl:∀(s i b0:Nat) (cs':List AV) (a':AV) (x:Nat),aE[s]? =some cs'→cs'[i]? =some a'→γ[s]? =some b0→bG a' ((w.cell? ⟨b0,i,none⟩).getD undef)=some x→
  ∃cs a,ah[s]? =some cs∧cs[i]? =some a∧bG a ((w.cell? ⟨b0,i,none⟩).getD undef)=some x:=by
  intro s i b0 cs' a' x h1 h2 h3 h4
  obtain ⟨cs,g1,g2,g3⟩:=hh s cs' h1
  have hlt:i<cs.length:=by rw [←g2];exact (List.getElem?_eq_some_iff.1 h2).1
  have h0:cs[i]? =some cs[i]:=List.getElem?_eq_getElem hlt
  refine ⟨cs,cs[i],g1,h0, ?_⟩
  obtain ⟨vs,ty,q1,q2,q3⟩:=h.mem.obj s b0 cs g1 h3
  have hc:(w.cell? ⟨b0,i,none⟩).getD undef=vs.getD i undef:=by
   rw [cz q1];simp [Array.getD_eq_getD_getElem?]
  rw [hc] at h4 ⊢
  exact (g3 i _ _ h0 h2).2.2.1 _ _ (q3 i _ h0).1 (q3 i _ h0).2 h4
 have hb:∀p b,blk γ e aE ts w p b→blk γ e ah ts w p b:=by
  intro p b hp
  cases p with
  |obj s=>exact hp
  |tmp t=>exact hp
  |cell s i=>
   obtain ⟨cs',a',b0,h1,h2,h3,h4⟩:=hp
   obtain ⟨cs,a,g1,g2,g3⟩:=hcl s i b0 cs' a' b h1 h2 h3 h4
   exact ⟨cs,a,b0,g1,g2,h3,g3⟩
 refine ⟨⟨by rw [h.mem.len,hl],fun s b cs' h1 h2=> ?_,h.mem.pn,fun s b cs' h1 hne h2=> ?_,fun s b cs' us ty fr h1 h2 h3=> ?_,fun s b cs' T h1 h2 h3=> ?_⟩,h.sz,h.env,fun p q b h1 h2=>h.dD p q b (hb p b h1) (hb q b h2),
  fun p b hp=>h.nf p b (hb p b hp),h.iT,fun t l k xs ht=> ?_⟩
 · obtain ⟨cs,g1,g2,g3⟩:=hh s cs' h1
   obtain ⟨vs,ty,q1,q2,q3⟩:=h.mem.obj s b cs g1 h2
   refine ⟨vs,ty,q1,by omega,fun i a' hi=> ?_⟩
   have hlt:i<cs.length:=by rw [←g2];exact (List.getElem?_eq_some_iff.1 hi).1
   have h0:cs[i]? =some cs[i]:=List.getElem?_eq_getElem hlt
   exact ⟨(g3 i _ _ h0 hi).1 _ (q3 i _ h0).1,(g3 i _ _ h0 hi).2.1 _ (q3 i _ h0).1 (q3 i _ h0).2⟩
 · obtain ⟨cs,g1,g2,g3⟩:=hh s cs' h1
   refine h.mem.lZ s b cs g1 ?_ h2
   rintro rfl
   exact hne (List.eq_nil_of_length_eq_zero g2)
 · obtain ⟨cs,g1,g2,g3⟩:=hh s cs' h1
   rw [g2]
   exact h.mem.xq s b cs us ty fr g1 h2 h3
 · obtain ⟨cs,g1,g2,g3⟩:=hh s cs' h1
   have hlt:0<cs.length:=by rw [←g2];exact (List.getElem?_eq_some_iff.1 h3).1
   have h0:cs[0]? =some cs[0]:=List.getElem?_eq_getElem hlt
   exact h.mem.zM s b cs T g1 h2 (by rw [h0,(g3 0 _ _ h0 h3).2.2.2.2 T rfl])
 · have hf:=h.fr t l k xs ht
   cases l with
   |tmp u=>exact hf
   |cell s' o=>
    intro ds a x g1 g2 g3 g4
    obtain ⟨cs,r1,r2,r3⟩:=hh s' ds g1
    have hlt:o<cs.length:=by rw [←r2];exact (List.getElem?_eq_some_iff.1 g2).1
    have h0:cs[o]? =some cs[o]:=List.getElem?_eq_getElem hlt
    exact hf cs cs[o] x r1 h0 ((r3 o _ _ h0 g2).2.2.2.1 g3) g4
inductive Fc (s:Nat) (ds:List AV):AV→AV→Prop
 |same (a):Fc s ds a a
 |fn (f o):Fc s ds (.fn f [.ptr s o]) (.fn f [.ep (.agg ds) o])
 |cN (k n:Nat) (xs:List AV):xs.length=n→(∀(i:Nat) (e:AV),xs[i]? =some e→e.cells.length=k)→ds=(xs.map AV.cells).flatten→bU ds=true→gz ds=true→Fc s ds (.cN s k 0 n) (.sl .n k xs)
inductive yL (s:Nat) (ds:List AV):List AV→List AV→Prop
 |nil:yL s ds [] []
 |cons (a a' r r'):Fc s ds a a'→yL s ds r r'→yL s ds (a::r) (a'::r')
theorem yL.len {s:Nat} {ds cs cs':List AV} (h:yL s ds cs cs'):cs'.length=cs.length:=by
 induction h with
 |nil=>rfl
 |cons _ _ _ _ _ _ ih=>simp [ih]
theorem yL.get {s:Nat} {ds cs cs':List AV} (h:yL s ds cs cs'):∀(i:Nat) (a a':AV),cs[i]? =some a→cs'[i]? =some a'→Fc s ds a a':=by
 induction h with
 |nil=>intro i a a' h;simp at h
 |cons x x' r r' hx _ ih=>
  intro i a a' h1 h2
  cases i with
  |zero=>simp at h1 h2;subst h1;subst h2;exact hx
  |succ i=>exact ih i a a' (by simpa using h1) (by simpa using h2)
theorem PI {k:Nat}:∀ {xs:List AV},(∀(i:Nat) (e:AV),xs[i]? =some e→e.cells.length=k)→((xs.map AV.cells).flatten).length=xs.length*k:=by
 intro xs
 induction xs with
 |nil=>intro _;simp
 |cons x r ih=>
  intro h
  have h0:=h 0 x rfl
  have:=ih fun i e hi=>h (i+1) e (by simpa using hi)
  simp only [List.map_cons,List.flatten_cons,List.length_append,this,h0,List.length_cons,Nat.succ_mul]
  omega
theorem PJ {k:Nat}:∀ {xs:List AV},(∀(i:Nat) (e:AV),xs[i]? =some e→e.cells.length=k)→∀(i j:Nat) (e:AV),xs[i]? =some e→j<k→((xs.map AV.cells).flatten)[i*k+j]? =e.cells[j]? :=by
 intro xs
 induction xs with
 |nil=>intro _ i j e h;simp at h
 |cons x r ih=>
  intro h i j e hi hj
  have h0:=h 0 x rfl
  simp only [List.map_cons,List.flatten_cons]
  cases i with
  |zero=>
   simp at hi;subst hi
   rw [Nat.zero_mul,Nat.zero_add,List.getElem?_append_left (by omega)]
  |succ i=>
   have hik:(i+1)*k+j=k+(i*k+j):=by rw [Nat.succ_mul];omega
   rw [hik,List.getElem?_append_right (by omega),h0,Nat.add_sub_cancel_left]
   exact ih (fun i e hi=>h (i+1) e (by simpa using hi)) i j e (by simpa using hi) hj
theorem Fc.rw {s b:Nat} {ds:List AV} (hb:γ[s]? =some b) (hl:ds.length≤(C b).length) (hd:∀(j:Nat) (a:AV),ds[j]? =some a→VR C γ a ((C b).getD j undef)) {a a':AV} (h:Fc s ds a a'):Rw C γ w a a':=by
 cases h with
 |same=>exact Rw.refl _
 |fn f o=>
  refine ⟨fun v hv=> ?_,fun v _ _=>by cases v<;>trivial,fun v b _ _ h=>by simp [bG] at h,fun h=>(by cases h),fun T h=>(by cases h)⟩
  obtain ⟨vs,rfl,h1,h2⟩:=hv.Bl
  refine .fn _ _ _ _ (by simpa using h1) fun i a hi=> ?_
  cases i with
  |succ i=>simp at hi
  |zero=>
   simp at hi
   subst hi
   obtain ⟨b',hb',hv⟩:=(h2 0 _ rfl).gb
   rw [hb] at hb';injection hb' with hb';subst hb'
   rw [hv]
   have:=VR.ep (C:=C) γ (.agg ds) o b 0 (by simpa [AV.cells] using hl) (fun j a hj=>by rw [Nat.zero_add];exact hd j a hj)
   rwa [Nat.zero_add] at this
 |cN k n xs hn hk hds hok hnp=>
  refine ⟨fun v hv=> ?_,fun v _ _=>by cases v<;>trivial,fun v b _ _ h=>by simp [bG] at h,fun h=>(by cases h),fun T h=>(by cases h)⟩
  obtain ⟨b',c,hb',hc,rfl⟩:=hv.xo
  rw [hb] at hb';injection hb' with hb';subst hb'
  have hlen:ds.length=n*k:=by rw [hds,PI hk,hn]
  refine .sl _ _ _ _ _ _ _ _ hn.symm hc hk (by omega) (fun q h1 h2=> ?_) fun i e hi j a hj=> ?_
  · have hq:q<ds.length:=by omega
    have h0:ds[q]? =some ds[q]:=List.getElem?_eq_getElem hq
    exact VR.one' (hd q _ h0) (zO hok h0)
  · have I2:j<k:=by rw [←hk i e hi];exact (List.getElem?_eq_some_iff.1 hj).1
    have hg:ds[i*k+j]? =some a:=by rw [hds,PJ hk i j e hi I2];exact hj
    rw [Nat.zero_add]
    exact (hd _ _ hg).np (vu hnp hg)
theorem AW.FM {c:Code} {s s2:Nat} {cs ds zs zs':List AV} (hs:ah[s]? =some cs) (hne:cs≠[]) (hw:eV cs ds) (hs2:ah[s2]? =some zs) (hn2:s2≠s) (hz:yL s ds zs zs')
 (he:∀t,get e' t=get e t∨∃o,get e t= .ptr s o∧get e' t= .ep (.agg ds) o) (h:AW P L N n0 c Q e' ((ah.set s []).set s2 zs')):AW P L N n0 c Q e ah:=by
 intro F γ C ts w lS hn
 obtain ⟨C',⟨h1,h2⟩,b,hb,hl,hd⟩:=lS.Xm hs hne hw he
 have hg2:(ah.set s [])[s2]? =some zs:=by rw [List.getElem?_set_ne (Ne.symm hn2)];exact hs2
 have h3:SR L N F γ C' e' ((ah.set s []).set s2 zs') ts w:=h1.Z7 (by simp) fun s' cs' hs'=>by
  by_cases hq:s2=s'
  · subst hq
    rw [List.getElem?_set_self (List.getElem?_eq_some_iff.1 hg2).1] at hs'
    injection hs' with hs'
    subst hs'
    exact ⟨zs,hg2,hz.len,fun i a a' ha TD=>(hz.get i a a' ha TD).rw hb hl hd⟩
  · rw [List.getElem?_set_ne hq] at hs'
    exact ⟨cs',hs',rfl,fun i a a' ha TD=>by rw [ha] at TD;injection TD with TD;subst TD;exact Rw.refl _⟩
 refine wp_mono (h F γ C' ts w h3 hn) ?_
 rintro x a w' ⟨q1,q2,e2,rG,γ2,C2,q3,q4,q5,q6⟩
 exact ⟨q1,q2,e2,rG,γ2,C2,q3,q4,q5,h2.trans q6⟩
theorem AX.FM {c:av} {s s2:Nat} {cs ds zs zs':List AV} (hs:ah[s]? =some cs) (hw:eV cs ds) (hne:cs≠[]) (hs2:ah[s2]? =some zs) (hn2:s2≠s) (hz:yL s ds zs zs') (he:FZ s ds e e')
 (h:AX P L N n0 c K e' ((ah.set s []).set s2 zs')):AX P L N n0 c K e ah:=
 fun c' ck=>AW.FM hs hne hw hs2 hn2 hz he.get (h c' ck)
end
end Go.Am
namespace Go.Am
open Go
variable [Tabs]
theorem Xn {L:List Nat} {e:Env} {ah:AH} {d:Option Nat} {k s n j:Nat} {ki:IntKind} {i:Int} (h:Bw n i=some j):uv L e ah d k (.cN s k 0 n) (.int ki i)=some (aF L e d (.ptr s (j*k)),ah):=by
 unfold Bw at h
 split at h
 · rename_i hq
   injection h with h
   subst h
   simp [uv,hq]
 · cases h
end Go.Am
namespace Go.Am
open Go
def Xo (c:UInt8) (j:Int):Option UInt8:=if j<0 then none else some (UInt8.ofInt (IntKind.wrap .u8 ((c.toNat:Int)*2 ^ (min j.toNat 8))))
theorem aeI {k':IntKind} {c r:UInt8} {j:Int} (h:Xo c j=some r):bl .shl (b8 c) (.int k' j)=some (b8 r):=by
 unfold Xo at h
 split at h
 · cases h
 · rename_i hj
   injection h with h
   subst h
   simp only [bl,b8,if_neg hj,IntKind.bits]
   generalize (c.toNat:Int)*2 ^ (min j.toNat 8)=z
   congr 2
   have h1:IntKind.wrap .u8 z=z % 256:=by
    simp [IntKind.wrap,IntKind.bits,IntKind.signed]
   rw [h1]
   have h2:0≤z % 256:=by omega
   have h3:z % 256<256:=by omega
   obtain ⟨n,hn⟩:∃n:Nat,z % 256=(n:Int):=⟨(z % 256).toNat,by omega⟩
   rw [hn]
   have:n<256:=by omega
   simp [UInt8.ofInt]
   omega
end Go.Am
end
section
namespace Go.Am
open Go Go.Proofs Go.Shelf Go.RowKit
theorem Xp {P:Program} (w:World) (t u ty e:TypeId) (i:TypeInfo) (ht:P.underlying t=some (.slice e)) (hu:P.underlying u=some .string) (hi:P.info? e=some i) (hz:i.zero=some (.int .u8 0))
 (hsize:i.size=1) (hby:i.bytes=1) (v:Value) (n:Nat) (xs:List Value) (hown:w.ownsRowF 0 e 1 v n xs) (s:ByteArray) (hbytes:n+s.size≤140737488355328):
 ∃v' w',(Builtin.append_ #[t,u] ty #[v, .string s]).run P w= .ok v' w'∧w'.ownsRowF 0 e 1 v' (n+s.size) (xs++Lib.strCells s)∧w.grownBy w' v.ownBlock∧
  ∀k,v'.ownBlock=some k→v.ownBlock=some k∨w.heap.size≤k:=by
 have h63:n+s.size≤maxLen:=by unfold maxLen;omega
 obtain ⟨v',w',hr,h2,h3, -⟩:=Lib.run_append_own_stringF (P:=P) w 0 t u ty e i ht hu hi hz hsize hby v n xs hown s h63 hbytes (Nat.zero_le _)
 refine ⟨v',w',hr,h2,h3,fun k hk=> ?_⟩
 rcases hown.2 with ⟨rfl,rfl⟩|⟨g,cap,cur,fz,rfl,hbg,hg,hfz,hnc,hcm,hcs,acF⟩
 · obtain ⟨v2,w2,hr2,k2, -, -⟩:=Lib.run_append_own_stringF (P:=P) w w.heap.size t u ty e i ht hu hi hz hsize hby (.slice none 0 0) 0 xs ⟨hown.1, .inl ⟨rfl,rfl⟩⟩ s h63 hbytes (Nat.le_refl _)
   rw [hr] at hr2
   injection hr2 with e1 e2
   subst e1
   exact .inr (k2.lt k hk).1
 · by_cases hroom:n+s.size≤cap
   · have hr2:=Lib.run_append_room_stringF (P:=P) w t u ty e i ht hu hi hsize g n cap cur fz hg (by simpa using hfz) s hroom (by simp at hcs;omega)
     rw [hr] at hr2
     injection hr2 with e1 e2
     subst e1
     exact .inl hk
   · have holds:∀j u,xs[j]? =some u→w.cell? ((⟨g,0,none⟩:Addr).add j)=some u:=hown.cells (g:=g) rfl
     have hxl:xs.length=n:=by simpa using hown.1
     have hr2:=Lib.run_append_grow_string (P:=P) w t u ty e i (.int .u8 0) ht hu hi hz ⟨g,0,none⟩ n cap xs (by rw [hsize];simpa using hxl) holds s (by omega) (by omega) (by rw [hby];exact growslice_fits (by omega) (by omega))
     rw [hr] at hr2
     injection hr2 with e1 e2
     subst e1
     simp only [Value.ownBlock,Option.some.injEq] at hk
     exact .inr (by omega)
theorem MC {P:Program} (w:World) {ops:Array Oper} {rest:List Oper} {o:Oper} {a:Act} {Q:Exit→Act→World→Prop} (hgd:o.guard=none) (sl x:Operand) (t u:TypeId)
 (ho:o.op= .call {callee:= .builtin .append,args:= #[sl,x],argTypes:= #[t,u]})
 (e:TypeId) (i:TypeInfo) (ht:P.underlying t=some (.slice e)) (hu:P.underlying u=some .string) (hi:P.info? e=some i) (hz:i.zero=some (.int .u8 0))
 (hsize:i.size=1) (hby:i.bytes=1)
 (v:Value) (n:Nat) (xs:List Value) (hs:a.eval sl=v) (hown:w.ownsRowF 0 e 1 v n xs) (s:ByteArray) (hx:a.eval x= .string s) (hbytes:n+s.size≤140737488355328)
 (h:∀v' w',w'.ownsRowF 0 e 1 v' (n+s.size) (xs++Lib.strCells s)→w.grownBy w' v.ownBlock→(∀k,v'.ownBlock=some k→v.ownBlock=some k∨w.heap.size≤k)→wpList P ops Q rest (a.put o.dst v') w'):wpList P ops Q (o::rest) a w:=by
 refine wpList_plain hgd fun K hK=> ?_
 obtain ⟨v',w',hr,h2,h3,h4⟩:=Xp (P:=P) w t u o.type e i ht hu hi hz hsize hby v n xs hown s hbytes
 unfold Oper.wp execOp
 simp only [ho,resolve,invoke,builtin,Sem.run_bind,Sem.run_pure,Result.andThen_ok,List.map_toArray,List.map_cons,List.map_nil,hs,hx,hr]
 exact hK _ _ (h v' w' h2 h3 h4)
variable {P:Program} {ρ:Ren}
structure BW (T e:TypeId) (b:Nat) (v:Value) (bs:List Value) (w w':World):Prop where
 at':∃v',w'.heap[b]? =some (.cells #[.pointer (some ⟨b,0,none⟩),v'] T (0,0))∧w'.ownsRowF 0 e 1 v' bs.length bs∧v'.ownBlock≠some b∧∀k,v'.ownBlock=some k→v.ownBlock=some k∨w.heap.size≤k
 keep:∀k,k<w.heap.size→k≠b→v.ownBlock≠some k→w'.heap[k]? =w.heap[k]?
 size:w.heap.size≤w'.heap.size
 out:w'.os=w.os∧w'.tape=w.tape∧w'.output=w.output
theorem CO {w:World} {b i k:Nat} {x:Value} (h:k≠b):(w.setCell ⟨b,i,none⟩ x).heap[k]? =w.heap[k]? :=by
 simp [World.setCell,Array.getElem?_modify,Ne.symm h]
theorem IC {w:World} {b i:Nat} {x:Value}:(w.setCell ⟨b,i,none⟩ x).heap.size=w.heap.size:=by simp [World.setCell]
set_option maxHeartbeats 2000000 in
set_option maxRecDepth 100000 in
theorem PK (L:Lays.n166 P ρ) (X:Builder.Extra P ρ) (b:Nat) (p v:Value) (bs:List Value) (s:ByteArray) (w:World)
 (hp:p= .pointer none∨p= .pointer (some ⟨b,0,none⟩)) (FN:w.heap[b]? =some (.cells #[p,v] (ρ.t 72) (0,0))) (Xq:w.ownsRowF 0 (ρ.t 5) 1 v bs.length bs) (hne:v.ownBlock≠some b) (hlen:bs.length+s.size≤140737488355328):
 Calls P (ρ.f 166) #[.pointer (some ⟨b,0,none⟩), .string s] w fun e w'=>e= .returned (.tuple #[.int .i64 s.size, .nilIface])∧BW (ρ.t 72) (ρ.t 5) b v (bs++Lib.strCells s) w w':=by
 obtain ⟨i0,hi,hz0,hz1,hz2⟩:=info_parts X.infoByte
 have hlt:b<w.heap.size:=(Array.getElem?_eq_some_iff.1 FN).1
 have PF:Calls P (ρ.f 240) #[.pointer (some ⟨b,0,none⟩)] w fun e w1=>e= .returned (.tuple #[])∧w1.heap[b]? =some (.cells #[.pointer (some ⟨b,0,none⟩),v] (ρ.t 72) (0,0))∧(∀k,k≠b→w1.heap[k]? =w.heap[k]?)∧w1.heap.size=w.heap.size∧w1.os=w.os∧w1.tape=w.tape∧w1.output=w.output:=by
  rcases hp with rfl|rfl
  · refine (Any.Builder_copyCheck_fresh {L with} X.toX72 b w (by rw [Lib.cell_of_heap FN];rfl) (by simp [World.shape?,FN]) (Lib.frozen_of_heap FN 0)).mono ?_
    rintro e w1 ⟨rfl,rfl⟩
    exact ⟨rfl,by simp [World.setCell,Array.getElem?_modify,FN],fun k hk=>CO hk,IC,rfl,rfl,rfl⟩
  · refine (Any.Builder_copyCheck_used {L with} X.toX72 b w (by rw [Lib.cell_of_heap FN];rfl)).mono ?_
    rintro e w1 ⟨rfl,rfl⟩
    exact ⟨rfl,FN,fun _ _=>rfl,rfl,rfl,rfl,rfl⟩
 have mixed:=L.mixed
 have t72:=L.t72;have a72:=L.a72;have z72:=L.z72;have v72:=L.v72;have u72:=run_underlying L.t72
 have t70:=L.t70;have a70:=L.a70;have z70:=L.z70;have v70:=L.v70;have u70:=run_underlying L.t70
 have t37:=L.t37;have a37:=L.a37;have z37:=L.z37;have v37:=L.v37;have u37:=run_underlying L.t37
 have t3:=L.t3;have a3:=L.a3;have z3:=L.z3;have v3:=L.v3;have u3:=run_underlying L.t3
 have t9:=L.t9;have a9:=L.a9;have z9:=L.z9;have v9:=L.v9;have u9:=run_underlying L.t9
 have t4:=L.t4;have a4:=L.a4;have z4:=L.z4;have v4:=L.v4;have u4:=run_underlying L.t4
 have t164:=L.t164;have a164:=L.a164;have z164:=L.z164;have v164:=L.v164;have af8:=run_underlying L.t164
 have t5:=X.t5;have a5:=X.a5;have z5:=X.z5;have v5:=X.v5;have u5:=run_underlying X.t5
 have af9:∀args w,(callFunc (ρ.f 240) args).run P w= .ok (.enter (ρ.f 240) args) w:=enters_of L.f240 (by kernel_rfl) rfl
 go_enter L.f166,Body.n166_ntmps ρ
 go_wp2_with (go_at_fn (ρ.f 240);refine PF.mono ?_)
 rintro e w1 ⟨rfl,hbk,hk1,aga,o1,o2,o3⟩
 have hown:w1.ownsRowF 0 (ρ.t 5) 1 v bs.length bs:=by
  refine ⟨Xq.1, ?_⟩
  rcases Xq.2 with h|⟨g,cap,cur,fz,rfl,h1,h2,h3⟩
  · exact .inl h
  · exact .inr ⟨g,cap,cur,fz,rfl,h1,by rw [hk1 g (fun e=>hne (by simp [Value.ownBlock,e]))];exact h2,h3⟩
 have c0:w1.cell? ⟨b,0,none⟩=some (.pointer (some ⟨b,0,none⟩)):=by rw [Lib.cell_of_heap hbk];rfl
 have c1:w1.cell? ⟨b,1,none⟩=some v:=by rw [Lib.cell_of_heap hbk];rfl
 go_wp2_with (at_builtin;refine MC _ rfl _ _ (ρ.t 37) (ρ.t 9) rfl (ρ.t 5) i0 L.t37 L.t9 hi hz0 hz1 hz2 _ _ _ rfl hown s rfl ?c4 ?_)
 case c4=>omega
 intro v' w2 PL hgrow hnew
 have zN:w2.heap[b]? =some (.cells #[.pointer (some ⟨b,0,none⟩),v] (ρ.t 72) (0,0)):=by
  rw [hgrow.block b (by omega) (fun e=>hne e.symm)]
  exact hbk
 have d0:w2.cell? ⟨b,0,none⟩=some (.pointer (some ⟨b,0,none⟩)):=by rw [Lib.cell_of_heap zN];rfl
 have d1:w2.cell? ⟨b,1,none⟩=some v:=by rw [Lib.cell_of_heap zN];rfl
 have f1:w2.frozen? ⟨b,1,none⟩=false:=Lib.frozen_of_heap zN 1
 obtain ⟨ao,n',cap,rfl⟩:∃ao n' cap,v'= .slice ao n' cap:=by
  rcases PL.2 with ⟨hv,_⟩|⟨g,cap,cur,fz,hv,_⟩
  · exact ⟨_,_,_,hv⟩
  · exact ⟨_,_,_,hv⟩
 go_wp2
 go_ret2
 have nH:(Value.slice ao n' cap).ownBlock≠some b:=Lib.ownBlock_neF PL zN X.neB5
 refine ⟨rfl,⟨_,by simp [World.setCell,Array.getElem?_modify,zN], ?_,nH,fun k hk=> ?_⟩,fun k hk hkb hkv=> ?_, ?_, ?_⟩
 · have:=PL.kept (w':=w2.setCell ⟨b,1,none⟩ (.slice ao n' cap)) (row:=some b) ⟨rfl,rfl,rfl,by simp [World.setCell],fun k _ hk=>CO (fun e=>hk (by simp [e]))⟩ (Or.inr nH)
   rw [List.length_append,Lib.strCells_length]
   exact this
 · rcases hnew k hk with h|h
   · exact .inl h
   · exact .inr (by omega)
 · rw [CO hkb,hgrow.block k (by omega) (fun e=>hkv e.symm),hk1 k hkb]
 · rw [IC];have:=hgrow.size;omega
 · exact ⟨hgrow.os.trans o1,hgrow.tape.trans o2,hgrow.output.trans o3⟩
structure BR (T e:TypeId) (b:Nat) (p v:Value) (bs:List Value) (w w':World):Prop where
 at':w'.heap[b]? =some (.cells #[p,v] T (0,0))∧w'.ownsRowF 0 e 1 v bs.length bs
 keep:∀k,k<w.heap.size→v.ownBlock≠some k→w'.heap[k]? =w.heap[k]?
 size:w.heap.size≤w'.heap.size
 out:w'.os=w.os∧w'.tape=w.tape∧w'.output=w.output
set_option maxHeartbeats 2000000 in
set_option maxRecDepth 100000 in
theorem MD (L:Lays.n169 P ρ) (X:Builder.Extra P ρ) (b:Nat) (p v:Value) (l:List UInt8) (w:World) (h0:l≠[])
 (hbk:w.heap[b]? =some (.cells #[p,v] (ρ.t 72) (0,0))) (hown:w.ownsRowF 0 (ρ.t 5) 1 v l.length (Lib.byteCells l)) (hne:v.ownBlock≠some b):
 Calls P (ρ.f 169) #[.pointer (some ⟨b,0,none⟩)] w fun e w'=>e= .returned (.string ⟨l.toArray⟩)∧BR (ρ.t 72) (ρ.t 5) b p v (Lib.byteCells l) w w':=by
 have hl0:l.length≠0:=by simpa using h0
 have hwn:=hown
 obtain ⟨g,cap,cur,fz,rfl,hbg,hg,hfz,hnc,hcm,hcs,acF⟩:∃g cap cur fz,v= .slice (some ⟨g,0,none⟩) l.length cap∧0≤g∧w.heap[g]? =some (.cells cur (ρ.t 5) fz)∧fz.2≤l.length*1∧l.length≤cap∧cap≤maxLen∧cur.size=cap*1∧cur.toList.take (l.length*1)=Lib.byteCells l:=by
  rcases hown.2 with ⟨_,hz⟩|⟨g,cap,cur,fz,hv,r⟩
  · exact absurd hz hl0
  · exact ⟨g,cap,cur,fz,hv,r⟩
 have c1:w.drew.cell? ⟨b,1,none⟩=some (.slice (some ⟨g,0,none⟩) l.length cap):=by
  have:w.drew.heap[b]? =some (.cells #[p, .slice (some ⟨g,0,none⟩) l.length cap] (ρ.t 72) (0,0)):=hbk
  rw [Lib.cell_of_heap this];rfl
 have hSD:(Builtin.unsafeSliceData_ #[(ρ.t 37)] (ρ.t 127) #[.slice (some ⟨g,0,none⟩) l.length cap]).run P w.drew= .ok (.pointer (some ⟨g,0,none⟩)) w.drew:=
  Lib.run_unsafeSliceData_row _ _ _ _ _ _ (by omega)
 have hUS:(Builtin.unsafeString_ #[(ρ.t 127),(ρ.t 3)] (ρ.t 9) #[.pointer (some ⟨g,0,none⟩), .int .i64 l.length]).run P w.drew= .ok (.string ⟨l.toArray⟩) (w.drew.freeze ⟨g,0,none⟩ l.length):=by
  refine Lib.run_unsafeString_row w.drew (ρ.t 127) (ρ.t 3) (ρ.t 9) (ρ.t 5) L.t127 X.cellsByte g cur.size (by have hg':w.drew.heap[g]? =some (.cells cur (ρ.t 5) fz):=hg;simp [World.shape?,hg']) l h0 (by omega) (by unfold maxLen at hcm;omega) ?_
  intro j x hx
  exact hwn.cells (g:=g) rfl j (.int .u8 x.toNat) (by simp [Lib.byteCells,hx])
 have hA:Lib.BuilderAtF (ρ.t 72) (ρ.t 5) 0 b p (Lib.byteCells l) w.drew:=⟨Nat.zero_le _,_,hbk,by rw [Lib.byteCells_length];exact hwn,hne⟩
 have hF:=hA.froze (g:=g) (cap:=cap) (by rw [Lib.byteCells_length];exact c1)
 rw [Lib.byteCells_length] at hF
 have hgb:g≠b:=fun e=>hne (by simp [Value.ownBlock,e])
 have hkeep:∀k,k≠g→(w.drew.freeze ⟨g,0,none⟩ l.length).heap[k]? =w.heap[k]? :=by
  intro k hk
  unfold World.freeze
  split
  · rfl
  · simp only [Array.getElem?_modify]
    rw [if_neg (Ne.symm hk)]
    rfl
 have hsz:(w.drew.freeze ⟨g,0,none⟩ l.length).heap.size=w.heap.size:=by
  unfold World.freeze
  split
  · rfl
  · first|(simp;done)|(simp;rfl)
 have hout:(w.drew.freeze ⟨g,0,none⟩ l.length).os=w.os∧(w.drew.freeze ⟨g,0,none⟩ l.length).tape=w.drew.tape∧(w.drew.freeze ⟨g,0,none⟩ l.length).output=w.output:=by
  unfold World.freeze
  split<;>exact ⟨rfl,rfl,rfl⟩
 have hres:BR (ρ.t 72) (ρ.t 5) b p (.slice (some ⟨g,0,none⟩) l.length cap) (Lib.byteCells l) w (w.drew.freeze ⟨g,0,none⟩ l.length):=by
  obtain ⟨-,v2,k1,k2, -⟩:=hF
  have zN:(w.drew.freeze ⟨g,0,none⟩ l.length).heap[b]? =some (.cells #[p, .slice (some ⟨g,0,none⟩) l.length cap] (ρ.t 72) (0,0)):=by rw [hkeep b (Ne.symm hgb)];exact hbk
  rw [zN] at k1
  have e1:v2= .slice (some ⟨g,0,none⟩) l.length cap:=by simpa using k1.symm
  subst e1
  exact ⟨⟨zN,k2⟩,fun k _ hk=>hkeep k (fun e=>hk (by simp [Value.ownBlock,e])),Nat.le_of_eq hsz.symm,hout.1,hout.2.1,hout.2.2⟩
 have mixed:=L.mixed
 have t72:=L.t72;have a72:=L.a72;have z72:=L.z72;have v72:=L.v72;have u72:=run_underlying L.t72
 have t70:=L.t70;have a70:=L.a70;have z70:=L.z70;have v70:=L.v70;have u70:=run_underlying L.t70
 have t37:=L.t37;have a37:=L.a37;have z37:=L.z37;have v37:=L.v37;have u37:=run_underlying L.t37
 have t127:=L.t127;have a127:=L.a127;have z127:=L.z127;have v127:=L.v127;have agb:=run_underlying L.t127
 have t3:=L.t3;have a3:=L.a3;have z3:=L.z3;have v3:=L.v3;have u3:=run_underlying L.t3
 have t9:=L.t9;have a9:=L.a9;have z9:=L.z9;have v9:=L.v9;have u9:=run_underlying L.t9
 have t5:=X.t5;have a5:=X.a5;have z5:=X.z5;have v5:=X.v5;have u5:=run_underlying X.t5
 go_enter L.f169,Body.n169_ntmps ρ
 go_wp2
 go_region_o
 all_goals (go_wp2;go_ret;exact ⟨rfl,hres⟩)
end Go.Am
end
section
namespace Go.Am
open Go Go.Proofs
variable [Tabs]
section
variable {P:Program} {L:List Nat} {N:Nat} {F:Nat→Prop} {γ:List Nat} {C:Nat→List Value} {e:Env} {ah:AH} {ts:Array Value} {w w':World}
theorem CP (E:TypeId) (l:List UInt8) (v:Value):bG (.dn E l) v=v.ownBlock:=by
 cases v<;>try rfl
 rename_i a n c
 cases a<;>rfl
theorem vp.row {E:TypeId} {l:List UInt8} {v:Value} (h:vp w C E l v):w.ownsRowF 0 E 1 v l.length (Lib.byteCells l):=by
 refine ⟨by rw [Lib.byteCells_length];omega, ?_⟩
 rcases h with ⟨h1,h2⟩|⟨g,cap,cur,fz,h1,h2,h3,h4,h5,h6,h7,h8⟩
 · exact .inl ⟨h1,by rw [h2];rfl⟩
 · exact .inr ⟨g,cap,cur,fz,h1,Nat.zero_le _,h2,by omega,h5,by unfold maxLen;omega,by omega,by rw [Nat.mul_one];exact h8⟩
theorem vp.of {E:TypeId} {l:List UInt8} {v:Value} (h:w.ownsRowF 0 E 1 v l.length (Lib.byteCells l)) (hC:∀k,v.ownBlock=some k→C k=[]):vp w C E l v:=by
 rcases h.2 with ⟨h1,h2⟩|⟨g,cap,cur,fz,h1,h2,h3,h4,h5,h6,h7,h8⟩
 · exact .inl ⟨h1,List.eq_nil_of_length_eq_zero h2⟩
 · refine .inr ⟨g,cap,cur,fz,h1,h3,hC g (by rw [h1];rfl),by omega,h5,by unfold maxLen at h6;omega,by omega, ?_⟩
   rw [Nat.mul_one] at h8;exact h8
theorem SR.QW (h:SR L N F γ C e ah ts w) {q b:Nat} {T E:TypeId} {l l':List UInt8} {p v p' v':Value} (hq:ah[q]? =some [.dy T, .dn E l]) (hb:γ[q]? =some b)
 (hh:w.heap[b]? =some (.cells #[p,v] T (0,0))) (Z8:w'.heap[b]? =some (.cells #[p',v'] T (0,0))) (hp':p'= .pointer none∨p'= .pointer (some ⟨b,0,none⟩))
 (hv':w'.ownsRowF 0 E 1 v' l'.length (Lib.byteCells l')) (hnew:∀k,v'.ownBlock=some k→v.ownBlock=some k∨w.heap.size≤k)
 (hkeep:∀k,k<w.heap.size→k≠b→v.ownBlock≠some k→w'.heap[k]? =w.heap[k]?) (hsz:w.heap.size≤w'.heap.size) (hout:jH w w'):
 SR L N F γ C e (ah.set q [.dy T, .dn E l']) ts w'∧Ext F C w C w':=by
 have Ll:q<ah.length:=(List.getElem?_eq_some_iff.1 hq).1
 have di:(ah.set q [AV.dy T, .dn E l'])[q]? =some [.dy T, .dn E l']:=List.getElem?_set_self Ll
 have cV:∀(s:Nat),s≠q→(ah.set q [AV.dy T, .dn E l'])[s]? =ah[s]? :=fun s hne=>List.getElem?_set_ne (Ne.symm hne)
 have rF:blk γ e ah ts w (.obj q) b:=hb
 have Z9:w.cell? ⟨b,1,none⟩=some v:=by rw [cz hh];rfl
 have pG:∀g,v.ownBlock=some g→blk γ e ah ts w (.cell q 1) g:=fun g hg=>⟨_,_,b,hq,rfl,hb,by rw [Z9];simp only [Option.getD_some];rw [CP];exact hg⟩
 have Xr:vp w C E l v:=by
  obtain ⟨vs,ty,k1,k2,k3⟩:=h.mem.obj q b _ hq hb
  rw [hh] at k1
  injection k1 with k1
  injection k1 with k1
  have:=(k3 1 (.dn E l) rfl).2
  rw [←k1] at this
  exact this
 have hCg:∀g,v.ownBlock=some g→C g=[]:=by
  intro g hg
  rcases Xr with ⟨h1, -⟩|⟨g',cap,cur,fz,h1, -,h3, -⟩
  · rw [h1] at hg;cases hg
  · rw [h1] at hg
    simp only [Value.ownBlock,Option.some.injEq] at hg
    subst hg;exact h3
 have Bp:C b=[]:=h.mem.lZ q b _ hq (by simp) hb
 have BA:∀p k,blk γ e ah ts w p k→p≠ .obj q→p≠ .cell q 1→w'.heap[k]? =w.heap[k]? :=fun p k hp h1 h2=>
  hkeep k (eW h hp) (fun e=>h1 (h.dD _ _ _ (e▸hp) rF)) (fun hg=>h2 (h.dD _ _ _ hp (pG k hg)))
 have Uz:∀(s b' i:Nat),γ[s]? =some b'→s≠q→w'.cell? ⟨b',i,none⟩=w.cell? ⟨b',i,none⟩:=fun s b' i h1 h2=>
  gf (BA (.obj s) b' h1 (fun e=>h2 (by injection e)) (by simp))
 have uu:∀k,v'.ownBlock=some k→C k=[]:=by
  intro k hk
  rcases hnew k hk with h1|h1
  · exact hCg k h1
  · cases hc:C k with
    |nil=>rfl
    |cons x r=>
     obtain ⟨vs,ty,fr,h2, -⟩:=h.mem.pn k (by rw [hc];simp)
     have:=kY h2;omega
 have acG:vp w' C E l' v':=vp.of hv' uu
 have hbk:∀p k,blk γ e (ah.set q [.dy T, .dn E l']) ts w' p k→blk γ e ah ts w p k∨(p= .cell q 1∧w.heap.size≤k):=by
  intro p k hp
  cases p with
  |obj s=>exact .inl hp
  |tmp t=>exact .inl hp
  |cell s i=>
   obtain ⟨ds,a,b0,h1,h2,h3,h4⟩:=hp
   by_cases hn:s=q
   · subst hn
     rw [di] at h1;injection h1 with h1;subst h1
     rw [hb] at h3;injection h3 with h3;subst h3
     rcases i with _|_|i
     · simp at h2;subst h2
       simp [bG] at h4
     · simp at h2;subst h2
       rw [cz Z8] at h4
       have h5:v'.ownBlock=some k:=by
        rw [←CP E l']
        simpa using h4
       rcases hnew k h5 with h6|h6
       · exact .inl (pG k h6)
       · exact .inr ⟨rfl,h6⟩
     · simp at h2
   · rw [cV s hn] at h1
     exact .inl ⟨ds,a,b0,h1,h2,h3,by rw [Uz s b0 i h3 hn] at h4;exact h4⟩
 have mA:∀(p:Ow) (a:AV) (x:Value),TC w C a x→p≠ .obj q→p≠ .cell q 1→(∀k,bG a x=some k→blk γ e ah ts w p k)→TC w' C a x:=fun p a x ht h1 h2 hn=>ht.mono fun k hk=>⟨BA p k (hn k hk) h1 h2,rfl⟩
 refine ⟨⟨⟨by simp [h.mem.len],fun s x ds h1 h2=> ?_,fun x hx=> ?_,fun s x ds h1 h0 h2=> ?_,fun s x ds us ty fr h1 h2 h3=> ?_,fun s x ds T' h1 h2 h3=> ?_⟩,h.sz,fun t=>⟨(h.env t).1,mA (.tmp t) _ _ (h.env t).2 (by simp) (by simp) fun k hk=>hk⟩,fun p r x hp hr=> ?_,fun p x hp=> ?_,h.iT.keep hsz (fun k hk=> ?_),fun t tl k xs ht=> ?_⟩,
  ⟨fun _=>List.prefix_refl _,fun k hk=>⟨?_,rfl⟩,hsz,hout⟩⟩
 · by_cases hn:s=q
   · subst hn
     rw [di] at h1;injection h1 with h1;subst h1
     rw [hb] at h2;injection h2 with h2;subst h2
     refine ⟨_,(T,0,0),Z8,by simp,fun i a hi=> ?_⟩
     rcases i with _|_|i
     · simp at hi;subst hi
       rcases hp' with rfl|rfl<;>exact ⟨.dy ..,by simp [TC]⟩
     · simp at hi;subst hi
       refine ⟨?_,acG⟩
       rcases hv'.2 with ⟨h3, -⟩|⟨g,cap,cur,fz,h3, -⟩
       · subst h3;exact .dn ..
       · subst h3;exact .dn ..
     · simp at hi
   · rw [cV s hn] at h1
     obtain ⟨vs,ty,k1,k2,k3⟩:=h.mem.obj s x ds h1 h2
     have hs:=BA (.obj s) x h2 (fun e=>hn (by injection e)) (by simp)
     refine ⟨vs,ty,by rw [hs];exact k1,k2,fun i a hi=>⟨(k3 i a hi).1,mA (.cell s i) _ _ (k3 i a hi).2 (by simp) (fun e=>hn (by injection e)) fun k hk=>⟨ds,a,x,h1,hi,h2, ?_⟩⟩⟩
     rw [cz k1]
     simpa [Array.getD_eq_getD_getElem?] using hk
 · obtain ⟨vs,ty,fr,k1,k2⟩:=h.mem.pn x hx
   refine ⟨vs,ty,fr, ?_,k2⟩
   rw [hkeep x (kY k1) (fun e=>hx (by rw [e];exact Bp)) (fun hg=>hx (hCg x hg))]
   exact k1
 · by_cases hn:s=q
   · subst hn
     exact h.mem.lZ s x _ hq (by simp) h2
   · rw [cV s hn] at h1
     exact h.mem.lZ s x ds h1 h0 h2
 · by_cases hn:s=q
   · subst hn
     rw [hb] at h2;injection h2 with h2;subst h2
     rw [Z8] at h3
     injection h3 with h3
     injection h3 with e1 e2 e3
     subst e3
     intro i _ hi
     simp at hi
   · rw [cV s hn] at h1
     rw [BA (.obj s) x h2 (fun e=>hn (by injection e)) (by simp)] at h3
     exact h.mem.xq s x ds us ty fr h1 h2 h3
 · by_cases hn:s=q
   · subst hn
     rw [di] at h1;injection h1 with h1;subst h1
     rw [hb] at h2;injection h2 with h2;subst h2
     simp at h3;subst h3
     exact ⟨_,_,Z8,hp'⟩
   · rw [cV s hn] at h1
     rw [BA (.obj s) x h2 (fun e=>hn (by injection e)) (by simp)]
     exact h.mem.zM s x ds T' h1 h2 h3
 · rcases hbk p x hp with h1|⟨rfl,h1⟩<;>rcases hbk r x hr with h2|⟨rfl,h2⟩
   · exact h.dD p r x h1 h2
   · have:=eW h h1;omega
   · have:=eW h h2;omega
   · rfl
 · rcases hbk p x hp with h1|⟨-,h1⟩
   · exact h.nf p x h1
   · exact fun hF=>by have:=h.iT.lt x hF;omega
 · exact hkeep k (h.iT.lt k hk) (fun e=>h.nf _ _ rF (e▸hk)) (fun hg=>h.nf _ _ (pG k hg) hk)
 · have hf:=h.fr t tl k xs ht
   cases tl with
   |tmp u=>exact hf
   |cell s o=>
    intro ds a x h1 h2 h3 h4
    by_cases hn:s=q
    · subst hn
      rw [di] at h1;injection h1 with h1;subst h1
      rcases o with _|_|o
      · simp at h2;subst h2;cases h3
      · simp at h2;subst h2;cases h3
      · simp at h2
    · rw [cV s hn] at h1
      rw [Uz s x o h4 hn]
      exact hf ds a x h1 h2 h3 h4
 · exact hkeep k (h.iT.lt k hk) (fun e=>h.nf _ _ rF (e▸hk)) (fun hg=>h.nf _ _ (pG k hg) hk)
end
theorem FO (l s:List UInt8):Lib.byteCells l++Lib.strCells ⟨s.toArray⟩=Lib.byteCells (l++s):=by
 rw [Lib.strCells_eq,Lib.byteCells_append]
theorem E5 {vs:Array Value} {a b:Value} (hl:vs.size=2) (h0:vs.getD 0 undef=a) (h1:vs.getD 1 undef=b):vs= #[a,b]:=by
 apply Array.ext
 · exact hl
 · intro i hi hi2
   rcases i with _|_|i
   · rw [←h0];simp [Array.getD_eq_getD_getElem?,Array.getElem?_eq_getElem hi]
   · rw [←h1];simp [Array.getD_eq_getD_getElem?,Array.getElem?_eq_getElem hi]
   · omega
theorem aaa {vs:Array Value} {a:Value} (hl:vs.size=1) (h0:vs.getD 0 undef=a):vs= #[a]:=by
 apply Array.ext
 · exact hl
 · intro i hi hi2
   rcases i with _|i
   · rw [←h0];simp [Array.getD_eq_getD_getElem?,Array.getElem?_eq_getElem hi]
   · omega
theorem SR.Xs {L:List Nat} {N:Nat} {F:Nat→Prop} {γ:List Nat} {C:Nat→List Value} {e:Env} {ah:AH} {ts:Array Value} {w:World} (h:SR L N F γ C e ah ts w) {q b:Nat} {T E:TypeId} {l:List UInt8}
 (hq:ah[q]? =some [.dy T, .dn E l]) (hb:γ[q]? =some b):∃p v,w.heap[b]? =some (.cells #[p,v] T (0,0))∧(p= .pointer none∨p= .pointer (some ⟨b,0,none⟩))∧w.ownsRowF 0 E 1 v l.length (Lib.byteCells l)∧v.ownBlock≠some b:=by
 obtain ⟨p,v,hh,hp⟩:=h.mem.zM q b _ T hq hb rfl
 have Xr:vp w C E l v:=by
  obtain ⟨vs,ty,k1,k2,k3⟩:=h.mem.obj q b _ hq hb
  rw [hh] at k1
  injection k1 with k1
  injection k1 with k1
  have:=(k3 1 (.dn E l) rfl).2
  rw [←k1] at this
  exact this
 refine ⟨p,v,hh,hp,Xr.row,fun hg=> ?_⟩
 have h1:blk γ e ah ts w (.cell q 1) b:=⟨_,_,b,hq,rfl,hb,by rw [cz hh];simp only [Option.getD];rw [show (#[p,v]:Array Value)[1]? =some v from rfl];simp only;rw [CP];exact hg⟩
 have:=h.dD _ _ _ h1 (show blk γ e ah ts w (.obj q) b from hb)
 cases this
theorem aA.TE {P:Program} {f q:Nat} {T E:TypeId} {l s:List UInt8} {ah:AH} (hc:fW P f=true) (hq:ah[q]? =some [.dy T, .dn E l]) (hlen:l.length+s.length≤140737488355328)
 (h:∀(b:Nat) (p v:Value) (bs:List Value) (s:ByteArray) (w:World),(p= .pointer none∨p= .pointer (some ⟨b,0,none⟩))→w.heap[b]? =some (.cells #[p,v] T (0,0))→w.ownsRowF 0 E 1 v bs.length bs→v.ownBlock≠some b→bs.length+s.size≤140737488355328→
  Calls P f #[.pointer (some ⟨b,0,none⟩), .string s] w fun e w'=>e= .returned (.tuple #[.int .i64 s.size, .nilIface])∧BW T E b v (bs++Lib.strCells s) w w'):
 aA P f [.ptr q 0, .str s] ah fun r aE=>r= .bz [.int .i64 s.length, .v .nilIface]∧aE=ah.set q [.dy T, .dn E (l++s)]:=by
 refine ⟨hc,fun F γ C w vs hs=> ?_⟩
 have hv0:=(hs.env 0).1
 have hv1:=(hs.env 1).1
 rw [dH] at hv0 hv1
 obtain ⟨b,hb,h0⟩:=(show VR C γ (.ptr q 0) (vs.getD 0 undef) from hv0).gb
 have h1:=(show VR C γ (.str s) (vs.getD 1 undef) from hv1).dJ
 obtain rfl:=E5 hs.sz h0 h1
 obtain ⟨p,v,hh,hp,hrow,hne⟩:=hs.Xs hq hb
 have Hh:(⟨s.toArray⟩:ByteArray).size=s.length:=by simp [ByteArray.size]
 refine (h b p v (Lib.byteCells l) ⟨s.toArray⟩ w hp hh (by rw [Lib.byteCells_length];exact hrow) hne (by rw [Lib.byteCells_length,Hh];exact hlen)).mono ?_
 rintro en w' ⟨rfl,⟨v',k1,k2,k3,k4⟩,k5,k6,k7⟩
 have cV:=hs.QW (p':= .pointer (some ⟨b,0,none⟩)) (v':=v') (l':=l++s) hq hb hh k1 (.inr rfl) (by rw [FO,Lib.byteCells_length] at k2;exact k2) k4 k5 k6 k7
 refine ⟨_,_,_,γ,C,rfl,⟨rfl,rfl⟩,List.prefix_refl _,cV.1.DW (v:= .tuple #[.int .i64 (⟨s.toArray⟩:ByteArray).size, .nilIface]) ?_ ?_ rfl (by simp),cV.2⟩
 · rw [Hh]
   refine .bz _ _ _ rfl fun i a hi=> ?_
   rcases i with _|_|i
   · simp at hi;subst hi;exact .int ..
   · simp at hi;subst hi;exact .v _ _ rfl
   · simp at hi
 · intro i a hi
   rcases i with _|_|i
   · simp at hi;subst hi;trivial
   · simp at hi;subst hi;trivial
   · simp at hi
theorem aA.PM {P:Program} {f q:Nat} {T E:TypeId} {l:List UInt8} {ah:AH} (hc:fW P f=true) (hq:ah[q]? =some [.dy T, .dn E l])
 (h:∀(b:Nat) (p v:Value) (w:World),w.heap[b]? =some (.cells #[p,v] T (0,0))→w.ownsRowF 0 E 1 v l.length (Lib.byteCells l)→v.ownBlock≠some b→
  Calls P f #[.pointer (some ⟨b,0,none⟩)] w fun e w'=>e= .returned (.string ⟨l.toArray⟩)∧BR T E b p v (Lib.byteCells l) w w'):
 aA P f [.ptr q 0] ah fun r aE=>r= .str l∧aE=ah:=by
 refine ⟨hc,fun F γ C w vs hs=> ?_⟩
 have hv0:=(hs.env 0).1
 rw [dH] at hv0
 obtain ⟨b,hb,h0⟩:=(show VR C γ (.ptr q 0) (vs.getD 0 undef) from hv0).gb
 obtain rfl:=aaa hs.sz h0
 obtain ⟨p,v,hh,hp,hrow,hne⟩:=hs.Xs hq hb
 refine (h b p v w hh hrow hne).mono ?_
 rintro en w' ⟨rfl,⟨k1,k2⟩,k5,k6,k7⟩
 have cV:=hs.QW (p':=p) (v':=v) (l':=l) hq hb hh k1 hp (by rw [Lib.byteCells_length] at k2;exact k2) (fun k hk=> .inl hk) (fun k a _ c=>k5 k a c) k6 k7
 have hid:ah.set q [.dy T, .dn E l]=ah:=by
  apply List.ext_getElem?
  intro i
  by_cases hi:q=i
  · subst hi
    rw [List.getElem?_set_self (List.getElem?_eq_some_iff.1 hq).1,hq]
  · rw [List.getElem?_set_ne hi]
 rw [hid] at cV
 exact ⟨_,_,_,γ,C,rfl,⟨rfl,rfl⟩,List.prefix_refl _,cV.1.DW (.str ..) (by simp [TC]) rfl (by simp),cV.2⟩
end Go.Am
end
section
namespace Go.Am
open Go Go.Proofs
variable [Tabs]
abbrev uw (c:UInt8):Value:= .int .u8 c.toNat
theorem aA.delete {P:Program} {f g q n:Nat} {L L':List UInt8} {m:Nat} {ah:AH} (hc:fW P f=true) (hq:ah[q]? =some (ml b8 L)) (hn:n=L.length) (hl:L'.length=L.length) (hm:m≤L.length)
 (h:∀(b cap:Nat) (w:World),Sort.Holds uw w b 0 L.toArray→L.length≤cap→Calls P f #[.slice (some ⟨b,0,none⟩) L.length cap, .func (.func g) #[] #[]] w fun e w'=>e= .returned (.slice (some ⟨b,0,none⟩) m cap)∧∃k,w'=Sort.putRow uw (Sort.ahead w k) b 0 L'.toArray):
 aA P f [.cN q 1 0 n, .fn g []] ah fun r aE=>r= .cN q 1 0 m∧aE=ah.set q (ml b8 L'):=by
 refine ⟨hc,fun F γ C w vs hs=> ?_⟩
 have hv0:=(hs.env 0).1
 have hv1:=(hs.env 1).1
 rw [dH] at hv0 hv1
 obtain ⟨b,cap,hb,hcap,h0⟩:=(show VR C γ (.cN q 1 0 n) (vs.getD 0 undef) from hv0).xo
 obtain ⟨us,h1,hu, -⟩:=(show VR C γ (.fn g []) (vs.getD 1 undef) from hv1).Bl
 have hus:us= #[]:=Array.eq_empty_of_size_eq_zero (by simpa using hu.symm)
 subst hus
 obtain rfl:=E5 hs.sz h0 h1
 subst hn
 obtain ⟨old,⟨t0,f0,f1⟩,hh,UM,Nz⟩:=hs.mem.obj q b _ hq hb
 have hh:w.heap[b]? =some (.cells old t0 (f0,f1)):=hh
 have hlen:(ml b8 L).length=L.length:=by simp [ml]
 rw [hlen] at UM
 have hcell:∀j,j<L.length→old.getD j undef=uw (L[j]!):=by
  intro j hj
  have hj2:(ml b8 L)[j]? =some (b8 L[j]):=by simp [ml,List.getElem?_eq_getElem hj]
  have:=(Nz j _ hj2).1.dh
  rw [this,getElem!_pos L j hj]
 have hH:Sort.Holds uw w b 0 L.toArray:=by
  intro j hj
  have hj':j<L.length:=by simpa using hj
  refine ⟨?_, ?_⟩
  · rw [Nat.zero_add,cz hh]
    have:=hcell j hj'
    have hlt:j<old.size:=by omega
    simp only [Array.getD_eq_getD_getElem?,Array.getElem?_eq_getElem hlt,Option.getD_some] at this
    rw [Array.getElem?_eq_getElem hlt,this]
    simp
  · have hf:=hs.mem.xq q b _ old t0 (f0,f1) hq hb hh j (by rw [hlen];exact hj')
    simp only [Nat.zero_add,World.frozen?,hh]
    simp only [Bool.and_eq_false_iff,decide_eq_false_iff_not]
    omega
 refine (h b cap w hH hcap).mono ?_
 rintro en w' ⟨rfl,k,rfl⟩
 have hnew:(Sort.putRow uw (Sort.ahead w k) b 0 L'.toArray).heap[b]? =some (.cells (Sort.putCells uw 0 L'.toArray old) t0 (f0,f1)):=by
  show ((Sort.ahead w k).heap.modify b _)[b]? =_
  rw [Array.getElem?_modify,if_pos rfl]
  show Option.map _ (w.heap[b]?)=_
  rw [hh]
  rfl
 have Lc:(Sort.putCells uw 0 L'.toArray old).size=old.size:=by simp [Sort.putCells]
 have hnc:∀j (hj:j<L'.length),(Sort.putCells uw 0 L'.toArray old).getD j undef=uw L'[j]:=by
  intro j hj
  have hlt:j<old.size:=by omega
  simp only [Sort.putCells,Array.getD_eq_getD_getElem?]
  rw [Array.getElem?_eq_getElem (by simpa using hlt)]
  simp [hj]
 have cV:=hs.E2 (w':=Sort.putRow uw (Sort.ahead w k) b 0 L'.toArray) (cs':=ml b8 L') (p:=0) (ty:=(t0,f0,f1)) (nw:=Sort.putCells uw 0 L'.toArray old) hq hb hh hnew Lc (by simp [ml,hl])
  (fun b' hb'=>by
   show ((Sort.ahead w k).heap.modify b _)[b']? =_
   rw [Array.getElem?_modify,if_neg (Ne.symm hb')]
   rfl) (by simp [Sort.ahead]) (fun h0=>by
   have hL:L=[]:=by simpa [ml] using h0
   have hL':L'=[]:=List.eq_nil_of_length_eq_zero (by rw [hl,hL];rfl)
   subst hL'
   apply Array.ext
   · exact Lc
   · intro i h1 h2
     simp [Sort.putCells]) (fun i a hi=>by
   simp only [ml,List.getElem?_map,Option.map_eq_some_iff] at hi
   obtain ⟨c,hc,rfl⟩:=hi
   have hlt:i<L'.length:=(List.getElem?_eq_some_iff.1 hc).1
   have:L'[i]=c:=by rw [List.getElem?_eq_getElem hlt] at hc;exact Option.some.inj hc
   rw [hnc i hlt,this]
   exact .inr (.inl ⟨rfl, .int ..,trivial⟩)) ⟨rfl,rfl,rfl⟩
 exact ⟨_,_,_,γ,C,rfl,⟨rfl,rfl⟩,List.prefix_refl _,cV.1.DW (.cN _ _ _ _ _ _ _ hb (by omega)) (by simp [TC]) rfl (by simp),cV.2⟩
theorem aA.Xt {P:Program} {f:Nat} {args:List AV} {ah:AH} {l:List UInt8} (hc:fW P f=true)
 (h:∀(F:Nat→Prop) (C:Nat→List Value) (γ:List Nat) (w:World) (vs:Array Value),FL F w→(∀b,C b≠[]→∃vs ty fr,w.heap[b]? =some (.cells vs ty fr)∧C b <+: vs.toList)→vs.size=args.length→(∀(i:Nat) (a:AV),args[i]? =some a→VR C γ a (vs.getD i undef))→
  Calls P f vs w fun en w'=>en= .returned (.string ⟨l.toArray⟩)∧(∀b,b<w.heap.size→w'.heap[b]? =w.heap[b]?)∧w.heap.size≤w'.heap.size∧jH w w'):
 aA P f args ah fun r aE=>r= .str l∧aE=ah:=by
 refine ⟨hc,fun F γ C w vs hs=> ?_⟩
 refine (h F C γ w vs hs.iT hs.mem.pn hs.sz fun i a hi=> ?_).mono ?_
 · have:=(hs.env i).1
   rw [dH] at this
   simpa [hi] using this
 · rintro en w' ⟨rfl,h1,h2,h3⟩
   have hg:=hs.grow (C':=C) h1 h2 (fun _ _=>rfl) (fun b hb hne=>by
    exfalso
    obtain ⟨vs',ty,fr,hh, -⟩:=hs.mem.pn b hne
    have:=kY hh
    omega) h3
   exact ⟨.str l, .string ⟨l.toArray⟩,ah,γ,C,rfl,⟨rfl,rfl⟩,List.prefix_refl _,hg.1.DW (.str ..) (by simp [TC]) rfl (by simp),hg.2⟩
theorem VR.strs {C:Nat→List Value} {γ:List Nat} {tg:Tg} {xs:List (List UInt8)} {v:Value} {w:World} (h:VR C γ (.sl tg 1 (ml .str xs)) v) (hm:∀b,C b≠[]→∃vs ty fr,w.heap[b]? =some (.cells vs ty fr)∧C b <+: vs.toList) (hne:xs≠[]):
 ∃b o c,v= .slice (some ⟨b,o,none⟩) xs.length c∧xs.length≤c∧b<w.heap.size∧∀(j:Nat) (x:List UInt8),xs[j]? =some x→w.cell? ⟨b,o+j,none⟩=some (.string ⟨x.toArray⟩):=by
 obtain ⟨a,c,e0,hcap,hcase⟩:=h.ff
 have hlen:(ml AV.str xs).length=xs.length:=by simp [ml]
 rcases hcase with h0|⟨b,o,rfl,hk,hl,hx⟩
 · exact absurd (by simpa [ml] using h0) hne
 · rw [hlen] at e0 hcap hl
   have hpos:0<xs.length:=List.length_pos_iff.2 hne
   have Bp:C b≠[]:=by intro h0;rw [h0,List.length_nil] at hl;omega
   obtain ⟨vs,ty,fr,hh,hp⟩:=hm b Bp
   refine ⟨b,o,c,e0,hcap,kY hh,fun j x hj=> ?_⟩
   have hjl:j<xs.length:=(List.getElem?_eq_some_iff.1 hj).1
   have h1:=hx j (.str x) (by simp [ml,hj]) 0 (.str x) rfl
   have h2:=h1.dJ
   rw [Nat.mul_one,Nat.add_zero] at h2
   obtain ⟨r,hr⟩:=hp
   have hlt:o+j<(C b).length:=by omega
   have hlt2:o+j<vs.size:=by have:=congrArg List.length hr;simp at this;omega
   rw [cz hh,Array.getElem?_eq_getElem hlt2]
   congr 1
   have h3:vs.toList[o+j]? =some (.string ⟨x.toArray⟩):=by
    rw [←hr,List.getElem?_append_left hlt,List.getElem?_eq_getElem hlt]
    rw [List.getD_eq_getElem?_getD,List.getElem?_eq_getElem hlt] at h2
    simpa using h2
   rw [Array.getElem?_toList,Array.getElem?_eq_getElem hlt2] at h3
   exact Option.some.inj h3
end Go.Am
end
section
namespace Go.Proofs
open Go.Shelf
def Tryz.sg:Go.Shelf.Ren:=⟨fun|4=>83|n=>n,fun|22=>22|25=>5|3=>3|4=>4|9=>9|20=>20|0=>0|n=>n,fun|n=>n⟩
theorem Tryz.QX:Go.Proofs.Lays8.n4 Tryz.prog Tryz.sg:= {
 mixed:=by kernel_rfl
 f4:=⟨Tryz.f83.name,by decide,Tryz.func83.trans (congrArg some (by kernel_rfl))⟩
 t0:=Tryz.underlying0
 a0:=Tryz.isAgg0
 z0:=Tryz.sizeOf0
 v0:=Tryz.zeroValue0
 t3:=Tryz.underlying3
 a3:=Tryz.isAgg3
 z3:=Tryz.sizeOf3
 v3:=Tryz.zeroValue3
 t4:=Tryz.underlying4
 a4:=Tryz.isAgg4
 z4:=Tryz.sizeOf4
 v4:=Tryz.zeroValue4
 t9:=Tryz.underlying9
 a9:=Tryz.isAgg9
 z9:=Tryz.sizeOf9
 v9:=Tryz.zeroValue9
 t20:=Tryz.underlying20
 a20:=Tryz.isAgg20
 z20:=Tryz.sizeOf20
 v20:=Tryz.zeroValue20
 t22:=Tryz.underlying22
 a22:=Tryz.isAgg22
 z22:=Tryz.sizeOf22
 v22:=Tryz.zeroValue22}
def Tryz.PN:Go.Shelf.Ren:=⟨fun|10=>81|6=>119|n=>n,fun|22=>22|23=>5|25=>112|3=>3|4=>4|0=>0|n=>n,fun|n=>n⟩
theorem Tryz.acH:Go.Proofs.SlLaysH.n10 Tryz.prog Tryz.PN:= {
 mixed:=by kernel_rfl
 f6:=⟨Tryz.f119.name,by decide,Tryz.func119.trans (congrArg some (by kernel_rfl))⟩
 f10:=⟨Tryz.f81.name,by decide,Tryz.func81.trans (congrArg some (by kernel_rfl))⟩
 t0:=Tryz.underlying0
 a0:=Tryz.isAgg0
 z0:=Tryz.sizeOf0
 v0:=Tryz.zeroValue0
 t3:=Tryz.underlying3
 a3:=Tryz.isAgg3
 z3:=Tryz.sizeOf3
 v3:=Tryz.zeroValue3
 t4:=Tryz.underlying4
 a4:=Tryz.isAgg4
 z4:=Tryz.sizeOf4
 v4:=Tryz.zeroValue4
 t22:=Tryz.underlying22
 a22:=Tryz.isAgg22
 z22:=Tryz.sizeOf22
 v22:=Tryz.zeroValue22
 a23:=Tryz.isAgg5
 z23:=Tryz.sizeOf5
 t25:=Tryz.underlying112
 a25:=Tryz.isAgg112
 z25:=Tryz.sizeOf112
 v25:=Tryz.zeroValue112}
end Go.Proofs
end
section
namespace Go.Proofs
open Go.Shelf
def Tryz.Hy:Go.Shelf.Ren:=⟨fun|171=>38|243=>80|246=>118|283=>141|284=>142|285=>143|286=>144|129=>157|317=>156|318=>158|319=>159|320=>160|337=>169|338=>170|n=>n,fun|3=>3|9=>9|2=>2|4=>4|171=>142|0=>0|53=>143|37=>22|5=>5|173=>146|212=>154|51=>34|20=>20|213=>155|46=>116|232=>175|233=>176|n=>n,fun|17=>1|18=>6|19=>7|n=>n⟩
theorem Tryz.TF:Go.Proofs.LaysM.n171 Tryz.prog Tryz.Hy:= {
 mixed:=by kernel_rfl
 f129:=Tryz.func157.trans (congrArg some (by kernel_rfl))
 f171:=Tryz.func38.trans (congrArg some (by kernel_rfl))
 f243:=Tryz.func80.trans (congrArg some (by kernel_rfl))
 f246:=Tryz.func118.trans (congrArg some (by kernel_rfl))
 f283:=Tryz.func141.trans (congrArg some (by kernel_rfl))
 f284:=Tryz.func142.trans (congrArg some (by kernel_rfl))
 f285:=Tryz.func143.trans (congrArg some (by kernel_rfl))
 f286:=Tryz.func144.trans (congrArg some (by kernel_rfl))
 f317:=Tryz.func156.trans (congrArg some (by kernel_rfl))
 f318:=Tryz.func158.trans (congrArg some (by kernel_rfl))
 f319:=Tryz.func159.trans (congrArg some (by kernel_rfl))
 f320:=Tryz.func160.trans (congrArg some (by kernel_rfl))
 f337:=Tryz.func169.trans (congrArg some (by kernel_rfl))
 f338:=Tryz.func170.trans (congrArg some (by kernel_rfl))
 t0:=Tryz.underlying0
 a0:=Tryz.isAgg0
 z0:=Tryz.sizeOf0
 v0:=Tryz.zeroValue0
 t2:=Tryz.underlying2
 a2:=Tryz.isAgg2
 z2:=Tryz.sizeOf2
 v2:=Tryz.zeroValue2
 t3:=Tryz.underlying3
 a3:=Tryz.isAgg3
 z3:=Tryz.sizeOf3
 v3:=Tryz.zeroValue3
 t4:=Tryz.underlying4
 a4:=Tryz.isAgg4
 z4:=Tryz.sizeOf4
 v4:=Tryz.zeroValue4
 t5:=Tryz.underlying5
 a5:=Tryz.isAgg5
 z5:=Tryz.sizeOf5
 v5:=Tryz.zeroValue5
 t9:=Tryz.underlying9
 a9:=Tryz.isAgg9
 z9:=Tryz.sizeOf9
 v9:=Tryz.zeroValue9
 t20:=Tryz.underlying20
 a20:=Tryz.isAgg20
 z20:=Tryz.sizeOf20
 v20:=Tryz.zeroValue20
 t37:=Tryz.underlying22
 a37:=Tryz.isAgg22
 z37:=Tryz.sizeOf22
 v37:=Tryz.zeroValue22
 t46:=Tryz.underlying116
 a46:=Tryz.isAgg116
 z46:=Tryz.sizeOf116
 v46:=Tryz.zeroValue116
 t51:=Tryz.underlying34
 a51:=Tryz.isAgg34
 z51:=Tryz.sizeOf34
 v51:=Tryz.zeroValue34
 t53:=Tryz.underlying143
 a53:=Tryz.isAgg143
 z53:=Tryz.sizeOf143
 v53:=Tryz.zeroValue143
 t171:=Tryz.underlying142
 a171:=Tryz.isAgg142
 z171:=Tryz.sizeOf142
 v171:=Tryz.zeroValue142
 t173:=Tryz.underlying146
 a173:=Tryz.isAgg146
 z173:=Tryz.sizeOf146
 v173:=Tryz.zeroValue146
 t212:=Tryz.underlying154
 a212:=Tryz.isAgg154
 z212:=Tryz.sizeOf154
 v212:=Tryz.zeroValue154
 t213:=Tryz.underlying155
 a213:=Tryz.isAgg155
 z213:=Tryz.sizeOf155
 t232:=Tryz.underlying175
 a232:=Tryz.isAgg175
 z232:=Tryz.sizeOf175
 v232:=Tryz.zeroValue175
 t233:=Tryz.underlying176
 a233:=Tryz.isAgg176
 z233:=Tryz.sizeOf176
 v233:=Tryz.zeroValue176
 g17:=by kernel_rfl
 g18:=by kernel_rfl
 g19:=by kernel_rfl
 i0:=by kernel_rfl
 i2:=by kernel_rfl
 i3:=by kernel_rfl
 i4:=by kernel_rfl
 i5:=by kernel_rfl
 i9:=by kernel_rfl
 i20:=by kernel_rfl
 i37:=by kernel_rfl
 i46:=by kernel_rfl
 i51:=by kernel_rfl
 i53:=by kernel_rfl
 i171:=by kernel_rfl
 i173:=by kernel_rfl
 i212:=by kernel_rfl
 i232:=by kernel_rfl
 i233:=by kernel_rfl
 m17:=by kernel_rfl
 m18:=by kernel_rfl
 m19:=by kernel_rfl}
open Go.RowKit Go.Sort Go.Lib in
theorem Tryz.strconv_Itoa (n:Int) (h0: -9223372036854775808≤n) (h1:n≤9223372036854775807) (w:World) (htab:Lib.TabIs Tryz.prog w "internal/strconv.uint64pow10" .u64 Lib.pow10Tab):
 Calls Tryz.prog 38 #[.int .i64 n] w fun e w'=>e= .returned (.string ⟨(Lib.itoa n).toArray⟩)∧∃k os,w'=grow (w.drewN k) os:=Any.strconv_Itoa Tryz.TF n h0 h1 w htab
def Tryz.Hz:Go.Shelf.Ren:=⟨fun|172=>137|244=>153|245=>154|247=>164|279=>165|280=>166|281=>167|282=>168|287=>171|316=>172|171=>38|205=>173|321=>174|322=>175|243=>80|246=>118|283=>141|284=>142|285=>143|286=>144|129=>157|317=>156|318=>158|319=>159|320=>160|337=>169|338=>170|n=>n,fun|9=>9|3=>3|75=>78|76=>79|4=>4|5=>5|167=>159|37=>22|0=>0|85=>160|2=>2|168=>162|53=>143|175=>170|46=>116|210=>173|127=>113|145=>180|143=>178|21=>21|171=>142|173=>146|212=>154|51=>34|20=>20|213=>155|232=>175|233=>176|80=>84|n=>n,fun|15=>4|16=>5|17=>1|18=>6|19=>7|n=>n⟩
theorem Tryz.CQ:Go.Proofs.LaysC.n172 Tryz.prog Tryz.Hz:= {
 mixed:=by kernel_rfl
 f129:=Tryz.func157.trans (congrArg some (by kernel_rfl))
 f171:=Tryz.func38.trans (congrArg some (by kernel_rfl))
 f172:=Tryz.func137.trans (congrArg some (by kernel_rfl))
 f205:=Tryz.func173.trans (congrArg some (by kernel_rfl))
 f243:=Tryz.func80.trans (congrArg some (by kernel_rfl))
 f244:=Tryz.func153.trans (congrArg some (by kernel_rfl))
 f245:=Tryz.func154.trans (congrArg some (by kernel_rfl))
 f246:=Tryz.func118.trans (congrArg some (by kernel_rfl))
 f247:=Tryz.func164.trans (congrArg some (by kernel_rfl))
 f279:=Tryz.func165.trans (congrArg some (by kernel_rfl))
 f280:=Tryz.func166.trans (congrArg some (by kernel_rfl))
 f281:=Tryz.func167.trans (congrArg some (by kernel_rfl))
 f282:=Tryz.func168.trans (congrArg some (by kernel_rfl))
 f283:=Tryz.func141.trans (congrArg some (by kernel_rfl))
 f284:=Tryz.func142.trans (congrArg some (by kernel_rfl))
 f285:=Tryz.func143.trans (congrArg some (by kernel_rfl))
 f286:=Tryz.func144.trans (congrArg some (by kernel_rfl))
 f287:=Tryz.func171.trans (congrArg some (by kernel_rfl))
 f316:=Tryz.func172.trans (congrArg some (by kernel_rfl))
 f317:=Tryz.func156.trans (congrArg some (by kernel_rfl))
 f318:=Tryz.func158.trans (congrArg some (by kernel_rfl))
 f319:=Tryz.func159.trans (congrArg some (by kernel_rfl))
 f320:=Tryz.func160.trans (congrArg some (by kernel_rfl))
 f321:=Tryz.func174.trans (congrArg some (by kernel_rfl))
 f322:=Tryz.func175.trans (congrArg some (by kernel_rfl))
 f337:=Tryz.func169.trans (congrArg some (by kernel_rfl))
 f338:=Tryz.func170.trans (congrArg some (by kernel_rfl))
 t0:=Tryz.underlying0
 a0:=Tryz.isAgg0
 z0:=Tryz.sizeOf0
 v0:=Tryz.zeroValue0
 t2:=Tryz.underlying2
 a2:=Tryz.isAgg2
 z2:=Tryz.sizeOf2
 v2:=Tryz.zeroValue2
 t3:=Tryz.underlying3
 a3:=Tryz.isAgg3
 z3:=Tryz.sizeOf3
 v3:=Tryz.zeroValue3
 t4:=Tryz.underlying4
 a4:=Tryz.isAgg4
 z4:=Tryz.sizeOf4
 v4:=Tryz.zeroValue4
 t5:=Tryz.underlying5
 a5:=Tryz.isAgg5
 z5:=Tryz.sizeOf5
 v5:=Tryz.zeroValue5
 t9:=Tryz.underlying9
 a9:=Tryz.isAgg9
 z9:=Tryz.sizeOf9
 v9:=Tryz.zeroValue9
 t20:=Tryz.underlying20
 a20:=Tryz.isAgg20
 z20:=Tryz.sizeOf20
 v20:=Tryz.zeroValue20
 t21:=Tryz.underlying21
 a21:=Tryz.isAgg21
 z21:=Tryz.sizeOf21
 v21:=Tryz.zeroValue21
 t37:=Tryz.underlying22
 a37:=Tryz.isAgg22
 z37:=Tryz.sizeOf22
 v37:=Tryz.zeroValue22
 t46:=Tryz.underlying116
 a46:=Tryz.isAgg116
 z46:=Tryz.sizeOf116
 v46:=Tryz.zeroValue116
 t51:=Tryz.underlying34
 a51:=Tryz.isAgg34
 z51:=Tryz.sizeOf34
 v51:=Tryz.zeroValue34
 t53:=Tryz.underlying143
 a53:=Tryz.isAgg143
 z53:=Tryz.sizeOf143
 v53:=Tryz.zeroValue143
 t75:=Tryz.underlying78
 a75:=Tryz.isAgg78
 z75:=Tryz.sizeOf78
 v75:=Tryz.zeroValue78
 t76:=Tryz.underlying79
 a76:=Tryz.isAgg79
 z76:=Tryz.sizeOf79
 v76:=Tryz.zeroValue79
 t85:=Tryz.underlying160
 a85:=Tryz.isAgg160
 z85:=Tryz.sizeOf160
 v85:=Tryz.zeroValue160
 t127:=Tryz.underlying113
 a127:=Tryz.isAgg113
 z127:=Tryz.sizeOf113
 v127:=Tryz.zeroValue113
 t143:=Tryz.underlying178
 a143:=Tryz.isAgg178
 z143:=Tryz.sizeOf178
 v143:=Tryz.zeroValue178
 t145:=Tryz.underlying180
 a145:=Tryz.isAgg180
 z145:=Tryz.sizeOf180
 v145:=Tryz.zeroValue180
 t167:=Tryz.underlying159
 a167:=Tryz.isAgg159
 z167:=Tryz.sizeOf159
 v167:=Tryz.zeroValue159
 t168:=Tryz.underlying162
 a168:=Tryz.isAgg162
 z168:=Tryz.sizeOf162
 v168:=Tryz.zeroValue162
 t171:=Tryz.underlying142
 a171:=Tryz.isAgg142
 z171:=Tryz.sizeOf142
 v171:=Tryz.zeroValue142
 t173:=Tryz.underlying146
 a173:=Tryz.isAgg146
 z173:=Tryz.sizeOf146
 v173:=Tryz.zeroValue146
 t175:=Tryz.underlying170
 a175:=Tryz.isAgg170
 z175:=Tryz.sizeOf170
 v175:=Tryz.zeroValue170
 t210:=Tryz.underlying173
 a210:=Tryz.isAgg173
 z210:=Tryz.sizeOf173
 v210:=Tryz.zeroValue173
 t212:=Tryz.underlying154
 a212:=Tryz.isAgg154
 z212:=Tryz.sizeOf154
 v212:=Tryz.zeroValue154
 t213:=Tryz.underlying155
 a213:=Tryz.isAgg155
 z213:=Tryz.sizeOf155
 t232:=Tryz.underlying175
 a232:=Tryz.isAgg175
 z232:=Tryz.sizeOf175
 v232:=Tryz.zeroValue175
 t233:=Tryz.underlying176
 a233:=Tryz.isAgg176
 z233:=Tryz.sizeOf176
 v233:=Tryz.zeroValue176
 g15:=by kernel_rfl
 g16:=by kernel_rfl
 g17:=by kernel_rfl
 g18:=by kernel_rfl
 g19:=by kernel_rfl
 t80:=Tryz.underlying84
 a80:=Tryz.isAgg84
 z80:=Tryz.sizeOf84
 v80:=Tryz.zeroValue84
 i0:=by kernel_rfl
 i2:=by kernel_rfl
 i3:=by kernel_rfl
 i4:=by kernel_rfl
 i5:=by kernel_rfl
 i9:=by kernel_rfl
 i20:=by kernel_rfl
 i21:=by kernel_rfl
 i37:=by kernel_rfl
 i46:=by kernel_rfl
 i51:=by kernel_rfl
 i53:=by kernel_rfl
 i75:=by kernel_rfl
 i76:=by kernel_rfl
 i80:=by kernel_rfl
 i85:=by kernel_rfl
 i127:=by kernel_rfl
 i143:=by kernel_rfl
 i145:=by kernel_rfl
 i167:=by kernel_rfl
 i168:=by kernel_rfl
 i171:=by kernel_rfl
 i173:=by kernel_rfl
 i175:=by kernel_rfl
 i210:=by kernel_rfl
 i212:=by kernel_rfl
 i232:=by kernel_rfl
 i233:=by kernel_rfl
 m15:=by kernel_rfl
 m16:=by kernel_rfl
 m17:=by kernel_rfl
 m18:=by kernel_rfl
 m19:=by kernel_rfl
 c0:=by kernel_rfl
 c2:=by kernel_rfl
 c3:=by kernel_rfl
 c4:=by kernel_rfl
 c5:=by kernel_rfl
 c9:=by kernel_rfl
 c20:=by kernel_rfl
 c21:=by kernel_rfl
 c37:=by kernel_rfl
 c46:=by kernel_rfl
 c51:=by kernel_rfl
 c53:=by kernel_rfl
 c75:=by kernel_rfl
 c76:=by kernel_rfl
 c80:=by kernel_rfl
 c85:=by kernel_rfl
 c127:=by kernel_rfl
 c143:=by kernel_rfl
 c145:=by kernel_rfl
 c167:=by kernel_rfl
 c168:=by kernel_rfl
 c171:=by kernel_rfl
 c173:=by kernel_rfl
 c175:=by kernel_rfl
 c210:=by kernel_rfl
 c212:=by kernel_rfl
 c213:=by kernel_rfl
 c232:=by kernel_rfl
 c233:=by kernel_rfl}
open Go.RowKit in
theorem Tryz.strconv_Atoi_ok (s:ByteArray) (hmax:s.size≤9223372036854775806) (v:Int) (h:Lib.atoiAll s.data.toList= .ok v) (w:World):
 Calls Tryz.prog 137 #[.string s] w fun e w'=>e= .returned (.tuple #[.int .i64 v, .nilIface])∧(w'=w∨∃t,w'=Lib.bytesWorld w 5 t):=Any.strconv_Atoi_ok Tryz.CQ s hmax v h w
open Go.RowKit in
theorem Tryz.strconv_Atoi_syntax (s:ByteArray) (hlim:s.size≤281474976710656) (h:Lib.atoiAll s.data.toList=Go.Lib.NumEnd.syntax) (ev:Value) (w:World) (hv:w.cell? ⟨4,0,none⟩=some ev) (hev:ev= .nilIface∨∃te pe,ev= .iface te pe):
 Calls Tryz.prog 137 #[.string s] w fun e w'=>∃N,e= .returned (.tuple #[.int .i64 (0), .iface 162 (.pointer (some ⟨N,0,none⟩))])∧w.heap.size≤N∧w'.heap[N]? =some (.cells #[.string ⟨#[65,116,111,105]⟩, .string s,ev] 173 (0,0))∧Below w.heap.size w w':=Any.strconv_Atoi_syntax Tryz.CQ s hlim h ev w hv hev
open Go.RowKit in
theorem Tryz.strconv_Atoi_range (s:ByteArray) (hlim:s.size≤281474976710656) (h:Lib.atoiAll s.data.toList= .range) (ev:Value) (w:World) (hv:w.cell? ⟨5,0,none⟩=some ev) (hev:ev= .nilIface∨∃te pe,ev= .iface te pe):
 Calls Tryz.prog 137 #[.string s] w fun e w'=>∃N,e= .returned (.tuple #[.int .i64 (Lib.atoiSat s.data.toList), .iface 162 (.pointer (some ⟨N,0,none⟩))])∧w.heap.size≤N∧w'.heap[N]? =some (.cells #[.string ⟨#[65,116,111,105]⟩, .string s,ev] 173 (0,0))∧Below w.heap.size w w':=Any.strconv_Atoi_range Tryz.CQ s hlim h ev w hv hev
def Tryz.J5:Go.Shelf.Ren:=⟨fun|146=>65|221=>96|268=>128|138=>129|143=>130|195=>149|197=>150|218=>151|219=>126|260=>163|217=>145|225=>146|224=>147|267=>148|266=>161|314=>162|n=>n,fun|9=>9|31=>62|3=>3|4=>4|0=>0|105=>149|21=>21|5=>5|46=>116|119=>166|139=>169|138=>168|146=>157|51=>34|n=>n,fun|1=>0|3=>2|4=>3|n=>n⟩
theorem Tryz.Xu:Go.Proofs.Lays.n146 Tryz.prog Tryz.J5:= {
 mixed:=by kernel_rfl
 f138:=Tryz.func129.trans (congrArg some (by kernel_rfl))
 f143:=Tryz.func130.trans (congrArg some (by kernel_rfl))
 f146:=Tryz.func65.trans (congrArg some (by kernel_rfl))
 f195:=Tryz.func149.trans (congrArg some (by kernel_rfl))
 f197:=Tryz.func150.trans (congrArg some (by kernel_rfl))
 f217:=Tryz.func145.trans (congrArg some (by kernel_rfl))
 f218:=Tryz.func151.trans (congrArg some (by kernel_rfl))
 f219:=Tryz.func126.trans (congrArg some (by kernel_rfl))
 f221:=Tryz.func96.trans (congrArg some (by kernel_rfl))
 f224:=Tryz.func147.trans (congrArg some (by kernel_rfl))
 f225:=Tryz.func146.trans (congrArg some (by kernel_rfl))
 f260:=Tryz.func163.trans (congrArg some (by kernel_rfl))
 f266:=Tryz.func161.trans (congrArg some (by kernel_rfl))
 f267:=Tryz.func148.trans (congrArg some (by kernel_rfl))
 f268:=Tryz.func128.trans (congrArg some (by kernel_rfl))
 f314:=Tryz.func162.trans (congrArg some (by kernel_rfl))
 t0:=Tryz.underlying0
 a0:=Tryz.isAgg0
 z0:=Tryz.sizeOf0
 v0:=Tryz.zeroValue0
 t3:=Tryz.underlying3
 a3:=Tryz.isAgg3
 z3:=Tryz.sizeOf3
 v3:=Tryz.zeroValue3
 t4:=Tryz.underlying4
 a4:=Tryz.isAgg4
 z4:=Tryz.sizeOf4
 v4:=Tryz.zeroValue4
 t5:=Tryz.underlying5
 a5:=Tryz.isAgg5
 z5:=Tryz.sizeOf5
 v5:=Tryz.zeroValue5
 t9:=Tryz.underlying9
 a9:=Tryz.isAgg9
 z9:=Tryz.sizeOf9
 v9:=Tryz.zeroValue9
 t21:=Tryz.underlying21
 a21:=Tryz.isAgg21
 z21:=Tryz.sizeOf21
 v21:=Tryz.zeroValue21
 t31:=Tryz.underlying62
 a31:=Tryz.isAgg62
 z31:=Tryz.sizeOf62
 v31:=Tryz.zeroValue62
 t46:=Tryz.underlying116
 a46:=Tryz.isAgg116
 z46:=Tryz.sizeOf116
 v46:=Tryz.zeroValue116
 t51:=Tryz.underlying34
 a51:=Tryz.isAgg34
 z51:=Tryz.sizeOf34
 v51:=Tryz.zeroValue34
 t105:=Tryz.underlying149
 a105:=Tryz.isAgg149
 z105:=Tryz.sizeOf149
 v105:=Tryz.zeroValue149
 t119:=Tryz.underlying166
 a119:=Tryz.isAgg166
 z119:=Tryz.sizeOf166
 t138:=Tryz.underlying168
 a138:=Tryz.isAgg168
 z138:=Tryz.sizeOf168
 v138:=Tryz.zeroValue168
 t139:=Tryz.underlying169
 a139:=Tryz.isAgg169
 z139:=Tryz.sizeOf169
 v139:=Tryz.zeroValue169
 t146:=Tryz.underlying157
 a146:=Tryz.isAgg157
 z146:=Tryz.sizeOf157
 v146:=Tryz.zeroValue157
 g1:=by kernel_rfl
 g3:=by kernel_rfl
 g4:=by kernel_rfl}
open Go.RowKit Go.Lib in
theorem Tryz.strings_Split (s sep:ByteArray) (m:Int) (w:World) (hs:s.size<4294967281) (hm:w.cell? ⟨0,0,none⟩=some (.int .i64 m)) (h1:1≤sep.size):
 Calls Tryz.prog 65 #[.string s, .string sep] w fun e w'=>
  e= .returned (.slice (some ⟨w.heap.size,0,none⟩) (Lib.countB s sep+1) (Lib.countB s sep+1))∧w'=w.alloc (.cells ((Lib.splitB sep 0 (Lib.countB s sep) s).map Value.string).toArray 9):=Any.strings_Split Tryz.Xu (by kernel_rfl) s sep m w hs hm h1
def Tryz.J6:Go.Shelf.Ren:=⟨fun|137=>152|217=>145|266=>161|n=>n,fun|9=>9|5=>5|3=>3|n=>n,fun|n=>n⟩
theorem Tryz.Xv:Go.Proofs.Lays.n137 Tryz.prog Tryz.J6:= {
 mixed:=by kernel_rfl
 f137:=Tryz.func152.trans (congrArg some (by kernel_rfl))
 f217:=Tryz.func145.trans (congrArg some (by kernel_rfl))
 f266:=Tryz.func161.trans (congrArg some (by kernel_rfl))
 t3:=Tryz.underlying3
 a3:=Tryz.isAgg3
 z3:=Tryz.sizeOf3
 v3:=Tryz.zeroValue3
 t5:=Tryz.underlying5
 a5:=Tryz.isAgg5
 z5:=Tryz.sizeOf5
 v5:=Tryz.zeroValue5
 t9:=Tryz.underlying9
 a9:=Tryz.isAgg9
 z9:=Tryz.sizeOf9
 v9:=Tryz.zeroValue9}
open Go.RowKit in
theorem Tryz.strings_IndexByte (s:ByteArray) (c:Int) (w:World):
 Calls Tryz.prog 152 #[.string s, .int .u8 c] w fun e w'=>e= .returned (.int .i64 (Lib.indexByte s.data.toList c.toNat.toUInt8))∧w'=w:=Any.strings_IndexByte Tryz.Xv s c w
def Tryz.J7:Go.Shelf.Ren:=⟨fun|145=>62|220=>94|219=>126|217=>145|225=>146|224=>147|267=>148|266=>161|314=>162|n=>n,fun|9=>9|4=>4|59=>100|3=>3|5=>5|46=>116|146=>157|51=>34|n=>n,fun|1=>0|n=>n⟩
theorem Tryz.Xw:Go.Proofs.Lays.n145 Tryz.prog Tryz.J7:= {
 mixed:=by kernel_rfl
 f145:=Tryz.func62.trans (congrArg some (by kernel_rfl))
 f217:=Tryz.func145.trans (congrArg some (by kernel_rfl))
 f219:=Tryz.func126.trans (congrArg some (by kernel_rfl))
 f220:=Tryz.func94.trans (congrArg some (by kernel_rfl))
 f224:=Tryz.func147.trans (congrArg some (by kernel_rfl))
 f225:=Tryz.func146.trans (congrArg some (by kernel_rfl))
 f266:=Tryz.func161.trans (congrArg some (by kernel_rfl))
 f267:=Tryz.func148.trans (congrArg some (by kernel_rfl))
 f314:=Tryz.func162.trans (congrArg some (by kernel_rfl))
 t3:=Tryz.underlying3
 a3:=Tryz.isAgg3
 z3:=Tryz.sizeOf3
 v3:=Tryz.zeroValue3
 t4:=Tryz.underlying4
 a4:=Tryz.isAgg4
 z4:=Tryz.sizeOf4
 v4:=Tryz.zeroValue4
 t5:=Tryz.underlying5
 a5:=Tryz.isAgg5
 z5:=Tryz.sizeOf5
 v5:=Tryz.zeroValue5
 t9:=Tryz.underlying9
 a9:=Tryz.isAgg9
 z9:=Tryz.sizeOf9
 v9:=Tryz.zeroValue9
 t46:=Tryz.underlying116
 a46:=Tryz.isAgg116
 z46:=Tryz.sizeOf116
 v46:=Tryz.zeroValue116
 t51:=Tryz.underlying34
 a51:=Tryz.isAgg34
 z51:=Tryz.sizeOf34
 v51:=Tryz.zeroValue34
 t59:=Tryz.underlying100
 a59:=Tryz.isAgg100
 z59:=Tryz.sizeOf100
 v59:=Tryz.zeroValue100
 t146:=Tryz.underlying157
 a146:=Tryz.isAgg157
 z146:=Tryz.sizeOf157
 v146:=Tryz.zeroValue157
 g1:=by kernel_rfl}
open Go.RowKit Go.Lib in
theorem Tryz.strings_Cut (s sep:ByteArray) (m:Int) (w:World) (hs:s.size<4294967281) (hm:w.cell? ⟨0,0,none⟩=some (.int .i64 m)):
 Calls Tryz.prog 62 #[.string s, .string sep] w fun e w'=>e= .returned (.tuple #[.string ⟨(Lib.cut s.data.toList sep.data.toList).1.toArray⟩, .string ⟨(Lib.cut s.data.toList sep.data.toList).2.1.toArray⟩, .bool (Lib.cut s.data.toList sep.data.toList).2.2])∧∃n,w'=w.drewN n:=Any.strings_Cut Tryz.Xw s sep m w hs hm
def Tryz.vA:Go.Shelf.Ren:=⟨fun|156=>74|165=>114|166=>34|169=>40|240=>73|241=>139|276=>113|277=>155|n=>n,fun|31=>62|9=>9|3=>3|4=>4|0=>0|20=>20|72=>76|76=>79|70=>74|37=>22|75=>78|127=>113|164=>132|5=>5|80=>84|n=>n,fun|n=>n⟩
theorem Tryz.BB:Go.Proofs.Lays.n156 Tryz.prog Tryz.vA:= {
 mixed:=by kernel_rfl
 f156:=Tryz.func74.trans (congrArg some (by kernel_rfl))
 f165:=Tryz.func114.trans (congrArg some (by kernel_rfl))
 f166:=Tryz.func34.trans (congrArg some (by kernel_rfl))
 f169:=Tryz.func40.trans (congrArg some (by kernel_rfl))
 f240:=Tryz.func73.trans (congrArg some (by kernel_rfl))
 f241:=Tryz.func139.trans (congrArg some (by kernel_rfl))
 f276:=Tryz.func113.trans (congrArg some (by kernel_rfl))
 f277:=Tryz.func155.trans (congrArg some (by kernel_rfl))
 t0:=Tryz.underlying0
 a0:=Tryz.isAgg0
 z0:=Tryz.sizeOf0
 v0:=Tryz.zeroValue0
 t3:=Tryz.underlying3
 a3:=Tryz.isAgg3
 z3:=Tryz.sizeOf3
 v3:=Tryz.zeroValue3
 t4:=Tryz.underlying4
 a4:=Tryz.isAgg4
 z4:=Tryz.sizeOf4
 v4:=Tryz.zeroValue4
 t9:=Tryz.underlying9
 a9:=Tryz.isAgg9
 z9:=Tryz.sizeOf9
 v9:=Tryz.zeroValue9
 t20:=Tryz.underlying20
 a20:=Tryz.isAgg20
 z20:=Tryz.sizeOf20
 v20:=Tryz.zeroValue20
 t31:=Tryz.underlying62
 a31:=Tryz.isAgg62
 z31:=Tryz.sizeOf62
 v31:=Tryz.zeroValue62
 t37:=Tryz.underlying22
 a37:=Tryz.isAgg22
 z37:=Tryz.sizeOf22
 v37:=Tryz.zeroValue22
 t70:=Tryz.underlying74
 a70:=Tryz.isAgg74
 z70:=Tryz.sizeOf74
 v70:=Tryz.zeroValue74
 t72:=Tryz.underlying76
 a72:=Tryz.isAgg76
 z72:=Tryz.sizeOf76
 v72:=Tryz.zeroValue76
 t75:=Tryz.underlying78
 a75:=Tryz.isAgg78
 z75:=Tryz.sizeOf78
 v75:=Tryz.zeroValue78
 t76:=Tryz.underlying79
 a76:=Tryz.isAgg79
 z76:=Tryz.sizeOf79
 v76:=Tryz.zeroValue79
 t127:=Tryz.underlying113
 a127:=Tryz.isAgg113
 z127:=Tryz.sizeOf113
 v127:=Tryz.zeroValue113
 t164:=Tryz.underlying132
 a164:=Tryz.isAgg132
 z164:=Tryz.sizeOf132
 v164:=Tryz.zeroValue132}
theorem Tryz.iL:Builder.Extra Tryz.prog Tryz.vA:= {
 sizeBuilder:=by kernel_rfl
 liesBuilder:=by kernel_rfl
 t5:=Tryz.underlying5
 a5:=Tryz.isAgg5
 z5:=Tryz.sizeOf5
 v5:=Tryz.zeroValue5
 infoByte:=by kernel_rfl
 cellsByte:=by kernel_rfl
 sizeByte:=by kernel_rfl
 neB5:=by decide}
open Go.RowKit in
theorem Tryz.strings_Join (bk o c:Nat) (xs:List ByteArray) (sep:ByteArray) (w:World) (hcells:∀(j:Nat) x,xs[j]? =some x→w.cell? ⟨bk,o+j,none⟩=some (.string x)) (hbk:bk<w.heap.size) (hN:xs.length≤140737488355328) (hcap:xs.length≤c) (hlen:(Lib.join (xs.map (·.data.toList)) sep.data.toList).length≤140737488355328):
 Calls Tryz.prog 74 #[.slice (some ⟨bk,o,none⟩) xs.length c, .string sep] w fun e w'=>e= .returned (.string ⟨(Lib.join (xs.map (·.data.toList)) sep.data.toList).toArray⟩)∧Below w.heap.size w w':=Any.strings_Join Tryz.BB Tryz.iL bk o c xs sep w hcells hbk hN hcap hlen
def Tryz.BC:Go.Shelf.Ren:=⟨fun|169=>40|n=>n,fun|70=>74|9=>9|0=>0|72=>76|37=>22|127=>113|3=>3|5=>5|n=>n,fun|n=>n⟩
theorem Tryz.Xx:Go.Proofs.Lays.n169 Tryz.prog Tryz.BC:= {
 mixed:=by kernel_rfl
 f169:=Tryz.func40.trans (congrArg some (by kernel_rfl))
 t0:=Tryz.underlying0
 a0:=Tryz.isAgg0
 z0:=Tryz.sizeOf0
 v0:=Tryz.zeroValue0
 t3:=Tryz.underlying3
 a3:=Tryz.isAgg3
 z3:=Tryz.sizeOf3
 v3:=Tryz.zeroValue3
 t9:=Tryz.underlying9
 a9:=Tryz.isAgg9
 z9:=Tryz.sizeOf9
 v9:=Tryz.zeroValue9
 t37:=Tryz.underlying22
 a37:=Tryz.isAgg22
 z37:=Tryz.sizeOf22
 v37:=Tryz.zeroValue22
 t70:=Tryz.underlying74
 a70:=Tryz.isAgg74
 z70:=Tryz.sizeOf74
 v70:=Tryz.zeroValue74
 t72:=Tryz.underlying76
 a72:=Tryz.isAgg76
 z72:=Tryz.sizeOf76
 v72:=Tryz.zeroValue76
 t127:=Tryz.underlying113
 a127:=Tryz.isAgg113
 z127:=Tryz.sizeOf113
 v127:=Tryz.zeroValue113}
theorem Tryz.zU:Builder.Extra Tryz.prog Tryz.BC:= {
 sizeBuilder:=by kernel_rfl
 liesBuilder:=by kernel_rfl
 t5:=Tryz.underlying5
 a5:=Tryz.isAgg5
 z5:=Tryz.sizeOf5
 v5:=Tryz.zeroValue5
 infoByte:=by kernel_rfl
 cellsByte:=by kernel_rfl
 sizeByte:=by kernel_rfl
 neB5:=by decide}
end Go.Proofs
end
section
set_option maxRecDepth 100000
namespace Go.Proofs.cI
open Go Go.Am Go.Proofs
def FP (cs:Array Value):Prop:=∃ev,cs= #[ev]∧(ev= .nilIface∨∃te pe,ev= .iface te pe)
instance yF:Tabs:=⟨[(0,fun cs=>∃m,cs= #[.int .i64 m]),(1,fun cs=>cs=(Lib.pow10Tab.map fun z=>Value.int .u64 z).toArray),(4,FP),(5,FP)]⟩
theorem ade {F:Nat→Prop} {w:World} (hF:FL F w) {g:Nat} {p:Array Value→Prop} (hm:(g,p)∈Tabs.l) {v:Value} (hp:∀cs,p cs→cs[0]? =some v∨True):∃cs ty fr,w.heap[g]? =some (.cells cs ty fr)∧p cs:=(hF.K5 _ hm).2
theorem cell_of {w:World} {g:Nat} {v:Value} {ty:TypeId} {fr:Nat×Nat} (h:w.heap[g]? =some (.cells #[v] ty fr)):w.cell? ⟨g,0,none⟩=some v:=by
 simp [World.cell?,h]
theorem ID {F:Nat→Prop} {w:World} (hF:FL F w):∃m,w.cell? ⟨0,0,none⟩=some (.int .i64 m):=by
 obtain ⟨-,cs,ty,fr,h,m,rfl⟩:=hF.K5 (0,fun cs=>∃m,cs= #[.int .i64 m]) (by simp [Tabs.l,yF])
 exact ⟨m,cell_of h⟩
theorem IE {F:Nat→Prop} {w:World} (hF:FL F w) {g:Nat} (hm:(g,FP)∈Tabs.l):∃ev,w.cell? ⟨g,0,none⟩=some ev∧(ev= .nilIface∨∃te pe,ev= .iface te pe):=by
 obtain ⟨-,cs,ty,fr,h,ev,rfl,he⟩:=hF.K5 _ hm
 exact ⟨ev,cell_of h,he⟩
theorem args1 {γ:List Nat} {C:Nat→List Value} {vs:Array Value} {a:AV} {v:Value} (hl:vs.size=[a].length) (h:vs.getD 0 undef=v):vs= #[v]:=by
 apply Array.ext
 · simpa using hl
 · intro i h1 h2
   simp at h2;subst h2
   simpa [Array.getD_eq_getD_getElem?,Array.getElem?_eq_getElem h1] using h
theorem args2 {vs:Array Value} {a b:AV} {v u:Value} (hl:vs.size=[a,b].length) (h:vs.getD 0 undef=v) (h':vs.getD 1 undef=u):vs= #[v,u]:=by
 apply Array.ext
 · simpa using hl
 · intro i h1 h2
   have:i=0∨i=1:=by simp at h2;omega
   rcases this with rfl|rfl
   · simpa [Array.getD_eq_getD_getElem?,Array.getElem?_eq_getElem h1] using h
   · simpa [Array.getD_eq_getD_getElem?,Array.getElem?_eq_getElem h1] using h'
def strconv_Itoa (n:Int):Option (List UInt8):=if -9223372036854775808≤n∧n≤9223372036854775807 then some (Lib.itoa n) else none
theorem gZ {i1:Int} {H0:AH} {r0:List UInt8} (h:strconv_Itoa i1=some r0):aA Tryz.prog 38 [(.int .i64 i1)] H0 fun v H'=>v=(.str r0)∧H'=H0:=by
 unfold strconv_Itoa at h
 obtain ⟨⟨h0,h1⟩,h⟩:=Fz h
 injection h with h
 subst h
 exact My i1 (by kernel_rfl) (fun F w hF=>TB hF (g:=1) (by simp [Tabs.l,yF]) (by kernel_rfl)) (fun w ht=>Tryz.strconv_Itoa i1 h0 h1 w ht)
def strings_IndexByte (s:List UInt8) (c:UInt8):Option Int:=some (Lib.indexByte s c)
theorem wV {s1:List UInt8} {c2:UInt8} {H0:AH} {r0:Int} (h:strings_IndexByte s1 c2=some r0):aA Tryz.prog 152 [(.str s1),(b8 c2)] H0 fun v H'=>v=(.int .i64 r0)∧H'=H0:=by
 unfold strings_IndexByte at h
 injection h with h
 subst h
 refine aA.Xh rfl (by simp) (by kernel_rfl) fun F C γ w vs hF hl hv=> ?_
 have h0:=(hv 0 _ rfl).dJ
 have h1:=VR.dh (hv 1 _ rfl)
 obtain rfl:=args2 hl h0 h1
 refine (Tryz.strings_IndexByte ⟨s1.toArray⟩ _ w).mono ?_
 rintro e w' ⟨rfl,rfl⟩
 refine ⟨_,rfl, ?_,by simp [TC],fun _ _=>rfl,Nat.le_refl _,rfl,rfl,rfl⟩
 have:(c2.toNat:Int).toNat.toUInt8=c2:=by simp
 rw [this]
 exact .int ..
def strconv_Atoi (s:List UInt8):Option (Int×Bool):=if s.length≤281474976710656 then some (match Lib.atoiAll s with| .ok v=>(v,false)|Go.Lib.NumEnd.syntax=>(0,true)| .range=>(Lib.atoiSat s,true)) else none
theorem strconv_Atoi_ok {s1:List UInt8} {H0:AH} {r0:Int} {r1:Bool} (h:strconv_Atoi s1=some (r0,r1)):aA Tryz.prog 137 [(.str s1)] H0 fun v H'=>v=(.bz [(.int .i64 r0),(eE r1)])∧H'=H0:=by
 unfold strconv_Atoi at h
 obtain ⟨hs,h⟩:=Fz h
 injection h with h
 refine aA.Xh rfl (by simp) (by kernel_rfl) fun F C γ w vs hF hl hv=> ?_
 have h0:=(hv 0 _ rfl).dJ
 obtain rfl:=args1 (γ:=γ) (C:=C) hl h0
 have hsz:(⟨s1.toArray⟩:ByteArray).size=s1.length:=by simp [ByteArray.size]
 have hd:(⟨s1.toArray⟩:ByteArray).data.toList=s1:=by simp
 rcases CI:Lib.atoiAll s1 with v|_|_
 · rw [CI] at h
   injection h with ha hb
   subst ha hb
   refine (Tryz.strconv_Atoi_ok ⟨s1.toArray⟩ (by omega) v (by rw [hd];exact CI) w).mono ?_
   rintro e w' ⟨rfl,hw⟩
   refine ⟨_,rfl, ?_, ?_, ?_⟩
   · refine .bz _ _ _ rfl fun i a hi=> ?_
     match i,hi with
     |0,hi=>injection hi with hi;subst hi;exact .int ..
     |1,hi=>injection hi with hi;subst hi;exact .v _ _ rfl
   · intro i a hi
     match i,hi with
     |0,hi=>injection hi with hi;subst hi;trivial
     |1,hi=>injection hi with hi;subst hi;trivial
   · rcases hw with rfl|⟨t,rfl⟩
     · exact ⟨fun _ _=>rfl,Nat.le_refl _,rfl,rfl,rfl⟩
     · exact ⟨fun b hb=>Lib.bytesWorld_at_old _ _ _ _ hb,by rw [Lib.bytesWorld_size];omega,rfl,rfl,rfl⟩
 · rw [CI] at h
   injection h with ha hb
   subst ha hb
   obtain ⟨ev,hc,he⟩:=IE hF (g:=4) (by simp [Tabs.l,yF])
   refine (Tryz.strconv_Atoi_syntax ⟨s1.toArray⟩ (by omega) (by rw [hd];exact CI) ev w hc he).mono ?_
   rintro e w' ⟨N,rfl, -, -,hb⟩
   refine ⟨_,rfl, ?_, ?_,hb.block,hb.size,hb.os,hb.tape,hb.output⟩
   · refine .bz _ _ _ rfl fun i a hi=> ?_
     match i,hi with
     |0,hi=>injection hi with hi;subst hi;exact .int ..
     |1,hi=>injection hi with hi;subst hi;exact .eG ..
   · intro i a hi
     match i,hi with
     |0,hi=>injection hi with hi;subst hi;trivial
     |1,hi=>injection hi with hi;subst hi;trivial
 · rw [CI] at h
   injection h with ha hb
   subst ha hb
   obtain ⟨ev,hc,he⟩:=IE hF (g:=5) (by simp [Tabs.l,yF])
   refine (Tryz.strconv_Atoi_range ⟨s1.toArray⟩ (by omega) (by rw [hd];exact CI) ev w hc he).mono ?_
   rintro e w' ⟨N,rfl, -, -,hb⟩
   refine ⟨_,rfl, ?_, ?_,hb.block,hb.size,hb.os,hb.tape,hb.output⟩
   · refine .bz _ _ _ rfl fun i a hi=> ?_
     match i,hi with
     |0,hi=>injection hi with hi;subst hi;simp only [hd];exact .int ..
     |1,hi=>injection hi with hi;subst hi;exact .eG ..
   · intro i a hi
     match i,hi with
     |0,hi=>injection hi with hi;subst hi;trivial
     |1,hi=>injection hi with hi;subst hi;trivial
theorem xI {sep:List UInt8} (h1:sep≠[]):∀(n:Nat) (l:List UInt8),Lib.count l sep=n→(Lib.splitK sep 0 n l).length=n+1
 |0,_,_=>rfl
 |n+1,l,h=>by
  rcases Lib.index_spec l sep with ⟨hi, -⟩|⟨i,hi, -, -, -⟩
  · rw [Lib.count_miss hi] at h;cases h
  · have hc:=Lib.count_hit h1 hi
    unfold Lib.splitK
    rw [if_neg (by rw [hi];simp),List.length_cons,xI h1 n _ (by rw [hi,Int.toNat_natCast];omega)]
def strings_Split (s sep:List UInt8):Option (List (List UInt8)):=if s.length<4294967281∧1≤sep.length then some (Lib.split s sep) else none
theorem gH {s1 s2:List UInt8} {H0:AH} {r0:List (List UInt8)} (h:strings_Split s1 s2=some r0):aA Tryz.prog 65 [(.str s1),(.str s2)] H0 fun v H'=>v=(.sl .n 1 (ml AV.str r0))∧H'=H0:=by
 unfold strings_Split at h
 obtain ⟨⟨hs,hs2⟩,h⟩:=Fz h
 injection h with h
 subst h
 refine aA.Xi (by kernel_rfl) fun F C γ w vs hF hl hv=> ?_
 obtain rfl:=args2 hl (hv 0 _ rfl).dJ (hv 1 _ rfl).dJ
 obtain ⟨m,hm⟩:=ID hF
 have hsz:(⟨s1.toArray⟩:ByteArray).size=s1.length:=by simp [ByteArray.size]
 have agc:(⟨s2.toArray⟩:ByteArray).size=s2.length:=by simp [ByteArray.size]
 refine (Tryz.strings_Split ⟨s1.toArray⟩ ⟨s2.toArray⟩ m w (by omega) hm (by omega)).mono ?_
 rintro e w' ⟨rfl,rfl⟩
 have hd:(Lib.splitB ⟨s2.toArray⟩ 0 (Lib.countB ⟨s1.toArray⟩ ⟨s2.toArray⟩) ⟨s1.toArray⟩).map (·.data.toList)=Lib.split s1 s2:=by
  rw [Lib.splitB_data];simp [Lib.split,Lib.countB]
 have hlen:(Lib.split s1 s2).length=Lib.countB ⟨s1.toArray⟩ ⟨s2.toArray⟩+1:=by
  exact xI (by intro h;rw [h] at hs2;simp at hs2) _ _ rfl
 refine ⟨9,(0,0),by rw [hlen], ?_,by simp⟩
 rw [←hd,List.map_map]
 congr 3
def strings_Cut (s sep:List UInt8):Option (List UInt8×List UInt8×Bool):=if s.length<4294967281 then some (Lib.cut s sep) else none
theorem wj {s1 s2:List UInt8} {H0:AH} {r0 r1:List UInt8} {r2:Bool} (h:strings_Cut s1 s2=some (r0,r1,r2)):aA Tryz.prog 62 [(.str s1),(.str s2)] H0 fun v H'=>v=(.bz [(.str r0),(.str r1),(.bool r2)])∧H'=H0:=by
 unfold strings_Cut at h
 obtain ⟨hs,h⟩:=Fz h
 injection h with h
 refine aA.Xh rfl (by simp) (by kernel_rfl) fun F C γ w vs hF hl hv=> ?_
 obtain rfl:=args2 hl (hv 0 _ rfl).dJ (hv 1 _ rfl).dJ
 obtain ⟨m,hm⟩:=ID hF
 have hsz:(⟨s1.toArray⟩:ByteArray).size=s1.length:=by simp [ByteArray.size]
 refine (Tryz.strings_Cut ⟨s1.toArray⟩ ⟨s2.toArray⟩ m w (by omega) hm).mono ?_
 rintro e w' ⟨rfl,n,rfl⟩
 have hd1:(⟨s1.toArray⟩:ByteArray).data.toList=s1:=by simp
 have Hp:(⟨s2.toArray⟩:ByteArray).data.toList=s2:=by simp
 rw [hd1,Hp,h]
 refine ⟨_,rfl, ?_, ?_,fun _ _=>rfl,Nat.le_refl _,rfl,rfl,rfl⟩
 · refine .bz _ _ _ rfl fun i a hi=> ?_
   match i,hi with
   |0,hi=>injection hi with hi;subst hi;exact .str ..
   |1,hi=>injection hi with hi;subst hi;exact .str ..
   |2,hi=>injection hi with hi;subst hi;exact .bool ..
 · intro i a hi
   match i,hi with
   |0,hi=>injection hi with hi;subst hi;trivial
   |1,hi=>injection hi with hi;subst hi;trivial
   |2,hi=>injection hi with hi;subst hi;trivial
def aaP:Option TypeInfo→Bool
 |some i=>i.bytes==1&&i.size==1&&(match i.zero with|some z=>z.cells.size==1|none=>false)
 |none=>false
theorem TG {o:Option TypeInfo} (h:aaP o=true):∃i0:TypeInfo,o=some i0∧i0.bytes=1∧i0.size=1∧∃z,i0.zero=some z∧z.cells.size=1:=by
 cases o with
 |none=>cases h
 |some i=>
  simp only [aaP,Bool.and_eq_true,beq_iff_eq] at h
  obtain ⟨⟨h1,h2⟩,h3⟩:=h
  cases hz:i.zero with
  |none=>rw [hz] at h3;cases h3
  |some z=>rw [hz] at h3;exact ⟨i,rfl,h1,h2,z,hz,by simpa using h3⟩
def j9 (n:Int):Option (List UInt8):=if n<0 then none else if n.toNat≤140737488355328 then some [] else none
theorem Ef {i1:Int} {H0:AH} {r0:List UInt8} (h:j9 i1=some r0):aA Tryz.prog 83 [(.sl .ex 1 []),(.int .i64 i1)] H0 fun v H'=>v=(.sl .own 1 (ml b8 r0))∧H'=H0:=by
 unfold j9 at h
 have h0:0≤i1:=by
  rcases Int.lt_or_le i1 0 with h0|h0
  · rw [if_pos h0] at h;cases h
  · exact h0
 rw [if_neg (by omega)] at h
 obtain ⟨h1,h⟩:=Fz h
 injection h with h
 subst h
 obtain ⟨i0,hi0,hb,hs0,z,hz0,hzs⟩:∃i0:TypeInfo,Tryz.prog.info? (Tryz.sg.t 25)=some i0∧i0.bytes=1∧i0.size=1∧∃z,i0.zero=some z∧z.cells.size=1:=TG (by kernel_rfl)
 have hn:i1=(i1.toNat:Int):=by omega
 refine Mz (z:=z) (el:=Tryz.sg.t 25) (by kernel_rfl) hzs h0 (fun base w h=> ?_) (fun base w h=> ?_)
 · subst h
   exact Any8.slices_Grow_room Tryz.QX base 0 0 0 w (by omega) (by omega) (by omega) (by omega)
 · have:=Any8.slices_Grow_grow Tryz.QX i0 z hi0 hz0 (by omega) base 0 0 i1.toNat [] w (by omega) (by omega) (by rw [hb];omega) (by omega) (by rw [hs0];rfl) (fun _=>rfl) (fun a _ j v hj=>by simp at hj)
   rw [←hn] at this
   change Calls Tryz.prog (Tryz.sg.f 4) _ _ _
   simpa using this
def strings_Join (s1:List (List UInt8)) (s2:List UInt8):Option (List UInt8):=if s1.length≤1000000∧(Lib.join s1 s2).length≤140737488355328 then some (Lib.join s1 s2) else none
theorem CS {s1:List (List UInt8)} {s2:List UInt8} {H0:AH} {r0:List UInt8} (h:strings_Join s1 s2=some r0):aA Tryz.prog 74 [(.sl .n 1 (ml AV.str s1)),(.str s2)] H0 fun v H'=>v=(.str r0)∧H'=H0:=by
 unfold strings_Join at h
 obtain ⟨⟨hc,hlen⟩,h⟩:=Fz h
 injection h with h
 subst h
 refine aA.Xt (by kernel_rfl) fun F C γ w vs hF hm hl hv=> ?_
 have e1:=(hv 1 _ rfl).dJ
 by_cases hne:s1=[]
 · subst hne
   obtain ⟨a,c,e0, -⟩:=(hv 0 _ rfl).ff
   obtain rfl:=E5 hl e0 e1
   refine (Any.strings_Join_none Tryz.BB Tryz.iL a c ⟨s2.toArray⟩ w).mono ?_
   rintro e w' ⟨rfl,rfl⟩
   exact ⟨rfl,fun _ _=>rfl,Nat.le_refl _,rfl,rfl,rfl⟩
 · obtain ⟨b,o,c,e0,hcap,hb,hcells⟩:=(show VR C γ (.sl .n 1 (ml AV.str s1)) (vs.getD 0 undef) from hv 0 _ rfl).strs hm hne
   obtain rfl:=E5 hl e0 e1
   have hxs:(s1.map fun x=>(⟨x.toArray⟩:ByteArray)).map (·.data.toList)=s1:=by
    rw [List.map_map]
    conv=>rhs;rw [←List.map_id s1]
    apply List.map_congr_left
    intro x _
    simp
   have:=Any.strings_Join Tryz.BB Tryz.iL b o c (s1.map fun x=>⟨x.toArray⟩) ⟨s2.toArray⟩ w (fun j x hj=>by
    rw [List.getElem?_map,Option.map_eq_some_iff] at hj
    obtain ⟨y,hy,rfl⟩:=hj
    exact hcells j y hy) hb (by rw [List.length_map];omega) (by rw [List.length_map];exact hcap) (by rw [hxs];exact hlen)
   rw [hxs,List.length_map] at this
   refine Calls.mono this ?_
   rintro e w' ⟨rfl,hB⟩
   exact ⟨rfl,hB.block,hB.size,hB.os,hB.tape,hB.output⟩
def dW (b2 s3:List UInt8):Option (Int×Bool×List UInt8):=if b2.length+s3.length≤140737488355328 then some ((s3.length:Int),false,b2++s3) else none
theorem Xy:Go.Proofs.Lays.n166 Tryz.prog Tryz.vA:= {Tryz.BB with}
theorem gQ {b2 s3:List UInt8} {q1:Nat} {H0:AH} (ai:H0[q1]? =some [(.dy 76),(.dn 5 b2)]) {aJ:Int} {eS:Bool} {FQ:List UInt8} (h:dW b2 s3=some (aJ,eS,FQ)):
 aA Tryz.prog 34 [(.ptr q1 0),(.str s3)] H0 fun v H'=>v=(.bz [(.int .i64 aJ),(eE eS)])∧H'=(H0.set q1 [(.dy 76),(.dn 5 FQ)]):=by
 unfold dW at h
 obtain ⟨hc,h⟩:=Fz h
 simp only [Option.some.injEq,Prod.mk.injEq] at h
 obtain ⟨rfl,rfl,rfl⟩:=h
 exact aA.TE (by kernel_rfl) ai hc fun b p v bs s w h1 h2 h3 h4 h5=>PK Xy Tryz.iL b p v bs s w h1 h2 h3 h4 h5
def ia (b2:List UInt8):Option (List UInt8):=if b2≠[] then some b2 else none
theorem qe {b2:List UInt8} {q1:Nat} {H0:AH} (ai:H0[q1]? =some [(.dy 76),(.dn 5 b2)]) {aJ:List UInt8} (h:ia b2=some aJ):
 aA Tryz.prog 40 [(.ptr q1 0)] H0 fun v H'=>v=(.str aJ)∧H'=H0:=by
 unfold ia at h
 obtain ⟨hc,h⟩:=Fz h
 injection h with h
 subst h
 exact aA.PM (by kernel_rfl) ai fun b p v w h1 h2 h3=>MD Tryz.Xx Tryz.zU b p v b2 w hc h1 h2 h3
def ME (c:UInt8):Bool:=decide (c<32)||decide (126<c)
theorem TH (c:UInt8):ME c=(decide (c.toNat<32)||decide (126<c.toNat)):=rfl
set_option maxHeartbeats 1000000 in
theorem MF (x:UInt8) (W:World):FnGives Tryz.prog 82 #[] #[uw x] (.bool (ME x)) W:=by
 have n1:decide (x.toNat<32)=decide ((x.toNat:Int)<32):=by rw [decide_eq_decide];omega
 have n2:decide (126<x.toNat)=decide ((126:Int)<(x.toNat:Int)):=by rw [decide_eq_decide];omega
 show Calls Tryz.prog 82 #[.int .u8 x.toNat] W _
 go_enter Tryz.func82,Tryz.ntmps82
 go_wp2
 all_goals (go_ret;refine ⟨?_,0,rfl⟩;rw [TH,n1,n2];simp_all)
def slices_DeleteFunc (s1:List UInt8):Option (List UInt8):=if s1.length≤1000000000 then some (s1.filter fun c=> !ME c) else none
theorem wW {s1:List UInt8} {q1:Nat} {H0:AH} (ai:H0[q1]? =some (ml b8 s1)) {r0:List UInt8} (h:slices_DeleteFunc s1=some r0):
 aA Tryz.prog 81 [(.cN q1 1 0 s1.length),(.fn 82 [])] H0 fun v H'=>v=(.cN q1 1 0 r0.length)∧H'=(H0.set q1 (ml b8 (r0++List.replicate (s1.length - r0.length) 0))):=by
 unfold slices_DeleteFunc at h
 obtain ⟨hc,h⟩:=Fz h
 injection h with h
 subst h
 have hle:(s1.filter fun c=> !ME c).length≤s1.length:=List.length_filter_le _ _
 refine aA.delete (by kernel_rfl) ai rfl (by simp;omega) hle fun b cap w hH hcap=> ?_
 have:=AnyE.slices_DeleteFunc (α:=UInt8) Tryz.acH uw (fun _=>rfl) ME 82 #[] (enters_of Tryz.func82 (by kernel_rfl) rfl) 0 Tryz.zeroValue5 b 0 cap s1.toArray w (fun W x _=>MF x W) (fun n os dk x _=>MF x _) hH (by simp;omega) (by simpa using hcap)
 change Calls Tryz.prog 81 _ _ _ at this
 simpa using this
end Go.Proofs.cI
end
