import Derived.Test.YtomkmghgppgegaaGreatDoorM1
import Derived.Laws.Cover3
import Derived.Scope
import Derived.Lib.SlBytesConst
import Derived.OrdersHeld
set_option linter.unusedSimpArgs false
set_option linter.unusedVariables false
set_option linter.unusedSectionVars false
set_option linter.defProp false
section
namespace Go.Am
open Go
variable [Tabs]
section
variable {P:Program} {L:List Nat} {N:Nat} {F:Nat→Prop} {γ:List Nat} {C C':Nat→List Value} {e:Env} {ah:AH} {ts:Array Value} {ds:List Deferred} {w w':World} {m0:Bool}
variable {d:Option Nat} {ty p8:TypeId} {pos:String} {af:Array Edge} {g:Option (Nat×Bool)} {e':Env} {aE:AH}
theorem Iu (h:SR L N F γ C e ah ts w) {row:Array Value} {t:TypeId} {fr:Nat×Nat} {cs:List AV} (hw:∀b,b<w.heap.size→w'.heap[b]? =w.heap[b]?) (hsz:w'.heap.size=w.heap.size+1)
 (hb:w'.heap[w.heap.size]? =some (.cells row t fr)) (hfr:∀i,i<cs.length→¬(fr.1≤i∧i<fr.2)) (hl:cs.length≤row.size)
 (hc:∀(i:Nat) (a:AV),cs[i]? =some a→VR C γ a (row.getD i undef)∧a.plain=true∧TC w' C a (row.getD i undef)) (ho:jH w w':=by exact ⟨rfl,rfl,rfl⟩):
 SR L N F (γ++[w.heap.size]) C e (ah++[cs]) ts w'∧Ext F C w C w'∧(γ++[w.heap.size])[ah.length]? =some w.heap.size:=by
 obtain ⟨hg,UI⟩:=h.grow (ho:=ho) (w':=w') (C':=C) hw (by omega) (fun _ _=>rfl) (fun b hb hne=>absurd (xy h hb) hne)
 have ho:=hg.I9 (b:=w.heap.size) (cs:=cs) hb hfr hl (fun i a hi=>⟨(hc i a hi).1,(hc i a hi).2.2,iH (hc i a hi).2.1⟩) (xy h (Nat.le_refl _)) (fun hF=>Nat.lt_irrefl _ (h.iT.lt _ hF)) (fun p hp=>by
  have hb0:blk γ e ah ts w p w.heap.size:=by
   cases p with
   |obj s=>exact hp
   |cell s i=>
    obtain ⟨x,a,b0,g1,g2,g3,g4⟩:=hp
    have:=eW h (p:= .obj s) (b:=b0) g3
    exact ⟨x,a,b0,g1,g2,g3,by rwa [gf (hw b0 this)] at g4⟩
   |tmp t=>exact hp
  exact Nat.lt_irrefl _ (eW h hb0))
 exact ⟨ho,UI,by rw [List.getElem?_append_right (by rw [h.mem.len];exact Nat.le_refl _),h.mem.len];simp⟩
theorem zR (a:AV):a.s1.plain=true:=by
 cases a with
 |sl t k xs=>rfl
 |_=>rfl
theorem Jc (a:AV) (v:Value) (h:a.flat=true):TC w C a.s1 v:=by
 cases a with
 |agg cs=>simp [AV.flat] at h
 |bz cs=>simp [AV.flat] at h
 |_=>cases v<;>trivial
theorem Iv {k:Nat}:∀(ys:List AV),(∀(i:Nat) (a:AV),ys[i]? =some a→a.cells.length=k)→((ys.map fun a=>a.cells.map AV.s1).flatten).length=ys.length*k∧
 ∀(q:Nat) (a:AV),((ys.map fun a=>a.cells.map AV.s1).flatten)[q]? =some a→∃i j y z,ys[i]? =some y∧y.cells[j]? =some z∧a=z.s1∧q=i*k+j∧j<k:=by
 intro ys
 induction ys with
 |nil=>intro _;exact ⟨by simp,by simp⟩
 |cons y r ih=>
  intro hk
  obtain ⟨h1,h2⟩:=ih fun i a hi=>hk (i+1) a (by simpa using hi)
  have hy:=hk 0 y rfl
  refine ⟨by simp only [List.map_cons,List.flatten_cons,List.length_append,List.length_map,h1,hy,List.length_cons,Nat.succ_mul];omega,fun q a hq=> ?_⟩
  simp only [List.map_cons,List.flatten_cons] at hq
  by_cases hlt:q<k
  · rw [List.getElem?_append_left (by simp;omega),List.getElem?_map] at hq
    cases hz:y.cells[q]? with
    |none=>rw [hz] at hq;simp at hq
    |some z=>
     rw [hz] at hq
     obtain rfl:z.s1=a:=by simpa using hq
     exact ⟨0,q,y,z,rfl,hz,rfl,by simp,hlt⟩
  · rw [List.getElem?_append_right (by simp;omega)] at hq
    obtain ⟨i,j,y',z,g1,g2,g3,g4,g5⟩:=h2 _ _ hq
    refine ⟨i+1,j,y',z,by simpa using g1,g2,g3, ?_,g5⟩
    simp only [List.length_map,hy] at g4
    rw [Nat.succ_mul];omega
theorem Lj {a:AV} {v:Value} (h:VR C γ a v) (hs:v.oneCell'=true):a.flat=true:=by
 cases a with
 |agg cs=>obtain ⟨vs,rfl, -⟩:=h.og;simp [Value.oneCell'] at hs
 |bz cs=>obtain ⟨vs,rfl, -⟩:=h.xm;simp [Value.oneCell'] at hs
 |_=>rfl
theorem UU {t u el s0:TypeId} {x y:Operand} {x' y':Ar} {K:Env→AH→Prop} (h:SR L N F γ C e ah ts w) (hd:∀x,d=some x→x<N)
 (hx:dB P t x=some x') (hy:dB P u y=some y') (ht:P.underlying t=some (.slice el)) (hu:P.underlying u=some (.slice s0)) (hz:(zeroOf P el).map List.length=some (cP P el))
 (hk:pX L d (cP P el) (IX P el) x' y' e ah K):
 ∃e' aE,K e' aE∧bf m0 P L N F γ C ⟨d, .call {callee:= .builtin .append,args:= #[x,y],argTypes:= #[t,u]},ty,pos,af,g⟩ ts ds w e' aE:=by
 obtain ⟨i,z,hi,hiz,NF,hib,hzs⟩:=Bs hz
 have h1:=gm (ds:=ds) h hx
 have h2:=gm (ds:=ds) h hy
 unfold pX at hk
 split at hk
 case h_2=>exact hk.elim
 rename_i tg k1 ys s k2 n c UN zP
 obtain ⟨hk1,hk2,hys,hfit,h63,hcase⟩:=hk
 generalize hkk:cP P el=k at*
 subst hk1;subst hk2
 rw [zP] at h1;rw [UN] at h2
 obtain ⟨ad,Ea,hnc,hpos⟩:=h1.1.xp
 obtain ⟨ad2,c2,Hl, -, -⟩:=h2.1.ff
 rw [Hl] at h2
 obtain ⟨news,o1,o2,o3,o4⟩:=Fj (P:=P) h h2.1
 have hym:0<ys.length:=List.length_pos_iff.2 hys
 obtain ⟨hfl,hfg⟩:=Iv (k:=k2) ys fun i a hi=>(o4 i a hi).1
 have hlen:∀w2:World,(Builtin.lenOf (Act.eval ⟨ts,ds⟩ y)).run P w2= .ok ys.length w2:=by rw [Hl];intro w2;rfl
 have hnew:∀w2:World,w2.heap=w.heap→(Builtin.firstCells i.size ys.length (Act.eval ⟨ts,ds⟩ y)).run P w2= .ok news.toArray w2:=by rw [NF,Hl];exact o3
 have fq:∀v' w',(Builtin.append_ #[t,u] ty #[.slice ad n c,Act.eval ⟨ts,ds⟩ y]).run P w= .ok v' w'→
  (execOp (Act.eval ⟨ts,ds⟩) ⟨d, .call {callee:= .builtin .append,args:= #[x,y],argTypes:= #[t,u]},ty,pos,af,g⟩).run P w= .ok (.value v') w':=by
  intro v' w' hr
  simp [execOp,resolve,invoke,builtin,Ea,hr]
 have UW:∀(q:Nat) (a:AV),((ys.map fun a=>a.cells.map AV.s1).flatten)[q]? =some a→VR C γ a (news.getD q undef)∧a.plain=true∧∀w2:World,TC w2 C a (news.getD q undef):=by
  intro q a hq
  obtain ⟨i,j,y',z,g1,g2,rfl,rfl,g5⟩:=hfg q a hq
  have hv:=(o4 i y' g1).2 j z g2
  have hlt:i<ys.length:=(List.getElem?_eq_some_iff.1 g1).1
  have hmul:(i+1)*k2≤ys.length*k2:=Nat.mul_le_mul_right _ hlt
  rw [Nat.succ_mul] at hmul
  have hone:=o2 (news[i*k2+j]'(by omega)) (List.getElem_mem _)
  have hgd:news.getD (i*k2+j) undef=news[i*k2+j]'(by omega):=by rw [List.getD_eq_getElem?_getD,List.getElem?_eq_getElem (by omega)];rfl
  rw [hgd] at hv ⊢
  exact ⟨(Wk.jz (Wk.s1 z)).vr (hv.up γ),zR z,fun w2=>Jc z _ (Lj hv hone)⟩
 have fresh:∀ {pre:List AV} {olds:List Value},c<n+ys.length→olds.length=n*k2→pre.length=n*k2→
  (Builtin.firstCells i.size n (.slice ad n c)).run P w.drew= .ok olds.toArray w.drew→
  (∀(q:Nat) (a:AV),pre[q]? =some a→VR C γ a (olds.getD q undef)∧a.plain=true∧∀w2:World,TC w2 C a (olds.getD q undef))→
  (∀c',n+ys.length≤c'→K (Am.aF L e d (.cr ah.length k2 (n+ys.length) c')) (ah++[pre++((ys.map fun a=>a.cells.map AV.s1).flatten++List.replicate ((c' - n - ys.length)*k2) .un)]))→
  ∃e' aE,K e' aE∧bf m0 P L N F γ C ⟨d, .call {callee:= .builtin .append,args:= #[x,y],argTypes:= #[t,u]},ty,pos,af,g⟩ ts ds w e' aE:=by
  intro pre olds hg hol hpl hold hpre hK
  have hr:=rW (ty:=ty) (z:=z) (base:=ad) (olds:=olds) ht hu (.inr ⟨_,rfl⟩) hi hiz (hlen w) (hnew w.drew rfl) hold hg h63 (by rw [hib];exact hfit)
  generalize hcap:grownCap w (n+ys.length) c el=cap at hr
  have hge:n+ys.length≤cap:=by rw [←hcap];exact grownCap_ge w _ _ _
  generalize hrow:(olds++news++(Builtin.zeroCells z.cells (cap - (n+ys.length))).toList).toArray=row at hr
  have hzl:(Builtin.zeroCells z.cells (cap - (n+ys.length))).size=(cap - (n+ys.length))*k2:=by rw [size_zeroCells,hzs]
  obtain ⟨q1,q2,q3⟩:=heap_alloc w.drew (.cells row el)
  refine ⟨_,_,hK cap hge, ?_⟩
  obtain ⟨g1,g2,g3⟩:=Iu (w':=w.drew.alloc (.cells row el)) (cs:=pre++((ys.map fun a=>a.cells.map AV.s1).flatten++List.replicate ((cap - n - ys.length)*k2) .un)) h q2 q3 q1 (by simp) (by
   rw [←hrow];simp only [List.size_toArray,List.length_append,List.length_replicate,Array.length_toList,hzl,hol,hpl,hfl,o1]
   rw [show cap - n - ys.length=cap - (n+ys.length) by omega];omega) (fun q a hq=>by
   have hrd:row.getD q undef=(olds++news++(Builtin.zeroCells z.cells (cap - (n+ys.length))).toList).getD q undef:=by rw [←hrow];simp [Array.getD_eq_getD_getElem?,List.getD_eq_getElem?_getD]
   rw [hrd,List.append_assoc]
   by_cases hq1:q<pre.length
   · rw [List.getElem?_append_left hq1] at hq
     rw [List.getD_eq_getElem?_getD,List.getElem?_append_left (by omega), ←List.getD_eq_getElem?_getD]
     exact ⟨(hpre q a hq).1,(hpre q a hq).2.1,(hpre q a hq).2.2 _⟩
   · rw [List.getElem?_append_right (by omega)] at hq
     rw [List.getD_eq_getElem?_getD,List.getElem?_append_right (by omega), ←List.getD_eq_getElem?_getD,show q - olds.length=q - pre.length by omega]
     by_cases Ho:q - pre.length<((ys.map fun a=>a.cells.map AV.s1).flatten).length
     · rw [List.getElem?_append_left Ho] at hq
       rw [List.getD_eq_getElem?_getD,List.getElem?_append_left (by omega), ←List.getD_eq_getElem?_getD]
       have:=UW _ a hq
       exact ⟨this.1,this.2.1,this.2.2 _⟩
     · rw [List.getElem?_append_right (by omega)] at hq
       have:a= .un:=by
        have:=List.mem_of_getElem? hq
        exact (List.mem_replicate.1 this).2
       subst this
       refine ⟨.un ..,rfl, ?_⟩
       generalize List.getD _ _ _=v
       cases v<;>trivial)
  exact ⟨_,_,γ++[w.heap.size],C, .inl (fq _ _ hr),List.prefix_append _ _,g1.aF hd (.cr _ _ _ _ _ _ g3 hge) trivial rfl (by simp),g2,fun Jd=>by simp [iF] at Jd,fun hq=>by simp [dV] at hq⟩
 rcases hcase with ⟨rfl,rfl,hK⟩|⟨cs,hcs,aaw,hcl,adp,hcf,hA,hB⟩
 · refine fresh (pre:=[]) (olds:=[]) (by omega) (by simp) (by simp) ?_ (by simp) ?_
   · cases ad with
     |none=>rfl
     |some a=>simp [Builtin.firstCells,loadCells,loadCellsFrom]
   · intro c' ck
     have:=hK c' (by omega)
     simpa [j4] using this
 · obtain ⟨b,hb,adq⟩:∃b,γ[s]? =some b∧ad=some ⟨b,0,none⟩:=by
    rcases hpos with ⟨-,rfl⟩|hpos
    · rw [Nat.zero_mul] at hcl;exact absurd (List.eq_nil_of_length_eq_zero hcl) aaw
    · exact hpos
   subst adq
   obtain ⟨vs,tv,hh,hsz,hcell⟩:=h.mem.obj s b cs hcs hb
   have hnk:n*k2≤c*k2:=Nat.mul_le_mul_right _ adp
   by_cases hroom:n+ys.length≤c
   · have hmk:(n+ys.length)*k2≤c*k2:=Nat.mul_le_mul_right _ hroom
     rw [Nat.add_mul] at hmk
     refine ⟨_,_,hA hroom, ?_⟩
     have Br:=run_storeCells_cells (P:=P) b (0+n*k2) news 0 w (fun j hj=>by
      rw [cz hh];simp;omega) (fun j hj=>by
      have:=h.mem.xq s b cs vs tv.1 tv.2 hcs hb hh (0+n*k2+0+j) (by omega)
      simp only [World.frozen?,hh]
      rw [Bool.and_eq_false_iff,decide_eq_false_iff_not,decide_eq_false_iff_not]
      exact Decidable.not_and_iff_or_not.1 this) o2
     rw [Nat.add_zero] at Br
     have hr:=mB (w':=w.setCells b (0+n*k2) news) (ty:=ty) ht hu (.inr ⟨_,rfl⟩) hi (hlen w) (hnew w rfl) hroom (base:=some ⟨b,0,none⟩)
      (fun a ha=>by injection ha with ha;subst ha;rw [add_eq,NF];exact Br) (fun h=>by cases h)
     obtain ⟨⟨nw,g1,g2,g3⟩,g4,g5⟩:=qa b news (0+n*k2) w vs tv.1 tv.2 hh (by omega)
     have Ec:(cs.take (n*k2)++(ys.map fun a=>a.cells.map AV.s1).flatten++cs.drop ((n+ys.length)*k2)).length=cs.length:=by
      simp only [List.length_append,List.length_take,List.length_drop,hfl,Nat.add_mul];omega
     obtain ⟨k1,k2'⟩:=h.E2 (ho:=tE b news (0+n*k2) w) (p:=0) hcs hb hh g1 g2 Ec g4 g5 (fun hz=>absurd hz aaw) (fun q a hq=>by
      have hg:=g3 q
      by_cases hq1:q<n*k2
      · left
        rw [List.append_assoc,List.getElem?_append_left (by simp;omega),List.getElem?_take_of_lt hq1] at hq
        exact ⟨hq,by rw [hg,if_neg (by omega)]⟩
      · by_cases Ho:q<n*k2+ys.length*k2
        · right;left
          rw [List.append_assoc,List.getElem?_append_right (by simp;omega),List.getElem?_append_left (by simp only [List.length_take,hfl];omega)] at hq
          simp only [List.length_take,show min (n*k2) cs.length=n*k2 by omega] at hq
          have:=UW _ a hq
          rw [hg,if_pos (by omega),show q - (0+n*k2)=q - n*k2 by omega]
          exact ⟨iH this.2.1,this.1,this.2.2 _⟩
        · left
          rw [List.getElem?_append_right (by simp only [List.length_append,List.length_take,hfl];omega),List.getElem?_drop] at hq
          simp only [List.length_append,List.length_take,hfl,Nat.add_mul] at hq
          rw [show n*k2+ys.length*k2+(q - (min (n*k2) cs.length+ys.length*k2))=q by omega] at hq
          exact ⟨hq,by rw [hg,if_neg (by omega)]⟩)
     exact ⟨_,_,γ,C, .inl (fq _ _ hr),List.prefix_refl _,k1.aF hd (.cr _ _ _ _ _ _ hb hroom) trivial rfl (by simp),k2',fun Jd=>by simp [iF] at Jd,fun hq=>by simp [dV] at hq⟩
   · obtain ⟨r,hr,hrs, -,hrc⟩:=kX (P:=P) (w:=w.drew) (b:=b) (o:=0) (n*k2) 0 #[] (fun j _ hj=>⟨vs.getD j undef,by
      have:w.drew.cell? ⟨b,0+j,none⟩=w.cell? ⟨b,0+j,none⟩:=rfl
      rw [this,cz hh];simp [Array.getD_eq_getD_getElem?,Array.getElem?_eq_getElem (show j<vs.size by omega)]⟩)
     have Nw:∀j,j<n*k2→r.toList.getD j undef=vs.getD j undef:=by
      intro j hj
      have:=hrc j hj
      have e0:w.drew.cell? ⟨b,0+(0+j),none⟩=w.cell? ⟨b,0+(0+j),none⟩:=rfl
      rw [e0,cz hh] at this
      simp at this
      simp [List.getD_eq_getElem?_getD,Array.getD_eq_getD_getElem?,this]
     refine fresh (pre:=(cs.take (n*k2)).map AV.s1) (olds:=r.toList) (by omega) (by simpa using hrs) (by simp;omega) ?_ (fun q a hq=> ?_) ?_
     · rw [NF]
       simp only [Builtin.firstCells,loadCells]
       exact hr
     · rw [List.getElem?_map] at hq
       cases hc0:(cs.take (n*k2))[q]? with
       |none=>rw [hc0] at hq;simp at hq
       |some a0=>
        rw [hc0] at hq
        obtain rfl:a0.s1=a:=by simpa using hq
        have Ll:q<n*k2:=by have:=(List.getElem?_eq_some_iff.1 hc0).1;simp at this;omega
        rw [List.getElem?_take_of_lt Ll] at hc0
        have hv:=hcell q a0 hc0
        rw [Nw q Ll]
        refine ⟨(Wk.jz (Wk.s1 a0)).vr hv.1,zR a0,fun w2=> ?_⟩
        exact Jc a0 _ (j5 hcf (i:=q) (by rw [List.getElem?_take_of_lt Ll];exact hc0))
     · intro c' ck
       have:=hB (by omega) c' ck
       rw [show c' - n - ys.length=(c' - n) - ys.length by omega]
       simpa [j4] using this
theorem Je {el:TypeId} (h:SR L N F γ C e ah ts w):∀(l:List (Nat×Operand)) (ps:List (Nat×Nat×Ar)) (cs cs':List AV) (cells:Array Value),
 yx P el l=some ps→fill e cs ps=some cs'→cells.size=cs.length→(∀(i:Nat) (a:AV),cs[i]? =some a→VR C γ a (cells.getD i undef)∧mo a (cells.getD i undef))→
 ∃r,Instr.fill (fun i=>some (i*cP P el,cP P el)) cells (l.map fun (x:Nat×Operand)=>(x.1,Act.eval ⟨ts,ds⟩ x.2))=some r∧r.size=cs'.length∧
  ∀(i:Nat) (a:AV),cs'[i]? =some a→VR C γ a (r.getD i undef)∧mo a (r.getD i undef):=by
 intro l
 induction l with
 |nil=>
  intro ps cs cs' cells hp hf hl hc
  simp only [yx,Option.some.injEq] at hp
  subst hp
  simp only [fill,Option.some.injEq] at hf
  subst hf
  exact ⟨cells,rfl,hl,hc⟩
 |cons x r ih=>
  intro ps cs cs' cells hp hf hl hc
  obtain ⟨i,x⟩:=x
  simp only [yx] at hp
  split at hp
  case h_2=>cases hp
  rename_i a zq ha has
  simp only [Option.some.injEq] at hp
  subst hp
  simp only [fill] at hf
  split at hf
  case isFalse=>cases hf
  rename_i xw
  obtain ⟨hcl,hok⟩:=xw
  split at hf
  case h_2=>cases hf
  rename_i YN hov
  obtain ⟨o1,o2,o3⟩:=xA hov
  obtain ⟨a1,a2⟩:=gm (ds:=ds) h ha
  obtain ⟨c1,c2⟩:=a1.cells hok
  have c3:=a2.cells a1 hok
  simp only [List.length_map] at o1 o3
  generalize hoff:i*cP P el=off at*
  obtain ⟨f1,f2⟩:=CB (Act.eval ⟨ts,ds⟩ x) off cells (by omega)
  obtain ⟨q,q1,q2,q3⟩:=ih zq YN cs' _ has hf (by rw [f1,o2];exact hl) (fun j b hb=>by
   rw [o3 j] at hb
   rw [f2 j]
   by_cases hin:off≤j∧j<off+(ev e a).cells.length
   · rw [if_pos hin,List.getElem?_map] at hb
     rw [if_pos (by omega)]
     cases hq:(ev e a).cells[j - off]? with
     |none=>rw [hq] at hb;simp at hb
     |some y=>
      rw [hq] at hb
      obtain rfl:y.bN=b:=by simpa using hb
      refine ⟨(Wk.jz (Wk.bN y)).vr (c2 _ y hq).1, ?_⟩
      have:=c3 _ y hq
      generalize ((Act.eval ⟨ts,ds⟩ x).cells.getD (j - off) undef)=v at this
      cases y with
      |sl t k xs=>cases t<;>cases v<;>first|trivial|exact this
      |_=>exact this
   · rw [if_neg hin] at hb
     rw [if_neg (by omega)]
     exact hc j b hb)
  refine ⟨q, ?_,q2,q3⟩
  simp only [List.map_cons,Instr.fill]
  rw [hoff,if_neg (by simp;omega)]
  exact q1
theorem Lm (e:Env):∀(ps:List (Nat×Nat×Ar)) (z:List AV),ps.all IY=true→fill e z ps=fill [] z ps:=by
 intro ps
 induction ps with
 |nil=>intro z _;rfl
 |cons p r ih=>
  intro z h
  obtain ⟨o,n,x⟩:=p
  simp only [List.all_cons,Bool.and_eq_true] at h
  cases x with
  |t u=>simp [IY] at h
  |c a=>
   simp only [fill]
   have h1:ev e (.c a)=a:=rfl
   have h2:ev [] (.c a)=a:=rfl
   rw [h1,h2]
   split
   · cases over z o (a.cells.map AV.bN) with
     |none=>rfl
     |some cs=>exact ih cs h.2
   · rfl
theorem Fl {t el:TypeId} {mm:Nat} {parts:Array (Nat×Operand)} {z:List AV} {ps:List (Nat×Nat×Ar)} (h:SR L N F γ C e ah ts w) (hd:∀x,d=some x→x<N)
 (hu:P.underlying t=some (.array mm el)) (hz:zeroOf P t=some z) (hc:yx P el parts.toList=some ps) (hel:(P.info? el).isSome=true)
 (hev:bK L ⟨d, .build z ps,none⟩ e ah=some (e',aE)):bf m0 P L N F γ C ⟨d, .build t parts,ty,pos,af,g⟩ ts ds w e' aE:=by
 obtain ⟨zv,UP,hzs,hinfo,Le⟩:=qb (C:=C) (γ:=γ) hz
 simp only [bK] at hev
 cases hf:fill e z ps with
 |none=>rw [hf] at hev;cases hev
 |some cs=>
  rw [hf] at hev
  simp only [Option.map_some,Option.some.injEq,Prod.mk.injEq] at hev
  obtain ⟨rfl,rfl⟩:=hev
  obtain ⟨r,r1,r2,r3⟩:=Je (ds:=ds) h parts.toList ps z cs zv.cells hc hf hzs (fun i a hi=>⟨(Le i a hi).1,(Le i a hi).2.1⟩)
  refine bf.plain h hd (v:= .agg r) ?_ (.agg _ _ _ r2.symm fun i a hi=>(r3 i a hi).1) (fun i a hi=>(r3 i a hi).2) rfl
  intro w _
  have hl:(parts.map fun (i,x)=>(i,Act.eval ⟨ts,ds⟩ x)).toList=parts.toList.map fun (x:Nat×Operand)=>(x.1,Act.eval ⟨ts,ds⟩ x.2):=by rw [Array.toList_map]
  simp only [execOp,Instr.build,Sem.run_bind,UP,Result.andThen_ok,bQ hu,e8 hel,hl]
  rw [r1]
  rfl
theorem yK (w:World) (t e:TypeId) (a:Option Addr) (l c:Nat) (h:P.underlying t=some (.slice e)):(binOp .eql t (.slice a l c) (.slice none 0 0)).run P w= .ok (.bool a.isNone) w:=by
 simp only [binOp]
 simp [run_equal_slice_nil w t e a l c h]
theorem aa2 {t el:TypeId} {op:BinOp} {x:Operand} {x':Ar} {neq:Bool} {K:Env→AH→Prop} (h:SR L N F γ C e ah ts w) (hd:∀x,d=some x→x<N) (hx:bA x=some x')
 (hu:P.underlying t=some (.slice el)) (hop:op=if neq then .neq else .eql) (hk:E8 L d neq x' e ah K):
 ∃e' aE,K e' aE∧bf m0 P L N F γ C ⟨d, .binOp op t x (.const (.slice none 0 0)) p8,ty,pos,af,g⟩ ts ds w e' aE:=by
 have h1:=bV (ds:=ds) h hx
 unfold E8 at hk
 split at hk
 case h_2=>exact hk.elim
 rename_i tg k xs he
 rw [he] at h1
 obtain ⟨a,c,hv, -,hcase⟩:=h1.1.ff
 have hcn:Act.eval ⟨ts,ds⟩ (.const (.slice none 0 0))= .slice none 0 0:=rfl
 have key:∀b,b=(if neq then !a.isNone else a.isNone)→bf m0 P L N F γ C ⟨d, .binOp op t x (.const (.slice none 0 0)) p8,ty,pos,af,g⟩ ts ds w (Am.aF L e d (.bool b)) ah:=by
  intro b hb
  subst hb
  refine bf.plain h hd (v:= .bool (if neq then !a.isNone else a.isNone)) ?_ (.bool ..) trivial rfl
  intro w _
  cases neq
  · simp only [Bool.false_eq_true,if_false] at hop;subst hop
    simp [execOp,hv,hcn,eqGuard,yK w t el a xs.length c hu]
  · simp only [if_true] at hop;subst hop
    simp [execOp,hv,hcn,eqGuard,run_neq_slice_nil w t el a xs.length c hu]
 by_cases hxs:xs=[]
 · exact ⟨_,_,hk.1 hxs _,key _ rfl⟩
 · refine ⟨_,_,hk.2 hxs,key _ ?_⟩
   obtain ⟨b,o,rfl, -⟩:=hcase.resolve_left hxs
   cases neq<;>rfl
theorem UY {m:Bool} {t el:TypeId} {n:Nat} {parts:Array (Nat×Operand)} {zq':List Ar} (h:SR L N F γ C e ah ts w) (hd:∀x,d=some x→x<N) (ht:P.underlying t=some (.slice el))
 (hn:parts.size=n) (hb:n*cP P el≤16777216) (hz:(zeroOf P el).isSome=true) (hc:mz P el 0 parts.toList=some zq')
 (hev:bK L ⟨d, .nv (cP P el) zq',none⟩ e ah=some (e',aE)):bf m P L N F γ C ⟨d, .buildSlice t n parts,ty,pos,af,g⟩ ts ds w e' aE:=by
 rcases zq' with _|⟨z,as0⟩
 · simp only [bK,Option.some.injEq,Prod.mk.injEq] at hev
   obtain ⟨rfl,rfl⟩:=hev
   have hn0:n=0:=by
    have:=(zQ (ds:=ds) h _ _ _ hc).1
    have h2:parts.toList.length=n:=by rw [Array.length_toList];exact hn
    rw [h2] at this
    exact this.symm
   obtain ⟨r,hrs,hrun, -,key⟩:=yA (ds:=ds) (d:=none) h (by simp) ht hn hb hz hc (by rfl)
   obtain ⟨C',g1,g2⟩:=key (0,0) (.inl rfl)
   subst hn0
   have g3:SR L N F γ C' e ah ts (w.alloc (.cells r el (0,0))):=g1
   refine ⟨.slice (some ⟨w.heap.size,0,none⟩) 0 0,w.alloc (.cells r el (0,0)),γ,C', .inl ?_,List.prefix_refl _,g3.aF hd (.p6 _ _ _ _) trivial rfl (by simp),g2,fun _ s b hb=>(heap_alloc w _).2.1 b (eW h (p:= .obj s) hb),fun hq=>by simp [dV] at hq⟩
   simp [execOp,hrun]
 generalize aax:z::as0=zq' at hc hev
 have hev:bK L ⟨d, .nv (cP P el) zq',none⟩ e ah=some (e',aE):=hev
 rw [←aax] at hev
 simp only [bK] at hev
 rw [aax] at hev
 split at hev
 case isFalse=>cases hev
 rename_i hall
 simp only [Option.some.injEq,Prod.mk.injEq] at hev
 obtain ⟨rfl,rfl⟩:=hev
 obtain ⟨r,hrs,hrun,hcell, -⟩:=yA (ds:=ds) h hd ht hn hb hz hc hall
 have hal:zq'.length=n:=by
  have:=(zQ (ds:=ds) h _ _ _ hc).1
  rw [this,Array.length_toList];exact hn
 have hpart:∀(i:Nat) (a:AV),(zq'.map (ev e))[i]? =some a→a.cells.length=cP P el∧bU a.cells=true:=by
  intro i a hi
  rw [List.getElem?_map] at hi
  cases hq:zq'[i]? with
  |none=>rw [hq] at hi;simp at hi
  |some b=>
   rw [hq] at hi
   obtain rfl:ev e b=a:=by simpa using hi
   have:=List.all_eq_true.1 hall b (List.mem_of_getElem? hq)
   simp only [Bool.and_eq_true,decide_eq_true_eq] at this
   exact ⟨this.1.1,this.1.2⟩
 obtain ⟨f1,f2⟩:=Iv (zq'.map (ev e)) fun i a hi=>(hpart i a hi).1
 have hcs:(zq'.map fun p=>(ev e p).cells.map AV.s1)=(zq'.map (ev e)).map fun a=>a.cells.map AV.s1:=by rw [List.map_map];rfl
 rw [hcs]
 obtain ⟨q1,q2,q3⟩:=heap_alloc w (.cells r el (0,0))
 obtain ⟨k1,k2,k3⟩:=Iu (w':=w.alloc (.cells r el (0,0))) (cs:=((zq'.map (ev e)).map fun a=>a.cells.map AV.s1).flatten) h q2 q3 q1 (fun i _=>by simp) (by rw [f1,hrs];simp [hal]) (fun q a hq=>by
  obtain ⟨i,j,y,z,g1,g2,g3,g4,g5⟩:=f2 q a hq
  subst g3;subst g4
  obtain ⟨p1,p2⟩:=hpart i y g1
  rw [List.getElem?_map] at g1
  cases hq:zq'[i]? with
  |none=>rw [hq] at g1;simp at g1
  |some b=>
   rw [hq] at g1
   obtain rfl:ev e b=y:=by simpa using g1
   exact ⟨(Wk.jz (Wk.s1 z)).vr (hcell i b hq j z g2),zR z,Jc z _ (Q8 (zO p2 g2))⟩)
 refine ⟨_,_,γ++[w.heap.size],C, .inl ?_,List.prefix_append _ _,k1.aF hd (.cN _ _ _ _ _ _ _ k3 (Nat.le_refl _)) trivial rfl (by simp),k2,fun _ s b hb=>q2 b (eW h (p:= .obj s) hb),fun hq=>by simp [dV] at hq⟩
 simp [execOp,hrun,hal]
end
end Go.Am
end
section
namespace Go.Am
open Go
variable [Tabs]
section
variable {P:Program} {L:List Nat} {N:Nat} {F:Nat→Prop} {γ:List Nat} {C C':Nat→List Value} {e:Env} {ah:AH} {ts:Array Value} {ds:List Deferred} {w w':World} {m:Bool}
variable {e':Env} {aE:AH}
def fV.pE:fV→Bool
 | .call _ _=>true
 | .mu _ _ _ _=>true
 | .nq _ _=>true
 |_=>false
theorem NH {o:Oper} {op:fV} (h:SR L N F γ C e ah ts w) (hd:∀x,o.dst=some x→x<N) (hc:cop P o=some op) (fq:op.pE=false)
 (hm:m=true∨((∀x n,op≠ .ld x n)∧∀x,op≠ .iS .bs x))
 (hev:bK L ⟨o.dst,op,none⟩ e ah=some (e',aE)):bf m P L N F γ C o ts ds w e' aE:=by
 obtain ⟨d,o,ty,pos,af,g⟩:=o
 simp only at hd hev
 cases o with
 |move x=>
  simp only [cop,Option.map_eq_some_iff] at hc
  obtain ⟨a,ha,rfl⟩:=hc
  simp only [bK,Option.some.injEq,Prod.mk.injEq] at hev
  obtain ⟨rfl,rfl⟩:=hev
  exact aaW h hd ha
 |assign x=>
  simp only [cop,Option.map_eq_some_iff] at hc
  obtain ⟨a,ha,rfl⟩:=hc
  exact Yk h hd ha hev
 |pick c a b=>
  simp only [cop] at hc
  split at hc
  · rename_i c' a' b' h1 h2 h3
    injection hc with hc;subst hc
    exact Uq h hd h1 h2 h3 hev
  · cases hc
 |alloc t=>
  simp only [cop,Option.map_eq_some_iff] at hc
  obtain ⟨a,ha,rfl⟩:=hc
  exact NB h hd ha hev
 |box t x=>
  simp only [cop,Option.map_eq_some_iff] at hc
  obtain ⟨a,ha,rfl⟩:=hc
  exact YF h hd ha hev
 |build t parts=>
  simp only [cop] at hc
  split at hc
  case h_3=>cases hc
  case h_2=>
   rename_i mm el hu
   split at hc
   case h_2=>cases hc
   rename_i z ps hz hp
   split at hc
   case isFalse=>cases hc
   rename_i hall
   split at hc
   · rename_i j6
     simp only [Option.map_eq_some_iff] at hc
     obtain ⟨z',hz',rfl⟩:=hc
     refine Fl h hd hu hz hp hall ?_
     rw [←hev]
     simp only [bK]
     rw [Lm e ps z j6,hz']
     rfl
   · injection hc with hc;subst hc
     exact Fl h hd hu hz hp hall hev
  rename_i fs hu
  split at hc
  case h_2=>cases hc
  rename_i z ps hz hp
  split at hc
  case isFalse=>cases hc
  rename_i hall
  injection hc with hc;subst hc
  exact Rj h hd hu hz hp hall hev
 |buildSlice t n parts=>
  simp only [cop] at hc
  split at hc
  case h_2=>cases hc
  rename_i el hel
  split at hc
  case isFalse=>cases hc
  rename_i hh
  obtain ⟨h1,h2,h3⟩:=hh
  simp only [Option.map_eq_some_iff] at hc
  obtain ⟨zq,ha,rfl⟩:=hc
  refine YM h hd ?_ h1 h2 h3 ha hev
  unfold E7 at hel
  split at hel
  · rename_i e hu;injection hel with hel;subst hel;exact hu
  · cases hel
 |load t x=>
  simp only [cop] at hc
  split at hc
  case isFalse=>cases hc
  rename_i ht
  simp only [Option.map_eq_some_iff] at hc
  obtain ⟨a,ha,rfl⟩:=hc
  obtain rfl:m=true:=hm.resolve_right (fun h=>h.1 _ _ rfl)
  exact aaX h hd ha ht hev
 |store t a x=>
  simp only [cop] at hc
  split at hc
  case h_2=>cases hc
  rename_i a' x' ha hx
  split at hc
  case isFalse=>cases hc
  rename_i ht
  simp only [Bool.and_eq_true,Option.isNone_iff_eq_none] at ht
  obtain ⟨ht,rfl⟩:=ht
  injection hc with hc;subst hc
  exact aa1 h ha hx ht hev
 |nilCheck x=>
  simp only [cop,Option.map_eq_some_iff] at hc
  obtain ⟨a,ha,rfl⟩:=hc
  exact Yl h hd ha hev
 |fieldAddr t x f=>
  simp only [cop] at hc
  split at hc
  case h_2=>cases hc
  rename_i x' fd hx hf
  split at hc
  case isTrue=>cases hc
  rename_i hs
  injection hc with hc;subst hc
  exact Ym h hd hx hf hs hev
 |field t x f=>
  simp only [cop] at hc
  split at hc
  case h_2=>cases hc
  rename_i x' fd hx hf
  split at hc
  case isFalse=>cases hc
  rename_i hs
  injection hc with hc;subst hc
  exact Us h hd hx hf hs hev
 |binOp YO t x y p8=>
  simp only [cop] at hc
  split at hc
  case h_3=>cases hc
  case h_2=>
   rename_i x' hx hy
   split at hc
   · rename_i ms hu
     injection hc with hc;subst hc;exact UJ h hd hx hu rfl hev
   · rename_i ms hu
     injection hc with hc;subst hc;exact UJ h hd hx hu rfl hev
   · injection hc with hc;subst hc;cases fq
   · injection hc with hc;subst hc;cases fq
   · cases hc
  rename_i x' y' hx hy
  split at hc
  · rename_i fs hu
    split at hc
    case h_2=>cases hc
    rename_i ks hk
    split at hc
    · injection hc with hc;subst hc;exact Qn h hd hx hy hu hk rfl hev
    · injection hc with hc;subst hc;exact Qn h hd hx hy hu hk rfl hev
    · cases hc
  · injection hc with hc;subst hc;exact Qm h hd hx hy hev
  · injection hc with hc;subst hc;exact Qm h hd hx hy hev
  · rename_i hu
    split at hc
    · injection hc with hc;subst hc;exact Ut h hd hx hy hu rfl hev
    · injection hc with hc;subst hc;exact Ut h hd hx hy hu rfl hev
    · cases hc
  · rename_i u hu
    split at hc
    · injection hc with hc;subst hc;exact Uu h hd hx hy hu rfl hev
    · injection hc with hc;subst hc;exact Uu h hd hx hy hu rfl hev
    · cases hc
  · cases hc
 |unOp YO t x=>
  simp only [cop,Option.map_eq_some_iff] at hc
  obtain ⟨a,ha,rfl⟩:=hc
  exact aaY h hd ha hev
 |convert s t x=>
  simp only [cop] at hc
  split at hc
  case h_2=>cases hc
  rename_i hh x' pF hx
  injection hc with hc;subst hc
  exact YG h hd hx pF (hm.imp id fun q=>by rintro rfl;exact q.2 _ rfl) hev
 |makeFunc fn first cs=>
  cases fn with
  |func f=>
   simp only [cop] at hc
   split at hc
   case isFalse=>cases hc
   rename_i hf
   simp only [Option.map_eq_some_iff] at hc
   obtain ⟨a,ha,rfl⟩:=hc
   exact Yt h hd hf ha hev
  |_=>simp [cop] at hc
 |slice t x lo hi mx=>
  simp only [cop] at hc
  split at hc
  case h_2=>cases hc
  rename_i x' lo' hi' mx' hx hlo hhi Rc
  split at hc
  · rename_i hu
    split at hc
    · injection hc with hc;subst hc
      have:mx=none:=by
       cases mx with
       |none=>rfl
       |some y=>simp only [pY] at Rc;cases hy:bA y<;>rw [hy] at Rc<;>simp at Rc
      subst this
      exact YB h hd hx hlo hhi hu hev
    · cases hc
  · rename_i el hu
    split at hc
    case isFalse=>cases hc
    rename_i ht
    injection hc with hc;subst hc
    exact YC h hd hx hlo hhi Rc hu ht hev
  · cases hc
 |indexAddr t x i=>
  simp only [cop] at hc
  split at hc
  case h_3=>cases hc
  case h_2=>
   rename_i x' i' hel hx hi
   split at hc
   case h_2=>cases hc
   rename_i mm el hu
   split at hc
   case isFalse=>cases hc
   rename_i ht
   injection hc with hc;subst hc
   exact Yy h hd hx hi hu ht hev
  rename_i el x' i' hel hx hi
  split at hc
  case isFalse=>cases hc
  rename_i ht
  injection hc with hc;subst hc
  unfold E7 at hel
  split at hel
  · rename_i e hu;injection hel with hel;subst hel;exact Yx h hd hx hi hu ht hev
  · cases hel
 |index t x i=>
  simp only [cop] at hc
  split at hc
  case h_2=>cases hc
  rename_i x' i' hu hx hi
  injection hc with hc;subst hc
  exact Yw h hd hx hi hu hev
 |extract x i=>
  simp only [cop,Option.map_eq_some_iff] at hc
  obtain ⟨a,ha,rfl⟩:=hc
  exact Yu h hd ha hev
 |call c=>
  obtain ⟨callee,args,argTypes⟩:=c
  simp only [cop] at hc
  split at hc
  · rename_i x t h1 h2
    have e1:args= #[x]:=by rw [←Array.toArray_toList (xs:=args),h1]
    have e2:argTypes= #[t]:=by rw [←Array.toArray_toList (xs:=argTypes),h2]
    subst e1;subst e2
    split at hc
    · rename_i x' hu hx;injection hc with hc;subst hc;exact Uv h hd hx hu hev
    · rename_i s x' hu hx;injection hc with hc;subst hc;exact Yv h hd hx hu hev
    · cases hc
  · rename_i x y t u h1 h2
    have e1:args= #[x,y]:=by rw [←Array.toArray_toList (xs:=args),h1]
    have e2:argTypes= #[t,u]:=by rw [←Array.toArray_toList (xs:=argTypes),h2]
    subst e1;subst e2
    split at hc
    case h_2=>cases hc
    rename_i x' y' _ _ hx hy
    split at hc
    case isFalse=>cases hc
    rename_i htu
    injection hc with hc;subst hc
    obtain ⟨rfl, -⟩:=htu
    exact UL (mx:=true) h hd hx hy hev
  · rename_i x y t u h1 h2
    have e1:args= #[x,y]:=by rw [←Array.toArray_toList (xs:=args),h1]
    have e2:argTypes= #[t,u]:=by rw [←Array.toArray_toList (xs:=argTypes),h2]
    subst e1;subst e2
    split at hc
    case h_2=>cases hc
    rename_i x' y' _ _ hx hy
    split at hc
    case isFalse=>cases hc
    rename_i htu
    injection hc with hc;subst hc
    obtain ⟨rfl, -⟩:=htu
    exact UL (mx:=false) h hd hx hy hev
  · rename_i x y t u h1 h2
    have e1:args= #[x,y]:=by rw [←Array.toArray_toList (xs:=args),h1]
    have e2:argTypes= #[t,u]:=by rw [←Array.toArray_toList (xs:=argTypes),h2]
    subst e1;subst e2
    split at hc
    case h_2=>cases hc
    rename_i el x' hel hx
    have ht:P.underlying t=some (.slice el):=by
     unfold E7 at hel
     split at hel
     · rename_i e hu;injection hel with hel;subst hel;exact hu
     · cases hel
    split at hc
    · rename_i s y' hu hy
      split at hc
      case isFalse=>cases hc
      rename_i hz
      injection hc with hc;subst hc
      exact YK h hd hx hy ht hu hz hev
    · rename_i y' hu hy
      split at hc
      case isFalse=>cases hc
      rename_i hz
      injection hc with hc;subst hc
      exact UO h hd hx hy ht hu hz.2 hz.1 hev
    · cases hc
  · split at hc
    · injection hc with hc;subst hc;cases fq
    · cases hc
  · cases hc
 |_=>simp [cop] at hc
theorem YP {o:Oper} {op:fV} (h:SR L N F γ C e ah ts w) (hd:∀x,o.dst=some x→x<N) (hc:dO P m o=some op) (fq:op.pE=false)
 (hev:bK L ⟨o.dst,op,none⟩ e ah=some (e',aE)):bf m P L N F γ C o ts ds w e' aE:=by
 cases m with
 |true=>exact NH h hd (by simpa [dO] using hc) fq (.inl rfl) hev
 |false=>
  simp only [dO,Bool.false_eq_true,if_false,Option.map_eq_some_iff] at hc
  obtain ⟨op',ho,rfl⟩:=hc
  by_cases Ec:∃x,op'= .iS .bs x
  · obtain ⟨x,rfl⟩:=Ec
    obtain ⟨d,oo,ty,pos,af,g⟩:=o
    cases oo with
    |convert s t y=>
     simp only [cop] at ho
     split at ho
     case h_2=>cases ho
     rename_i hh x' pF hx
     injection ho with ho
     injection ho with e1 e2
     subst e1;subst e2
     exact UE h hd hx pF hev
    |makeFunc fn first cs=>
     cases fn with
     |func f=>simp only [cop] at ho;split at ho<;>simp at ho
     |_=>simp [cop] at ho
    |_=>
     exfalso
     simp only [cop] at ho
     first
      |cases ho;done
      |(simp at ho;done)
      |(repeat' (split at ho))<;>(first|(cases ho;done)|(simp at ho;done))
  by_cases hl:∃x n,op'= .ld x n
  · obtain ⟨x,n,rfl⟩:=hl
    obtain ⟨d,oo,ty,pos,af,g⟩:=o
    cases oo with
    |load t y=>
     simp only [cop] at ho
     split at ho
     case isFalse=>cases ho
     rename_i ht
     simp only [Option.map_eq_some_iff] at ho
     obtain ⟨a,ha,he⟩:=ho
     injection he with e1 e2
     subst e1;subst e2
     exact Ql h hd ha ht hev
    |makeFunc fn first cs=>
     cases fn with
     |func f=>simp only [cop] at ho;split at ho<;>simp at ho
     |_=>simp [cop] at ho
    |_=>
     exfalso
     simp only [cop] at ho
     first
      |cases ho;done
      |(simp at ho;done)
      |(repeat' (split at ho))<;>(first|(cases ho;done)|(simp at ho;done))
  · have:op'.K3=op':=by
     cases op' with
     |ld x n=>exact absurd ⟨_,_,rfl⟩ hl
     |iS hh x=>cases hh<;>first|rfl|exact absurd ⟨_,rfl⟩ Ec
     |_=>rfl
    rw [this] at fq hev
    exact NH h hd ho fq (.inr ⟨fun x n he=>hl ⟨x,n,he⟩,fun x he=>Ec ⟨x,he⟩⟩) hev
theorem UZ {o:Oper} {x':Ar} (hc:cop P o=some (.aO x')):∃x,o=⟨o.dst, .assign x,o.type,o.pos,o.after,o.guard⟩∧dB P o.type x=some x':=by
 obtain ⟨d,oo,ty,pos,af,g⟩:=o
 cases oo with
 |assign y=>
  simp only [cop,Option.map_eq_some_iff] at hc
  obtain ⟨a,ha,he⟩:=hc
  injection he with he
  subst he
  exact ⟨y,rfl,ha⟩
 |makeFunc fn first cs=>
  cases fn with
  |func f=>simp only [cop] at hc;split at hc<;>simp at hc
  |_=>simp [cop] at hc
 |_=>
  exfalso
  simp only [cop] at hc
  first
   |cases hc;done
   |(simp at hc;done)
   |(repeat' (split at hc))<;>(first|(cases hc;done)|(simp at hc;done))
theorem Fm {o:Oper} {k b:Nat} {x' y':Ar} (hop:cop P o=some (.app k b x' y')):
 ∃x y t u el s,o=⟨o.dst, .call {callee:= .builtin .append,args:= #[x,y],argTypes:= #[t,u]},o.type,o.pos,o.after,o.guard⟩∧dB P t x=some x'∧dB P u y=some y'∧
  P.underlying t=some (.slice el)∧P.underlying u=some (.slice s)∧(zeroOf P el).map List.length=some (cP P el)∧k=cP P el∧b=IX P el:=by
 obtain ⟨d,oo,ty,pos,af,g⟩:=o
 cases oo with
 |call c=>
  obtain ⟨callee,args,argTypes⟩:=c
  simp only [cop] at hop
  split at hop
  · split at hop<;>simp at hop
  · split at hop
    · split at hop<;>simp at hop
    · cases hop
  · split at hop
    · split at hop<;>simp at hop
    · cases hop
  · rename_i x y t u h1 h2
    have e1:args= #[x,y]:=by rw [←Array.toArray_toList (xs:=args),h1]
    have e2:argTypes= #[t,u]:=by rw [←Array.toArray_toList (xs:=argTypes),h2]
    subst e1;subst e2
    split at hop
    case h_2=>cases hop
    rename_i el x2 hel hx
    have ht:P.underlying t=some (.slice el):=by
     unfold E7 at hel
     split at hel
     · rename_i e hu;injection hel with hel;subst hel;exact hu
     · cases hel
    split at hop
    · rename_i s y2 hu hy
      split at hop
      case isFalse=>cases hop
      rename_i hz
      injection hop with hop
      injection hop with q1 q2 q3 q4
      subst q1;subst q2;subst q3;subst q4
      exact ⟨x,y,t,u,el,s,rfl,hx,hy,ht,hu,hz,rfl,rfl⟩
    · split at hop<;>simp at hop
    · cases hop
  · split at hop<;>simp at hop
  · cases hop
 |makeFunc fn first cs=>
  cases fn with
  |func f=>simp only [cop] at hop;split at hop<;>simp at hop
  |_=>simp [cop] at hop
 |_=>
  exfalso
  simp only [cop] at hop
  first
   |cases hop;done
   |(simp at hop;done)
   |(repeat' (split at hop))<;>(first|(cases hop;done)|(simp at hop;done))
theorem Qp {o:Oper} {neq:Bool} {x':Ar} (hop:cop P o=some (.nq neq x')):
 ∃op t x p8 el,o=⟨o.dst, .binOp op t x (.const (.slice none 0 0)) p8,o.type,o.pos,o.after,o.guard⟩∧bA x=some x'∧P.underlying t=some (.slice el)∧op=if neq then .neq else .eql:=by
 obtain ⟨d,oo,ty,pos,af,g⟩:=o
 cases oo with
 |binOp op t x y p8=>
  simp only [cop] at hop
  split at hop
  case h_3=>cases hop
  case h_2=>
   rename_i x2 hx hy
   split at hop
   · cases hop
   · cases hop
   · rename_i el hu
     injection hop with hop;injection hop with h1 h2;subst h1;subst h2
     exact ⟨_,t,x,p8,el,rfl,hx,hu,rfl⟩
   · rename_i el hu
     injection hop with hop;injection hop with h1 h2;subst h1;subst h2
     exact ⟨_,t,x,p8,el,rfl,hx,hu,rfl⟩
   · cases hop
  exfalso
  (repeat' (split at hop))<;>(first|(cases hop;done)|(simp at hop;done))
 |makeFunc fn first cs=>
  cases fn with
  |func f=>simp only [cop] at hop;split at hop<;>simp at hop
  |_=>simp [cop] at hop
 |_=>
  exfalso
  simp only [cop] at hop
  first
   |cases hop;done
   |(simp at hop;done)
   |(repeat' (split at hop))<;>(first|(cases hop;done)|(simp at hop;done))
theorem YQ {op:fV} {n:Bool} {x:Ar} (h:op.K3= .nq n x):op= .nq n x:=by
 cases op with
 |iS hh x=>cases hh<;>cases h
 |ld x n=>cases h
 |_=>exact h
theorem U0 {op:fV} {k b:Nat} {x y:Ar} (h:op.K3= .app k b x y):op= .app k b x y:=by
 cases op with
 |iS hh x=>cases hh<;>cases h
 |ld x n=>cases h
 |_=>exact h
theorem U1 {op:fV} {x:Ar} (h:op.K3= .aO x):op= .aO x:=by
 cases op with
 |iS hh x=>cases hh<;>cases h
 |ld x n=>cases h
 |_=>exact h
theorem U2 {o:Oper} {k:Nat} {zs:List Ar} (hop:cop P o=some (.gA k zs)):
 ∃t n parts el,o=⟨o.dst, .buildSlice t n parts,o.type,o.pos,o.after,o.guard⟩∧P.underlying t=some (.slice el)∧parts.size=n∧n*cP P el≤16777216∧(zeroOf P el).isSome=true∧
  mz P el 0 parts.toList=some zs∧k=cP P el:=by
 obtain ⟨d,oo,ty,pos,af,g⟩:=o
 cases oo with
 |buildSlice t n parts=>
  simp only [cop] at hop
  split at hop
  case h_2=>cases hop
  rename_i el hel
  split at hop
  case isFalse=>cases hop
  rename_i hq
  have ht:P.underlying t=some (.slice el):=by
   unfold E7 at hel
   split at hel
   · rename_i e hu;injection hel with hel;subst hel;exact hu
   · cases hel
  cases hc:mz P el 0 parts.toList with
  |none=>rw [hc] at hop;cases hop
  |some zs'=>
   rw [hc] at hop
   simp only [Option.map_some,Option.some.injEq,fV.gA.injEq] at hop
   obtain ⟨rfl,rfl⟩:=hop
   exact ⟨t,n,parts,el,rfl,ht,hq.1,hq.2.1,hq.2.2,hc,rfl⟩
 |makeFunc fn first cs=>
  cases fn with
  |func f=>simp only [cop] at hop;split at hop<;>simp at hop
  |_=>simp [cop] at hop
 |call c=>
  obtain ⟨callee,args,tys⟩:=c
  simp only [cop] at hop
  (repeat' (split at hop))<;>(first|(cases hop;done)|(simp at hop;done))
 |_=>
  simp only [cop] at hop
  first
   |cases hop;done
   |(simp at hop;done)
   |(repeat' (split at hop))<;>(first|(cases hop;done)|(simp at hop;done))
theorem U3 {op:fV} {k:Nat} {zs:List Ar} (h:op.K3= .gA k zs):op= .gA k zs:=by
 cases op with
 |iS hh x=>cases hh<;>cases h
 |ld x n=>cases h
 |_=>exact h
theorem Rk {o:Oper} {k:Nat} {zs:List Ar} (hc:dO P m o=some (.gA k zs)):cop P o=some (.gA k zs):=by
 cases m with
 |true=>simpa [dO] using hc
 |false=>
  simp only [dO,Bool.false_eq_true,if_false,Option.map_eq_some_iff] at hc
  obtain ⟨op',ho,hE⟩:=hc
  rw [ho,U3 hE]
theorem CC {o:Oper} {k b:Nat} {x y:Ar} (hc:dO P m o=some (.app k b x y)):cop P o=some (.app k b x y):=by
 cases m with
 |true=>simpa [dO] using hc
 |false=>
  simp only [dO,Bool.false_eq_true,if_false,Option.map_eq_some_iff] at hc
  obtain ⟨op',ho,hE⟩:=hc
  rw [ho,U0 hE]
theorem Rl {o:Oper} {x:Ar} (hc:dO P m o=some (.aO x)):cop P o=some (.aO x):=by
 cases m with
 |true=>simpa [dO] using hc
 |false=>
  simp only [dO,Bool.false_eq_true,if_false,Option.map_eq_some_iff] at hc
  obtain ⟨op',ho,hE⟩:=hc
  rw [ho,U1 hE]
theorem Ln {o:Oper} {n:Bool} {x:Ar} (hc:dO P m o=some (.nq n x)):cop P o=some (.nq n x):=by
 cases m with
 |true=>simpa [dO] using hc
 |false=>
  simp only [dO,Bool.false_eq_true,if_false,Option.map_eq_some_iff] at hc
  obtain ⟨op',ho,hE⟩:=hc
  rw [ho,YQ hE]
theorem Jf {o:Oper} {n:Bool} {x:Ar} {K:Env→AH→Prop} (h:SR L N F γ C e ah ts w) (hd:∀x,o.dst=some x→x<N) (hc:dO P m o=some (fV.er (.nq n x)))
 (hk:E8 L o.dst n x e ah K):∃e' aE,K e' aE∧bf m P L N F γ C o ts ds w e' aE:=by
 obtain ⟨op,t,x0,p8,el,ho,hx,hu,hop⟩:=Qp (Ln hc)
 rw [ho]
 exact aa2 (d:=o.dst) h hd hx hu hop hk
theorem Iw {o:Oper} {k b:Nat} {x y:Ar} {K:Env→AH→Prop} (h:SR L N F γ C e ah ts w) (hd:∀x,o.dst=some x→x<N) (hc:dO P m o=some (fV.er (.mu k b x y)))
 (hk:pX L o.dst k b x y e ah K):∃e' aE,K e' aE∧bf m P L N F γ C o ts ds w e' aE:=by
 obtain ⟨x0,y0,t,u,el,s,ho,hx,hy,ht,hu,hz,rfl,rfl⟩:=Fm (CC hc)
 rw [ho]
 exact UU (d:=o.dst) h hd hx hy ht hu hz hk
theorem Lo {o:Oper} {k:Nat} {x:Ar} (h:SR L N F γ C e ah ts w) (hd:∀x,o.dst=some x→x<N) (hc:dO P m o=some (fV.er (.yJ k x)))
 (hev:bK L ⟨o.dst, .yJ k x,none⟩ e ah=some (e',aE)):bf m P L N F γ C o ts ds w e' aE:=by
 obtain ⟨x0,ho,hx⟩:=UZ (Rl hc)
 rw [ho]
 exact Yz (d:=o.dst) h hd hx hev
theorem Ix {o:Oper} {k:Nat} {zs:List Ar} (h:SR L N F γ C e ah ts w) (hd:∀x,o.dst=some x→x<N) (hc:dO P m o=some (fV.er (.nv k zs)))
 (hev:bK L ⟨o.dst, .nv k zs,none⟩ e ah=some (e',aE)):bf m P L N F γ C o ts ds w e' aE:=by
 obtain ⟨t,n,parts,el,ho,ht,hn,hb,hz,hcs,rfl⟩:=U2 (Rk hc)
 rw [ho]
 exact UY (d:=o.dst) h hd ht hn hb hz hcs hev
theorem Iy {op:fV} {f:Ar} {zq:List Ar} (h:op.K3= .call f zq):op= .call f zq:=by
 cases op with
 |iS hh x=>cases hh<;>cases h
 |ld x n=>cases h
 |_=>exact h
theorem adr {op:fV} {f:Ar} {zq:List Ar} (h:op.er= .call f zq):op= .call f zq:=by
 cases op with
 |um x=>cases h
 |mu=>cases h
 |yJ=>cases h
 |nv=>cases h
 |_=>exact h
theorem Jg {o:Oper} {op:fV} (h:SR L N F γ C e ah ts w) (hd:∀x,o.dst=some x→x<N) (hc:cop P o=some op.er) (fq:op.pE=false)
 (hev:bK L ⟨o.dst,op,none⟩ e ah=some (e',aE)):bf true P L N F γ C o ts ds w e' aE:=by
 by_cases hx:∃x,op= .um x
 · obtain ⟨x,rfl⟩:=hx
   obtain ⟨d,oo,ty,pos,af,g⟩:=o
   have hc:cop P ⟨d,oo,ty,pos,af,g⟩=some (.iS .sb x):=hc
   cases oo with
   |convert s t y=>
    simp only [cop] at hc
    split at hc
    case h_2=>cases hc
    rename_i hh x' pF hx
    injection hc with hc
    injection hc with e1 e2
    subst e1;subst e2
    exact UH h hd hx pF hev
   |makeFunc fn first cs=>
    cases fn with
    |func f=>simp only [cop] at hc;split at hc<;>simp at hc
    |_=>simp [cop] at hc
   |_=>
    exfalso
    simp only [cop] at hc
    first
     |cases hc;done
     |(simp at hc;done)
     |(repeat' (split at hc))<;>(first|(cases hc;done)|(simp at hc;done))
 · by_cases hy:∃k x,op= .yJ k x
   · obtain ⟨k,x,rfl⟩:=hy
     exact Lo (m:=true) h hd (by simpa [dO] using hc) hev
   by_cases hz:∃k x,op= .nv k x
   · obtain ⟨k,x,rfl⟩:=hz
     exact Ix (m:=true) h hd (by simpa [dO] using hc) hev
   have:op.er=op:=by
    cases op<;>first|rfl|exact absurd ⟨_,rfl⟩ hx|exact absurd ⟨_,_,rfl⟩ hy|exact absurd ⟨_,_,rfl⟩ hz|cases fq|rfl
   rw [this] at hc
   exact NH h hd hc fq (.inl rfl) hev
theorem Lp {o:Oper} {op:fV} (h:SR L N F γ C e ah ts w) (hd:∀x,o.dst=some x→x<N) (hc:dO P m o=some op.er) (fq:op.pE=false)
 (hev:bK L ⟨o.dst,op,none⟩ e ah=some (e',aE)):bf m P L N F γ C o ts ds w e' aE:=by
 cases m with
 |true=>exact Jg h hd (by simpa [dO] using hc) fq hev
 |false=>
  by_cases hx:∃x,op= .um x
  · obtain ⟨x,rfl⟩:=hx
    simp only [dO,Bool.false_eq_true,if_false,Option.map_eq_some_iff] at hc
    obtain ⟨op',ho,hE⟩:=hc
    have hE:op'.K3= .iS .sb x:=hE
    have:op'= .iS .sb x:=by
     cases op' with
     |iS hh y=>cases hh<;>first|exact hE|cases hE
     |ld y n=>cases hE
     |_=>exact hE
    subst this
    obtain ⟨v,w',γ',C',h1,h2,h3,h4,h5,h6⟩:=Jg (op:= .um x) (ds:=ds) h hd ho rfl hev
    refine ⟨v,w',γ',C',h1,h2,h3,h4,h5,fun hq=> ?_⟩
    exfalso
    obtain ⟨d,oo,ty,pos,af,g⟩:=o
    cases oo with
    |convert s t y=>
     simp only [cop] at ho
     split at ho
     case h_2=>cases ho
     rename_i hh x' pF hx
     injection ho with ho
     injection ho with e1 e2
     subst e1
     unfold IZ at pF
     split at pF
     · cases pF
     · cases pF
     · rename_i el hs ht
       simp [dV,ht] at hq
     · split at pF
       · split at pF<;>cases pF
       · cases pF
     · cases pF
    |makeFunc fn first cs=>
     cases fn with
     |func f=>simp only [cop] at ho;split at ho<;>simp at ho
     |_=>simp [cop] at ho
    |_=>
     simp only [cop] at ho
     first
      |cases ho;done
      |(simp at ho;done)
      |(repeat' (split at ho))<;>(first|(cases ho;done)|(simp at ho;done))
  · by_cases hy:∃k x,op= .yJ k x
    · obtain ⟨k,x,rfl⟩:=hy
      exact Lo h hd hc hev
    by_cases hz:∃k x,op= .nv k x
    · obtain ⟨k,x,rfl⟩:=hz
      exact Ix h hd hc hev
    have:op.er=op:=by
     cases op<;>first|rfl|exact absurd ⟨_,rfl⟩ hx|exact absurd ⟨_,_,rfl⟩ hy|exact absurd ⟨_,_,rfl⟩ hz|cases fq|rfl
    rw [this] at hc
    exact YP h hd hc fq hev
theorem xB (L:List Nat) (d:Option Nat) (op:fV) (g:Option (Nat×Bool)) (e:Env) (ah:AH):bK L ⟨d,op,g⟩ e ah=bK L ⟨d,op,none⟩ e ah:=by
 cases op<;>rfl
def fW (P:Program) (f:Nat):Bool:=match P.funcs[f]? with
 |some fn=>fn.body.isSome&&fn.name != "runtime.NumGoroutine"
 |none=>false
def fL:Nat→List AV→Env
 |_,[]=>[]
 |i,a::r=>(i,a)::fL (i+1) r
theorem dH:∀(l:List AV) (i t:Nat),get (fL i l) t=if i≤t then (l[t - i]?).getD .un else .un:=by
 intro l
 induction l with
 |nil=>intro i t;simp [fL,get]
 |cons a r ih=>
  intro i t
  simp only [fL,get]
  by_cases h:i=t
  · subst h;simp
  · rw [if_neg h,ih]
    by_cases h1:i≤t
    · obtain ⟨q,hq⟩:∃q,t - i=q+1:=⟨t - i - 1,by omega⟩
      rw [if_pos h1,if_pos (by omega),hq,show t - (i+1)=q by omega];simp
    · rw [if_neg h1,if_neg (by omega)]
def aA (P:Program) (f:Nat) (args:List AV) (ah:AH) (R:AV→AH→Prop):Prop:=
 fW P f=true∧∀(F:Nat→Prop) (γ:List Nat) (C:Nat→List Value) (w:World) (vs:Array Value),SR [] args.length F γ C (fL 0 args) ah vs w→
  Calls P f vs w fun en w'=>∃r v aE γ' C',en= .returned v∧R r aE∧γ <+: γ'∧SR [] 1 F γ' C' [(0,r)] aE #[v] w'∧Ext F C w C' w'
theorem aA.mono {f:Nat} {args:List AV} {ah:AH} {R R':AV→AH→Prop} (h:aA P f args ah R) (hr:∀r aE,R r aE→R' r aE):aA P f args ah R':=
 ⟨h.1,fun F γ C w vs hs=>(h.2 F γ C w vs hs).mono fun _ _ ⟨r,v,aE,γ',C',h1,h2,h3⟩=>⟨r,v,aE,γ',C',h1,hr _ _ h2,h3⟩⟩
def AV.jA:AV→AV
 | .sl (.fr (.cell _ _)) k xs=> .sl .n k xs
 |a=>a
def xC:Env→Env
 |[]=>[]
 |(i,a)::r=>(i,a.jA)::xC r
theorem Bt (e:Env) (t:Nat):get (xC e) t=(get e t).jA:=by
 induction e with
 |nil=>rfl
 |cons p r ih=>
  obtain ⟨i,b⟩:=p
  simp only [xC,get]
  by_cases h:i=t<;>simp [h,ih]
theorem Wk.jA (a:AV):Wk a a.jA:=by
 cases a with
 |sl t k xs=>
  cases t with
  |fr m=>cases m<;>first|exact .n .. |exact .same _
  |_=>exact .same _
 |_=>exact .same _
theorem ae5 (a:AV):a.jA.DN=a.DN:=by
 cases a with
 |sl t k xs=>cases t with
  |fr l=>cases l<;>rfl
  |_=>rfl
 |_=>rfl
theorem U4 (a:AV):a.jA.bY=a.bY:=by
 cases a with
 |sl t k xs=>
  cases t with
  |fr m=>cases m<;>rfl
  |_=>rfl
 |_=>rfl
theorem Rm (a:AV) (v:Value):bG a.jA v=bG a v:=by
 cases a with
 |sl t k xs=>
  cases t with
  |fr m=>cases m<;>simp [AV.jA,bG]
  |_=>rfl
 |_=>rfl
theorem YR {a:AV} {l:Loc} {k:Nat} {xs:List AV} (h:a.jA= .sl (.fr l) k xs):a= .sl (.fr l) k xs∧∃t,l= .tmp t:=by
 cases a with
 |sl t k' xs'=>
  cases t with
  |fr m=>cases m with
   |tmp u=>simp only [AV.jA] at h;exact ⟨h,u,by injection h with h;injection h with h;exact h.symm⟩
   |cell s o=>simp [AV.jA] at h
  |_=>simp [AV.jA] at h
 |_=>simp [AV.jA] at h
theorem Lq {f:Nat} {zq:List AV} {vs:Array Value} {R:AV→AH→Prop} {d:Option Nat} (h:SR L N F γ C e ah ts w) (hd:∀x,d=some x→x<N) (hac:aA P f zq ah R)
 (hlen:vs.size=zq.length) (has:∀(i:Nat) (a:AV),zq[i]? =some a→VR C γ a (vs.getD i undef)∧TC w C a (vs.getD i undef)∧a.plain=true):
 Calls P f vs w fun en w'=>∃r v aE γ' C',en= .returned v∧R r aE∧γ <+: γ'∧SR L N F γ' C' (Am.aF L (xC e) d r.df) aE (Act.put ⟨ts,ds⟩ d v).tmps w'∧Ext F C w C' w':=by
 let F':Nat→Prop:=fun b=>F b∨∃t,blk γ e ah ts w (.tmp t) b
 have Rn:∀t,get (fL 0 zq) t=(zq[t]?).getD .un:=fun t=>by rw [dH];simp
 have hnot:∀t,(get (fL 0 zq) t).bY=false:=by
  intro t
  rw [Rn]
  cases ht:zq[t]? with
  |none=>rfl
  |some a=>exact iH (has t a ht).2.2
 have hsub:∀p b,blk γ (fL 0 zq) ah vs w p b→blk γ e ah ts w p b∧∀t,p≠ .tmp t:=by
  intro p b hp
  cases p with
  |obj s=>exact ⟨hp,by simp⟩
  |cell s i=>exact ⟨hp,by simp⟩
  |tmp t=>simp only [blk] at hp;rw [jr _ (hnot t)] at hp;cases hp
 have hs:SR [] zq.length F' γ C (fL 0 zq) ah vs w:=by
  refine ⟨h.mem,hlen,fun t=> ?_,fun p q b hp hq=>h.dD p q b (hsub p b hp).1 (hsub q b hq).1,fun p b hp=> ?_,⟨fun b hb=> ?_,fun e he=>by obtain ⟨h1,h2⟩:=h.iT.K5 e he;exact ⟨.inl h1,h2⟩⟩,fun t l k xs ht=> ?_⟩
  · rw [Rn]
    cases ht:zq[t]? with
    |none=>exact ⟨.un ..,by cases vs.getD t undef<;>trivial⟩
    |some a=>exact ⟨(has t a ht).1,(has t a ht).2.1⟩
  · rintro (hF|⟨t,ht⟩)
    · exact h.nf p b (hsub p b hp).1 hF
    · exact (hsub p b hp).2 t (h.dD p (.tmp t) b (hsub p b hp).1 ht)
  · rcases hb with hF|⟨t,ht⟩
    · exact h.iT.lt b hF
    · exact eW h ht
  · rw [Rn] at ht
    cases hq:zq[t]? with
    |none=>rw [hq] at ht;simp at ht
    |some a=>rw [hq] at ht;exact absurd ht (yy (has t a hq).2.2 l k xs)
 refine (hac.2 F' γ C w vs hs).mono ?_
 rintro en w' ⟨r,v,aE,γ',C',rfl,hR,hγ,lS,hx⟩
 refine ⟨r,v,aE,γ',C',rfl,hR,hγ, ?_,⟨hx.pre,fun b hb=>hx.keep b (.inl hb),hx.size,hx.out⟩⟩
 have hg:∀(s b:Nat),γ[s]? =some b→γ'[s]? =some b:=by
  intro s b hs
  obtain ⟨q,rfl⟩:=hγ
  rw [List.getElem?_append_left (List.getElem?_eq_some_iff.1 hs).1];exact hs
 have hown:∀t b,bG (get e t) (ts.getD t undef)=some b→F' b:=fun t b hb=> .inr ⟨t,hb⟩
 have hbk:∀p b,blk γ' (xC e) aE ts w' p b→(∃t,p= .tmp t∧blk γ e ah ts w (.tmp t) b)∨((∀t,p≠ .tmp t)∧blk γ' [(0,r)] aE #[v] w' p b):=by
  intro p b hp
  cases p with
  |obj s=>exact .inr ⟨by simp,hp⟩
  |cell s i=>exact .inr ⟨by simp,hp⟩
  |tmp t=>simp only [blk,Bt,Rm] at hp;exact .inl ⟨t,rfl,hp⟩
 have h2:SR L N F γ' C' (xC e) aE ts w':=by
  refine ⟨lS.mem,h.sz,fun t=> ?_,fun p q b hp hq=> ?_,fun p b hp=> ?_,h.iT.keep hx.size (fun b hb=>(hx.keep b (.inl hb)).1),fun t l k xs ht=> ?_⟩
  · rw [Bt]
    refine ⟨(Wk.jA _).vr ((h.env t).1.mono hx.pre _ hg),(Wk.jA _).tc ((h.env t).2.mono fun b hb=> ?_)⟩
    exact hx.keep b (hown t b hb)
  · rcases hbk p b hp with ⟨t,rfl,h1⟩|⟨h1,h2⟩<;>rcases hbk q b hq with ⟨u,rfl,h3⟩|⟨h3,h4⟩
    · exact h.dD _ _ b h1 h3
    · exact absurd (hown t b h1) (lS.nf q b h4)
    · exact absurd (hown u b h3) (lS.nf p b h2)
    · exact lS.dD p q b h2 h4
  · rcases hbk p b hp with ⟨t,rfl,h1⟩|⟨h1,h2⟩
    · exact h.nf _ b h1
    · exact fun hF=>lS.nf p b h2 (.inl hF)
  · rw [Bt] at ht
    obtain ⟨h1,u,rfl⟩:=YR ht
    have:=h.fr t _ k xs h1
    exact ⟨this.1,fun hu=>this.2 (by rw [Bt,U4] at hu;exact hu)⟩
 have hr:=lS.env 0
 simp only [get,if_true] at hr
 have hv0:(#[v]:Array Value).getD 0 undef=v:=rfl
 rw [hv0] at hr
 by_cases ho:r.bY=true
 · cases r with
   |sl t k xs=>
    cases t with
    |own=>
     simp only [AV.df]
     refine h2.uq hd hr.1 hr.2 fun b hb=> ?_
     have hb0:blk γ' [(0, .sl .own k xs)] aE #[v] w' (.tmp 0) b:=hb
     refine ⟨fun hF=>lS.nf _ b hb0 (.inl hF),fun p hp=> ?_⟩
     rcases hbk p b hp with ⟨t,rfl,h1⟩|⟨h1,h3⟩
     · exact lS.nf _ b hb0 (hown t b h1)
     · exact h1 0 (lS.dD p (.tmp 0) b h3 hb0)
    |_=>cases ho
   |dy=>exact h2.aF hd (.un ..) (by cases v<;>trivial) rfl (by simp [AV.df])
   |dn=>exact h2.aF hd (.un ..) (by cases v<;>trivial) rfl (by simp [AV.df])
   |_=>cases ho
 · have ho':r.bY=false:=by simpa using ho
   exact h2.aF hd ((Wk.df r).vr hr.1) ((Wk.df r).tc hr.2) (Qk ho') (fun l k xs hl=>absurd hl (Nu r l k xs))
end
end Go.Am
end
section
namespace Go.Am
open Go
variable [Tabs]
def Bu (P:Program) (L:List Nat) (o:aM) (e:Env) (ah:AH) (K:Env→AH→Prop):Prop:=
 match o.op with
 | .call f zq=>
   match ev e f with
   | .fn f caps=>bP caps=true∧aA P f (zq.map (fun x=>(ev e x).sh)++caps.map AV.s1) ah fun r aE=>K (aF L (xC e) o.d r.df) aE
   |_=>False
 | .mu k b x y=>pX L o.d k b x y e ah K
 | .nq n x=>E8 L o.d n x e ah K
 |_=>match bK L o e ah with
  |some (e',aE)=>K e' aE
  |none=>False
def qc (e:Env):Option Nat→Env
 |some d=>put e d (.bz [])
 |none=>e
def e6 (P:Program) (L:List Nat):List aM→Env→AH→(Env→AH→Prop)→Prop
 |[],e,ah,K=>K e ah
 |o::r,e,ah,K=>match gV e o with
  |some true=>Bu P L o e ah fun e ah=>e6 P L r e ah K
  |some false=>e6 P L r (qc e o.d) ah K
  |none=>False
def mq (N:Nat):List aM→Bool
 |[]=>true
 |o::r=>(match o.d with|some d=>decide (d<N)|none=>true)&&(match o.op with| .lit y _=>decide (y<N)|_=>true)&&mq N r
theorem Qq (N:Nat):∀zq:List aM,mq N (zq.map aM.er)=mq N zq:=by
 intro zq
 induction zq with
 |nil=>rfl
 |cons o r ih=>
  obtain ⟨d,op,g⟩:=o
  simp only [List.map_cons,mq,ih,aM.er]
  cases op<;>rfl
def NG:Exit→Prop
 | .goto _=>False
 |_=>True
def AW (P:Program) (L:List Nat) (N n0:Nat) (c:Code) (Q:Exit→Env→AH→Prop) (e:Env) (ah:AH):Prop:=
 ∀(F:Nat→Prop) (γ:List Nat) (C:Nat→List Value) (ts:Array Value) (w:World),SR L N F γ C e ah ts w→n0≤γ.length→
  c.wp P (fun x a' w'=>a'.defers=[]∧NG x∧∃e' aE γ' C',Q x e' aE∧γ.take n0 <+: γ'∧SR L N F γ' C' e' aE a'.tmps w'∧Ext F C w C' w') ⟨ts,[]⟩ w
section
variable {P:Program} {L:List Nat} {N n0:Nat} {F:Nat→Prop} {γ:List Nat} {C C':Nat→List Value} {e:Env} {ah:AH} {ts:Array Value} {w w':World}
variable {e':Env} {aE:AH}
theorem Iz {γ γ':List Nat} {n:Nat} (h:γ <+: γ'):γ.take n <+: γ':=(List.take_prefix n γ).trans h
theorem qd {γ γ' γ'':List Nat} {n:Nat} (h0:n≤γ.length) (h:γ.take n <+: γ') (h':γ'.take n <+: γ''):γ.take n <+: γ'':=by
 obtain ⟨r,rfl⟩:=h
 have:(γ.take n++r).take n=γ.take n:=by
  rw [List.take_append_of_le_length (by simp;omega),List.take_take,Nat.min_self]
 rwa [this] at h'
theorem Lr {γ γ':List Nat} {n:Nat} (h0:n≤γ.length) (h:γ.take n <+: γ'):n≤γ'.length:=by
 have:=h.length_le;simp at this;omega
theorem AW.mono {c:Code} {Q Q':Exit→Env→AH→Prop} (h:AW P L N n0 c Q e ah) (hq:∀x e ah,Q x e ah→Q' x e ah):AW P L N n0 c Q' e ah:=
 fun F γ C ts w hs hn=>wp_mono (h F γ C ts w hs hn) fun _ _ _ ⟨hd,hg,e',aE,γ',C',h1,h2⟩=>⟨hd,hg,e',aE,γ',C',hq _ _ _ h1,h2⟩
theorem AW.skip {Q:Exit→Env→AH→Prop} (h:Q .normal e ah):AW P L N n0 .skip Q e ah:=
 fun F γ C ts w hs hn=>wp_skip ⟨rfl,trivial,e,ah,γ,C,h,List.take_prefix _ _,hs,Ext.refl ..⟩
theorem AW.label {Q:Exit→Env→AH→Prop} {l:Nat} (h:Q .normal e ah):AW P L N n0 (.label l) Q e ah:=
 fun F γ C ts w hs hn=>wp_label ⟨rfl,trivial,e,ah,γ,C,h,List.take_prefix _ _,hs,Ext.refl ..⟩
theorem AW.ret {Q:Exit→Env→AH→Prop} (h:Q .ret e ah):AW P L N n0 .ret Q e ah:=
 fun F γ C ts w hs hn=>wp_ret ⟨rfl,trivial,e,ah,γ,C,h,List.take_prefix _ _,hs,Ext.refl ..⟩
theorem AW.exit {Q:Exit→Env→AH→Prop} {i:Nat} (h:Q (.exit i) e ah):AW P L N n0 (.exit i) Q e ah:=
 fun F γ C ts w hs hn=>wp_exit ⟨rfl,trivial,e,ah,γ,C,h,List.take_prefix _ _,hs,Ext.refl ..⟩
theorem AW.seq {a b:Code} {Q:Exit→Env→AH→Prop} (h:AW P L N n0 a (fun x e ah=>match x with| .normal=>AW P L N n0 b Q e ah|x=>Q x e ah) e ah):AW P L N n0 (.seq a b) Q e ah:=by
 intro F γ C ts w hs hn
 refine wp_seq (wp_mono (h F γ C ts w hs hn) ?_)
 rintro x ⟨ts',ds'⟩ w' ⟨rfl,hg,e',aE,γ',C',h1,h2,h3,h4⟩
 cases x with
 |normal=>
  refine wp_mono (h1 F γ' C' ts' w' h3 (Lr hn h2)) ?_
  rintro x ⟨U5,ds2⟩ w2 ⟨rfl,hg,e2,rG,γ2,C2,g1,g2,g3,g4⟩
  exact ⟨rfl,hg,e2,rG,γ2,C2,g1,qd hn h2 g2,g3,h4.trans g4⟩
 |_=>exact ⟨rfl,hg,e',aE,γ',C',h1,h2,h3,h4⟩
theorem AW.cond {c:Operand} {c':Ar} {a b:Code} {t:Bool} {Q:Exit→Env→AH→Prop} (hc:bA c=some c') (ht:ev e c'= .bool t) (h:AW P L N n0 (if t then a else b) Q e ah):
 AW P L N n0 (.cond c a b) Q e ah:=by
 intro F γ C ts w hs hn
 have:=(bV (ds:=[]) hs hc).1
 rw [ht] at this
 exact wp_cond (t:=t) this.gW (h F γ C ts w hs hn)
theorem AW.blk {c:Code} {i:Nat} {Q:Exit→Env→AH→Prop} (h:AW P L N n0 c (fun x e ah=>match x with| .exit j=>if j=i then Q .normal e ah else Q (.exit j) e ah|x=>Q x e ah) e ah):
 AW P L N n0 (.block i c) Q e ah:=by
 intro F γ C ts w hs hn
 refine wp_block (wp_mono (h F γ C ts w hs hn) ?_)
 rintro x a w' ⟨hd,hg,e',aE,γ',C',h1,h2⟩
 cases x with
 |exit j=>
  simp only [Exit.inBlock] at h1 ⊢
  by_cases hj:j=i
  · rw [if_pos hj] at h1 ⊢;exact ⟨hd,trivial,e',aE,γ',C',h1,h2⟩
  · rw [if_neg hj] at h1 ⊢;exact ⟨hd,trivial,e',aE,γ',C',h1,h2⟩
 |_=>exact ⟨hd,hg,e',aE,γ',C',h1,h2⟩
theorem AW.loop {c:Code} {Q:Exit→Env→AH→Prop} (I:Nat→Env→AH→Prop) {k0:Nat}
 (round:∀k e ah,I k e ah→AW P L N n0 c (fun x e' aE=>match x with| .normal=>∃k',k'<k∧I k' e' aE|x=>Q x e' aE) e ah) (h0:I k0 e ah):AW P L N n0 (.loop c) Q e ah:=by
 intro F γ C ts w hs hn
 refine wp_loop_ghost (fun k a w'=>a.defers=[]∧∃e' aE γ' C',I k e' aE∧γ.take n0 <+: γ'∧SR L N F γ' C' e' aE a.tmps w'∧Ext F C w C' w') k0
  ⟨rfl,e,ah,γ,C,h0,List.take_prefix _ _,hs,Ext.refl ..⟩ ?_
 rintro k ⟨Fo,ds1⟩ w1 ⟨rfl,e1,cc,γ1,C1,h1,h2,h3,h4⟩
 refine wp_mono (round k e1 cc h1 F γ1 C1 Fo w1 h3 (Lr hn h2)) ?_
 rintro x ⟨U5,ds2⟩ w2 ⟨rfl,hg,e2,rG,γ2,C2,g1,g2,g3,g4⟩
 cases x with
 |normal=>obtain ⟨k',hk',hI⟩:=g1;exact ⟨k',hk',rfl,e2,rG,γ2,C2,hI,qd hn h2 g2,g3,h4.trans g4⟩
 |_=>exact ⟨rfl,hg,e2,rG,γ2,C2,g1,qd hn h2 g2,g3,h4.trans g4⟩
theorem AW.scope {c:Code} {Q:Exit→Env→AH→Prop} (h:AW P L N n0 c Q e ah):AW P L N n0 (.scope c) Q e ah:=
 fun F γ C ts w hs hn=>wp_scope_straight (wp_mono (h F γ C ts w hs hn) fun x _ _ h=>by cases x<;>first|exact h|exact h.2.1.elim)
theorem AW.weak {c:Code} {Q:Exit→Env→AH→Prop} {e1:Env} (hw:∀t,Wk (get e t) (get e1 t)) (h:AW P L N n0 c Q e1 ah):AW P L N n0 c Q e ah:=
 fun F γ C ts w hs hn=>h F γ C ts w (hs.wk hw) hn
theorem js {ops:Array Oper} {o:Oper} {g:Option (Nat×Bool)} {d:Option Nat} {op:fV} {b:Bool} (h:SR L N F γ C e ah ts w) (hg:iE ops o.guard=some g) (hb:gV e ⟨d,op,g⟩=some b):
 Region.wanted o (yielded ops ts)=b:=by
 unfold Region.wanted
 cases ho:o.guard with
 |none=>
  rw [ho] at hg
  simp only [iE,Option.some.injEq] at hg
  subst hg
  simp only [gV,Option.some.injEq] at hb
  exact hb
 |some jw=>
  obtain ⟨j,want⟩:=jw
  rw [ho] at hg
  simp only [iE,Option.map_eq_some_iff] at hg
  obtain ⟨t,ht,rfl⟩:=hg
  simp only [gV] at hb
  split at hb
  · rename_i b' he
    have hv:=(h.env t).1
    rw [he] at hv
    have hv:=hv.gW
    have hy:yielded ops ts j=some b':=by
     unfold yielded
     rw [ht]
     simp only [Option.bind_some]
     have:ts[t]? =some (.bool b'):=by
      rw [Array.getD_eq_getD_getElem?] at hv
      cases hq:ts[t]? with
      |none=>rw [hq] at hv;simp [undef] at hv
      |some v=>rw [hq] at hv;simp at hv;rw [hv]
     rw [this]
    simp only [hy]
    simp only [Option.some.injEq] at hb
    rw [←hb]
    simp
  · rename_i he
    have hv:=(h.env t).1
    rw [he] at hv
    obtain ⟨vs,hv, -⟩:=hv.xm
    have hy:yielded ops ts j=none:=by
     unfold yielded
     rw [ht]
     simp only [Option.bind_some]
     rw [Array.getD_eq_getD_getElem?] at hv
     cases hq:ts[t]? with
     |none=>rfl
     |some v=>rw [hq] at hv;simp at hv;rw [hv]
    simp only [hy]
    simp only [Option.some.injEq] at hb
    exact hb
  · cases hb
  · cases hb
theorem IA (h:SR L N F γ C e ah ts w):∀(tys:List TypeId) (l:List Operand) (zq:List Ar),zL P tys l=some zq→zq.length=l.length∧
 ∀(i:Nat) (x:Operand) (a:Ar),l[i]? =some x→zq[i]? =some a→VR C γ (ev e a) (Act.eval ⟨ts,[]⟩ x)∧TC w C (ev e a) (Act.eval ⟨ts,[]⟩ x):=by
 intro tys l
 induction l generalizing tys with
 |nil=>intro zq hc;cases tys<;>(simp [zL] at hc;subst hc;simp)
 |cons x r ih=>
  intro zq hc
  cases tys with
  |nil=>simp [zL] at hc
  |cons t tys=>
   simp only [zL] at hc
   split at hc
   case h_2=>cases hc
   rename_i a zq' ha has
   simp only [Option.some.injEq] at hc
   subst hc
   obtain ⟨h1,h2⟩:=ih tys zq' has
   refine ⟨by simp [h1],fun j y b hy hb=> ?_⟩
   cases j with
   |zero=>simp at hy hb;subst hy;subst hb;exact gm h ha
   |succ j=>exact h2 j y b (by simpa using hy) (by simpa using hb)
theorem Fp {f:Nat} (hf:fW P f=true) {d:Option Nat} {x:Operand} {args:Array Operand} {tys:Array TypeId} {ty:TypeId} {pos:String} {af:Array Edge} {g:Option (Nat×Bool)} {caps:Array Value} {ρ:Operand→Value}
 (hx:ρ x= .func (.func f) #[] caps):
 (execOp ρ ⟨d, .call {callee:= .value x,args:=args,argTypes:=tys},ty,pos,af,g⟩).run P w= .ok (.enter f (args.map ρ++caps)) w:=by
 unfold fW at hf
 split at hf
 case h_2=>cases hf
 rename_i fn hfn
 simp only [Bool.and_eq_true,bne_iff_ne] at hf
 obtain ⟨h1,h2⟩:=hf
 have h3:fn.body.isNone=false:=by cases hb:fn.body<;>simp_all
 have h4:(fn.name== "runtime.NumGoroutine")=false:=by simpa using h2
 have h5:fn.body≠none:=by intro h0;rw [h0] at h1;cases h1
 simp [execOp,resolve,Deferred.ofValue,hx,invoke,callFunc,program,Sem.run,hfn,h2,h5]
theorem CD {o:Oper} {f:Ar} {xD:List Ar} (hop:cop P o=some (.call f xD)):
 ∃x args tys,o=⟨o.dst, .call {callee:= .value x,args:=args,argTypes:=tys},o.type,o.pos,o.after,o.guard⟩∧bA x=some f∧zL P tys.toList args.toList=some xD:=by
 obtain ⟨d,oo,ty,pos,af,gd⟩:=o
 cases oo with
 |call c=>
  obtain ⟨callee,args,tys⟩:=c
  simp only [cop] at hop
  split at hop
  · split at hop<;>simp at hop
  · split at hop
    · split at hop
      · simp at hop
      · cases hop
    · cases hop
  · split at hop
    · split at hop
      · simp at hop
      · cases hop
    · cases hop
  · split at hop
    · split at hop
      · split at hop<;>simp at hop
      · split at hop<;>simp at hop
      · cases hop
    · cases hop
  · rename_i x
    split at hop
    · rename_i f2 as2 h1 h2
      injection hop with hop
      injection hop with e1 e2
      subst e1;subst e2
      exact ⟨x,args,tys,rfl,h1,h2⟩
    · cases hop
  · cases hop
 |makeFunc fn first cs=>
  cases fn with
  |func f=>simp only [cop] at hop;split at hop<;>simp at hop
  |_=>simp [cop] at hop
 |_=>
  exfalso
  simp only [cop] at hop
  first
   |cases hop;done
   |(simp at hop;done)
   |(repeat' (split at hop))<;>(first|(cases hop;done)|(simp at hop;done))
theorem Fq (hs:SR L N F γ C e ah ts w) {xD:List Ar} {caps:List AV} {args:Array Operand} {vs:Array Value} (hfl:bP caps=true) (hcl:caps.length=vs.size)
 (pF:∀(i:Nat) (a:AV),caps[i]? =some a→VR C γ a (vs.getD i undef)) (c1:xD.length=args.toList.length)
 (c2:∀(i:Nat) (x:Operand) (a:Ar),args.toList[i]? =some x→xD[i]? =some a→VR C γ (ev e a) (Act.eval ⟨ts,[]⟩ x)∧TC w C (ev e a) (Act.eval ⟨ts,[]⟩ x)):
 ∀(i:Nat) (a:AV),(xD.map (fun x=>(ev e x).sh)++caps.map AV.s1)[i]? =some a→
  VR C γ a ((args.map (Act.eval ⟨ts,[]⟩)++vs).getD i undef)∧TC w C a ((args.map (Act.eval ⟨ts,[]⟩)++vs).getD i undef)∧a.plain=true:=by
 intro i a hi
 by_cases hlt:i<xD.length
 · rw [List.getElem?_append_left (by simpa using hlt),List.getElem?_map,List.getElem?_eq_getElem hlt] at hi
   obtain rfl:(ev e xD[i]).sh=a:=by simpa using hi
   have hlt2:i<args.toList.length:=by omega
   have:=c2 i _ _ (List.getElem?_eq_getElem hlt2) (List.getElem?_eq_getElem hlt)
   have hgd:(args.map (Act.eval ⟨ts,[]⟩)++vs).getD i undef=Act.eval ⟨ts,[]⟩ args.toList[i]:=by
    rw [Array.length_toList] at hlt2
    simp [Array.getD_eq_getD_getElem?,Array.getElem?_append,hlt2]
   rw [hgd]
   exact ⟨(Wk.sh _).vr this.1,(Wk.sh _).tc this.2,ur _⟩
 · rw [List.getElem?_append_right (by simpa using hlt),List.getElem?_map] at hi
   simp only [List.length_map] at hi
   cases Ho:caps[i - xD.length]? with
   |none=>rw [Ho] at hi;simp at hi
   |some b=>
    rw [Ho] at hi
    obtain rfl:b.s1=a:=by simpa using hi
    have hgd:(args.map (Act.eval ⟨ts,[]⟩)++vs).getD i undef=vs.getD (i - xD.length) undef:=by
     have c1':xD.length=args.size:=by simpa using c1
     simp only [Array.getD_eq_getD_getElem?]
     rw [Array.getElem?_append_right (by simp;omega)]
     simp [c1']
    rw [hgd]
    exact ⟨(Wk.jz (Wk.s1 _)).vr (pF _ _ Ho),Ur b (j5 hfl Ho) _,Ip b⟩
theorem Ls {o:Oper} {a:fV} (h:Qh P o=some a):cop P o=some a∨a= .bad:=by
 unfold Qh at h
 cases hc:cop P o with
 |none=>rw [hc] at h;injection h with h;exact .inr h.symm
 |some b=>rw [hc] at h;exact .inl h
theorem YS {op:fV} (h:op.er= .bad):op= .bad:=by cases op<;>first|rfl|cases h
theorem DQ {ops:Array Oper} {l:List Oper} {zq:List aM} (h:kW P ops l=some zq):(l=[]∧zq=[])∨
 (∃o o2 r a zq',l=o::o2::r∧nN P o o2=some a∧kW P ops r=some zq'∧zq=a::zq')∨
 (∃o o2 r ag zq',l=o::o2::r∧K2 P ops o o2=some ag∧kW P ops r=some zq'∧zq=ag++zq')∨
 ∃o r op g zq',l=o::r∧(cop P o=some op∨op= .bad)∧iE ops o.guard=some g∧kW P ops r=some zq'∧zq=⟨o.dst,op,g⟩::zq':=by
 cases l with
 |nil=>simp only [kW,Option.some.injEq] at h;exact .inl ⟨rfl,h.symm⟩
 |cons o r=>
  cases r with
  |nil=>
   simp only [kW] at h
   split at h
   case h_2=>cases h
   rename_i a g h1 h2
   injection h with h
   exact .inr (.inr (.inr ⟨o,[],a,g,[],rfl,Ls h1,h2,rfl,h.symm⟩))
  |cons o2 r=>
   rw [kW] at h
   split at h
   · rename_i a ha
     simp only [Option.map_eq_some_iff] at h
     obtain ⟨zq',h1,rfl⟩:=h
     exact .inr (.inl ⟨o,o2,r,a,zq',rfl,ha,h1,rfl⟩)
   · split at h
     · rename_i ag hag
       simp only [Option.map_eq_some_iff] at h
       obtain ⟨zq',h1,rfl⟩:=h
       exact .inr (.inr (.inl ⟨o,o2,r,ag,zq',rfl,hag,h1,rfl⟩))
     · split at h
       case h_2=>cases h
       rename_i a g zq' h1 h2 h3
       injection h with h
       exact .inr (.inr (.inr ⟨o,o2::r,a,g,zq',rfl,Ls h1,h2,h3,h.symm⟩))
theorem Qr {a b:aM} {y:Nat} {bs:List UInt8} (h:a.er=b) (hb:b.op= .lit y bs):a=b:=by
 obtain ⟨d,op,g⟩:=a
 subst h
 cases op<;>first|rfl|(simp [aM.er,fV.er] at hb)
theorem Fs {o o2:Oper} {a:aM} (h:nN P o o2=some a):∃y bs,a.op= .lit y bs:=by
 unfold nN at h
 split at h
 case h_2=>cases h
 split at h
 case isFalse=>cases h
 split at h
 case h_2=>cases h
 split at h
 case h_2=>cases h
 split at h
 case isFalse=>cases h
 split at h
 case h_2=>cases h
 simp only [Option.map_eq_some_iff] at h
 obtain ⟨bs, -,rfl⟩:=h
 exact ⟨_,_,rfl⟩
theorem CE {ops:Array Oper} {o o2:Oper} {ag:List aM} (h:K2 P ops o o2=some ag):∃d y bs t w g,ag=[⟨some y, .mv (.c .un),some (t,w)⟩,⟨d, .lit y bs,some (t,w)⟩]∧t≠y∧
 nN P (bare o) (bare o2)=some ⟨d, .lit y bs,g⟩∧iE ops o.guard=some (some (t,w))∧iE ops o2.guard=some (some (t,w)):=by
 unfold K2 at h
 split at h
 case isFalse=>cases h
 rename_i hg
 split at h
 case h_2=>cases h
 rename_i x t w d y bs g h1 h2 h3
 split at h
 · cases h
 · rename_i hty
   injection h with h
   exact ⟨d,y,bs,t,w,g,h.symm,hty,h3,h2,by rw [←hg];exact h2⟩
theorem aa3 {a b:aM} {x:Ar} (h:a.er=b) (hb:b.op= .mv x):a=b:=by
 obtain ⟨d,op,g⟩:=a
 subst h
 cases op<;>first|rfl|(simp [aM.er,fV.er] at hb)
theorem Jh {ops:Array Oper} {l:List Oper} {zq:List aM} (h:kW P ops l=some (zq.map aM.er)):(l=[]∧zq=[])∨
 (∃o o2 r a zq',l=o::o2::r∧nN P o o2=some a∧kW P ops r=some (zq'.map aM.er)∧zq=a::zq')∨
 (∃o o2 r ag zq',l=o::o2::r∧K2 P ops o o2=some ag∧kW P ops r=some (zq'.map aM.er)∧zq=ag++zq')∨
 ∃o r op g zq',l=o::r∧(cop P o=some op.er∨op= .bad)∧iE ops o.guard=some g∧kW P ops r=some (zq'.map aM.er)∧zq=⟨o.dst,op,g⟩::zq':=by
 rcases DQ h with ⟨h1,h2⟩|⟨o,o2,r,a,zq',h1,h2,h3,h4⟩|⟨o,o2,r,ag,zq',h1,h2,h3,h4⟩|⟨o,r,op,g,zq',h1,h2,h3,h4,h5⟩
 · exact .inl ⟨h1,by simpa using h2⟩
 · cases zq with
   |nil=>simp at h4
   |cons x xs=>
    simp only [List.map_cons,List.cons.injEq] at h4
    obtain ⟨y,bs,hl⟩:=Fs h2
    have:=Qr h4.1 hl
    subst this
    exact .inr (.inl ⟨o,o2,r,x,xs,h1,h2,by rw [h3,h4.2],rfl⟩)
 · obtain ⟨d,y,bs,t,w,g,rfl, -⟩:=CE h2
   cases zq with
   |nil=>simp at h4
   |cons x xs=>
    cases xs with
    |nil=>simp at h4
    |cons x2 xs=>
     simp only [List.map_cons,List.cons_append,List.nil_append,List.cons.injEq] at h4
     have e1:=aa3 h4.1 rfl
     have e2:=Qr h4.2.1 rfl
     subst e1;subst e2
     exact .inr (.inr (.inl ⟨o,o2,r,_,xs,h1,h2,by rw [h3,h4.2.2],rfl⟩))
 · cases zq with
   |nil=>simp at h5
   |cons x xs=>
    simp only [List.map_cons,List.cons.injEq] at h5
    obtain ⟨d,op',g'⟩:=x
    obtain ⟨h6,h7⟩:=h5
    simp only [aM.er] at h6
    injection h6 with e1 e2 e3
    subst e1;subst e2;subst e3
    exact .inr (.inr (.inr ⟨o,r,op',g',xs,h1,h2.imp id YS,h3,by rw [h4,h7],rfl⟩))
theorem Lt {ops:Array Oper} {o o2:Oper} {l:List Oper} {a:aM} {zq:List aM} {K:Env→AH→Prop} {Q:Exit→Act→World→Prop} (iC:nN P (bare o) (bare o2)=some a)
 (hw1:Region.wanted o (yielded ops ts)=true) (Fi:∀y bs v,a.op= .lit y bs→Region.wanted o2 (yielded ops ((⟨ts,[]⟩:Act).put (some y) v).tmps)=true) (hd:mq N (a::zq)=true)
 (hs:SR L N F γ C e ah ts w) (hk:e6 P L (a::zq) e ah K)
 (next:∀e1 cc C1 Fo w1,e6 P L zq e1 cc K→mq N zq=true→SR L N F γ C1 e1 cc Fo w1→Ext F C w C1 w1→wpList P ops Q l ⟨Fo,[]⟩ w1):wpList P ops Q (o::o2::l) ⟨ts,[]⟩ w:=by
 obtain ⟨d1,op1,ty1,pos1,af1,g1⟩:=o
 obtain ⟨d2,YO,p8,pos2,af2,g2⟩:=o2
 unfold nN bare at iC
 split at iC
 case h_2=>cases iC
 rename_i t n parts s d x y h1 h2 h3
 simp only at h1 h2 h3
 subst h1;subst h2;subst h3
 split at iC
 case isFalse=>cases iC
 rename_i hcs
 obtain ⟨rfl,rfl,rfl,YT,hg2,hyd,hn,hn2⟩:=hcs
 split at iC
 case h_2=>cases iC
 rename_i el hel
 split at iC
 case h_2=>cases iC
 rename_i hu8
 split at iC
 case isFalse=>cases iC
 rename_i hsz
 split at iC
 case h_2=>cases iC
 rename_i xD ads
 simp only [Option.map_eq_some_iff] at iC
 obtain ⟨bs,NC,rfl⟩:=iC
 have Fi:=fun v=>Fi _ _ v rfl
 simp only [mq,Bool.and_eq_true] at hd
 obtain ⟨⟨hd1,Hp⟩,hd3⟩:=hd
 have hy:x<N:=by simpa using Hp
 have kH:∀z,d2=some z→z<N:=by
  intro z hz
  rw [hz] at hd1
  simpa using hd1
 simp only [e6,gV,Bu,bK] at hk
 have ht:P.underlying d=some (.slice el):=by
  unfold E7 at hel
  split at hel
  · rename_i h;injection hel with hel;subst hel;exact h
  · cases hel
 obtain ⟨q1,q2⟩:=UR NC e
 obtain ⟨r,hrs,hrun, -,key⟩:=yA (ds:=[]) (d:=d2) hs kH ht hn (by rw [hsz.1];omega) hsz.2 ads (by rw [hsz.1];exact q2)
 obtain ⟨C',k1,k2⟩:=key (r.size,r.size+1) (.inr rfl)
 rw [q1,hsz.1] at k1
 have k3:=k1.DO (d:=x) (a:= .un) (v:= .slice (some ⟨w.heap.size,0,none⟩) n n) hy (.un ..) trivial rfl (by simp)
 unfold wpList
 rw [if_pos hw1]
 refine .inl ?_
 unfold Oper.wp
 have e1:(execOp (Act.eval ⟨ts,[]⟩) ⟨some x, .buildSlice d n parts,ty1,pos1,af1,g1⟩).run P w= .ok (.value (.slice (some ⟨w.heap.size,0,none⟩) n n)) (w.alloc (.cells r el)):=by
  simp [execOp,hrun]
 rw [e1]
 simp only [Oper.upon]
 unfold wpList
 rw [if_pos (Fi _)]
 refine .inl ?_
 unfold Oper.wp
 have hlt:x<ts.size:=by rw [hs.sz];exact hy
 have e2:(execOp (Act.eval ((⟨ts,[]⟩:Act).put (some x) (.slice (some ⟨w.heap.size,0,none⟩) n n))) ⟨d2, .convert d d (.tmp x),p8,pos2,af2,g2⟩).run P (w.alloc (.cells r el))= .ok (.value (.slice (some ⟨w.heap.size,0,none⟩) n n)) (w.alloc (.cells r el (r.size,r.size+1))):=by
  have hev:Act.eval ((⟨ts,[]⟩:Act).put (some x) (.slice (some ⟨w.heap.size,0,none⟩) n n)) (.tmp x)= .slice (some ⟨w.heap.size,0,none⟩) n n:=by
   simp [Act.eval,Act.put,hlt]
  have:=Lib.run_convert_bytes_const (P:=P) w d el r n n ht hu8
  simp only [execOp,hev,Sem.run_bind,this,Result.andThen_ok,Sem.run_pure]
 rw [e2]
 simp only [Oper.upon]
 rw [←SR.Fk ts [] hyd]
 have hput:(((⟨ts,[]⟩:Act).put d2 (.slice (some ⟨w.heap.size,0,none⟩) n n)).put (some x) (.slice (some ⟨w.heap.size,0,none⟩) n n))=
  ⟨(((⟨ts,[]⟩:Act).put d2 (.slice (some ⟨w.heap.size,0,none⟩) n n)).tmps).setIfInBounds x (.slice (some ⟨w.heap.size,0,none⟩) n n),[]⟩:=by
  cases d2<;>rfl
 rw [hput]
 exact next _ _ C' _ _ hk hd3 k3 k2
theorem YU {ops:Array Oper} {o o2:Oper} {l:List Oper} {a:aM} {zq:List aM} {K:Env→AH→Prop} {Q:Exit→Act→World→Prop} (iC:nN P o o2=some a) (hd:mq N (a::zq)=true)
 (hs:SR L N F γ C e ah ts w) (hk:e6 P L (a::zq) e ah K)
 (next:∀e1 cc C1 Fo w1,e6 P L zq e1 cc K→mq N zq=true→SR L N F γ C1 e1 cc Fo w1→Ext F C w C1 w1→wpList P ops Q l ⟨Fo,[]⟩ w1):wpList P ops Q (o::o2::l) ⟨ts,[]⟩ w:=by
 have hg:o.guard=none∧o2.guard=none:=by
  unfold nN at iC
  split at iC
  case h_2=>cases iC
  split at iC
  case isFalse=>cases iC
  rename_i hcs
  exact ⟨by simpa using hcs.2.2.2.1,by simpa using hcs.2.2.2.2.1⟩
 have e1:bare o=o:=by obtain ⟨d,op,ty,pos,af,g⟩:=o;simp only at hg;simp [bare,hg.1]
 have e2:bare o2=o2:=by obtain ⟨d,op,ty,pos,af,g⟩:=o2;simp only at hg;simp [bare,hg.2]
 exact Lt (by rw [e1,e2];exact iC) (by simp [Region.wanted,hg.1]) (fun _ _ _ _=>by simp [Region.wanted,hg.2]) hd hs hk next
theorem U6 {ops:Array Oper}:∀(n:Nat) (l:List Oper) (zq:List aM) (e:Env) (ah:AH) (K:Env→AH→Prop) (F:Nat→Prop) (γ:List Nat) (C:Nat→List Value) (ts:Array Value) (w:World)
 (Q:Exit→Act→World→Prop),l.length≤n→kW P ops l=some (zq.map aM.er)→mq N zq=true→SR L N F γ C e ah ts w→e6 P L zq e ah K→
 (∀e' aE γ' C' ts' w',K e' aE→γ <+: γ'→SR L N F γ' C' e' aE ts' w'→Ext F C w C' w'→Q .normal ⟨ts',[]⟩ w')→wpList P ops Q l ⟨ts,[]⟩ w:=by
 intro n
 induction n with
 |zero=>
  intro l zq e ah K F γ C ts w Q hn hc hd hs hk hq
  obtain rfl:l=[]:=List.eq_nil_of_length_eq_zero (by omega)
  simp only [kW,Option.some.injEq] at hc
  obtain rfl:zq=[]:=by simpa using hc.symm
  exact wpList_nil (hq e ah γ C ts w hk (List.prefix_refl _) hs (Ext.refl ..))
 |succ n ih=>
  intro l zq e ah K F γ C ts w Q hn hc hd hs hk hq
  rcases Jh hc with ⟨rfl,rfl⟩|⟨o,o2,l,a,zq',rfl,iC,has,rfl⟩|⟨o,o2,l,ag,zq',rfl,iC,has,rfl⟩|⟨o,l,op,g,zq',rfl,hop,hg,has,rfl⟩
  · exact wpList_nil (hq e ah γ C ts w hk (List.prefix_refl _) hs (Ext.refl ..))
  · exact YU iC hd hs hk fun e1 cc C1 Fo w1 hk1 hd1 hs1 hx1=>ih l zq' e1 cc K F γ C1 Fo w1 Q (by simp at hn;omega) has hd1 hs1 hk1
     fun e' aE γ' C' ts' w' g1 g2 g3 g4=>hq e' aE γ' C' ts' w' g1 g2 g3 (hx1.trans g4)
  · obtain ⟨d,y,bs,tg,want,g0,rfl,hty,hlo,YT,hg2⟩:=CE iC
    have hd:mq N [⟨some y, .mv (.c .un),some (tg,want)⟩,⟨d, .lit y bs,some (tg,want)⟩]=true∧mq N zq'=true:=by
     simp only [List.cons_append,List.nil_append,mq,Bool.and_eq_true,Bool.and_true] at hd ⊢
     exact ⟨⟨hd.1,hd.2.1⟩,hd.2.2⟩
    have hyN:y<N:=by
     have:=hd.1
     simp only [mq,Bool.and_eq_true] at this
     simpa using this.1.1
    have adt:∀v,SR L N F γ C (put e y .un) ah (ts.setIfInBounds y v) w:=fun v=>hs.DO hyN (.un ..) trivial rfl (by simp)
    have hge:∀a,get (put e y a) tg=get e tg:=fun a=>by rw [fK,if_neg hty]
    have Bo:∀a (d d2:Option Nat) (op YO:fV),gV (put e y a) ⟨d,op,some (tg,want)⟩=gV e ⟨d2,YO,some (tg,want)⟩:=fun a _ _ _ _=>by simp only [gV,hge]
    rw [List.cons_append,List.cons_append,List.nil_append] at hk
    simp only [e6] at hk
    split at hk
    · rename_i pG
      have hw1:=js hs YT pG
      have e0:aF L e (some y) (cp L (.c .un) (ev e (.c .un)))=put e y .un:=by
       simp only [ev,cp,aF];split<;>rfl
      simp only [Bu,bK] at hk
      rw [e0,Bo .un d (some y) (.lit y bs) (.mv (.c .un)),pG] at hk
      simp only at hk
      have hk3:e6 P L (⟨d, .lit y bs,g0⟩::zq') (put e y .un) ah K:=by
       have h0:g0=none:=by
        unfold nN at hlo
        split at hlo
        case h_2=>cases hlo
        split at hlo
        case isFalse=>cases hlo
        split at hlo
        case h_2=>cases hlo
        split at hlo
        case h_2=>cases hlo
        split at hlo
        case isFalse=>cases hlo
        split at hlo
        case h_2=>cases hlo
        simp only [Option.map_eq_some_iff] at hlo
        obtain ⟨_, -,hlo⟩:=hlo
        injection hlo with _ _ h3
        exact h3.symm
       subst h0
       exact hk
      refine Lt hlo hw1 (fun y' bs' v h=> ?_) (by
       have h1:=hd.1
       simp only [mq,Bool.and_eq_true] at h1 ⊢
       exact ⟨h1.2.1,hd.2⟩) (hs.uo (.un _)) hk3 fun e1 cc C1 Fo w1 hk1 hd1 hs1 hx1=>ih l zq' e1 cc K F γ C1 Fo w1 Q (by simp at hn;omega) has hd1 hs1 hk1
       fun e' aE γ' C' ts' w' g1 g2 g3 g4=>hq e' aE γ' C' ts' w' g1 g2 g3 (hx1.trans g4)
      injection h with h1 h2
      subst h1
      exact js (adt v) hg2 (d:=d) (op:= .lit y bs) ((Bo .un d (some y) (.lit y bs) (.mv (.c .un))).trans pG)
    · rename_i pG
      have hw1:=js hs YT pG
      rw [show qc e (some y)=put e y (.bz []) from rfl,Bo (.bz []) d (some y) (.lit y bs) (.mv (.c .un)),pG] at hk
      simp only at hk
      obtain ⟨hdo,hdy⟩:o.dst=some y∧o2.dst=d:=by
       unfold nN bare at hlo
       split at hlo
       case h_2=>cases hlo
       rename_i h1 h2 h3
       simp only at h3
       split at hlo
       case isFalse=>cases hlo
       split at hlo
       case h_2=>cases hlo
       split at hlo
       case h_2=>cases hlo
       split at hlo
       case isFalse=>cases hlo
       split at hlo
       case h_2=>cases hlo
       simp only [Option.map_eq_some_iff] at hlo
       obtain ⟨_, -,hlo⟩:=hlo
       injection hlo with q1 q2 _
       injection q2 with q2 _
       subst q2
       exact ⟨h3,q1⟩
      have hs1:SR L N F γ C (put e y (.bz [])) ah (ts.setIfInBounds y undef) w:=hs.DO hyN (.bz _ [] #[] rfl (by simp)) (by simp [undef,TC]) rfl (by simp)
      unfold wpList
      rw [if_neg (by rw [hw1];simp)]
      unfold wpList
      have aa4:(⟨ts,[]⟩:Act).put o.dst undef=⟨ts.setIfInBounds y undef,[]⟩:=by rw [hdo];rfl
      rw [aa4]
      have Fi:=js hs1 hg2 (d:=d) (op:= .lit y bs) ((Bo (.bz []) d (some y) (.lit y bs) (.mv (.c .un))).trans pG)
      rw [if_neg (by show ¬(Region.wanted o2 (yielded ops (ts.setIfInBounds y undef))=true);rw [Fi];simp)]
      have hput:(⟨ts.setIfInBounds y undef,[]⟩:Act).put o2.dst undef=⟨((⟨ts.setIfInBounds y undef,[]⟩:Act).put o2.dst undef).tmps,[]⟩:=by cases o2.dst<;>rfl
      rw [hput]
      refine ih l zq' _ ah K F γ C _ w Q (by simp at hn;omega) has hd.2 ?_ hk hq
      rw [hdy]
      cases hdd:d with
      |none=>exact hs1
      |some d'=>
       have hdN:d'<N:=by
        have:=hd.1
        simp only [mq,Bool.and_eq_true,hdd] at this
        simpa using this.2.1.1
       exact hs1.DO hdN (.bz _ [] #[] rfl (by simp)) (by simp [undef,TC]) rfl (by simp)
    · exact hk.elim
  have hn':l.length≤n:=by simp at hn;omega
  simp only [mq,Bool.and_eq_true] at hd
  have kH:∀x,o.dst=some x→x<N:=by
   intro x hx
   have:=hd.1.1
   rw [hx] at this
   simpa using this
  simp only [e6] at hk
  split at hk
  · rename_i pG
    have hw:=js hs hg pG
    unfold wpList
    rw [if_pos hw]
    refine .inl ?_
    rcases hop with hop|rfl
    case inr=>exact hk.elim
    by_cases fq:op.pE=true
    · cases op with
      |call f xD=>
       simp only [Bu] at hk
       split at hk
       case h_2=>exact hk.elim
       rename_i f' caps hfv
       obtain ⟨hfl,hk⟩:=hk
       obtain ⟨x,args,tys,ho,hx,hargs⟩:=CD hop
       have h1:=bV (ds:=[]) hs hx
       rw [hfv] at h1
       obtain ⟨vs,hfx,hcl,pF⟩:=h1.1.Bl
       obtain ⟨c1,c2⟩:=IA hs _ _ _ hargs
       have Ft:=Lq (d:=o.dst) (ds:=[]) (vs:=args.map (Act.eval ⟨ts,[]⟩)++vs) hs kH hk (by simp [c1,hcl]) (Fq hs hfl hcl pF c1 c2)
       have NI:(execOp (Act.eval ⟨ts,[]⟩) o).run P w= .ok (.enter f' (args.map (Act.eval ⟨ts,[]⟩)++vs)) w:=by
        rw [ho];exact Fp hk.1 hfx
       unfold Oper.wp
       rw [NI]
       simp only [Oper.upon]
       refine Ft.mono ?_
       rintro en w1 ⟨r,v,cc,γ1,C1,rfl,hR,hγ,hs1,hx1⟩
       have hput:(⟨ts,[]⟩:Act).put o.dst v=⟨((⟨ts,[]⟩:Act).put o.dst v).tmps,[]⟩:=by cases o.dst<;>rfl
       show wpList P ops Q l ((⟨ts,[]⟩:Act).put o.dst v) w1
       rw [hput]
       exact ih l zq' _ cc K F γ1 C1 _ w1 Q hn' has hd.2 hs1 hR fun e' aE γ' C' ts' w' g1 g2 g3 g4=>hq e' aE γ' C' ts' w' g1 (hγ.trans g2) g3 (hx1.trans g4)
      |mu k b x y=>
       simp only [Bu] at hk
       obtain ⟨e1,cc,hk',v,w1,γ1,C1,hr,hγ,hs1,hx1, -, -⟩:=Iw (m:=true) (ds:=[]) hs kH (by simpa [dO] using hop) hk
       have next:wpList P ops Q l ((⟨ts,[]⟩:Act).put o.dst v) w1:=by
        have hput:(⟨ts,[]⟩:Act).put o.dst v=⟨((⟨ts,[]⟩:Act).put o.dst v).tmps,[]⟩:=by cases o.dst<;>rfl
        rw [hput]
        exact ih l zq' e1 cc K F γ1 C1 _ w1 Q hn' has hd.2 hs1 hk' fun e' aE γ' C' ts' w' g1 g2 g3 g4=>hq e' aE γ' C' ts' w' g1 (hγ.trans g2) g3 (hx1.trans g4)
       unfold Oper.wp
       rcases hr with hr|⟨hr,rfl⟩<;>rw [hr]<;>exact next
      |nq n x=>
       simp only [Bu] at hk
       obtain ⟨e1,cc,hk',v,w1,γ1,C1,hr,hγ,hs1,hx1, -, -⟩:=Jf (m:=true) (ds:=[]) hs kH (by simpa [dO] using hop) hk
       have next:wpList P ops Q l ((⟨ts,[]⟩:Act).put o.dst v) w1:=by
        have hput:(⟨ts,[]⟩:Act).put o.dst v=⟨((⟨ts,[]⟩:Act).put o.dst v).tmps,[]⟩:=by cases o.dst<;>rfl
        rw [hput]
        exact ih l zq' e1 cc K F γ1 C1 _ w1 Q hn' has hd.2 hs1 hk' fun e' aE γ' C' ts' w' g1 g2 g3 g4=>hq e' aE γ' C' ts' w' g1 (hγ.trans g2) g3 (hx1.trans g4)
       unfold Oper.wp
       rcases hr with hr|⟨hr,rfl⟩<;>rw [hr]<;>exact next
      |_=>cases fq
    · have rX:op.pE=false:=by simpa using fq
      have hk':match bK L ⟨o.dst,op,g⟩ e ah with|some (e',aE)=>e6 P L zq' e' aE K|none=>False:=by
       cases op<;>first|exact hk|cases rX
      rw [xB] at hk'
      cases hev:bK L ⟨o.dst,op,none⟩ e ah with
      |none=>rw [hev] at hk';exact hk'.elim
      |some ea=>
       obtain ⟨e1,cc⟩:=ea
       rw [hev] at hk'
       obtain ⟨v,w1,γ1,C1,hr,hγ,hs1,hx1, -, -⟩:=Jg (ds:=[]) hs kH hop rX hev
       have next:wpList P ops Q l ((⟨ts,[]⟩:Act).put o.dst v) w1:=by
        have hput:(⟨ts,[]⟩:Act).put o.dst v=⟨((⟨ts,[]⟩:Act).put o.dst v).tmps,[]⟩:=by cases o.dst<;>rfl
        rw [hput]
        exact ih l zq' e1 cc K F γ1 C1 _ w1 Q hn' has hd.2 hs1 hk' fun e' aE γ' C' ts' w' g1 g2 g3 g4=>hq e' aE γ' C' ts' w' g1 (hγ.trans g2) g3 (hx1.trans g4)
       unfold Oper.wp
       rcases hr with hr|⟨hr,rfl⟩<;>rw [hr]<;>exact next
  · rename_i pG
    have hw:=js hs hg pG
    unfold wpList
    rw [if_neg (by rw [hw];simp)]
    have hput:(⟨ts,[]⟩:Act).put o.dst undef=⟨((⟨ts,[]⟩:Act).put o.dst undef).tmps,[]⟩:=by cases o.dst<;>rfl
    rw [hput]
    refine ih l zq' _ ah K F γ C _ w Q hn' has hd.2 ?_ hk hq
    cases ho:o.dst with
    |none=>exact hs
    |some d=>exact hs.DO (kH d ho) (.bz _ [] #[] rfl (by simp)) (by simp [undef,TC]) rfl (by simp)
  · exact hk.elim
theorem YV {ops:Array Oper} (l:List Oper) (zq:List aM) (e:Env) (ah:AH) (K:Env→AH→Prop) (F:Nat→Prop) (γ:List Nat) (C:Nat→List Value) (ts:Array Value) (w:World)
 (Q:Exit→Act→World→Prop) (hc:kW P ops l=some (zq.map aM.er)) (hd:mq N zq=true) (hs:SR L N F γ C e ah ts w) (hk:e6 P L zq e ah K)
 (hq:∀e' aE γ' C' ts' w',K e' aE→γ <+: γ'→SR L N F γ' C' e' aE ts' w'→Ext F C w C' w'→Q .normal ⟨ts',[]⟩ w'):wpList P ops Q l ⟨ts,[]⟩ w:=
 U6 l.length l zq e ah K F γ C ts w Q (Nat.le_refl _) hc hd hs hk hq
end
end Go.Am
end
section
namespace Go.Am
open Go
variable [Tabs]
section
variable {P:Program} {ops:Array Oper} {Q:Exit→Act→World→Prop} {md:Region.Mode} {S:World→Prop} {D:Nat→Bool}
def wpS (P:Program) (ops:Array Oper) (Q:Exit→Act→World→Prop) (S:World→Prop) (D:Nat→Bool):Nat→Array Bool→Act→World→Prop
 |0,listed,a,w=>Region.ready .any ops listed=[]∧Q .normal a w
 |n+1,listed,a,w=>(Region.ready .any ops listed=[]→Q .normal a w)∧
  ∀i∈Region.ready .any ops listed,wpOp P ops Q i (fun a' w'=>(D i=false→S w')∧wpS P ops Q S D n (listed.setIfInBounds i true) a' w') a w
theorem wpS.any:∀ {n:Nat} {listed:Array Bool} {a:Act} {w:World},wpS P ops Q S D n listed a w→wpAny P .any ops Q n listed a w
 |0,_,_,_,h=>h
 |_+1,_,_,_,h=>⟨h.1,fun i hi=>wpOp_mono (fun _ _ h'=>h'.2.any) (h.2 i hi)⟩
theorem wpS.mono {S':World→Prop} (hS:∀w,S' w→S w):∀ {n:Nat} {listed:Array Bool} {a:Act} {w:World},wpS P ops Q S' D n listed a w→wpS P ops Q S D n listed a w
 |0,_,_,_,h=>h
 |_+1,_,_,_,h=>⟨h.1,fun i hi=>wpOp_mono (fun _ _ h'=>⟨fun hd=>hS _ (h'.1 hd),h'.2.mono hS⟩) (h.2 i hi)⟩
theorem iU {listed:Array Bool} {i j:Nat} (h:(listed.setIfInBounds i true).getD j true=false):listed.getD j true=false:=by
 by_cases hij:i=j
 · subst hij
   by_cases hlt:i<listed.size
   · simp [hlt] at h
   · simp [Array.getElem?_eq_none (Nat.le_of_not_lt hlt)] at h
 · rwa [getD_set_ne true hij] at h
theorem DR:∀ {n:Nat} {listed:Array Bool} {a:Act} {w:World},(∀j,listed.getD j true=false→D j=true)→wpAny P .any ops Q n listed a w→wpS P ops Q S D n listed a w
 |0,_,_,_,_,h=>h
 |_+1,listed,_,_,hD,h=>⟨h.1,fun i hi=>wpOp_mono (fun _ _ h'=>⟨fun hd=>Bool.noConfusion ((hD i (mem_ready.1 hi).1).symm.trans hd),DR (fun j hj=>hD j (iU hj)) h'⟩) (h.2 i hi)⟩
theorem NJ {i:Nat} {oi:Oper} {v:Value} (hi:ops[i]? =some oi) (hsel:∀(j:Nat) (o:Oper) cs b,ops[j]? =some o→o.op≠ .select cs b)
 (hQ:∀c a w,¬Q (.panic c) a w) (W:Nat→Prop):
 ∀(n:Nat) (listed:Array Bool) (a:Act) (w:World),
  (∀j oj,ops[j]? =some oj→j≠i→listed.getD j true=false→(∀e∈oj.after,Region.binds .any e=true→e.on≠i)→oi.apart ops oj=true)→
  (∀j,W j→listed.getD j true=false∧∃oj,ops[j]? =some oj∧∃e∈oj.after,Region.binds .any e=true∧(e.on=i∨W e.on))→(∀j,j<ops.size→D j=true→listed.getD j true=false→W j)→
  i∈Region.ready .any ops listed→YieldsIf P ops S oi v a→S w→
  wpS P ops Q S D n (listed.setIfInBounds i true) (a.put oi.dst v) w→wpS P ops Q S D (n+1) listed a w:=by
 intro n
 induction n with
 |zero=>
  intro listed a w _ _ _ hr hy hS H
  refine ⟨fun h=>(by rw [h] at hr;cases hr),fun j hj=> ?_⟩
  by_cases hji:j=i
  · subst hji;exact hy.wpOp hi hS ⟨fun _=>hS,H⟩
  · have:=ready_mono hj hji
    rw [H.1] at this
    cases this
 |succ n ih=>
  intro listed a w hfree xE hDW hr hy hS H
  refine ⟨fun h=>(by rw [h] at hr;cases hr),fun j hj=> ?_⟩
  by_cases hji:j=i
  · subst hji;exact hy.wpOp hi hS ⟨fun _=>hS,H⟩
  · have h1:=H.2 j (ready_mono hj hji)
    obtain ⟨aay,oj,NK,hall⟩:=mem_ready.1 hj
    have hun:∀k,listed.getD k true=false→listed.getD k false=false:=fun k hk=>by
     rcases Nat.lt_or_ge k listed.size with h'|h'
     · simp [h'] at hk ⊢;exact hk
     · simp [Array.getElem?_eq_none h'] at hk
    have hnot:∀e∈oj.after,Region.binds .any e=true→listed.getD e.on true=false→False:=fun e he hb hu=>by
     have h1:=hall e he hb
     rw [hun _ hu] at h1
     cases h1
    have hni:∀e∈oj.after,Region.binds .any e=true→e.on≠i:=fun e he hb heq=>hnot e he hb (by rw [heq];exact (mem_ready.1 hr).1)
    have hWj:¬W j:=by
     intro hw
     obtain ⟨-,oj',Qs,e,he,hb,h0⟩:=xE j hw
     rw [NK] at Qs
     injection Qs with Qs
     subst Qs
     rcases h0 with h0|h0
     · exact hni e he hb h0
     · exact hnot e he hb (xE _ h0).1
    have hDj:D j=false:=by
     cases hd:D j with
     |false=>rfl
     |true=>exact absurd (hDW j (Array.getElem?_eq_some_iff.1 NK).1 hd aay) hWj
    have h2:=wpOp_putIf NK (hfree j oj NK hji aay hni) (fun cs b=>hsel i oi cs b hi) (fun cs b=>hsel j oj cs b NK) (fun c a w hq=>(hQ c _ w hq).elim) hy h1
    refine wpOp_mono (fun a' w' h3=> ?_) h2
    have hS':=h3.2.1 hDj
    refine ⟨fun _=>hS',ih (listed.setIfInBounds j true) a' w' ?_ ?_ ?_ (ready_mono hr (Ne.symm hji)) h3.1 hS' ?_⟩
    · exact fun k ok hk hki hku hno=>hfree k ok hk hki (iU hku) hno
    · intro k hk
      obtain ⟨h5,h6⟩:=xE k hk
      refine ⟨?_,h6⟩
      rw [getD_set_ne true (fun h7=>hWj (by rw [h7];exact hk))]
      exact h5
    · exact fun k hk hd hku=>hDW k hk hd (iU hku)
    · rw [Array.setIfInBounds_comm _ _ hji]
      exact h3.2.2
end
section
variable {P:Program} {L:List Nat} {N n0:Nat} {F:Nat→Prop} {γ:List Nat} {C C':Nat→List Value} {e:Env} {ah:AH} {ts:Array Value} {w w':World} {m:Bool}
variable {e':Env} {aE:AH} {ops:Array Oper} {Q:Exit→Act→World→Prop}
theorem KA.trans {γ':List Nat} {w2:World} (hg:∀(s b:Nat),γ[s]? =some b→γ'[s]? =some b) (hC:∀b,C b <+: C' b) (h:KA m γ C w w') (h':KA m γ' C' w' w2):KA m γ C w w2:=
 ⟨fun b i hi=>(h'.1 b i (Nat.lt_of_lt_of_le hi (hC b).length_le)).trans (h.1 b i hi),fun hm s b hs=>(h'.2 hm s b (hg s b hs)).trans (h.2 hm s b hs)⟩
theorem U7 {γ γ':List Nat} (h:γ <+: γ') {s b:Nat} (hs:γ[s]? =some b):γ'[s]? =some b:=by
 obtain ⟨q,rfl⟩:=h
 rw [List.getElem?_append_left (List.getElem?_eq_some_iff.1 hs).1];exact hs
theorem KA.Ji {e ah ts e' aE ts'} {γ':List Nat} (h:SR L N F γ C e ah ts w) (h':SR L N F γ' C' e' aE ts' w') (hx:Ext F C w C' w')
 (ho:m=true→∀(s b:Nat),γ[s]? =some b→w'.heap[b]? =w.heap[b]?):KA m γ C w w':=by
 refine ⟨fun b i hi=> ?_,ho⟩
 rw [pU h hi,pU h' (Nat.lt_of_lt_of_le hi (hx.pre b).length_le),iG (hx.pre b) hi]
theorem CF (a:Act) (d:Option Nat) (v:Value) (h:a.defers=[]):a.put d v=⟨(a.put d v).tmps,[]⟩:=by
 obtain ⟨ts,ds⟩:=a
 simp only at h
 subst h
 cases d<;>rfl
theorem Lu {o:Oper} {i:Nat} {op:fV} {g:Option (Nat×Bool)} {zq:List aM} {K:Env→AH→Prop} {R:Act→World→Prop} (hi:ops[i]? =some o) (hop:dO P m o=some op.er) (hg:iE ops o.guard=some g)
 (kH:∀x,o.dst=some x→x<N) (hs:SR L N F γ C e ah ts w) (hk:e6 P L (⟨o.dst,op,g⟩::zq) e ah K)
 (next:∀v e' aE γ' C' w',e6 P L zq e' aE K→γ <+: γ'→SR L N F γ' C' e' aE ((⟨ts,[]⟩:Act).put o.dst v).tmps w'→Ext F C w C' w'→(Io P m o=true→KA m γ C w w')→R ((⟨ts,[]⟩:Act).put o.dst v) w'):
 wpOp P ops Q i R ⟨ts,[]⟩ w:=by
 unfold wpOp
 simp only [hi]
 simp only [e6] at hk
 split at hk
 · rename_i pG
   rw [if_pos (js hs hg pG)]
   refine .inl ?_
   by_cases fq:op.pE=true
   · cases op with
     |call f xD=>
      have hop:cop P o=some (.call f xD):=by
       cases m with
       |true=>simpa [dO,fV.er] using hop
       |false=>
        simp only [dO,Bool.false_eq_true,if_false,Option.map_eq_some_iff] at hop
        obtain ⟨op',h1,h2⟩:=hop
        rw [h1,Iy h2]
      simp only [Bu] at hk
      split at hk
      case h_2=>exact hk.elim
      rename_i f' caps hfv
      obtain ⟨hfl,hk⟩:=hk
      obtain ⟨x,args,tys,ho,hx,hargs⟩:=CD hop
      have h1:=bV (ds:=[]) hs hx
      rw [hfv] at h1
      obtain ⟨vs,hfx,hcl,pF⟩:=h1.1.Bl
      obtain ⟨c1,c2⟩:=IA hs _ _ _ hargs
      have Ft:=Lq (d:=o.dst) (ds:=[]) (vs:=args.map (Act.eval ⟨ts,[]⟩)++vs) hs kH hk (by simp [c1,hcl]) (Fq hs hfl hcl pF c1 c2)
      have NI:(execOp (Act.eval ⟨ts,[]⟩) o).run P w= .ok (.enter f' (args.map (Act.eval ⟨ts,[]⟩)++vs)) w:=by
       rw [ho];exact Fp hk.1 hfx
      unfold Oper.wp
      rw [NI]
      simp only [Oper.upon]
      refine Ft.mono ?_
      rintro en w1 ⟨r,v,cc,γ1,C1,rfl,hR,hγ,hs1,hx1⟩
      refine next v _ cc γ1 C1 w1 hR hγ hs1 hx1 fun hst=>KA.Ji hs hs1 hx1 fun hm=> ?_
      rw [ho] at hst
      simp [Io,dV,iF,Bi,hm] at hst
     |mu k b x y=>
      simp only [Bu] at hk
      obtain ⟨e1,cc,hk',v,w1,γ1,C1,hr,hγ,hs1,hx1,hst, -⟩:=Iw (ds:=[]) hs kH hop hk
      have nx:=next v e1 cc γ1 C1 w1 hk' hγ hs1 hx1 fun h=>KA.Ji hs hs1 hx1 fun hm=>by
       refine hst ?_
       obtain ⟨_,_,_,_,_,_,ho, -⟩:=Fm (CC hop)
       rw [ho] at h
       simp [Io,dV,iF,hm] at h
      unfold Oper.wp
      rcases hr with hr|⟨hr,rfl⟩<;>rw [hr]<;>exact nx
     |nq n x=>
      simp only [Bu] at hk
      obtain ⟨e1,cc,hk',v,w1,γ1,C1,hr,hγ,hs1,hx1,hst, -⟩:=Jf (ds:=[]) hs kH hop hk
      have nx:=next v e1 cc γ1 C1 w1 hk' hγ hs1 hx1 fun h=>KA.Ji hs hs1 hx1 fun hm=>by
       refine hst ?_
       obtain ⟨_,_,_,_,_,ho, -⟩:=Qp (Ln hop)
       rw [ho];rfl
      unfold Oper.wp
      rcases hr with hr|⟨hr,rfl⟩<;>rw [hr]<;>exact nx
     |_=>cases fq
   · have rX:op.pE=false:=by simpa using fq
     have hk':match bK L ⟨o.dst,op,g⟩ e ah with|some (e',aE)=>e6 P L zq e' aE K|none=>False:=by
      cases op<;>first|exact hk|cases rX
     rw [xB] at hk'
     cases hev:bK L ⟨o.dst,op,none⟩ e ah with
     |none=>rw [hev] at hk';exact hk'.elim
     |some ea=>
      obtain ⟨e1,cc⟩:=ea
      rw [hev] at hk'
      obtain ⟨v,w1,γ1,C1,hr,hγ,hs1,hx1,hst, -⟩:=Lp (ds:=[]) hs kH hop rX hev
      have nx:=next v e1 cc γ1 C1 w1 hk' hγ hs1 hx1 fun h=>KA.Ji hs hs1 hx1 fun hm=>by
       refine hst ?_
       cases Jd:iF o.op with
       |false=>rfl
       |true=>
        exfalso
        cases ho:o.op with
        |call c=>
         rw [ho] at Jd
         obtain ⟨ce,_,_⟩:=c
         cases ce with
         |builtin b=>cases b<;>simp [iF] at Jd;simp [Io,dV,iF,ho,hm] at h
         |_=>simp [iF] at Jd
        |store a b c=>simp [Io,dV,iF,ho,hm] at h
        |_=>rw [ho] at Jd;simp [iF] at Jd
      unfold Oper.wp
      rcases hr with hr|⟨hr,rfl⟩<;>rw [hr]<;>exact nx
 · rename_i pG
   have hw:=js hs hg pG
   rw [if_neg (by rw [hw];simp)]
   refine next undef _ ah γ C w hk (List.prefix_refl _) ?_ (Ext.refl ..) fun _=>KA.refl ..
   cases ho:o.dst with
   |none=>exact hs
   |some d=>exact hs.DO (kH d ho) (.bz _ [] #[] rfl (by simp)) (by simp [undef,TC]) rfl (by simp)
 · exact hk.elim
theorem Ro {o:Oper} {op:fV} {g:Option (Nat×Bool)} {zq:List aM} {K:Env→AH→Prop} (hq:dV P o.op=true) (hop:dO P m o=some op.er) (hg:iE ops o.guard=some g)
 (kH:∀x,o.dst=some x→x<N) (hs:SR L N F γ C e ah ts w) (hk:e6 P L (⟨o.dst,op,g⟩::zq) e ah K):
 ∃v e' aE,YieldsIf P ops (KA m γ C w) o v ⟨ts,[]⟩∧e6 P L zq e' aE K∧SR L N F γ C e' aE ((⟨ts,[]⟩:Act).put o.dst v).tmps w:=by
 simp only [e6] at hk
 split at hk
 · rename_i pG
   have hw:=js hs hg pG
   by_cases hnq:∃n x,op= .nq n x
   · obtain ⟨n,x,rfl⟩:=hnq
     simp only [Bu] at hk
     obtain ⟨e1,cc,hk',v,w1,γ1,C1,hr,hγ,hs1,hx1,hst,YW⟩:=Jf (ds:=[]) hs kH hop hk
     obtain ⟨rfl,rfl,rfl,hrun⟩:=YW hq
     exact ⟨v,e1,cc, .inl ⟨hw,hrun⟩,hk',hs1⟩
   have rX:op.pE=false:=by
    cases op with
    |call f xD=>
     exfalso
     have hop:cop P o=some (.call f xD):=by
      cases m with
      |true=>simpa [dO,fV.er] using hop
      |false=>
       simp only [dO,Bool.false_eq_true,if_false,Option.map_eq_some_iff] at hop
       obtain ⟨op',h1,h2⟩:=hop
       rw [h1,Iy h2]
     obtain ⟨x,args,tys,ho, -, -⟩:=CD hop
     rw [ho] at hq
     simp [dV] at hq
    |mu k b x y=>
     exfalso
     obtain ⟨_,_,_,_,_,_,ho, -⟩:=Fm (CC hop)
     rw [ho] at hq
     simp [dV] at hq
    |nq n x=>exact absurd ⟨_,_,rfl⟩ hnq
    |_=>rfl
   have hk':match bK L ⟨o.dst,op,g⟩ e ah with|some (e',aE)=>e6 P L zq e' aE K|none=>False:=by
    cases op<;>first|exact hk|cases rX
   rw [xB] at hk'
   cases hev:bK L ⟨o.dst,op,none⟩ e ah with
   |none=>rw [hev] at hk';exact hk'.elim
   |some ea=>
    obtain ⟨e1,cc⟩:=ea
    rw [hev] at hk'
    obtain ⟨v,w1,γ1,C1,hr,hγ,hs1,hx1,hst,YW⟩:=Lp (ds:=[]) hs kH hop rX hev
    obtain ⟨rfl,rfl,rfl,hrun⟩:=YW hq
    exact ⟨v,e1,cc, .inl ⟨hw,hrun⟩,hk',hs1⟩
 · rename_i pG
   refine ⟨undef,_,ah, .inr ⟨js hs hg pG,rfl⟩,hk, ?_⟩
   cases ho:o.dst with
   |none=>exact hs
   |some d=>exact hs.DO (kH d ho) (.bz _ [] #[] rfl (by simp)) (by simp [undef,TC]) rfl (by simp)
 · exact hk.elim
theorem NL:∀(l r:List (Bool×Nat)) (zq:List aM),ga P ops (l++r)=some zq→∃a1 a2,ga P ops l=some a1∧ga P ops r=some a2∧zq=a1++a2:=by
 intro l
 induction l with
 |nil=>intro r zq h;exact ⟨[],zq,rfl,h,rfl⟩
 |cons p l ih=>
  intro r zq h
  obtain ⟨m,i⟩:=p
  simp only [List.cons_append,ga] at h
  split at h
  case h_2=>cases h
  rename_i o ho
  split at h
  case h_2=>cases h
  rename_i a g zq' h1 h2 h3
  injection h with h
  obtain ⟨a1,a2,g1,g2,rfl⟩:=ih r zq' h3
  exact ⟨⟨o.dst,a,g⟩::a1,a2,by simp [ga,ho,h1,h2,g1],g2,by rw [←h];rfl⟩
theorem Lv (l r:List (Bool×Nat)) (zq:List aM) (h:ga P ops (l++r)=some (zq.map aM.er)):∃a1 a2,ga P ops l=some (a1.map aM.er)∧ga P ops r=some (a2.map aM.er)∧zq=a1++a2:=by
 obtain ⟨b1,b2,h1,h2,h3⟩:=NL _ _ _ h
 obtain ⟨a1,a2,rfl,rfl,rfl⟩:=List.map_eq_append_iff.1 h3
 exact ⟨a1,a2,h1,h2,rfl⟩
theorem Rp:∀(l r:List aM) (e:Env) (ah:AH) (K:Env→AH→Prop),e6 P L (l++r) e ah K=e6 P L l e ah fun e ah=>e6 P L r e ah K:=by
 intro l
 induction l with
 |nil=>intros;rfl
 |cons o l ih=>
  intro r e ah K
  simp only [List.cons_append,e6,ih]
theorem U8:∀(l r:List aM),mq N (l++r)=true→mq N l=true∧mq N r=true:=by
 intro l
 induction l with
 |nil=>intro r h;exact ⟨rfl,h⟩
 |cons o l ih=>
  intro r h
  simp only [List.cons_append,mq,Bool.and_eq_true] at h ⊢
  obtain ⟨h1,h2⟩:=ih r h.2
  exact ⟨⟨h.1,h1⟩,h2⟩
theorem Qt {o:Oper} {a:fV} {g:Option (Nat×Bool)} {zq:List aM} (h:mq N (⟨o.dst,a,g⟩::zq)=true):(∀x,o.dst=some x→x<N)∧mq N zq=true:=by
 simp only [mq,Bool.and_eq_true] at h
 refine ⟨fun x hx=> ?_,h.2⟩
 have:=h.1.1
 rw [hx] at this
 simpa using this
theorem DS {i:Nat} {r:List (Bool×Nat)} {zq:List aM} (h:ga P ops ((m,i)::r)=some zq):
 ∃o a g zq',ops[i]? =some o∧dO P m o=some a∧iE ops o.guard=some g∧ga P ops r=some zq'∧zq=⟨o.dst,a,g⟩::zq':=by
 simp only [ga] at h
 split at h
 case h_2=>cases h
 rename_i o ho
 split at h
 case h_2=>cases h
 rename_i a g zq' h1 h2 h3
 injection h with h
 exact ⟨o,a,g,zq',ho,h1,h2,h3,h.symm⟩
theorem Bv {i:Nat} {r:List (Bool×Nat)} {zq:List aM} (h:ga P ops ((m,i)::r)=some (zq.map aM.er)):
 ∃o a g zq',ops[i]? =some o∧dO P m o=some (fV.er a)∧iE ops o.guard=some g∧ga P ops r=some (zq'.map aM.er)∧zq=⟨o.dst,a,g⟩::zq':=by
 obtain ⟨o,a,g,zq',h1,h2,h3,h4,h5⟩:=DS h
 cases zq with
 |nil=>simp at h5
 |cons x xs=>
  simp only [List.map_cons,List.cons.injEq] at h5
  obtain ⟨d,op',g'⟩:=x
  obtain ⟨h6,h7⟩:=h5
  simp only [aM.er] at h6
  injection h6 with e1 e2 e3
  subst e1;subst e2;subst e3
  exact ⟨o,op',g',xs,h1,h2,h3,by rw [h4,h7],rfl⟩
theorem Rq {D:Nat→Bool} (hsel:Region.noSelect ops=true) (hQ:∀c a w,¬Q (.panic c) a w):∀(l:List Nat) (zq:List aM) (e:Env) (ah:AH) (γ:List Nat) (C:Nat→List Value) (ts:Array Value) (w:World) (listed:Array Bool) (n:Nat)
 (K:Env→AH→Prop),ga P ops (l.map fun i=>(m,i))=some (zq.map aM.er)→mq N zq=true→SR L N F γ C e ah ts w→e6 P L zq e ah K→xl P ops m D l listed=true→
 (∀e' aE γ' C' ts' w',K e' aE→γ <+: γ'→SR L N F γ' C' e' aE ts' w'→Ext F C w C' w'→wpS P ops Q (KA m γ' C' w') D n (l.foldl (fun a i=>a.setIfInBounds i true) listed) ⟨ts',[]⟩ w')→
 wpS P ops Q (KA m γ C w) D (l.length+n) listed ⟨ts,[]⟩ w:=by
 intro l
 induction l with
 |nil=>
  intro zq e ah γ C ts w listed n K hc hd hs hk hst cont
  simp only [List.map_nil,ga,Option.some.injEq] at hc
  obtain rfl:zq=[]:=by simpa using hc.symm
  have:=cont e ah γ C ts w hk (List.prefix_refl _) hs (Ext.refl ..)
  simpa using this
 |cons i l ih=>
  intro zq e ah γ C ts w listed n K hc hd hs hk hst cont
  obtain ⟨o,a,g,zq',ho,hop,hg,has,rfl⟩:=Bv hc
  obtain ⟨kH,hd'⟩:=Qt hd
  simp only [xl,ho,Bool.and_eq_true,Bool.or_eq_true] at hst
  obtain ⟨hst,Fu⟩:=hst
  have hlen:(i::l).length+n=(l.length+n)+1:=by simp;omega
  rw [hlen]
  rcases hst with ⟨⟨⟨⟨hq,hDi⟩,hr⟩,hfree⟩,xE⟩|⟨hok,hr⟩
  · obtain ⟨v,e1,cc,hy,hk1,hs1⟩:=Ro hq hop hg kH hs hk
    refine NJ ho (Region.noSelect_spec hsel) hQ (fun j=>j∈K4 ops i) _ listed _ w (Region.free_spec ho hfree) (fun j hj=> ?_) (fun j hj hDj hju=> ?_) (by simpa using hr) hy (KA.refl ..) ?_
    · simp only [I1,I0,Bool.and_eq_true,List.all_eq_true] at xE
      obtain ⟨h1,h2⟩:=xE.1 j hj
      refine ⟨by simpa using h1, ?_⟩
      split at h2
      · rename_i oj NK
        obtain ⟨x,hx,hb⟩:=Array.any_eq_true'.1 h2
        simp only [Bool.and_eq_true,Bool.or_eq_true,beq_iff_eq,List.contains_iff_mem] at hb
        exact ⟨oj,NK,x,hx,hb.1,hb.2⟩
      · cases h2
    · simp only [I1,I0,Bool.and_eq_true,List.all_eq_true,List.mem_range] at xE
      have:=xE.2 j hj
      simpa [hDj,hju] using this
    · rw [CF _ _ _ rfl]
      exact ih zq' e1 cc γ C _ w _ n K has hd' hs1 hk1 Fu cont
  · have hr:Region.ready .any ops listed=[i]:=by simpa using hr
    refine ⟨fun h=>(by rw [hr] at h;cases h),fun j hj=> ?_⟩
    rw [hr] at hj
    obtain rfl:j=i:=by simpa using hj
    refine Lu ho hop hg kH hs hk fun v e1 cc γ1 C1 w1 hk1 hγ hs1 hx1 hka=>⟨fun _=>hka hok, ?_⟩
    rw [CF _ _ _ rfl]
    refine (ih zq' e1 cc γ1 C1 _ w1 _ n K has hd' hs1 hk1 Fu fun e' aE γ' C' ts' w' g1 g2 g3 g4=> ?_).mono fun w2 h2=>(hka hok).trans (fun s b hs=>U7 hγ hs) hx1.pre h2
    exact cont e' aE γ' C' ts' w' g1 (hγ.trans g2) g3 (hx1.trans g4)
theorem Hq:∀(l:List Nat) (listed:Array Bool) (j:Nat),(l.foldl (fun a i=>a.setIfInBounds i true) listed).getD j true=false→listed.getD j true=false∧j∉l:=by
 intro l
 induction l with
 |nil=>intro listed j h;exact ⟨h,by simp⟩
 |cons i l ih=>
  intro listed j h
  obtain ⟨h1,h2⟩:=ih _ j h
  refine ⟨iU h1, ?_⟩
  rw [List.mem_cons,not_or]
  refine ⟨fun hj=> ?_,h2⟩
  subst hj
  by_cases hlt:j<listed.size
  · simp [hlt] at h1
  · have:=iU h1
    simp [Array.getElem?_eq_none (Nat.le_of_not_lt hlt)] at this
theorem NM (hsel:Region.noSelect ops=true) (hQ:∀c a w,¬Q (.panic c) a w):∀(st:List (Bool×List Nat)) (zq:List aM) (e:Env) (ah:AH) (γ:List Nat) (C:Nat→List Value) (ts:Array Value) (w:World) (listed:Array Bool)
 (K:Env→AH→Prop),ga P ops (tB st)=some (zq.map aM.er)→mq N zq=true→SR L N F γ C e ah ts w→e6 P L zq e ah K→pT P ops st listed=true→
 (∀e' aE γ' C' ts' w',K e' aE→γ <+: γ'→SR L N F γ' C' e' aE ts' w'→Ext F C w C' w'→Q .normal ⟨ts',[]⟩ w')→
 wpAny P .any ops Q (tB st).length listed ⟨ts,[]⟩ w:=by
 intro st
 induction st with
 |nil=>
  intro zq e ah γ C ts w listed K hc hd hs hk hst cont
  simp only [tB,ga,Option.some.injEq] at hc
  obtain rfl:zq=[]:=by simpa using hc.symm
  exact ⟨by simpa [pT] using hst,cont e ah γ C ts w hk (List.prefix_refl _) hs (Ext.refl ..)⟩
 |cons s st ih=>
  intro zq e ah γ C ts w listed K hc hd hs hk hst cont
  obtain ⟨m,l⟩:=s
  simp only [tB] at hc ⊢
  obtain ⟨a1,a2,hc1,hc2,rfl⟩:=Lv _ _ _ hc
  obtain ⟨hd1,Hp⟩:=U8 _ _ hd
  rw [Rp] at hk
  unfold pT at hst
  rw [Bool.and_eq_true] at hst
  obtain ⟨hst,Fu⟩:=hst
  have key:∀(Q':Nat→Bool),xl P ops m Q' l listed=true→(∀j,Q' j= !l.contains j)→wpAny P .any ops Q (l.map (fun i=>(m,i))++tB st).length listed ⟨ts,[]⟩ w:=by
   intro D adu hD
   rw [List.length_append,List.length_map]
   refine (Rq hsel hQ l a1 e ah γ C ts w listed _ _ hc1 hd1 hs hk adu fun e' aE γ' C' ts' w' g1 g2 g3 g4=> ?_).any
   refine DR (fun j hj=> ?_) (ih a2 e' aE γ' C' ts' w' _ K hc2 Hp g3 g1 Fu fun e2 rG γ2 C2 U5 w2 q1 q2 q3 q4=>cont e2 rG γ2 C2 U5 w2 q1 (g2.trans q2) q3 (g4.trans q4))
   rw [hD]
   simpa using (Hq l listed j hj).2
  split at hst
  · rename_i i
    simp only [Bool.and_eq_true,beq_iff_eq] at hst
    obtain ⟨rfl,hr⟩:=hst
    obtain ⟨o,a,g,zq',ho,hop,hg,has,rfl⟩:=Bv hc1
    simp only [List.map_nil,ga,Option.some.injEq] at has
    obtain rfl:zq'=[]:=by simpa using has.symm
    obtain ⟨kH, -⟩:=Qt hd1
    refine ⟨fun h=>(by rw [hr] at h;cases h),fun j hj=> ?_⟩
    rw [hr] at hj
    obtain rfl:j=i:=by simpa using hj
    refine Lu ho hop hg kH hs hk fun v e1 cc γ1 C1 w1 hk1 hγ hs1 hx1 hka=> ?_
    rw [CF _ _ _ rfl]
    exact ih a2 e1 cc γ1 C1 _ w1 _ K hc2 Hp hs1 hk1 Fu fun e2 rG γ2 C2 U5 w2 q1 q2 q3 q4=>cont e2 rG γ2 C2 U5 w2 q1 (hγ.trans q2) q3 (hx1.trans q4)
  · exact key _ hst fun _=>rfl
theorem Rr {st:List (Bool×List Nat)} (h:sched P ops=some st):pT P ops st (Array.replicate ops.size false)=true∧(tB st).length=ops.size:=by
 have:Bk P ops st=true:=by
  unfold sched at h
  split at h
  · rename_i s hs
    injection h with h;subst h
    exact (Option.filter_eq_some_iff.1 hs).2
  · exact (Option.filter_eq_some_iff.1 h).2
 simpa [Bk] using this
theorem AW.drawn {id:Nat} {st:List (Bool×List Nat)} {zq:List aM} {Q:Exit→Env→AH→Prop} (hm:P.follows .mixedOrders=true) (hsel:Region.noSelect ops=true) (hst:sched P ops=some st) (hc:ga P ops (tB st)=some (zq.map aM.er))
 (hd:mq N zq=true) (h:e6 P L zq e ah fun e ah=>Q .normal (keep L e) ah):AW P L N n0 (.region id ops true) Q e ah:=by
 intro F γ C ts w hs hn
 obtain ⟨h1,h2⟩:=Rr hst
 refine wp_mono (Q:=fun x a' w'=>x= .normal∧a'.defers=[]∧NG x∧∃e' aE γ' C',Q x e' aE∧γ.take n0 <+: γ'∧SR L N F γ' C' e' aE a'.tmps w'∧Ext F C w C' w') ?_ (fun _ _ _ h=>h.2)
 refine wp_region_any hm ?_
 have hw0:∀b,b<w.heap.size→({w with drawn:=w.drawn+1}:World).heap[b]? =w.heap[b]? :=fun _ _=>rfl
 obtain ⟨hs1,hx1⟩:=hs.grow (w':= {w with drawn:=w.drawn+1}) (C':=C) hw0 (Nat.le_refl _) (fun _ _=>rfl) (fun b hb hne=>absurd (xy hs hb) hne)
 have DT:=fun q=>NM (Q:=fun x a' w'=>x= .normal∧a'.defers=[]∧NG x∧∃e' aE γ' C',Q x e' aE∧γ.take n0 <+: γ'∧SR L N F γ' C' e' aE a'.tmps w'∧Ext F C w C' w') hsel (fun c a w hq=>by cases hq.1) st zq e ah γ C ts _ _ _ hc hd hs1 h h1 q
 rw [h2] at DT
 refine DT fun e' aE γ' C' ts' w' q1 q2 q3 q4=> ?_
 exact ⟨rfl,rfl,trivial,keep L e',aE,γ',C',q1,Iz q2,q3.keep L,hx1.trans q4⟩
end
end Go.Am
end
section
namespace Go.Am
open Go
variable [Tabs]
def rH (N:Nat):av→Bool
 | .rg ops=>mq N ops
 | .seq a b| .cond _ a b=>rH N a&&rH N b
 | .blk _ c| .loop c=>rH N c
 |_=>true
def AX (P:Program) (L:List Nat) (N n0:Nat) (c:av) (Q:Exit→Env→AH→Prop) (e:Env) (ah:AH):Prop:=
 ∀c',bR P c'=some c→AW P L N n0 c' Q e ah
def kS (P:Program) (L:List Nat) (N n0:Nat):av→(Exit→Env→AH→Prop)→Env→AH→Prop
 | .skip,Q,e,ah=>Q .normal e ah
 | .ret,Q,e,ah=>Q .ret e ah
 | .exit i,Q,e,ah=>Q (.exit i) e ah
 | .rg ops,Q,e,ah=>e6 P L ops e ah fun e ah=>Q .normal (keep L e) ah
 | .seq a b,Q,e,ah=>kS P L N n0 a (fun x e ah=>match x with| .normal=>kS P L N n0 b Q e ah|x=>Q x e ah) e ah
 | .cond c a b,Q,e,ah=>match ev e c with
   | .bool t=>if t then kS P L N n0 a Q e ah else kS P L N n0 b Q e ah
   |_=>False
 | .blk i c,Q,e,ah=>kS P L N n0 c (fun x e ah=>match x with| .exit j=>if j=i then Q .normal e ah else Q (.exit j) e ah|x=>Q x e ah) e ah
 | .loop c,Q,e,ah=>AX P L N n0 (.loop c) Q e ah
 | .sem c,Q,e,ah=>AX P L N n0 c Q e ah
section
variable {P:Program} {L:List Nat} {N n0:Nat} {e:Env} {ah:AH}
theorem AW.region {id:Nat} {ops:Array Oper} {zq:List aM} {Q:Exit→Env→AH→Prop} (hc:kW P ops ops.toList=some (zq.map aM.er)) (hd:mq N zq=true)
 (h:e6 P L zq e ah fun e ah=>Q .normal (keep L e) ah):AW P L N n0 (.region id ops false) Q e ah:=by
 intro F γ C ts w hs hn
 refine wp_region_list (YV ops.toList zq e ah _ F γ C ts w _ hc hd hs h ?_)
 intro e' aE γ' C' ts' w' hq hγ hs' hx
 exact ⟨rfl,trivial,keep L e',aE,γ',C',hq,Iz hγ,hs'.keep L,hx⟩
theorem pV:∀(c':Code) (c:av) (Q:Exit→Env→AH→Prop) (e:Env) (ah:AH),bR P c'=some (erase c)→rH N (erase c)=true→kS P L N n0 c Q e ah→AW P L N n0 c' Q e ah:=by
 intro c'
 induction c' with
 |skip=>
  intro c Q e ah hc ho h
  cases c with
  |sem c0=>exact h _ hc
  |skip=>exact AW.skip h
  |_=>simp [bR,erase] at hc
 |label l=>
  intro c Q e ah hc ho h
  cases c with
  |sem c0=>exact h _ hc
  |skip=>exact AW.label h
  |_=>simp [bR,erase] at hc
 |ret=>
  intro c Q e ah hc ho h
  cases c with
  |sem c0=>exact h _ hc
  |ret=>exact AW.ret h
  |_=>simp [bR,erase] at hc
 |exit i=>
  intro c Q e ah hc ho h
  cases c with
  |sem c0=>exact h _ hc
  |exit j=>simp [bR,erase] at hc;subst hc;exact AW.exit h
  |_=>simp [bR,erase] at hc
 |region id ops draw=>
  intro c Q e ah hc ho h
  cases c with
  |sem c0=>exact h _ hc
  |rg zq=>
   simp only [bR,erase] at hc
   cases draw with
   |true=>
    simp only [if_true] at hc
    split at hc
    case isFalse=>cases hc
    rename_i hmn
    simp only [Bool.and_eq_true] at hmn
    split at hc
    case h_2=>cases hc
    rename_i st hst
    simp only [Option.map_eq_some_iff] at hc
    obtain ⟨zq',has,he⟩:=hc
    injection he with he
    subst he
    exact AW.drawn hmn.1 hmn.2 hst has (by simpa only [erase,rH,Qq] using ho) h
   |false=>
    simp only [Bool.false_eq_true,if_false,Option.map_eq_some_iff] at hc
    obtain ⟨zq',has,he⟩:=hc
    injection he with he
    subst he
    exact AW.region has (by simpa only [erase,rH,Qq] using ho) h
  |_=>simp only [bR,erase] at hc;repeat' (split at hc)<;>simp at hc
 |seq a b Fv Fw=>
  intro c Q e ah hc ho h
  cases c with
  |sem c0=>exact h _ hc
  |seq x y=>
   simp only [bR,erase] at hc
   split at hc
   case h_2=>cases hc
   rename_i a' b' ha hb
   injection hc with hc
   injection hc with h1 h2
   subst h1;subst h2
   simp only [erase,rH,Bool.and_eq_true] at ho
   refine AW.seq ((Fv x _ e ah ha ho.1 h).mono fun x e ah hx=> ?_)
   cases x with
   |normal=>exact Fw y _ e ah hb ho.2 hx
   |_=>exact hx
  |_=>simp only [bR,erase] at hc;split at hc<;>simp at hc
 |cond c0 a b Fv Fw=>
  intro c Q e ah hc ho h
  cases c with
  |sem c0=>exact h _ hc
  |cond c2 x y=>
   simp only [bR,erase] at hc
   split at hc
   case h_2=>cases hc
   rename_i c1 a' b' h1 ha hb
   injection hc with hc
   injection hc with g0 g1 g2
   subst g0;subst g1;subst g2
   simp only [erase,rH,Bool.and_eq_true] at ho
   simp only [kS] at h
   split at h
   case h_2=>exact h.elim
   rename_i t ht
   refine AW.cond h1 ht ?_
   cases t with
   |true=>exact Fv x Q e ah ha ho.1 h
   |false=>exact Fw y Q e ah hb ho.2 h
  |_=>simp only [bR,erase] at hc;split at hc<;>simp at hc
 |block i c0 ih=>
  intro c Q e ah hc ho h
  cases c with
  |sem c0=>exact h _ hc
  |blk j x=>
   simp only [bR,erase,Option.map_eq_some_iff] at hc
   obtain ⟨a,ha,he⟩:=hc
   injection he with h1 h2
   subst h1;subst h2
   exact AW.blk (ih x _ e ah ha ho h)
  |_=>simp [bR,erase] at hc
 |loop c0 ih=>
  intro c Q e ah hc ho h
  cases c with
  |sem c0=>exact h _ hc
  |loop x=>exact h _ hc
  |_=>simp [bR,erase] at hc
 |rangeFunc=>intro c Q e ah hc;simp [bR] at hc
 |goto=>intro c Q e ah hc;simp [bR] at hc
 |scope c0 ih=>intro c Q e ah hc ho h;exact AW.scope (ih c Q e ah hc ho h)
 |refuse=>intro c Q e ah hc;simp [bR] at hc
theorem CG {o:Oper} {x:Ar} (h:cop P o=some (.um x)):False:=by
 obtain ⟨d,oo,ty,pos,af,gd⟩:=o
 cases oo with
 |makeFunc fn first cs=>
  cases fn with
  |func f=>simp only [cop] at h;split at h<;>simp at h
  |_=>simp [cop] at h
 |call c=>
  obtain ⟨callee,args,tys⟩:=c
  simp only [cop] at h
  (repeat' (split at h))<;>(first|(cases h;done)|(simp at h;done))
 |_=>
  simp only [cop] at h
  first
   |cases h;done
   |(simp at h;done)
   |(repeat' (split at h))<;>(first|(cases h;done)|(simp at h;done))
theorem zS {o:Oper} {k b:Nat} {x y:Ar} (h:cop P o=some (.mu k b x y)):False:=by
 obtain ⟨d,oo,ty,pos,af,gd⟩:=o
 cases oo with
 |makeFunc fn first cs=>
  cases fn with
  |func f=>simp only [cop] at h;split at h<;>simp at h
  |_=>simp [cop] at h
 |call c=>
  obtain ⟨callee,args,tys⟩:=c
  simp only [cop] at h
  (repeat' (split at h))<;>(first|(cases h;done)|(simp at h;done))
 |_=>
  simp only [cop] at h
  first
   |cases h;done
   |(simp at h;done)
   |(repeat' (split at h))<;>(first|(cases h;done)|(simp at h;done))
theorem CH {o:Oper} {k:Nat} {x:Ar} (h:cop P o=some (.yJ k x)):False:=by
 obtain ⟨d,oo,ty,pos,af,gd⟩:=o
 cases oo with
 |makeFunc fn first cs=>
  cases fn with
  |func f=>simp only [cop] at h;split at h<;>simp at h
  |_=>simp [cop] at h
 |call c=>
  obtain ⟨callee,args,tys⟩:=c
  simp only [cop] at h
  (repeat' (split at h))<;>(first|(cases h;done)|(simp at h;done))
 |_=>
  simp only [cop] at h
  first
   |cases h;done
   |(simp at h;done)
   |(repeat' (split at h))<;>(first|(cases h;done)|(simp at h;done))
theorem zT {o:Oper} {k:Nat} {x:List Ar} (h:cop P o=some (.nv k x)):False:=by
 obtain ⟨d,oo,ty,pos,af,gd⟩:=o
 cases oo with
 |makeFunc fn first cs=>
  cases fn with
  |func f=>simp only [cop] at h;split at h<;>simp at h
  |_=>simp [cop] at h
 |call c=>
  obtain ⟨callee,args,tys⟩:=c
  simp only [cop] at h
  (repeat' (split at h))<;>(first|(cases h;done)|(simp at h;done))
 |_=>
  simp only [cop] at h
  first
   |cases h;done
   |(simp at h;done)
   |(repeat' (split at h))<;>(first|(cases h;done)|(simp at h;done))
theorem YX {o:Oper} {op:fV} (h:cop P o=some op):op.er=op:=by
 cases op with
 |um x=>exact (CG h).elim
 |mu=>exact (zS h).elim
 |yJ=>exact (CH h).elim
 |nv=>exact (zT h).elim
 |_=>rfl
theorem U9 {m:Bool} {o:Oper} {op:fV} (h:dO P m o=some op):op.er=op:=by
 cases op with
 |um x=>
  exfalso
  cases m with
  |true=>exact CG (by simpa [dO] using h)
  |false=>
   simp only [dO,Bool.false_eq_true,if_false,Option.map_eq_some_iff] at h
   obtain ⟨op',h1,h2⟩:=h
   cases op' with
   |iS hh y=>cases hh<;>cases h2
   |ld y n=>cases h2
   |um y=>exact CG h1
   |_=>cases h2
 |mu=>
  exfalso
  cases m with
  |true=>exact zS (by simpa [dO] using h)
  |false=>
   simp only [dO,Bool.false_eq_true,if_false,Option.map_eq_some_iff] at h
   obtain ⟨op',h1,h2⟩:=h
   cases op' with
   |iS hh y=>cases hh<;>cases h2
   |ld y n=>cases h2
   |mu=>exact zS h1
   |_=>cases h2
 |yJ=>
  exfalso
  cases m with
  |true=>exact CH (by simpa [dO] using h)
  |false=>
   simp only [dO,Bool.false_eq_true,if_false,Option.map_eq_some_iff] at h
   obtain ⟨op',h1,h2⟩:=h
   cases op' with
   |iS hh y=>cases hh<;>cases h2
   |ld y n=>cases h2
   |yJ=>exact CH h1
   |_=>cases h2
 |nv=>
  exfalso
  cases m with
  |true=>exact zT (by simpa [dO] using h)
  |false=>
   simp only [dO,Bool.false_eq_true,if_false,Option.map_eq_some_iff] at h
   obtain ⟨op',h1,h2⟩:=h
   cases op' with
   |iS hh y=>cases hh<;>cases h2
   |ld y n=>cases h2
   |nv=>exact zT h1
   |_=>cases h2
 |_=>rfl
theorem Va {ops:Array Oper}:∀(n:Nat) (l:List Oper) (zq:List aM),l.length≤n→kW P ops l=some zq→zq.map aM.er=zq:=by
 intro n
 induction n with
 |zero=>
  intro l zq hn h
  obtain rfl:l=[]:=List.eq_nil_of_length_eq_zero (by omega)
  simp only [kW,Option.some.injEq] at h;subst h;rfl
 |succ n ih=>
  intro l zq hn h
  rcases DQ h with ⟨rfl,rfl⟩|⟨o,o2,r,a,zq',rfl,h2,h3,rfl⟩|⟨o,o2,r,ag,zq',rfl,h2,h3,rfl⟩|⟨o,r,op,g,zq',rfl,h2,h3,h4,rfl⟩
  · rfl
  · obtain ⟨y,bs,hl⟩:=Fs h2
    obtain ⟨d,op,g⟩:=a
    simp only at hl;subst hl
    simp only [List.map_cons,ih r zq' (by simp at hn;omega) h3];rfl
  · obtain ⟨d,y,bs,t,w,g,rfl, -⟩:=CE h2
    simp only [List.cons_append,List.nil_append,List.map_cons,ih r zq' (by simp at hn;omega) h3];rfl
  · have he:op.er=op:=by
     rcases h2 with h2|rfl
     · exact YX h2
     · rfl
    simp only [List.map_cons,ih r zq' (by simp at hn;omega) h4,aM.er,he]
theorem Rs {ops:Array Oper}:∀(l:List (Bool×Nat)) (zq:List aM),ga P ops l=some zq→zq.map aM.er=zq:=by
 intro l
 induction l with
 |nil=>intro zq h;simp only [ga,Option.some.injEq] at h;subst h;rfl
 |cons p r ih=>
  intro zq h
  obtain ⟨m,i⟩:=p
  obtain ⟨o,a,g,zq',h1,h2,h3,h4,rfl⟩:=DS h
  simp only [List.map_cons,ih zq' h4,aM.er,U9 h2]
theorem j8:∀(c':Code) (c:av),bR P c'=some c→erase c=c:=by
 intro c'
 induction c' with
 |skip=>intro c hc;simp [bR] at hc;subst hc;rfl
 |label l=>intro c hc;simp [bR] at hc;subst hc;rfl
 |ret=>intro c hc;simp [bR] at hc;subst hc;rfl
 |exit i=>intro c hc;simp [bR] at hc;subst hc;rfl
 |region id ops draw=>
  intro c hc
  simp only [bR] at hc
  cases draw with
  |true=>
   simp only [if_true] at hc
   split at hc
   · split at hc
     · simp only [Option.map_eq_some_iff] at hc;obtain ⟨zq,has,rfl⟩:=hc;simp only [erase,Rs _ _ has]
     · cases hc
   · cases hc
  |false=>simp only [Bool.false_eq_true,if_false,Option.map_eq_some_iff] at hc;obtain ⟨zq,has,rfl⟩:=hc;simp only [erase,Va _ _ _ (Nat.le_refl _) has]
 |seq a b Fv Fw=>
  intro c hc
  simp only [bR] at hc
  split at hc
  case h_2=>cases hc
  rename_i a' b' ha hb
  injection hc with hc
  subst hc
  simp only [erase,Fv _ ha,Fw _ hb]
 |cond c0 a b Fv Fw=>
  intro c hc
  simp only [bR] at hc
  split at hc
  case h_2=>cases hc
  rename_i c1 a' b' h1 ha hb
  injection hc with hc
  subst hc
  simp only [erase,Fv _ ha,Fw _ hb]
 |block i c0 ih=>intro c hc;simp only [bR,Option.map_eq_some_iff] at hc;obtain ⟨a,ha,rfl⟩:=hc;simp only [erase,ih _ ha]
 |loop c0 ih=>intro c hc;simp only [bR,Option.map_eq_some_iff] at hc;obtain ⟨a,ha,rfl⟩:=hc;rfl
 |rangeFunc=>intro c hc;simp [bR] at hc
 |goto=>intro c hc;simp [bR] at hc
 |scope c0 ih=>intro c hc;exact ih c hc
 |refuse=>intro c hc;simp [bR] at hc
inductive It where
 |ops (r:List aM)
 |keep
 |code (c:av)
 |blk (i:Nat)
def U (P:Program) (L:List Nat) (N n0:Nat):List It→(Exit→Env→AH→Prop)→Exit→Env→AH→Prop
 |[],Q,x,e,ah=>Q x e ah
 | .code c::t,Q, .normal,e,ah=>kS P L N n0 c (fun x e ah=>U P L N n0 t Q x e ah) e ah
 | .ops r::t,Q, .normal,e,ah=>e6 P L r e ah fun e ah=>U P L N n0 t Q .normal e ah
 | .keep::t,Q, .normal,e,ah=>U P L N n0 t Q .normal (keep L e) ah
 | .blk i::t,Q, .exit j,e,ah=>if j=i then U P L N n0 t Q .normal e ah else U P L N n0 t Q (.exit j) e ah
 | .blk _::t,Q,x,e,ah=>U P L N n0 t Q x e ah
 | .code _::t,Q,x,e,ah=>U P L N n0 t Q x e ah
 | .ops _::t,Q,x,e,ah=>U P L N n0 t Q x e ah
 | .keep::t,Q,x,e,ah=>U P L N n0 t Q x e ah
def UK (P:Program) (L:List Nat) (N n0 f:Nat) (zq:List AV) (d:Option Nat) (r:List aM) (t:List It) (Q:Exit→Env→AH→Prop) (e:Env) (ah:AH):Prop:=
 aA P f zq ah fun v aE=>U P L N n0 (.ops r::t) Q .normal (aF L (xC e) d v.df) aE
def UF (P:Program) (L:List Nat) (N n0:Nat) (zq:List Ar) (d:Option Nat) (r:List aM) (t:List It) (Q:Exit→Env→AH→Prop) (e:Env) (ah:AH):AV→Prop
 | .fn f caps=>if bP caps then UK P L N n0 f (zq.map (fun x=>(ev e x).sh)++caps.map AV.s1) d r t Q e ah else False
 |_=>False
def US (P:Program) (L:List Nat) (N n0:Nat) (r:List aM) (t:List It) (Q:Exit→Env→AH→Prop):Option (Env×AH)→Prop
 |some (e,ah)=>U P L N n0 (.ops r::t) Q .normal e ah
 |none=>False
def UG (P:Program) (L:List Nat) (N n0:Nat) (o:aM) (r:List aM) (t:List It) (Q:Exit→Env→AH→Prop) (e:Env) (ah:AH):Option Bool→Prop
 |some true=>match o.op with
  | .call f zq=>UF P L N n0 zq o.d r t Q e ah (ev e f)
  | .mu k b x y=>pX L o.d k b x y e ah fun e ah=>U P L N n0 (.ops r::t) Q .normal e ah
  | .nq n x=>E8 L o.d n x e ah fun e ah=>U P L N n0 (.ops r::t) Q .normal e ah
  |_=>US P L N n0 r t Q (bK L o e ah)
 |some false=>U P L N n0 (.ops r::t) Q .normal (qc e o.d) ah
 |none=>False
def UC (P:Program) (L:List Nat) (N n0:Nat) (a b:av) (t:List It) (Q:Exit→Env→AH→Prop) (e:Env) (ah:AH):AV→Prop
 | .bool true=>U P L N n0 (.code a::t) Q .normal e ah
 | .bool false=>U P L N n0 (.code b::t) Q .normal e ah
 |_=>False
def UX (P:Program) (L:List Nat) (N n0:Nat) (c:av) (t:List It) (Q:Exit→Env→AH→Prop) (e:Env) (ah:AH):Prop:=
 AX P L N n0 c (fun x e ah=>U P L N n0 t Q x e ah) e ah
variable {t:List It} {Q:Exit→Env→AH→Prop} {x:Exit}
@[simp] theorem aa5:U P L N n0 [] Q x e ah=Q x e ah:=rfl
@[simp] theorem YY:U P L N n0 (.code .skip::t) Q .normal e ah=U P L N n0 t Q .normal e ah:=rfl
@[simp] theorem aa6:U P L N n0 (.code .ret::t) Q .normal e ah=U P L N n0 t Q .ret e ah:=rfl
@[simp] theorem YZ {i:Nat}:U P L N n0 (.code (.exit i)::t) Q .normal e ah=U P L N n0 t Q (.exit i) e ah:=rfl
theorem Vb (b:av):(fun x e ah=>match x with| .normal=>kS P L N n0 b (fun x e ah=>U P L N n0 t Q x e ah) e ah|x=>U P L N n0 t Q x e ah)=fun x e ah=>U P L N n0 (.code b::t) Q x e ah:=by
 funext x e ah
 cases x<;>rfl
@[simp] theorem aa7 {a b:av}:U P L N n0 (.code (.seq a b)::t) Q .normal e ah=U P L N n0 (.code a:: .code b::t) Q .normal e ah:=by
  simp only [U,kS]
  exact congrArg (fun K=>kS P L N n0 a K e ah) (Vb b)
@[simp] theorem aa8 {i:Nat} {c:av}:U P L N n0 (.code (.blk i c)::t) Q .normal e ah=U P L N n0 (.code c:: .blk i::t) Q .normal e ah:=by
  have:(fun x e ah=>match x with| .exit j=>if j=i then U P L N n0 t Q .normal e ah else U P L N n0 t Q (.exit j) e ah|x=>U P L N n0 t Q x e ah)=fun x e ah=>U P L N n0 (.blk i::t) Q x e ah:=by
   funext x e ah
   cases x<;>rfl
  exact congrArg (fun K=>kS P L N n0 c K e ah) this
@[simp] theorem adv {ops:List aM}:U P L N n0 (.code (.rg ops)::t) Q .normal e ah=U P L N n0 (.ops ops:: .keep::t) Q .normal e ah:=rfl
@[simp] theorem Y0 {c:av}:U P L N n0 (.code (.loop c)::t) Q .normal e ah=UX P L N n0 (.loop c) t Q e ah:=rfl
@[simp] theorem aa9 {c:av}:U P L N n0 (.code (.sem c)::t) Q .normal e ah=UX P L N n0 c t Q e ah:=rfl
@[simp] theorem Y1 {c:Ar} {a b:av}:U P L N n0 (.code (.cond c a b)::t) Q .normal e ah=UC P L N n0 a b t Q e ah (ev e c):=by
  simp only [U,kS]
  cases ev e c with
  |bool t=>cases t<;>rfl
  |_=>rfl
@[simp] theorem Y2:U P L N n0 (.keep::t) Q .normal e ah=U P L N n0 t Q .normal (keep L e) ah:=rfl
@[simp] theorem Vc {i:Nat}:U P L N n0 (.blk i::t) Q .normal e ah=U P L N n0 t Q .normal e ah:=rfl
@[simp] theorem Vd {i:Nat}:U P L N n0 (.blk i::t) Q .ret e ah=U P L N n0 t Q .ret e ah:=rfl
@[simp] theorem Ve {i j:Nat}:U P L N n0 (.blk i::t) Q (.exit j) e ah=if j=i then U P L N n0 t Q .normal e ah else U P L N n0 t Q (.exit j) e ah:=rfl
@[simp] theorem Rt {c:av}:U P L N n0 (.code c::t) Q .ret e ah=U P L N n0 t Q .ret e ah:=by cases c<;>rfl
@[simp] theorem Ru {c:av} {j:Nat}:U P L N n0 (.code c::t) Q (.exit j) e ah=U P L N n0 t Q (.exit j) e ah:=by cases c<;>rfl
@[simp] theorem NN:U P L N n0 (.ops []::t) Q .normal e ah=U P L N n0 t Q .normal e ah:=rfl
@[simp] theorem aba {o:aM} {r:List aM}:U P L N n0 (.ops (o::r)::t) Q .normal e ah=UG P L N n0 o r t Q e ah (gV e o):=by
  simp only [U,e6]
  cases gV e o with
  |none=>rfl
  |some b=>
   cases b with
   |false=>rfl
   |true=>
    obtain ⟨d,op,g⟩:=o
    cases op with
    |call f zq=>
     simp only [Bu,UG]
     cases ev e f with
     |fn f' caps=>
      simp only [UF,UK]
      by_cases hf:bP caps=true
      · simp only [hf,if_true,true_and];rfl
      · simp [hf]
     |_=>rfl
    |mu k b x y=>rfl
    |nq n x=>rfl
    |_=>
     simp only [Bu,UG,US]
     cases bK L ⟨d,_,g⟩ e ah with
     |none=>rfl
     |some ea=>obtain ⟨e',aE⟩:=ea;rfl
@[simp] theorem Vf {r:List aM} {e':Env} {aE:AH}:US P L N n0 r t Q (some (e',aE))=U P L N n0 (.ops r::t) Q .normal e' aE:=rfl
@[simp] theorem Rv {o:aM} {r:List aM}:UG P L N n0 o r t Q e ah (some false)=U P L N n0 (.ops r::t) Q .normal (qc e o.d) ah:=rfl
@[simp] theorem Vg {a b:av}:UC P L N n0 a b t Q e ah (.bool true)=U P L N n0 (.code a::t) Q .normal e ah:=rfl
@[simp] theorem Rx {a b:av}:UC P L N n0 a b t Q e ah (.bool false)=U P L N n0 (.code b::t) Q .normal e ah:=rfl
@[simp] theorem abb {zq:List Ar} {d:Option Nat} {r:List aM} {f:Nat} {caps:List AV}:UF P L N n0 zq d r t Q e ah (.fn f caps)=
 if bP caps then UK P L N n0 f (zq.map (fun x=>(ev e x).sh)++caps.map AV.s1) d r t Q e ah else False:=rfl
theorem ac6 {a b:av} {v:Bool} (h1:v=true→U P L N n0 (.code a::t) Q .normal e ah) (h2:v=false→U P L N n0 (.code b::t) Q .normal e ah):UC P L N n0 a b t Q e ah (.bool v):=by
 cases v
 · exact h2 rfl
 · exact h1 rfl
theorem aft {f:Nat} {zq:List AV} {d:Option Nat} {r:List aM} {R:AV→AH→Prop} (h:aA P f zq ah R) (hk:∀v aE,R v aE→U P L N n0 (.ops r::t) Q .normal (aF L (xC e) d v.df) aE):
 UK P L N n0 f zq d r t Q e ah:=h.mono hk
theorem adw {c:av} (I:Nat→Env→AH→Prop) {k0:Nat} (ho:rH N c=true)
 (round:∀k e ah,I k e ah→U P L N n0 [.code c] (fun x e' aE=>match x with| .normal=>∃k',k'<k∧I k' e' aE|x=>U P L N n0 t Q x e' aE) .normal e ah) (h0:I k0 e ah):
 UX P L N n0 (.loop c) t Q e ah:=by
 intro c'
 induction c' with
 |loop c0 _=>
  intro ck
  simp only [bR,Option.map_eq_some_iff] at ck
  obtain ⟨a,ha,he⟩:=ck
  injection he with he
  subst he
  exact AW.loop I (fun k e ah hI=>pV c0 a _ e ah (by rw [j8 c0 a ha];exact ha) (by rw [j8 c0 a ha];exact ho) (round k e ah hI)) h0
 |scope c0 ih=>exact fun ck=>AW.scope (ih ck)
 |region id ops draw=>intro ck;simp only [bR] at ck;repeat' (split at ck)<;>simp at ck
 |block i c0=>intro ck;simp only [bR,Option.map_eq_some_iff] at ck;obtain ⟨a, -,h⟩:=ck;cases h
 |seq a b=>intro ck;simp only [bR] at ck;split at ck<;>simp at ck
 |cond a b c=>intro ck;simp only [bR] at ck;split at ck<;>simp at ck
 |_=>intro ck;simp [bR] at ck
end
end Go.Am
end
section
namespace Go.Am
open Go
variable [Tabs]
def AV.fo:AV→Bool
 | .bz _=>true
 |_=>false
def gX (P:Program) (e:Env) (ah:AH):List ResultVar→Option (List AV)
 |[]=>some []
 | .tmp t::r=>if (get e t).fo then none else match gX P e ah r with
   |some vs=>some (get e t::vs)
   |none=>none
 | .cell a ty::r=>if tok P ty then
  match get e a with
  | .ptr s o=>match ah[s]? with
    |some cs=>match mw (tn P ty) s o cs,gX P e ah r with
     |some v,some vs=>some (v.sh::vs)
     |_,_=>none
    |none=>none
  |_=>none
   else none
def fin:List AV→AV
 |[a]=>a.df
 |l=> .bz (l.map AV.sh)
inductive Cl (n:Nat):AV→Prop
 |ptr (s o):s<n→Cl n (.ptr s o)
 |fn (f cs):(∀a∈cs,Cl n a)→Cl n (.fn f cs)
 |agg (cs):(∀a∈cs,Cl n a)→Cl n (.agg cs)
 |bz (cs):(∀a∈cs,Cl n a)→Cl n (.bz cs)
 |v (x):Cl n (.v x)
 |int (k i):Cl n (.int k i)
 |bool (b):Cl n (.bool b)
 |str (l):Cl n (.str l)
 |sl (t k xs):Cl n (.sl t k xs)
 |ep (e o):(∀a∈e.cells,Cl n a)→Cl n (.ep e o)
 |cN (s k o m):s<n→Cl n (.cN s k o m)
 |p6 (s k):Cl n (.cr s k 0 0)
 |cr (s k m c):s<n→Cl n (.cr s k m c)
 |eG:Cl n .eG
 |dy (t):Cl n (.dy t)
 |dn (e l):Cl n (.dn e l)
 |un:Cl n .un
@[simp] theorem Y3 {n s k o m:Nat}:Cl n (.cN s k o m)↔s<n:=⟨fun h=>by cases h;assumption, .cN _ _ _ _⟩
@[simp] theorem ae6 {n:Nat}:Cl n .eG:= .eG
@[simp] theorem ae7 {n:Nat} {t:TypeId}:Cl n (.dy t):= .dy _
@[simp] theorem ae8 {n:Nat} {e:TypeId} {l:List UInt8}:Cl n (.dn e l):= .dn ..
@[simp] theorem Y4 {n s o:Nat}:Cl n (.ptr s o)↔s<n:=⟨fun h=>by cases h;assumption, .ptr _ _⟩
@[simp] theorem abc {n f:Nat} {cs:List AV}:Cl n (.fn f cs)↔∀a∈cs,Cl n a:=⟨fun h=>by cases h;assumption, .fn _ _⟩
@[simp] theorem Y5 {n:Nat} {cs:List AV}:Cl n (.agg cs)↔∀a∈cs,Cl n a:=⟨fun h=>by cases h;assumption, .agg _⟩
@[simp] theorem Y6 {n:Nat} {cs:List AV}:Cl n (.bz cs)↔∀a∈cs,Cl n a:=⟨fun h=>by cases h;assumption, .bz _⟩
@[simp] theorem afQ {n:Nat} {x:Value}:Cl n (.v x):= .v _
@[simp] theorem ae9 {n:Nat} {k:IntKind} {i:Int}:Cl n (.int k i):= .int ..
@[simp] theorem adx {n:Nat} {b:Bool}:Cl n (.bool b):= .bool _
@[simp] theorem afa {n:Nat} {l:List UInt8}:Cl n (.str l):= .str _
@[simp] theorem afu {n:Nat} {t:Tg} {k:Nat} {xs:List AV}:Cl n (.sl t k xs):= .sl ..
@[simp] theorem abd {n:Nat} {e:AV} {o:Nat}:Cl n (.ep e o)↔∀a∈e.cells,Cl n a:=⟨fun h=>by cases h;assumption, .ep _ _⟩
@[simp] theorem afR {n:Nat}:Cl n .un:= .un
def nt (n:Nat) (ah:AH):Prop:=∀(s:Nat) (cs:List AV),ah[s]? =some cs→∀a∈cs,Cl n a
def NP (P:Program) (n:Nat) (rs:List ResultVar) (R:AV→AH→Prop) (x:Exit) (e:Env) (ah:AH):Prop:=
 (x= .normal∨x= .ret)∧match gX P e ah rs with
  |some vs=>Cl n (fin vs)∧nt n (ah.take n)∧n≤ah.length∧R (fin vs) (ah.take n)
  |none=>False
section
variable {P:Program} {L:List Nat} {N n0:Nat} {F:Nat→Prop} {γ:List Nat} {C C':Nat→List Value} {e:Env} {ah:AH} {ts:Array Value} {w w':World}
theorem VR.take {a:AV} {v:Value} {n:Nat} (h:VR C γ a v):Cl n a→VR C (γ.take n) a v:=by
 induction h with
 |v _ _ hs=>intro _;exact .v _ _ hs
 |un=>intro _;exact .un ..
 |int=>intro _;exact .int ..
 |bool=>intro _;exact .bool ..
 |str=>intro _;exact .str ..
 |ptr _ s o b hb=>intro hn;exact .ptr _ _ _ _ (by rw [List.getElem?_take_of_lt (Y4.1 hn)];exact hb)
 |cN _ s k o n b c hb hn'=>intro hn;exact .cN _ _ _ _ _ _ _ (by rw [List.getElem?_take_of_lt (Y3.1 hn)];exact hb) hn'
 |p6=>intro _;exact .p6 ..
 |cr _ s k n b c hb hn'=>
  intro hn
  cases hn with
  |p6=>exact .p6 ..
  |cr _ _ _ _ hs=>exact .cr _ _ _ _ _ _ (by rw [List.getElem?_take_of_lt hs];exact hb) hn'
 |eG=>intro _;exact .eG ..
 |dy=>intro _;exact .dy ..
 |dn=>intro _;exact .dn ..
 |tC=>intro _;exact .tC ..
 |sl _ _ _ _ b o n c hn' hc hk hl ho hx=>intro _;exact .sl _ _ _ _ _ _ _ _ hn' hc hk hl ho hx
 |ep _ _ _ b p hl hx ih=>intro hn;exact .ep _ _ _ _ _ hl fun j a hj=>ih j a hj (abd.1 hn a (List.mem_of_getElem? hj))
 |agg _ cs vs hl hx ih=>intro hn;exact .agg _ _ _ hl fun i a hi=>ih i a hi (Y5.1 hn a (List.mem_of_getElem? hi))
 |bz _ cs vs hl hx ih=>intro hn;exact .bz _ _ _ hl fun i a hi=>ih i a hi (Y6.1 hn a (List.mem_of_getElem? hi))
 |fn _ f cs vs hl hx ih=>intro hn;exact .fn _ _ _ _ hl fun i a hi=>ih i a hi (abc.1 hn a (List.mem_of_getElem? hi))
theorem VR.cl {a:AV} {v:Value} (h:VR C γ a v):Cl γ.length a:=by
 have mem:∀ {cs:List AV} {a:AV},a∈cs→∃i:Nat,cs[i]? =some a:=fun ha=>by
  obtain ⟨i,hi,rfl⟩:=List.getElem_of_mem ha;exact ⟨i,List.getElem?_eq_getElem hi⟩
 induction h with
 |ptr _ s o b hb=>exact .ptr _ _ (List.getElem?_eq_some_iff.1 hb).1
 |agg _ cs vs hl hx ih=>exact .agg _ fun a ha=>by obtain ⟨i,hi⟩:=mem ha;exact ih i a hi
 |bz _ cs vs hl hx ih=>exact .bz _ fun a ha=>by obtain ⟨i,hi⟩:=mem ha;exact ih i a hi
 |fn _ f cs vs hl hx ih=>exact .fn _ _ fun a ha=>by obtain ⟨i,hi⟩:=mem ha;exact ih i a hi
 |cN _ s k o n b c hb _=>exact .cN _ _ _ _ (List.getElem?_eq_some_iff.1 hb).1
 |p6=>exact .p6 ..
 |cr _ s k n b c hb _=>exact .cr _ _ _ _ (List.getElem?_eq_some_iff.1 hb).1
 |eG=>exact .eG
 |dy=>exact .dy _
 |dn=>exact .dn ..
 |v=>exact .v _
 |un=>exact .un
 |int=>exact .int ..
 |bool=>exact .bool _
 |str=>exact .str _
 |tC=>exact .sl ..
 |sl=>exact .sl ..
 |ep _ _ _ b p hl hx ih=>exact .ep _ _ fun a ha=>by obtain ⟨i,hi⟩:=mem ha;exact ih i a hi
theorem NQ (h:SR L N F γ C e ah ts w) {a s o:Nat} {ty:TypeId} (ht:tok P ty=true) (hp:get e a= .ptr s o) {cs:List AV} (hs:ah[s]? =some cs) {v:AV} (hl:mw (tn P ty) s o cs=some v):
 ∃u ad,ts.getD a undef= .pointer (some ad)∧(loadVar ty ad).run P w= .ok u w∧VR C γ v.sh u∧TC w C v.sh u:=by
 have hv:=(h.env a).1
 rw [hp] at hv
 obtain ⟨b,hb,hv⟩:=hv.gb
 obtain ⟨vs,tv,hh,hsz,hcell⟩:=h.mem.obj s b cs hs hb
 have xw:=cz hh
 cases hn:tn P ty with
 |some n=>
  simp only [hn,mw] at hl
  split at hl
  case isFalse=>cases hl
  rename_i hq
  obtain ⟨hq,hfl⟩:=hq
  injection hl with hl
  subst hl
  obtain ⟨r,hr,hrs,hrc⟩:=(run_load (w:=w) ht (b:=b) (o:=o)).1 n hn (fun j hj=>by
   rw [xw];exact ⟨_,Array.getElem?_eq_getElem (by omega)⟩)
  obtain rfl:r=vs.extract o (o+n):=by
   apply Array.ext_getElem?
   intro j
   by_cases hj:j<n
   · rw [hrc j hj,xw,Array.getElem?_extract,if_pos (by omega)]
   · rw [Array.getElem?_eq_none (by omega),Array.getElem?_eq_none (by simp;omega)]
  refine ⟨_,_,hv,hr, ?_, ?_⟩
  · exact (Wk.sh _).vr ((Wk.pz _ Wk.bN _).vr (Ff hsz (fun i a hi=>(hcell i a hi).1) hq))
  · exact (Wk.sh _).tc ((Wk.pz _ Wk.bN _).tc (xu hsz (fun i a hi hin=>Bn (hcell _ a hi).2 (j5 hfl (i:=i) (by rw [List.getElem?_take_of_lt hin,List.getElem?_drop];exact hi))) hq))
 |none=>
  simp only [hn,mw] at hl
  have oT:∀c,cs[o]? =some c→w.cell? ⟨b,o,none⟩=some (vs.getD o undef):=by
   intro c j6
   have hlt:o<vs.size:=Nat.lt_of_lt_of_le (List.getElem?_eq_some_iff.1 j6).1 hsz
   rw [xw];simp [Array.getD_eq_getD_getElem?,Array.getElem?_eq_getElem hlt]
  split at hl
  · rename_i k xs j6
    injection hl with hl
    subst hl
    have hr:=(run_load (w:=w) ht (b:=b) (o:=o)).2 _ hn (oT _ j6)
    exact ⟨_,_,hv,hr,(hcell o _ j6).1.kR _,by simp only [AV.sh,AV.bN,Tg.sh];cases (vs.getD o undef)<;>trivial⟩
  · rename_i c hno j6
    split at hl
    case isFalse=>cases hl
    rename_i hfl
    injection hl with hl
    subst hl
    have hr:=(run_load (w:=w) ht (b:=b) (o:=o)).2 _ hn (oT _ j6)
    refine ⟨_,_,hv,hr, ?_, ?_⟩
    · exact (Wk.sh _).vr ((Wk.jz (Wk.bN c)).vr (hcell o _ j6).1)
    · exact (Wk.sh _).tc (E0 (Bn (hcell o _ j6).2 hfl))
  · cases hl
theorem Y7 (h:SR L N F γ C e ah ts w):∀(rs:List ResultVar) (vs:List AV),gX P e ah rs=some vs→
 ∃us:List Value,(rs.mapM fun| .tmp t=>pure (ts.getD t undef)| .cell a t=>do loadVar t (←asAddr (ts.getD a undef)):Sem (List Value)).run P w= .ok us w∧us.length=vs.length∧
  (∀(i:Nat) (a:AV),vs[i]? =some a→VR C γ a (us.getD i undef)∧TC w C a (us.getD i undef))∧
  (∀(i:Nat) (a:AV) (b:Nat),vs[i]? =some a→bG a (us.getD i undef)=some b→∃t,blk γ e ah ts w (.tmp t) b)∧∀(i:Nat) (a:AV),vs[i]? =some a→a.fo=false:=by
 intro rs
 induction rs with
 |nil=>intro vs hr;simp [gX] at hr;subst hr;exact ⟨[],rfl,rfl,by simp,by simp,by simp⟩
 |cons r rs ih=>
  intro vs hr
  cases r with
  |tmp t=>
   simp only [gX] at hr
   split at hr
   case isTrue=>cases hr
   rename_i hnt
   split at hr
   case h_2=>cases hr
   rename_i vs' hvs
   injection hr with hr
   subst hr
   obtain ⟨us,h1,h2,h3,h4,h5⟩:=ih vs' hvs
   refine ⟨ts.getD t undef::us, ?_,by simp [h2],fun i a hi=> ?_,fun i a b hi hb=> ?_,fun i a hi=>by
    cases i with
    |zero=>simp at hi;subst hi;simpa using hnt
    |succ i=>exact h5 i a (by simpa using hi)⟩
   · simp only [List.mapM_cons,Sem.run_bind,Sem.run_pure,Result.andThen_ok,h1]
   · cases i with
     |zero=>simp at hi;subst hi;exact h.env t
     |succ i=>exact h3 i a (by simpa using hi)
   · cases i with
     |zero=>simp at hi;subst hi;exact ⟨t,hb⟩
     |succ i=>exact h4 i a b (by simpa using hi) hb
  |cell a ty=>
   simp only [gX] at hr
   split at hr
   case isFalse=>cases hr
   rename_i ht
   split at hr
   case h_2=>cases hr
   rename_i s o hp
   split at hr
   case h_2=>cases hr
   rename_i cs hs
   split at hr
   case h_2=>cases hr
   rename_i v vs' hv hvs
   injection hr with hr
   subst hr
   obtain ⟨us,h1,h2,h3,h4,h5⟩:=ih vs' hvs
   obtain ⟨u,ad,g1,g2,g3,g4⟩:=NQ (P:=P) h ht hp hs hv
   have hnt:v.sh.fo=false:=by
    unfold mw at hv
    split at hv
    · split at hv<;>simp at hv;subst hv;rfl
    · split at hv
      · injection hv with hv;subst hv;rfl
      · split at hv<;>simp at hv
        rename_i c _ _ hf
        subst hv
        cases c<;>first|rfl|cases hf
      · cases hv
   refine ⟨u::us, ?_,by simp [h2],fun i a hi=> ?_,fun i a b hi hb=> ?_,fun i a hi=>by
    cases i with
    |zero=>simp at hi;subst hi;exact hnt
    |succ i=>exact h5 i a (by simpa using hi)⟩
   · have hA:(asAddr (ts.getD a undef)).run P w= .ok ad w:=by rw [g1];rfl
     simp only [List.mapM_cons,Sem.run_bind,hA,Sem.run_pure,Result.andThen_ok,g2,h1]
   · cases i with
     |zero=>simp at hi;subst hi;exact ⟨g3,g4⟩
     |succ i=>exact h3 i a (by simpa using hi)
   · cases i with
     |zero=>simp at hi;subst hi;rw [jr _ (iH (ur v))] at hb;cases hb
     |succ i=>exact h4 i a b (by simpa using hi) hb
def aaz (P:Program) (n0:Nat) (rs:List ResultVar) (R:AV→AH→Prop) (x:Exit) (e:Env) (ah:AH):Prop:=
 (∃m,n0≤m∧NP P m rs R x e ah)∨((x= .normal∨x= .ret)∧match gX P e ah rs with
  |some vs=>R (fin vs) ah
  |none=>False)
theorem aA.Qu {f:Nat} {fn:Func} {c:Code} {ac:av} {args:List AV} {R:AV→AH→Prop} (L:List Nat) (hf:P.funcs[f]? =some fn) (hname:fn.name≠ "runtime.NumGoroutine") (hb:fn.body=some c)
 (hc:bR P c=some ac) (ho:rH fn.ntmps ac=true) (hN:args.length≤fn.ntmps)
 (h:nt ah.length ah→(∀a∈args,∀s o,a= .ptr s o→s<ah.length)→AX P L fn.ntmps ah.length ac (aaz P ah.length fn.results.toList R) (fL 0 args) ah):aA P f args ah R:=by
 refine ⟨by simp [fW,hf,hb,hname],fun F γ C w vs hs=> ?_⟩
 have hlen:=hs.mem.len
 have hcl:nt ah.length ah:=by
  intro s cs Lw
  have hlt:s<γ.length:=by rw [hlen];exact (List.getElem?_eq_some_iff.1 Lw).1
  obtain ⟨us,ty, -,hsz,hcell⟩:=hs.mem.obj s _ cs Lw (List.getElem?_eq_getElem hlt)
  intro a ha
  obtain ⟨i,hi,rfl⟩:=List.getElem_of_mem ha
  rw [←hlen]
  exact (hcell i _ (List.getElem?_eq_getElem hi)).1.cl
 have hargs:∀a∈args,∀s o,a= .ptr s o→s<ah.length:=by
  intro a ha s o he
  obtain ⟨i,hi,rfl⟩:=List.getElem_of_mem ha
  have:=(hs.env i).1
  rw [dH] at this
  simp only [Nat.zero_le,if_true,Nat.sub_zero,List.getElem?_eq_getElem hi,Option.getD_some,he] at this
  obtain ⟨b,hb, -⟩:=this.gb
  rw [←hlen];exact (List.getElem?_eq_some_iff.1 hb).1
 have hU:=h hcl hargs
 have hW:AW P L fn.ntmps ah.length c (aaz P ah.length fn.results.toList R) (fL 0 args) ah:=hU c hc
 have hvs:vs.size=args.length:=hs.sz
 have hs2:SR L fn.ntmps F γ C (fL 0 args) ah (vs++Array.replicate (fn.ntmps - vs.size) undef) w:=by
  have hg:∀t,t<vs.size→(vs++Array.replicate (fn.ntmps - vs.size) undef).getD t undef=vs.getD t undef:=by
   intro t ht;simp [Array.getD_eq_getD_getElem?,Array.getElem?_append,ht]
  have hx:∀t,¬t<vs.size→get (fL 0 args) t= .un:=by
   intro t ht;rw [dH];simp only [Nat.zero_le,if_true,Nat.sub_zero];rw [List.getElem?_eq_none (by omega)];rfl
  have hbk:∀p b,blk γ (fL 0 args) ah (vs++Array.replicate (fn.ntmps - vs.size) undef) w p b→blk γ (fL 0 args) ah vs w p b:=by
   intro p b hp
   cases p with
   |obj s=>exact hp
   |cell s i=>exact hp
   |tmp t=>
    by_cases ht:t<vs.size
    · simp only [blk,hg t ht] at hp ⊢;exact hp
    · simp only [blk,hx t ht,bG] at hp;cases hp
  refine ⟨hs.mem,by simp;omega,fun t=> ?_,fun p q b hp hq=>hs.dD p q b (hbk p b hp) (hbk q b hq),fun p b hp=>hs.nf p b (hbk p b hp),hs.iT,fun t l k xs htl=> ?_⟩
  · by_cases ht:t<vs.size
    · rw [hg t ht];exact hs.env t
    · rw [hx t ht];exact ⟨.un ..,by generalize (vs++Array.replicate (fn.ntmps - vs.size) undef).getD t undef=v;cases v<;>trivial⟩
  · by_cases ht:t<vs.size
    · have:=hs.fr t l k xs htl
      cases l with
      |tmp u=>have:=this.1;simp at this
      |cell s o=>intro cs a b h1 h2 h3 h4;rw [hg t ht];exact this cs a b h1 h2 h3 h4
    · rw [hx t ht] at htl;cases htl
 refine calls_of_wp hf hb (wp_mono (hW F γ C _ w hs2 (by omega)) ?_)
 rintro x ⟨ts',ds'⟩ w' ⟨rfl, -,e',aE,γ',C',hRX,hγ,hs',ady⟩
 have hx:x= .normal∨x= .ret:=by
  rcases hRX with ⟨m, -,h, -⟩|⟨h, -⟩<;>exact h
 obtain ⟨xF,Nw⟩:∃xF,gX P e' aE fn.results.toList=some xF:=by
  rcases hRX with ⟨m, -, -,h⟩|⟨-,h⟩
  · split at h
    · rename_i vs hv;exact ⟨vs,hv⟩
    · exact h.elim
  · split at h
    · rename_i vs hv;exact ⟨vs,hv⟩
    · exact h.elim
 obtain ⟨us,u1,u2,u3,u4,u5⟩:=Y7 (P:=P) hs' _ _ Nw
 have hres:(results fn ts').run P w'= .ok (if us.length=1 then us.getD 0 undef else .tuple us.toArray) w':=by
  unfold results
  rw [Array.mapM_eq_mapM_toList,map_eq_pure_bind]
  simp only [Sem.run_bind,Sem.run_pure]
  refine (congrArg (fun r=>Result.andThen (Result.andThen r fun (a:List Value) w'=> .ok a.toArray w') fun (a:Array Value) w'=> .ok (if h:a.size=1 then a[0] else Value.tuple a) w') u1).trans ?_
  simp only [Result.andThen_ok]
  by_cases h1:us.length=1
  · rw [if_pos h1]
    have:us.toArray.size=1:=by simpa using h1
    rw [dif_pos this]
    simp [List.getD_eq_getElem?_getD,h1]
  · rw [if_neg h1]
    have:¬us.toArray.size=1:=by simpa using h1
    rw [dif_neg this]
 generalize hv:(if us.length=1 then us.getD 0 undef else .tuple us.toArray)=v at hres
 have DT:VR C' γ' (fin xF) v∧TC w' C' (fin xF) v∧(∀b,bG (fin xF) v=some b→∃t,blk γ' e' aE ts' w' (.tmp t) b)∧∀l k xs,fin xF≠ .sl (.fr l) k xs:=by
  by_cases h1:us.length=1
  · rw [if_pos h1] at hv
    obtain ⟨a,rfl⟩:∃a,xF=[a]:=by
     cases xF with
     |nil=>rw [h1] at u2;simp at u2
     |cons a r=>cases r with
      |nil=>exact ⟨a,rfl⟩
      |cons b r=>rw [h1] at u2;simp at u2
    have h3:=u3 0 a rfl
    rw [hv] at h3
    refine ⟨(Wk.df a).vr h3.1,(Wk.df a).tc h3.2,fun b hb=>u4 0 a b rfl ?_,fun l k xs=>Nu a l k xs⟩
    rw [hv];exact (Wk.df a).own hb
  · rw [if_neg h1] at hv
    have hf:fin xF= .bz (xF.map AV.sh):=by
     cases xF with
     |nil=>rfl
     |cons a r=>cases r with
      |nil=>exact absurd (by simpa using u2) h1
      |cons b r=>rfl
    rw [hf]
    subst hv
    refine ⟨.bz _ _ _ (by simp [u2]) fun i a hi=> ?_,fun i a hi=> ?_,fun b hb=>by simp [bG] at hb,by simp⟩
    · rw [List.getElem?_map] at hi
      cases hq:xF[i]? with
      |none=>rw [hq] at hi;simp at hi
      |some y=>
       rw [hq] at hi
       obtain rfl:y.sh=a:=by simpa using hi
       have:=(Wk.sh y).vr (u3 i y hq).1
       rwa [←iI]
    · rw [List.getElem?_map] at hi
      cases hq:xF[i]? with
      |none=>rw [hq] at hi;simp at hi
      |some y=>
       rw [hq] at hi
       obtain rfl:y.sh=a:=by simpa using hi
       have h3:=(Wk.sh y).tc (u3 i y hq).2
       have h4:=(Wk.sh y).vr (u3 i y hq).1
       rw [←iI]
       show I5 y.sh (us.getD i undef)
       have h5:y.sh.fo=false:=by have:=u5 i y hq;cases y<;>first|rfl|cases this
       generalize us.getD i undef=u at h3 h4
       generalize hz:y.sh=z at h3 h4 h5
       cases z with
       |agg cs=>obtain ⟨vs,rfl, -⟩:=h4.og;exact h3
       |bz cs=>cases h5
       |sl t k xs=>cases t<;>cases u<;>first|trivial|exact h3|(exfalso;cases y<;>simp [AV.sh,AV.bN] at hz;done)|skip
       |_=>cases u<;>trivial
 obtain ⟨m,hm,hrc,adz,afS,hRR⟩:∃m,ah.length≤m∧Cl m (fin xF)∧nt m (aE.take m)∧m≤aE.length∧R (fin xF) (aE.take m):=by
  rcases hRX with ⟨m,hm, -,h⟩|⟨-,h⟩
  · rw [Nw] at h
    exact ⟨m,hm,h⟩
  · rw [Nw] at h
    have hl:aE.take aE.length=aE:=List.take_length
    refine ⟨aE.length, ?_, ?_, ?_,Nat.le_refl _,by rw [hl];exact h⟩
    · rw [←hs'.mem.len]
      have:=hγ.length_le
      rw [←hlen,List.take_length] at this
      omega
    · rw [←hs'.mem.len];exact DT.1.cl
    · rw [hl]
      intro s cs Lw
      have hlt:s<γ'.length:=by rw [hs'.mem.len];exact (List.getElem?_eq_some_iff.1 Lw).1
      obtain ⟨us',ty', -,afT,E3⟩:=hs'.mem.obj s _ cs Lw (List.getElem?_eq_getElem hlt)
      intro a ha
      obtain ⟨i,hi,rfl⟩:=List.getElem_of_mem ha
      rw [←hs'.mem.len]
      exact (E3 i _ (List.getElem?_eq_getElem hi)).1.cl
 have hm0:ah.length≤m:=hm
 have hlen':=hs'.mem.len
 have hpre:γ <+: γ'.take m:=by
  rw [←hlen,List.take_length] at hγ
  obtain ⟨q,rfl⟩:=hγ
  rw [List.take_append]
  rw [List.take_of_length_le (l:=γ) (i:=m) (by omega)]
  exact List.prefix_append _ _
 have hbp:bodyPost P fn (fun en w'=>∃r v aE γ' C',en= .returned v∧R r aE∧γ <+: γ'∧SR [] 1 F γ' C' [(0,r)] aE #[v] w'∧Ext F C w C' w') x ⟨ts',[]⟩ w':=by
  have key:∃v',(results fn ts').run P w'= .ok v' w'∧∃r v aE γ' C',Ending.returned v'= .returned v∧R r aE∧γ <+: γ'∧SR [] 1 F γ' C' [(0,r)] aE #[v] w'∧Ext F C w C' w':=by
   refine ⟨v,hres,fin xF,v,aE.take m,γ'.take m,C',rfl,hRR,hpre, ?_,ady⟩
   have hgt:∀(s b:Nat),(γ'.take m)[s]? =some b→γ'[s]? =some b∧s<m:=by
    intro s b hsb
    by_cases Ed:s<m
    · rw [List.getElem?_take_of_lt Ed] at hsb;exact ⟨hsb,Ed⟩
    · rw [List.getElem?_eq_none (by simp;omega)] at hsb;cases hsb
   have CI:∀(s:Nat) (cs:List AV),(aE.take m)[s]? =some cs→aE[s]? =some cs:=by
    intro s cs hsb
    by_cases Ed:s<m
    · rwa [List.getElem?_take_of_lt Ed] at hsb
    · rw [List.getElem?_eq_none (by simp;omega)] at hsb;cases hsb
   have hbk:∀p b,blk (γ'.take m) [(0,fin xF)] (aE.take m) #[v] w' p b→(∃t,p= .tmp 0∧blk γ' e' aE ts' w' (.tmp t) b)∨((∀t,p≠ .tmp t)∧blk γ' e' aE ts' w' p b):=by
    intro p b hp
    cases p with
    |obj s=>exact .inr ⟨by simp,(hgt s b hp).1⟩
    |cell s i=>
     obtain ⟨cs,a,b0,g1,g2,g3,g4⟩:=hp
     exact .inr ⟨by simp,cs,a,b0,CI s cs g1,g2,(hgt s b0 g3).1,g4⟩
    |tmp t=>
     simp only [blk,get] at hp
     by_cases ht:0=t
     · subst ht
       simp only [if_true] at hp
       obtain ⟨t,ht⟩:=DT.2.2.1 b hp
       exact .inl ⟨t,rfl,ht⟩
     · rw [if_neg ht] at hp;simp [bG] at hp
   refine ⟨⟨by simp [hlen'],fun s b cs g1 g2=> ?_,hs'.mem.pn,fun s b cs g1 g0 hsb=>hs'.mem.lZ s b cs (CI s cs g1) g0 (hgt s b hsb).1,fun s b cs us ty fr g1 hsb hh=>hs'.mem.xq s b cs us ty fr (CI s cs g1) (hgt s b hsb).1 hh,fun s b cs T g1 hsb h0=>hs'.mem.zM s b cs T (CI s cs g1) (hgt s b hsb).1 h0⟩,rfl,fun t=> ?_,fun p q b hp hq=> ?_,fun p b hp=> ?_,hs'.iT,fun t l k xs htl=> ?_⟩
   · obtain ⟨vs,ty,q1,q2,q3⟩:=hs'.mem.obj s b cs (CI s cs g1) (hgt s b g2).1
     exact ⟨vs,ty,q1,q2,fun i a hi=>⟨(q3 i a hi).1.take (adz s cs g1 a (List.mem_of_getElem? hi)),(q3 i a hi).2⟩⟩
   · by_cases ht:0=t
     · subst ht
       simp only [get,if_true]
       exact ⟨DT.1.take hrc,DT.2.1⟩
     · simp only [get,if_neg ht]
       exact ⟨.un ..,by generalize (#[v]:Array Value).getD t undef=u;cases u<;>trivial⟩
   · rcases hbk p b hp with ⟨t,rfl,h1⟩|⟨h1,h2⟩<;>rcases hbk q b hq with ⟨u,rfl,h3⟩|⟨h3,h4⟩
     · rfl
     · exact absurd (hs'.dD _ _ b h1 h4) (fun e=>h3 t e.symm)
     · exact absurd (hs'.dD _ _ b h2 h3) (h1 u)
     · exact hs'.dD p q b h2 h4
   · rcases hbk p b hp with ⟨t,rfl,h1⟩|⟨h1,h2⟩
     · exact hs'.nf _ b h1
     · exact hs'.nf p b h2
   · by_cases ht:0=t
     · subst ht
       simp only [get,if_true] at htl
       exact absurd htl (DT.2.2.2 l k xs)
     · simp only [get,if_neg ht] at htl;cases htl
  rcases hx with rfl|rfl
  · exact ⟨rfl,key⟩
  · exact ⟨rfl,key⟩
 exact hbp
theorem AX.up {c:av} {Q Q':Exit→Env→AH→Prop} {e:Env} {ah:AH} {n0:Nat} (h:AX P L N n0 c Q e ah) (hq:∀x e ah,Q x e ah→Q' x e ah):AX P L N n0 c Q' e ah:=fun c' ck=>(h c' ck).mono hq
theorem aA.enter {f:Nat} {fn:Func} {c:Code} {ac:av} {args:List AV} {R:AV→AH→Prop} (L:List Nat) (m:Nat) (hf:P.funcs[f]? =some fn) (hname:fn.name≠ "runtime.NumGoroutine") (hb:fn.body=some c)
 (hc:bR P c=some ac) (ho:rH fn.ntmps ac=true) (hN:args.length≤fn.ntmps) (hm:ah.length≤m)
 (h:nt ah.length ah→(∀a∈args,∀s o,a= .ptr s o→s<ah.length)→U P L fn.ntmps ah.length [.code ac] (NP P m fn.results.toList R) .normal (fL 0 args) ah):aA P f args ah R:=
 aA.Qu L hf hname hb hc ho hN fun h1 h2=>AX.up (fun c' ck=>pV c' ac _ _ _ (by rw [j8 c ac hc];exact ck) (by rw [j8 c ac hc];exact ho) (h h1 h2)) fun x e H hR=> .inl ⟨m,hm,hR⟩
end
end Go.Am
end
section
namespace Go.Am
open Go
variable [Tabs]
def bw (P:Program) (f N:Nat) (rs:List ResultVar) (ac:av):Prop:=
 ∃fn c,P.funcs[f]? =some fn∧fn.name≠ "runtime.NumGoroutine" ∧fn.body=some c∧bR P c=some ac∧fn.ntmps=N∧fn.results.toList=rs
theorem aA.go {P:Program} {f N:Nat} {rs:List ResultVar} {ac:av} (hF:bw P f N rs ac) {args:List AV} {ah:AH} {R:AV→AH→Prop} (L:List Nat) (m:Nat)
 (ho:rH N ac=true) (hN:args.length≤N) (hm:ah.length≤m)
 (h:nt ah.length ah→(∀a∈args,∀s o,a= .ptr s o→s<ah.length)→U P L N ah.length [.code ac] (NP P m rs R) .normal (fL 0 args) ah):aA P f args ah R:=by
 obtain ⟨fn,c,h1,h2,h3,h4,rfl,rfl⟩:=hF
 exact aA.enter L m h1 h2 h3 h4 ho hN hm h
section
variable {P:Program} {L:List Nat} {N n0:Nat} {e:Env} {ah:AH} {t:List It} {Q:Exit→Env→AH→Prop} {r:List aM} {d:Option Nat} {g:Option (Nat×Bool)}
def gOf (want:Bool):AV→Option Bool
 | .bool b=>some (b==want)
 | .bz []=>some false
 |_=>none
theorem Y8 {op:fV}:gV e ⟨d,op,none⟩=some true:=rfl
theorem Y9 {op:fV} {x:Nat} {want:Bool}:gV e ⟨d,op,some (x,want)⟩=gOf want (get e x):=by
 simp only [gV]
 cases get e x with
 |bz cs=>cases cs<;>rfl
 |_=>rfl
theorem Za {want:Bool}:gOf want (.bz [])=some false:=rfl
theorem Ry {b want:Bool}:gOf want (.bool b)=some (b==want):=rfl
theorem adA {x:Ar}:UG P L N n0 ⟨d, .mv x,g⟩ r t Q e ah (some true)=U P L N n0 (It.ops r::t) Q Exit.normal (aF L e d (cp L x (ev e x))) ah:=rfl
def kI (P:Program) (L:List Nat) (N n0:Nat) (e:Env) (ah:AH) (d:Option Nat) (r:List aM) (t:List It) (Q:Exit→Env→AH→Prop) (x:Ar):AV→Prop
 | .sl .own k xs=>match x with
   | .t y=>U P L N n0 (.ops r::t) Q .normal (aF L (put e y (.sl .n k xs)) d (.sl .own k xs)) ah
   | .c a=>U P L N n0 (.ops r::t) Q .normal (aF L e d (cp L (.c a) (.sl .own k xs))) ah
 |a=>U P L N n0 (.ops r::t) Q .normal (aF L e d (cp L x a)) ah
theorem abe {x:Ar}:UG P L N n0 ⟨d, .aO x,g⟩ r t Q e ah (some true)=kI P L N n0 e ah d r t Q x (ev e x):=by
 simp only [UG,bK]
 cases h:ev e x with
 |sl tg k xs=>cases tg<;>cases x<;>rfl
 |_=>rfl
def NR (L:List Nat) (e:Env) (ah:AH) (d:Option Nat) (a b:Ar):AV→Option (Env×AH)
 | .bool t=>some (aF L e d (if t then (ev e a).sh else (ev e b).sh),ah)
 |_=>none
theorem Zb {c a b:Ar}:UG P L N n0 ⟨d, .pick c a b,g⟩ r t Q e ah (some true)=US P L N n0 r t Q (NR L e ah d a b (ev e c)):=by
 simp only [UG,bK];cases ev e c<;>rfl
theorem Vh {cs:List AV}:UG P L N n0 ⟨d, .alloc cs,g⟩ r t Q e ah (some true)=U P L N n0 (.ops r::t) Q .normal (aF L e d (.ptr ah.length 0)) (ah++[cs]):=rfl
theorem abf {x:Ar}:UG P L N n0 ⟨d, .box x,g⟩ r t Q e ah (some true)=US P L N n0 r t Q (if bU (ev e x).cells then some (aF L e d (.ptr ah.length 0),ah++[(ev e x).cells.map AV.bN]) else none):=rfl
theorem Vi {z:List AV} {ps:List (Nat×Nat×Ar)}:UG P L N n0 ⟨d, .build z ps,g⟩ r t Q e ah (some true)=US P L N n0 r t Q ((fill e z ps).map fun cs=>(aF L e d (.agg cs),ah)):=rfl
theorem abg {k:Nat} {ps:List Ar}:UG P L N n0 ⟨d, .gA k ps,g⟩ r t Q e ah (some true)=US P L N n0 r t Q (if ps.all (fun p=>(ev e p).cells.length=k&&bU (ev e p).cells&&gz (ev e p).cells) then some (aF L e d (.sl .ex k (ps.map fun p=>(ev e p).s0)),ah) else none):=rfl
theorem Vj {k:Nat}:UG P L N n0 ⟨d, .nv k [],g⟩ r t Q e ah (some true)=U P L N n0 (.ops r::t) Q .normal (aF L e d (.cr 0 k 0 0)) ah:=rfl
theorem Zc {k:Nat} {z:Ar} {ps:List Ar}:UG P L N n0 ⟨d, .nv k (z::ps),g⟩ r t Q e ah (some true)=US P L N n0 r t Q (if (z::ps).all (fun p=>(ev e p).cells.length=k&&bU (ev e p).cells&&gz (ev e p).cells) then some (aF L e d (.cN ah.length k 0 (z::ps).length),ah++[((z::ps).map fun p=>(ev e p).cells.map AV.s1).flatten]) else none):=rfl
theorem Vk {k:Nat} {p:Ar}:UG P L N n0 ⟨d, .nv k [p],g⟩ r t Q e ah (some true)=US P L N n0 r t Q (if [p].all (fun p=>(ev e p).cells.length=k&&bU (ev e p).cells&&gz (ev e p).cells) then some (aF L e d (.cN ah.length k 0 1),ah++[(ev e p).cells.map AV.s1]) else none):=by
 have h:([p].map fun p=>(ev e p).cells.map AV.s1).flatten=(ev e p).cells.map AV.s1:=by simp
 rw [Zc,h];rfl
theorem afv {y:Nat} {bs:List UInt8}:UG P L N n0 ⟨d, .lit y bs,g⟩ r t Q e ah (some true)=U P L N n0 (It.ops r::t) Q Exit.normal (put (aF L e d (.sl .ex 1 (bs.map b8))) y .un) ah:=rfl
def Vl (L:List Nat) (e:Env) (ah:AH) (d:Option Nat):AV→Option (Env×AH)
 | .ptr s p=>some (aF L e d (.ptr s p),ah)
 | .ep a p=>some (aF L e d (.ep a p),ah)
 |_=>none
theorem abh {x:Ar}:UG P L N n0 ⟨d, .jy x,g⟩ r t Q e ah (some true)=US P L N n0 r t Q (Vl L e ah d (ev e x)):=by
 simp only [UG,bK];cases ev e x<;>rfl
def Vm (L:List Nat) (e:Env) (ah:AH) (d:Option Nat) (q:Nat):AV→Option (Env×AH)
 | .ptr s p=>some (aF L e d (.ptr s (p+q)),ah)
 | .ep a p=>some (aF L e d (.ep a (p+q)),ah)
 |_=>none
theorem abi {x:Ar} {q:Nat}:UG P L N n0 ⟨d, .cj x q,g⟩ r t Q e ah (some true)=US P L N n0 r t Q (Vm L e ah d q (ev e x)):=by
 simp only [UG,bK];cases ev e x<;>rfl
theorem afb {x:Ar} {q:Nat} {n:Option Nat}:UG P L N n0 ⟨d, .Ik x q n,g⟩ r t Q e ah (some true)=US P L N n0 r t Q (bK L ⟨d, .Ik x q n,none⟩ e ah):=by simp only [UG,xB L d _ g]
def Zd (L:List Nat) (d:Option Nat) (n:Option Nat) (s p:Nat) (e:Env) (ah:AH):Option (List AV)→Option (Env×AH)
 |some cs=>(mw n s p cs).map fun a=>(aF L e d a,ah)
 |none=>none
def Rz (L:List Nat) (d:Option Nat) (e:Env) (ah:AH):Option AV→Option (Env×AH)
 |some c=>if c.flat then some (aF L e d c.s1,ah) else none
 |none=>none
def Jj (L:List Nat) (d:Option Nat) (n:Option Nat) (e:Env) (ah:AH):AV→Option (Env×AH)
 | .ptr s p=>Zd L d n s p e ah (ah[s]?)
 | .ep a p=>match n with
   |some n=>if p+n≤a.cells.length∧bP ((a.cells.drop p).take n) then some (aF L e d (.agg (((a.cells.drop p).take n).map AV.s1)),ah) else none
   |none=>Rz L d e ah (a.cells[p]?)
 |_=>none
theorem adB {x:Ar} {n:Option Nat}:UG P L N n0 ⟨d, .ld x n,g⟩ r t Q e ah (some true)=US P L N n0 r t Q (Jj L d n e ah (ev e x)):=by
 simp only [UG,bK]
 cases ev e x with
 |ptr s p=>simp only [Jj,Zd];cases ah[s]? <;>rfl
 |ep a p=>cases n with
  |some n=>rfl
  |none=>simp only [Jj,Rz];cases a.cells[p]? <;>rfl
 |_=>rfl
def jI (s o:Nat):Option AV→Option AV
 |some (.sl .own k xs)=>some (.sl (.fr (.cell s o)) k xs)
 |some a=>if a.flat then some a.bN else none
 |none=>none
theorem fM {s o:Nat} {cs:List AV}:mw none s o cs=jI s o (cs[o]?):=by
 simp only [mw,jI]
 cases cs[o]? with
 |none=>rfl
 |some a=>cases a with
  |sl t k xs=>cases t<;>rfl
  |_=>rfl
theorem fN {n s o:Nat} {cs:List AV}:mw (some n) s o cs=if o+n≤cs.length∧bP ((cs.drop o).take n) then some (.agg (((cs.drop o).take n).map AV.bN)) else none:=rfl
theorem afw {x:Ar} {n:Option Nat}:UG P L N n0 ⟨d, .Bh x n,g⟩ r t Q e ah (some true)=US P L N n0 r t Q (bK L ⟨d, .Bh x n,none⟩ e ah):=by simp only [UG,xB L d _ g]
theorem afU {a x:Ar} {n:Nat}:UG P L N n0 ⟨d, .st a x n,g⟩ r t Q e ah (some true)=US P L N n0 r t Q (bK L ⟨none, .st a x n,none⟩ e ah):=by simp only [UG,bK]
theorem abj {op:BinOp} {x y:Ar}:UG P L N n0 ⟨d, .bin op x y,g⟩ r t Q e ah (some true)=US P L N n0 r t Q ((bl op (ev e x) (ev e y)).map fun a=>(aF L e d a,ah)):=rfl
theorem adC {neq:Bool} {x y:Ar}:UG P L N n0 ⟨d, .bq neq x y,g⟩ r t Q e ah (some true)=US P L N n0 r t Q ((Np (ev e x) (ev e y)).map fun b=>(aF L e d (.bool (if neq then !b else b)),ah)):=rfl
theorem adD {neq:Bool} {x y:Ar}:UG P L N n0 ⟨d, .pq neq x y,g⟩ r t Q e ah (some true)=US P L N n0 r t Q ((Nq (ev e x) (ev e y)).map fun b=>(aF L e d (.bool (if neq then !b else b)),ah)):=rfl
def aaA (L:List Nat) (e:Env) (ah:AH) (d:Option Nat) (ks:List Pk) (neq:Bool):AV→AV→Option (Env×AH)
 | .agg zq, .agg bs=>(cC ks zq bs).map fun b=>(aF L e d (.bool (if neq then !b else b)),ah)
 |_,_=>none
theorem abk {ks:List Pk} {neq:Bool} {x y:Ar}:UG P L N n0 ⟨d, .seq ks neq x y,g⟩ r t Q e ah (some true)=US P L N n0 r t Q (aaA L e ah d ks neq (ev e x) (ev e y)):=by
 simp only [UG,bK];cases ev e x<;>cases ev e y<;>rfl
theorem adE {op:UnOp} {x:Ar}:UG P L N n0 ⟨d, .un op x,g⟩ r t Q e ah (some true)=US P L N n0 r t Q ((Ns op (ev e x)).map fun a=>(aF L e d a,ah)):=rfl
def Qv (L:List Nat) (e:Env) (ah:AH) (d:Option Nat) (p n:Nat) (cs:List AV):Option (Env×AH):=
 if p+n≤cs.length then (bytesOf ((cs.drop p).take n)).map fun l=>(aF L e d (.str l),ah) else none
def Vn (L:List Nat) (e:Env) (ah:AH) (d:Option Nat) (p n:Nat):Option (List AV)→Option (Env×AH)
 |some cs=>Qv L e ah d p n cs
 |none=>none
def Fx (L:List Nat) (e:Env) (ah:AH) (d:Option Nat) (h:Cv):AV→Option (Env×AH)
 | .cN s k p n=>match h with
   | .bs=>if k=1 then Vn L e ah d p n (ah[s]?) else none
   |h=>(fS h (.cN s k p n)).map fun a=>(aF L e d a,ah)
 |a=>(fS h a).map fun a=>(aF L e d a,ah)
theorem abl {h:Cv} {x:Ar}:UG P L N n0 ⟨d, .iS h x,g⟩ r t Q e ah (some true)=US P L N n0 r t Q (Fx L e ah d h (ev e x)):=by
 simp only [UG,bK]
 congr 1
 cases ev e x with
 |cN s k p n=>
  cases h with
  |bs=>
   simp only [Fx]
   split
   · cases ah[s]? <;>rfl
   · rfl
  |_=>rfl
 |_=>cases h<;>rfl
theorem Ze {x:Ar}:UG P L N n0 ⟨d, .KZ x,g⟩ r t Q e ah (some true)=US P L N n0 r t Q ((fS .bs (ev e x)).map fun a=>(aF L e d a,ah)):=rfl
def Vo (L:List Nat) (e:Env) (ah:AH) (d:Option Nat):AV→Option (Env×AH)
 | .str l=>some (aF L e d (.cN ah.length 1 0 l.length),ah++[l.map b8])
 |_=>none
theorem Zf {x:Ar}:UG P L N n0 ⟨d, .um x,g⟩ r t Q e ah (some true)=US P L N n0 r t Q (Vo L e ah d (ev e x)):=by
 simp only [UG,bK];cases ev e x<;>rfl
theorem adF {neq:Bool} {x y:Ar}:UG P L N n0 ⟨d, .iq neq x y,g⟩ r t Q e ah (some true)=US P L N n0 r t Q ((Nr (ev e x) (ev e y)).map fun b=>(aF L e d (.bool (if neq then !b else b)),ah)):=rfl
theorem adG {mx:Bool} {x y:Ar}:UG P L N n0 ⟨d, .mm mx x y,g⟩ r t Q e ah (some true)=US P L N n0 r t Q ((K1 mx (ev e x) (ev e y)).map fun a=>(aF L e d a,ah)):=rfl
theorem abm {f:Nat} {cs:List Ar}:UG P L N n0 ⟨d, .Uk f cs,g⟩ r t Q e ah (some true)=U P L N n0 (It.ops r::t) Q Exit.normal (aF L e d (.fn f (cs.map (ev e)))) ah:=rfl
def wh:AV→Option Nat
 | .int _ i=>if 0≤i then some i.toNat else none
 |_=>none
theorem afx {dflt:Nat}:nr e dflt none=some dflt:=rfl
theorem Vp {dflt:Nat} {x:Ar}:nr e dflt (some x)=wh (ev e x):=by
 simp only [nr];cases ev e x<;>rfl
def Qw (L:List Nat) (e:Env) (ah:AH) (d:Option Nat) (l:List UInt8):Option Nat→Option Nat→Option (Env×AH)
 |some i,some j=>if i≤j∧j≤l.length then some (aF L e d (.str ((l.take j).drop i)),ah) else none
 |_,_=>none
def Qx (L:List Nat) (e:Env) (ah:AH) (d:Option Nat) (lo hi:Option Ar):AV→Option (Env×AH)
 | .str l=>Qw L e ah d l (nr e 0 lo) (nr e l.length hi)
 |_=>none
theorem abn {x:Ar} {lo hi:Option Ar}:UG P L N n0 ⟨d, .mh x lo hi,g⟩ r t Q e ah (some true)=US P L N n0 r t Q (Qx L e ah d lo hi (ev e x)):=by
 simp only [UG,bK]
 cases ev e x with
 |str l=>simp only [Qx,Qw];cases nr e 0 lo<;>cases nr e l.length hi<;>rfl
 |_=>rfl
def Qy (L:List Nat) (e:Env) (ah:AH) (d:Option Nat) (k k':Nat) (xs:List AV):Option Nat→Option Nat→Option (Env×AH)
 |some i,some j=>if k'=k∧i≤j∧j≤xs.length then some (aF L e d (.sl .n k ((xs.take j).drop i)),ah) else none
 |_,_=>none
def Qz (L:List Nat) (e:Env) (ah:AH) (d:Option Nat) (k:Nat) (lo hi:Option Ar):AV→Option (Env×AH)
 | .sl _ k' xs=>Qy L e ah d k k' xs (nr e 0 lo) (nr e xs.length hi)
 |_=>none
theorem abo {k:Nat} {x:Ar} {lo hi:Option Ar}:UG P L N n0 ⟨d, .slc k x lo hi none,g⟩ r t Q e ah (some true)=US P L N n0 r t Q (Qz L e ah d k lo hi (ev e x)):=by
 simp only [UG,bK]
 cases ev e x with
 |sl t k' xs=>simp only [Qz,Qy];cases nr e 0 lo<;>cases nr e xs.length hi<;>rfl
 |_=>rfl
def Jk (L:List Nat) (e:Env) (ah:AH) (d:Option Nat) (k k':Nat) (xs:List AV):Option Nat→Option Nat→Option Nat→Option (Env×AH)
 |some i,some j,some m=>if k'=k∧i≤j∧j=m∧m≤xs.length then some (aF L e d (.sl .ex k ((xs.take j).drop i)),ah) else none
 |_,_,_=>none
def Jl (L:List Nat) (e:Env) (ah:AH) (d:Option Nat) (k:Nat) (lo:Option Ar) (hi m:Ar):AV→Option (Env×AH)
 | .sl _ k' xs=>Jk L e ah d k k' xs (nr e 0 lo) (nr e xs.length (some hi)) (nr e 0 (some m))
 |_=>none
theorem Zg {k:Nat} {x:Ar} {lo:Option Ar} {hi m:Ar}:UG P L N n0 ⟨d, .slc k x lo (some hi) (some m),g⟩ r t Q e ah (some true)=US P L N n0 r t Q (Jl L e ah d k lo hi m (ev e x)):=by
 simp only [UG,bK]
 cases ev e x with
 |sl t k' xs=>
  simp only [Jl,Jk]
  cases nr e 0 lo with
  |none=>rfl
  |some i=>
   cases nr e xs.length (some hi) with
   |none=>rfl
   |some j=>
    simp only [Option.isNone_some,Bool.false_eq_true,if_false]
    cases nr e 0 (some m)<;>rfl
 |_=>rfl
def QA (L:List Nat) (e:Env) (ah:AH) (d:Option Nat) (k k':Nat):Option AV→Option (Env×AH)
 |some a=>if k'=k then some (aF L e d (.ep a 0),ah) else none
 |none=>none
def uv (L:List Nat) (e:Env) (ah:AH) (d:Option Nat) (k:Nat):AV→AV→Option (Env×AH)
 | .sl _ k' xs, .int _ i=>if 0≤i then QA L e ah d k k' (xs[i.toNat]?) else none
 | .cN s k' p n, .int _ i=>if 0≤i∧i<n∧k'=k then some (aF L e d (.ptr s (p+i.toNat*k)),ah) else none
 | .cr s k' n _, .int _ i=>if 0≤i∧i<n∧k'=k then some (aF L e d (.ptr s (i.toNat*k)),ah) else none
 |_,_=>none
def Lx (L:List Nat) (e:Env) (ah:AH) (d:Option Nat) (k m:Nat):AV→AV→Option (Env×AH)
 | .ptr s p, .int _ i=>if 0≤i∧i<m then some (aF L e d (.ptr s (p+i.toNat*k)),ah) else none
 | .ep a p, .int _ i=>if 0≤i∧i<m then some (aF L e d (.ep a (p+i.toNat*k)),ah) else none
 |_,_=>none
theorem abp {k m:Nat} {x i:Ar}:UG P L N n0 ⟨d, .Ul k m x i,g⟩ r t Q e ah (some true)=US P L N n0 r t Q (Lx L e ah d k m (ev e x) (ev e i)):=by
 simp only [UG,bK]
 cases ev e x with
 |ptr s p=>cases ev e i<;>rfl
 |ep a p=>cases ev e i<;>rfl
 |_=>cases ev e i<;>rfl
def QB (L:List Nat) (e:Env) (ah:AH) (d:Option Nat) (u k:Nat) (xs:List AV):AV→Option (Env×AH)
 | .sl .own k2 zs=>if k2=k then some (aF L (put e u (.sl .n k2 zs)) d (.sl .own k xs),ah) else none
 |_=>none
def Ly (L:List Nat) (e:Env) (ah:AH) (d:Option Nat) (k:Nat):AV→Option (Env×AH)
 | .sl .ex k' []=>if k'=k then some (aF L e d (.cr 0 k 0 0),ah) else none
 | .cr s k' n c=>some (aF L e d (.cr s k' n c),ah)
 | .sl (.fr (.tmp u)) k' xs=>QB L e ah d u k' xs (get e u)
 |_=>none
theorem abr {k:Nat} {x:Ar}:UG P L N n0 ⟨d, .yJ k x,g⟩ r t Q e ah (some true)=US P L N n0 r t Q (Ly L e ah d k (ev e x)):=by
 simp only [UG,bK]
 cases ev e x with
 |sl t k' xs=>cases t<;>cases xs<;>rfl
 |_=>rfl
theorem abt {k:Nat} {x i:Ar}:UG P L N n0 ⟨d, .mj k x i,g⟩ r t Q e ah (some true)=US P L N n0 r t Q (uv L e ah d k (ev e x) (ev e i)):=by
 simp only [UG,bK]
 cases ev e x with
 |sl t k' xs=>cases ev e i with
  |int ki n=>simp only [uv,QA];cases xs[n.toNat]? <;>rfl
  |_=>rfl
 |cN s k' p n=>cases ev e i<;>rfl
 |cr s k' n c=>cases ev e i<;>rfl
 |_=>cases ev e i<;>rfl
def Vq (L:List Nat) (e:Env) (ah:AH) (d:Option Nat):Option UInt8→Option (Env×AH)
 |some c=>some (aF L e d (b8 c),ah)
 |none=>none
def Lz (L:List Nat) (e:Env) (ah:AH) (d:Option Nat):AV→AV→Option (Env×AH)
 | .str l, .int _ i=>if 0≤i then Vq L e ah d (l[i.toNat]?) else none
 |_,_=>none
theorem abu {x i:Ar}:UG P L N n0 ⟨d, .ixs x i,g⟩ r t Q e ah (some true)=US P L N n0 r t Q (Lz L e ah d (ev e x) (ev e i)):=by
 simp only [UG,bK]
 cases ev e x with
 |str l=>cases ev e i with
  |int ki n=>simp only [Lz,Vq];cases l[n.toNat]? <;>rfl
  |_=>rfl
 |_=>cases ev e i<;>rfl
theorem afc {l:List UInt8} {i j:Nat}:Qw L e ah d l (some i) (some j)=if i≤j∧j≤l.length then some (aF L e d (.str ((l.take j).drop i)),ah) else none:=rfl
theorem afd {k k' i j:Nat} {xs:List AV}:Qy L e ah d k k' xs (some i) (some j)=if k'=k∧i≤j∧j≤xs.length then some (aF L e d (.sl .n k ((xs.take j).drop i)),ah) else none:=rfl
theorem adH {k k' i j m:Nat} {xs:List AV}:Jk L e ah d k k' xs (some i) (some j) (some m)=if k'=k∧i≤j∧j=m∧m≤xs.length then some (aF L e d (.sl .ex k ((xs.take j).drop i)),ah) else none:=rfl
theorem afe {k k':Nat} {a:AV}:QA L e ah d k k' (some a)=if k'=k then some (aF L e d (.ep a 0),ah) else none:=rfl
theorem aff {c:UInt8}:Vq L e ah d (some c)=some (aF L e d (b8 c),ah):=rfl
theorem abv {n:Option Nat} {s p:Nat} {cs:List AV}:Zd L d n s p e ah (some cs)=(mw n s p cs).map fun a=>(aF L e d a,ah):=rfl
theorem abw {c:AV}:Rz L d e ah (some c)=if c.flat then some (aF L e d c.s1,ah) else none:=rfl
theorem afg {α:Type} {c:Prop} [Decidable c] {x:Option α} (h:c):(if c then x else none)=x:=by rw [if_pos h]
theorem adI {α:Type} {c:Prop} [Decidable c] {x:Option α} (h:¬c):(if c then none else x)=x:=by rw [if_neg h]
theorem afy {x:Ar} {i:Nat}:UG P L N n0 ⟨d, .ext x i,g⟩ r t Q e ah (some true)=US P L N n0 r t Q (bK L ⟨d, .ext x i,none⟩ e ah):=by simp only [UG,xB L d _ g]
theorem afz {x:Ar}:UG P L N n0 ⟨d, .len x,g⟩ r t Q e ah (some true)=US P L N n0 r t Q (bK L ⟨d, .len x,none⟩ e ah):=by simp only [UG,xB L d _ g]
theorem afh {x:Ar}:UG P L N n0 ⟨d, .lens x,g⟩ r t Q e ah (some true)=US P L N n0 r t Q (bK L ⟨d, .lens x,none⟩ e ah):=by simp only [UG,xB L d _ g]
def Vr (L:List Nat) (e:Env) (ah:AH) (d:Option Nat) (k b:Nat) (x:Ar):AV→Option (Env×AH)
 | .sl _ k' ys=>if k'=k then zm L e ah d k b x ys else none
 |_=>none
theorem abx {k b:Nat} {x y:Ar}:UG P L N n0 ⟨d, .app k b x y,g⟩ r t Q e ah (some true)=US P L N n0 r t Q (Vr L e ah d k b x (ev e y)):=by
 simp only [UG,bK];cases ev e y<;>rfl
def Vs (L:List Nat) (e:Env) (ah:AH) (d:Option Nat) (b:Nat) (x:Ar):AV→Option (Env×AH)
 | .str l=>zm L e ah d 1 b x (l.map b8)
 |_=>none
theorem Zh {b:Nat} {x y:Ar}:UG P L N n0 ⟨d, .apps b x y,g⟩ r t Q e ah (some true)=US P L N n0 r t Q (Vs L e ah d b x (ev e y)):=by
 simp only [UG,bK];cases ev e y<;>rfl
theorem Zi {f:Ar} {zq:List Ar}:UG P L N n0 ⟨d, .call f zq,g⟩ r t Q e ah (some true)=UF P L N n0 zq d r t Q e ah (ev e f):=rfl
theorem adJ {o:aM} {b:Bool}:UG P L N n0 o r t Q e ah (some b)=if b then (UG P L N n0 o r t Q e ah (some true)) else U P L N n0 (.ops r::t) Q .normal (qc e o.d) ah:=by
 cases b<;>rfl
theorem ac7 {o:aM} {b:Bool} (h1:b=true→UG P L N n0 o r t Q e ah (some true)) (h2:b=false→U P L N n0 (.ops r::t) Q .normal (qc e o.d) ah):UG P L N n0 o r t Q e ah (some b):=by
 cases b
 · exact h2 rfl
 · exact h1 rfl
end
end Go.Am
namespace Go.Am
open Go
variable [Tabs]
theorem nt.set {n:Nat} {ah:AH} (h:nt n ah) {s:Nat} {cs:List AV} (hc:∀a∈cs,Cl n a):nt n (ah.set s cs):=by
 intro t ds ht a ha
 rw [List.getElem?_set] at ht
 split at ht
 · split at ht
   · injection ht with ht;subst ht;exact hc a ha
   · cases ht
 · exact h t ds ht a ha
theorem NP.old {P:Program} {n:Nat} {rs:List ResultVar} {R:AV→AH→Prop} {x:Exit} {e:Env} {ah:AH} {vs:List AV} (hx:x= .normal∨x= .ret) (hr:gX P e ah rs=some vs)
 (hc:Cl n (fin vs)) (hh:nt n ah) (hn:ah.length=n) (h:R (fin vs) ah):NP P n rs R x e ah:=by
 refine ⟨hx, ?_⟩
 rw [hr]
 have:ah.take n=ah:=List.take_of_length_le (by omega)
 simp only [this]
 exact ⟨hc,hh,by omega,h⟩
theorem w64 {n:Int} (h1: -9223372036854775808≤n) (h2:n≤9223372036854775807):IntKind.wrap .i64 n=n:=by
 simp only [IntKind.wrap,IntKind.bits,IntKind.signed,Bool.true_and,decide_eq_true_eq,Int.reducePow,Nat.reduceSub,ge_iff_le]
 split<;>omega
theorem w8 {n:Int} (h1:0≤n) (h2:n≤255):IntKind.wrap .u8 n=n:=by
 simp only [IntKind.wrap,IntKind.bits,IntKind.signed,Bool.false_and,if_false,Bool.false_eq_true]
 omega
theorem aaB {j:Nat}:((j:Int)+1).toNat=j+1:=by omega
theorem afA {P:Program} {L:List Nat} {N n0:Nat} {t:List It} {Q:Exit→Env→AH→Prop} {r:List aM} {c:Prop} [Decidable c] {x:Option (Env×AH)} (h:c):
 US P L N n0 r t Q (if c then x else none)=US P L N n0 r t Q x:=by rw [if_pos h]
theorem map_if {α β:Type} {f:α→β} {c:Prop} [Decidable c] {x:Option α} (h:c):Option.map f (if c then x else none)=Option.map f x:=by rw [if_pos h]
theorem LA {L:List Nat} {d:Option Nat} {k b:Nat} {x y:Ar} {e:Env} {ah:AH} {K K':Env→AH→Prop} (h:pX L d k b x y e ah K) (hk:∀e ah,K e ah→K' e ah):pX L d k b x y e ah K':=by
 unfold pX at h ⊢
 split at h
 · obtain ⟨h1,h2,h3,h4,h5,h6⟩:=h
   refine ⟨h1,h2,h3,h4,h5, ?_⟩
   rcases h6 with ⟨g1,g2,g3⟩|⟨cs,g1,g2,g3,g4,g5,g6,g7⟩
   · exact .inl ⟨g1,g2,fun c hc=>hk _ _ (g3 c hc)⟩
   · exact .inr ⟨cs,g1,g2,g3,g4,g5,fun h=>hk _ _ (g6 h),fun h c hc=>hk _ _ (g7 h c hc)⟩
 · exact h
theorem RA {L:List Nat} {d:Option Nat} {n:Bool} {x:Ar} {e:Env} {ah:AH} {K K':Env→AH→Prop} (h:E8 L d n x e ah K) (hk:∀e ah,K e ah→K' e ah):E8 L d n x e ah K':=by
 unfold E8 at h ⊢
 split at h
 · exact ⟨fun h0 b=>hk _ _ (h.1 h0 b),fun h0=>hk _ _ (h.2 h0)⟩
 · exact h
theorem NS {P:Program} {L:List Nat}:∀(l:List aM) {K K':Env→AH→Prop} {e:Env} {ah:AH},e6 P L l e ah K→(∀e ah,K e ah→K' e ah)→e6 P L l e ah K':=by
 intro l
 induction l with
 |nil=>intro K K' e ah h hk;exact hk _ _ h
 |cons o r ih=>
  intro K K' e ah h hk
  simp only [e6] at h ⊢
  split at h
  · rename_i hg
    obtain ⟨d,op,g⟩:=o
    cases op with
    |call f zq=>
     simp only [Bu] at h ⊢
     split at h
     · exact ⟨h.1,h.2.mono fun v aE h=>ih h hk⟩
     · exact h
    |mu k b x y=>
     have h':pX L d k b x y e ah (fun e ah=>e6 P L r e ah K):=h
     exact LA h' fun e ah h=>ih h hk
    |nq n x=>
     have h':E8 L d n x e ah (fun e ah=>e6 P L r e ah K):=h
     exact RA h' fun e ah h=>ih h hk
    |_=>
     simp only [Bu] at h ⊢
     split at h
     · exact ih h hk
     · exact h
  · exact ih h hk
  · exact h
theorem LB {P:Program} {L:List Nat} {N n0:Nat}:∀(c:av) {Q Q':Exit→Env→AH→Prop} {e:Env} {ah:AH},kS P L N n0 c Q e ah→(∀x e ah,Q x e ah→Q' x e ah)→kS P L N n0 c Q' e ah:=by
 intro c
 induction c with
 |skip=>intro Q Q' e ah h hq;exact hq _ _ _ h
 |ret=>intro Q Q' e ah h hq;exact hq _ _ _ h
 |exit i=>intro Q Q' e ah h hq;exact hq _ _ _ h
 |rg ops=>intro Q Q' e ah h hq;exact NS ops h fun e ah h=>hq _ _ _ h
 |seq a b Fv Fw=>
  intro Q Q' e ah h hq
  refine Fv h fun x e ah h=> ?_
  cases x with
  |normal=>exact Fw h hq
  |_=>exact hq _ _ _ h
 |cond c a b Fv Fw=>
  intro Q Q' e ah h hq
  simp only [kS] at h ⊢
  split at h
  · split at h
    · rename_i h1;rw [if_pos h1];exact Fv h hq
    · rename_i h1;rw [if_neg h1];exact Fw h hq
  · exact h.elim
 |blk i c ih=>
  intro Q Q' e ah h hq
  refine ih h fun x e ah h=> ?_
  cases x with
  |exit j=>
   simp only at h ⊢
   split at h
   · rename_i h1;rw [if_pos h1];exact hq _ _ _ h
   · rename_i h1;rw [if_neg h1];exact hq _ _ _ h
  |_=>exact hq _ _ _ h
 |loop c ih=>
  intro Q Q' e ah h hq
  exact fun c' ck=>(h c' ck).mono hq
 |sem c ih=>
  intro Q Q' e ah h hq
  exact fun c' ck=>(h c' ck).mono hq
theorem Zj {P:Program} {L:List Nat} {N n0:Nat} {c:av} {Q Q':Exit→Env→AH→Prop} {e:Env} {ah:AH} (h:U P L N n0 [.code c] Q .normal e ah) (hq:∀x e ah,Q x e ah→Q' x e ah):U P L N n0 [.code c] Q' .normal e ah:=
 LB c h hq
theorem Vt {e e2:Env} (h:∀p∈e2,p.2= .un∨Am.get e p.1=p.2∨∃t k xs,Am.get e p.1= .sl t k xs∧p.2= .sl .n k xs):∀t,Wk (Am.get e t) (Am.get e2 t):=by
 intro t
 have key:∀e2:Env,Am.get e2 t= .un∨∃p∈e2,p.1=t∧Am.get e2 t=p.2:=by
  intro e2
  induction e2 with
  |nil=>exact .inl rfl
  |cons p r ih=>
   obtain ⟨i,a⟩:=p
   simp only [Am.get]
   split
   · rename_i h;exact .inr ⟨(i,a),by simp,h,rfl⟩
   · rcases ih with h|⟨p,hp,h1,h2⟩
     · exact .inl h
     · exact .inr ⟨p,List.mem_cons_of_mem _ hp,h1,h2⟩
 rcases key e2 with h0|⟨p,hp,rfl,h2⟩
 · rw [h0];exact .un _
 · rw [h2]
   rcases h p hp with h3|h3|⟨tg,k,xs,h3,h4⟩
   · rw [h3];exact .un _
   · rw [h3];exact .same _
   · rw [h3,h4];exact .n ..
def CJ (e e2:Env):Prop:=∀p∈e2,p.2= .un∨Am.get e p.1=p.2∨∃t k xs,Am.get e p.1= .sl t k xs∧p.2= .sl .n k xs
theorem RB {P:Program} {L:List Nat} {N n0:Nat} {e:Env} {ah:AH} {t:List It} {Q:Exit→Env→AH→Prop} {c:av} (J:Nat→Env→AH→Prop) (k0:Nat) (e0:Env) (ho:rH N c=true)
 (hw:∀p∈e0,p.2= .un∨Am.get e p.1=p.2∨∃t k xs,Am.get e p.1= .sl t k xs∧p.2= .sl .n k xs) (h0:J k0 e0 ah)
 (round:∀k e ah,J k e ah→U P L N n0 [.code c] (fun x e' aE=>match x with
  | .normal=>∃k' e2,k'<k∧(∀p∈e2,p.2= .un∨Am.get e' p.1=p.2∨∃t k xs,Am.get e' p.1= .sl t k xs∧p.2= .sl .n k xs)∧J k' e2 aE
  |x=>U P L N n0 t Q x e' aE) .normal e ah):
 UX P L N n0 (.loop c) t Q e ah:=by
 intro c'
 induction c' with
 |loop c0 _=>
  intro ck
  simp only [bR,Option.map_eq_some_iff] at ck
  obtain ⟨a,ha,he⟩:=ck
  injection he with he
  subst he
  refine AW.loop (fun k e ah=>∃e1,(∀t,Wk (Am.get e t) (Am.get e1 t))∧J k e1 ah) (k0:=k0) ?_ ⟨e0,Vt hw,h0⟩
  rintro k e ah ⟨e1,hw1,hJ⟩
  refine AW.weak hw1 (pV c0 a _ e1 ah (by rw [j8 c0 a ha];exact ha) (by rw [j8 c0 a ha];exact ho) ?_)
  have:=round k e1 ah hJ
  refine Zj this fun x e' aE h=> ?_
  cases x with
  |normal=>obtain ⟨k',e2,h1,h2,h3⟩:=h;exact ⟨k',h1,e2,Vt h2,h3⟩
  |_=>exact h
 |scope c0 ih=>exact fun ck=>AW.scope (ih ck)
 |region id ops draw=>intro ck;simp only [bR] at ck;repeat' (split at ck)<;>simp at ck
 |block i c0=>intro ck;simp only [bR,Option.map_eq_some_iff] at ck;obtain ⟨a, -,h⟩:=ck;cases h
 |seq a b=>intro ck;simp only [bR] at ck;split at ck<;>simp at ck
 |cond a b c=>intro ck;simp only [bR] at ck;split at ck<;>simp at ck
 |_=>intro ck;simp [bR] at ck
theorem ac8 {P:Program} {L:List Nat} {N n0:Nat} {e:Env} {ah:AH} {t:List It} {Q:Exit→Env→AH→Prop} {c:av} (J:Nat→Env→AH→Prop) (k0:Nat) (e0:Env) (ho:rH N c=true)
 (hw:CJ e e0) (h0:J k0 e0 ah)
 (round:∀(K:Exit→Env→AH→Prop) k e ah,J k e ah→(∀k' e' e2 aE,k'<k→CJ e' e2→J k' e2 aE→K .normal e' aE)→(∀e' aE,U P L N n0 t Q .ret e' aE→K .ret e' aE)→
  (∀i e' aE,U P L N n0 t Q (.exit i) e' aE→K (.exit i) e' aE)→U P L N n0 [.code c] K .normal e ah):UX P L N n0 (.loop c) t Q e ah:=
 RB J k0 e0 ho hw h0 fun k e ah hJ=>round _ k e ah hJ (fun k' e' e2 aE h1 h2 h3=>⟨k',e2,h1,h2,h3⟩) (fun _ _ h=>h) (fun _ _ _ h=>h)
theorem CJ.nil {e:Env}:CJ e []:=by intro p hp;cases hp
theorem CJ.same {e r:Env} {i:Nat} {a:AV} (h:Am.get e i=a) (hr:CJ e r):CJ e ((i,a)::r):=by
 intro p hp
 rcases List.mem_cons.1 hp with rfl|hp
 · exact .inr (.inl h)
 · exact hr p hp
theorem CJ.un {e r:Env} {i:Nat} (hr:CJ e r):CJ e ((i, .un)::r):=by
 intro p hp
 rcases List.mem_cons.1 hp with rfl|hp
 · exact .inl rfl
 · exact hr p hp
theorem CJ.sl {e r:Env} {i k:Nat} {tg:Tg} {xs:List AV} (h:Am.get e i= .sl tg k xs) (hr:CJ e r):CJ e ((i, .sl .n k xs)::r):=by
 intro p hp
 rcases List.mem_cons.1 hp with rfl|hp
 · exact .inr (.inr ⟨_,_,_,h,rfl⟩)
 · exact hr p hp
theorem aA.weak {P:Program} {f:Nat} {args args':List AV} {ah:AH} {R:AV→AH→Prop} (hl:args'.length=args.length) (hw:∀(i:Nat) (a a':AV),args[i]? =some a→args'[i]? =some a'→Wk a a') (h:aA P f args' ah R):
 aA P f args ah R:=by
 refine ⟨h.1,fun F γ C w vs hs=>h.2 F γ C w vs ?_⟩
 rw [hl]
 refine hs.wk fun t=> ?_
 rw [dH,dH]
 simp only [Nat.zero_le,if_true,Nat.sub_zero]
 cases h1:args[t]? with
 |none=>
  have:args'[t]? =none:=by
   rw [List.getElem?_eq_none_iff] at h1 ⊢
   omega
  rw [this];exact .same _
 |some a=>
  have hlt:t<args'.length:=by rw [hl];exact (List.getElem?_eq_some_iff.1 h1).1
  rw [List.getElem?_eq_getElem hlt]
  exact hw t a _ h1 (List.getElem?_eq_getElem hlt)
theorem LC:∀l:List UInt8,bytesOf (l.map b8)=some l:=by
 intro l
 induction l with
 |nil=>rfl
 |cons c r ih=>
  simp only [List.map_cons,b8,bytesOf]
  rw [ih]
  simp
theorem RC {ah:AH} {i:Nat} {x:List AV} (h:ah[i]? =some x):ah.set i x=ah:=by
 have hlt:=(List.getElem?_eq_some_iff.1 h).1
 apply List.ext_getElem?
 intro j
 rw [List.getElem?_set]
 split
 · rename_i hj;subst hj;simp only [h,ite_eq_left_iff];try exact fun h0=>absurd hlt h0
 · rfl
theorem NP.new {P:Program} {n:Nat} {rs:List ResultVar} {R:AV→AH→Prop} {x:Exit} {e:Env} {ah aE:AH} {vs:List AV} (hx:x= .normal∨x= .ret) (hr:gX P e ah rs=some vs) (ht:ah.take n=aE)
 (hc:Cl n (fin vs)) (hh:nt n aE) (hn:n≤ah.length) (h:R (fin vs) aE):NP P n rs R x e ah:=by
 refine ⟨hx, ?_⟩
 rw [hr]
 simp only [ht]
 exact ⟨hc,hh,hn,h⟩
theorem CK {P:Program} {e:Env} {ah:AH}:gX P e ah []=some []:=rfl
theorem yB {P:Program} {e:Env} {ah:AH} {t:Nat} {rs:List ResultVar} {a:AV} {vs:List AV} (h:Am.get e t=a) (ht:a.fo=false) (hr:gX P e ah rs=some vs):gX P e ah (.tmp t::rs)=some (a::vs):=by
 subst h
 simp only [gX,ht,hr,Bool.false_eq_true,if_false]
theorem ei {P:Program} {e:Env} {ah:AH} {a:Nat} {ty:TypeId} {n:Option Nat} {rs:List ResultVar} {s o:Nat} {cs vs:List AV} {v:AV} (ht:tok P ty=true) (hn:tn P ty=n) (h:Am.get e a= .ptr s o) (hs:ah[s]? =some cs)
 (hl:mw n s o cs=some v) (hr:gX P e ah rs=some vs):gX P e ah (.cell a ty::rs)=some (v.sh::vs):=by
 subst hn
 simp only [gX,ht,if_true,h,hs,hl,hr]
theorem aA.wkR {P:Program} {f:Nat} {args:List AV} {ah:AH} {R R':AV→AH→Prop} (h:aA P f args ah R) (hr:∀r aE,R r aE→∃r',Wk r r'∧R' r' aE):aA P f args ah R':=by
 refine ⟨h.1,fun F γ C w vs hs=>(h.2 F γ C w vs hs).mono ?_⟩
 rintro en w' ⟨r,v,aE,γ',C',rfl,h1,h2,h3,h4⟩
 obtain ⟨r',g1,g2⟩:=hr r aE h1
 refine ⟨r',v,aE,γ',C',rfl,g2,h2,h3.wk fun t=> ?_,h4⟩
 simp only [Am.get]
 split
 · exact g1
 · exact .same _
theorem Cl.up {n:Nat} {a:AV} (h:Cl n a) {m:Nat} (hm:n≤m):Cl m a:=by
 induction h with
 |ptr s o hs=>exact .ptr _ _ (by omega)
 |fn f cs _ ih=>exact .fn _ _ fun a ha=>ih a ha
 |agg cs _ ih=>exact .agg _ fun a ha=>ih a ha
 |bz cs _ ih=>exact .bz _ fun a ha=>ih a ha
 |v=>exact .v _
 |int=>exact .int ..
 |bool=>exact .bool _
 |str=>exact .str _
 |sl=>exact .sl ..
 |ep e o _ ih=>exact .ep _ _ fun a ha=>ih a ha
 |cN s k o n hs=>exact .cN _ _ _ _ (by omega)
 |p6=>exact .p6 ..
 |cr s k o n hs=>exact .cr _ _ _ _ (by omega)
 |eG=>exact .eG
 |dy=>exact .dy _
 |dn=>exact .dn ..
 |un=>exact .un
theorem nt.up {n m:Nat} {ah:AH} (h:nt n ah) (hm:n≤m):nt m ah:=fun s cs hs a ha=>(h s cs hs a ha).up hm
theorem nt.app {n:Nat} {ah rG:AH} (h:nt n ah) (h2:nt n rG):nt n (ah++rG):=by
 intro s cs hs a ha
 rw [List.getElem?_append] at hs
 split at hs
 · exact h s cs hs a ha
 · exact h2 _ cs hs a ha
theorem nt.one {n:Nat} {cs:List AV} (h:∀a∈cs,Cl n a):nt n [cs]:=by
 intro s ds hs a ha
 rcases s with _|s
 · simp at hs;subst hs;exact h a ha
 · simp at hs
end Go.Am
end
section
namespace Go.Am
open Go
variable [Tabs]
def W1 (a a':AV):Prop:=a'=a∨∃t k xs,a= .sl t k xs∧a'= .sl .n k xs
theorem W1.w {a a':AV} (h:W1 a a'):a'=a∨(∃t k xs,a= .sl t k xs∧a'= .sl .n k xs)∨a'= .un:=h.elim .inl fun h=> .inr (.inl h)
def eV:List AV→List AV→Prop
 |[],[]=>True
 |a::r,a'::r'=>W1 a a'∧eV r r'
 |_,_=>False
theorem eV.len:∀ {cs cs':List AV},eV cs cs'→cs'.length=cs.length:=by
 intro cs
 induction cs with
 |nil=>intro cs' h;cases cs' with|nil=>rfl|cons=>exact h.elim
 |cons a r ih=>intro cs' h;cases cs' with|nil=>exact h.elim|cons a' r'=>simp [ih h.2]
theorem eV.get:∀ {cs cs':List AV},eV cs cs'→∀(i:Nat) (a a':AV),cs[i]? =some a→cs'[i]? =some a'→W1 a a':=by
 intro cs
 induction cs with
 |nil=>intro cs' _ i a a' h;simp at h
 |cons a r ih=>
  intro cs' h i b b' h1 h2
  cases cs' with
  |nil=>exact h.elim
  |cons a' r'=>
   rcases i with _|i
   · simp at h1 h2;subst h1;subst h2;exact h.1
   · exact ih h.2 i b b' (by simpa using h1) (by simpa using h2)
def W2 (a a':AV):Prop:=W1 a a'∨∃ds ds',a= .agg ds∧a'= .agg ds'∧eV ds ds'
def pH:List AV→List AV→Prop
 |[],[]=>True
 |a::r,a'::r'=>W2 a a'∧pH r r'
 |_,_=>False
theorem pH.len:∀ {cs cs':List AV},pH cs cs'→cs'.length=cs.length:=by
 intro cs
 induction cs with
 |nil=>intro cs' h;cases cs' with|nil=>rfl|cons=>exact h.elim
 |cons a r ih=>intro cs' h;cases cs' with|nil=>exact h.elim|cons a' r'=>simp [ih h.2]
theorem pH.get:∀ {cs cs':List AV},pH cs cs'→∀(i:Nat) (a a':AV),cs[i]? =some a→cs'[i]? =some a'→W2 a a':=by
 intro cs
 induction cs with
 |nil=>intro cs' _ i a a' h;simp at h
 |cons a r ih=>
  intro cs' h i b b' h1 h2
  cases cs' with
  |nil=>exact h.elim
  |cons a' r'=>
   rcases i with _|i
   · simp at h1 h2;subst h1;subst h2;exact h.1
   · exact ih h.2 i b b' (by simpa using h1) (by simpa using h2)
theorem W2.wk {a a':AV} (h:W2 a a'):Wk a a':=by
 rcases h with (rfl|⟨t,k,xs,rfl,rfl⟩)|⟨ds,ds',rfl,rfl,h⟩
 · exact .same _
 · exact .n ..
 · exact .agg _ _ h.len fun i a b h1 h2=>(h.get i a b h1 h2).w
theorem W2.tcy {a a':AV} {v:Value} (h:W2 a a') (ht:I5 a v):I5 a' v:=by
 rcases h with (rfl|⟨t,k,xs,rfl,rfl⟩)|⟨ds,ds',rfl,rfl,h⟩
 · exact ht
 · exact Uo ..
 · cases v with
   |agg vs=>
    intro i a' hi
    have hlt:i<ds.length:=by rw [←h.len];exact (List.getElem?_eq_some_iff.1 hi).1
    rcases h.get i _ _ (List.getElem?_eq_getElem hlt) hi with e|⟨t,k,xs,e1,rfl⟩
    · rw [e];exact ht i _ (List.getElem?_eq_getElem hlt)
    · exact I6 ..
   |_=>trivial
inductive Wx:AV→AV→Prop
 |wk (a a'):Wk a a'→(∀l k xs,a'≠ .sl (.fr l) k xs)→Wx a a'
 |own (k xs):Wx (.sl .ex k xs) (.sl .own k xs)
 |QC (cs cs'):pH cs cs'→Wx (.bz cs) (.bz cs')
def wU (cs cs':List AV):Prop:=cs'.length=cs.length∧∀(i:Nat) (a a':AV),cs[i]? =some a→cs'[i]? =some a'→Wx a a'
def gr (ah aE:AH):Prop:=aE.length=ah.length∧∀(s:Nat) (cs':List AV),aE[s]? =some cs'→∃cs,ah[s]? =some cs∧(cs'=cs∨wU cs cs')
def WS (e:Env) (ah:AH) (e1:Env) (cc:AH):Prop:=(∀t,Wx (get e t) (get e1 t))∧gr ah cc
theorem Wx.vr {C:Nat→List Value} {γ:List Nat} {a a':AV} {v:Value} (hw:Wx a a') (h:VR C γ a v):VR C γ a' v:=by
 cases hw with
 |wk _ _ hk=>exact hk.vr h
 |own=>exact h.kR _
 |QC cs cs' hc=>
  obtain ⟨vs,rfl,hs,hv⟩:=h.xm
  refine .bz _ _ _ (by rw [hc.len];exact hs) fun i a' hi=> ?_
  have hlt:i<cs.length:=by rw [←hc.len];exact (List.getElem?_eq_some_iff.1 hi).1
  exact (hc.get i _ _ (List.getElem?_eq_getElem hlt) hi).wk.vr (hv i _ (List.getElem?_eq_getElem hlt))
theorem Wx.tc {w:World} {C:Nat→List Value} {γ:List Nat} {a a':AV} {v:Value} (hw:Wx a a') (hv:VR C γ a v) (h:TC w C a v):TC w C a' v:=by
 cases hw with
 |wk _ _ hk=>exact hk.tc h
 |own k xs=>
  obtain ⟨ad,c,rfl, -⟩:=hv.ff
  exact .inl h
 |QC cs cs' hc=>
  obtain ⟨vs,rfl, -, -⟩:=hv.xm
  intro i a' hi
  have hlt:i<cs.length:=by rw [←hc.len];exact (List.getElem?_eq_some_iff.1 hi).1
  exact (hc.get i _ _ (List.getElem?_eq_getElem hlt) hi).tcy (h i _ (List.getElem?_eq_getElem hlt))
theorem Wx.bG {w:World} {C:Nat→List Value} {γ:List Nat} {a a':AV} {v:Value} {b:Nat} (hw:Wx a a') (hv:VR C γ a v) (ht:TC w C a v) (h:bG a' v=some b):Am.bG a v=some b:=by
 cases hw with
 |wk _ _ hk=>exact hk.own h
 |own k xs=>
  obtain ⟨ad,c,rfl, -⟩:=hv.ff
  have hc:c=xs.length:=ht
  subst hc
  cases ad<;>simp [Am.bG] at h
 |QC=>simp [Am.bG] at h
theorem Wx.dy {a:AV} {T:TypeId} (h:Wx a (.dy T)):a= .dy T:=by
 cases h with
 |wk _ _ hk _=>cases hk;rfl
theorem SR.wx {L N F γ C e ah ts w} (h:SR L N F γ C e ah ts w) {e':Env} {aE:AH} (hw:WS e ah e' aE):SR L N F γ C e' aE ts w:=by
 obtain ⟨he,hl,hh⟩:=hw
 have hb:∀p b,blk γ e' aE ts w p b→blk γ e ah ts w p b:=by
  intro p b hp
  cases p with
  |obj s=>exact hp
  |tmp t=>exact (he t).bG (h.env t).1 (h.env t).2 hp
  |cell s i=>
   obtain ⟨cs',a',b0,h1,h2,h3,h4⟩:=hp
   obtain ⟨cs,g1,g2⟩:=hh s cs' h1
   rcases g2 with rfl|⟨g2,g3⟩
   · exact ⟨_,a',b0,g1,h2,h3,h4⟩
   · have hlt:i<cs.length:=by rw [←g2];exact (List.getElem?_eq_some_iff.1 h2).1
     have h0:cs[i]? =some cs[i]:=List.getElem?_eq_getElem hlt
     refine ⟨cs,cs[i],b0,g1,h0,h3, ?_⟩
     obtain ⟨vs,ty,q1,q2,q3⟩:=h.mem.obj s b0 cs g1 h3
     have hc:(w.cell? ⟨b0,i,none⟩).getD undef=vs.getD i undef:=by
      rw [cz q1];simp [Array.getD_eq_getD_getElem?]
     rw [hc] at h4 ⊢
     exact (g3 i _ _ h0 h2).bG (q3 i _ h0).1 (q3 i _ h0).2 h4
 refine ⟨⟨by rw [h.mem.len,hl],fun s b cs' h1 h2=> ?_,h.mem.pn,fun s b cs' h1 hne h2=> ?_,fun s b cs' us ty fr h1 h2 h3=> ?_,fun s b cs' T h1 h2 h3=> ?_⟩,h.sz,fun t=>⟨(he t).vr (h.env t).1,(he t).tc (h.env t).1 (h.env t).2⟩,fun p q b hp hq=>h.dD p q b (hb p b hp) (hb q b hq),
  fun p b hp=>h.nf p b (hb p b hp),h.iT,fun t l k xs ht=> ?_⟩
 · obtain ⟨cs,g1,g2⟩:=hh s cs' h1
   obtain ⟨vs,ty,q1,q2,q3⟩:=h.mem.obj s b cs g1 h2
   rcases g2 with rfl|⟨g2,g3⟩
   · exact ⟨vs,ty,q1,q2,q3⟩
   · refine ⟨vs,ty,q1,by omega,fun i a' hi=> ?_⟩
     have hlt:i<cs.length:=by rw [←g2];exact (List.getElem?_eq_some_iff.1 hi).1
     have h0:cs[i]? =some cs[i]:=List.getElem?_eq_getElem hlt
     exact ⟨(g3 i _ _ h0 hi).vr (q3 i _ h0).1,(g3 i _ _ h0 hi).tc (q3 i _ h0).1 (q3 i _ h0).2⟩
 · obtain ⟨cs,g1,g2⟩:=hh s cs' h1
   refine h.mem.lZ s b cs g1 ?_ h2
   rintro rfl
   rcases g2 with rfl|⟨g2, -⟩
   · exact hne rfl
   · exact hne (List.eq_nil_of_length_eq_zero g2)
 · obtain ⟨cs,g1,g2⟩:=hh s cs' h1
   have hl':cs'.length=cs.length:=by
    rcases g2 with rfl|⟨g2, -⟩
    · rfl
    · exact g2
   rw [hl']
   exact h.mem.xq s b cs us ty fr g1 h2 h3
 · obtain ⟨cs,g1,g2⟩:=hh s cs' h1
   rcases g2 with rfl|⟨g2,g3⟩
   · exact h.mem.zM s b _ T g1 h2 h3
   · have hlt:0<cs.length:=by rw [←g2];exact (List.getElem?_eq_some_iff.1 h3).1
     have h0:cs[0]? =some cs[0]:=List.getElem?_eq_getElem hlt
     exact h.mem.zM s b cs T g1 h2 (by rw [h0,(g3 0 _ _ h0 h3).dy])
 · exfalso
   have:=he t
   rw [ht] at this
   generalize get e t=a at this
   cases this with
   |wk _ _ _ hn=>exact hn l k xs rfl
theorem gr.refl (ah:AH):gr ah ah:=⟨rfl,fun s cs h=>⟨cs,h, .inl rfl⟩⟩
theorem gr.set {ah:AH} {q:Nat} {cs cs':List AV} (hq:ah[q]? =some cs) (hc:wU cs cs'):gr ah (ah.set q cs'):=by
 refine ⟨by simp,fun s ds hs=> ?_⟩
 rw [List.getElem?_set] at hs
 split at hs
 · rename_i h;subst h
   split at hs
   · injection hs with hs;subst hs;exact ⟨cs,hq, .inr hc⟩
   · cases hs
 · exact ⟨ds,hs, .inl rfl⟩
theorem Wx.un (a:AV):Wx a .un:= .wk _ _ (.un _) (by simp)
theorem Wx.n {t:Tg} {k:Nat} {xs:List AV}:Wx (.sl t k xs) (.sl .n k xs):= .wk _ _ (.n ..) (by simp)
theorem Wx.same {a:AV} (h:∀l k xs,a≠ .sl (.fr l) k xs):Wx a a:= .wk _ _ (.same _) h
theorem Wx.int {k:IntKind} {i:Int}:Wx (.int k i) (.int k i):= .same (by simp)
theorem Wx.b8 {c:UInt8}:Wx (b8 c) (b8 c):= .same (by simp [Am.b8])
theorem Wx.bool {b:Bool}:Wx (.bool b) (.bool b):= .same (by simp)
theorem Wx.str {l:List UInt8}:Wx (.str l) (.str l):= .same (by simp)
theorem Wx.ptr {s o:Nat}:Wx (.ptr s o) (.ptr s o):= .same (by simp)
theorem Wx.v {x:Value}:Wx (.v x) (.v x):= .same (by simp)
theorem Wx.fn {f:Nat} {cs:List AV}:Wx (.fn f cs) (.fn f cs):= .same (by simp)
theorem Wx.ep {a:AV} {o:Nat}:Wx (.ep a o) (.ep a o):= .same (by simp)
theorem Wx.ex {k:Nat} {xs:List AV}:Wx (.sl .ex k xs) (.sl .ex k xs):= .same (by simp)
theorem Wx.nn {k:Nat} {xs:List AV}:Wx (.sl .n k xs) (.sl .n k xs):= .same (by simp)
theorem Wx.oo {k:Nat} {xs:List AV}:Wx (.sl .own k xs) (.sl .own k xs):= .same (by simp)
theorem Wx.afV {t:TypeId}:Wx (.dy t) (.dy t):= .same (by simp)
theorem Wx.adK {e:TypeId} {l:List UInt8}:Wx (.dn e l) (.dn e l):= .same (by simp)
theorem Wx.afW {e:TypeId} {l m:List UInt8} (h:l=m):Wx (.dn e l) (.dn e m):=by subst h;exact .adK
theorem Wx.agg {cs cs':List AV} (h:eV cs cs'):Wx (.agg cs) (.agg cs'):= .wk _ _ (.agg _ _ h.len fun i a b h1 h2=>(h.get i a b h1 h2).w) (by simp)
theorem Wx.bz {cs cs':List AV} (h:eV cs cs'):Wx (.bz cs) (.bz cs'):= .wk _ _ (.bz _ _ h.len fun i a b h1 h2=>(h.get i a b h1 h2).w) (by simp)
theorem Wx.adL {cs cs':List AV} (h:pH cs cs'):Wx (.bz cs) (.bz cs'):= .QC _ _ h
theorem pH.nil:pH [] []:=trivial
theorem pH.same {a:AV} {r r':List AV} (h:pH r r'):pH (a::r) (a::r'):=⟨.inl (.inl rfl),h⟩
theorem pH.n {t:Tg} {k:Nat} {xs:List AV} {r r':List AV} (h:pH r r'):pH (.sl t k xs::r) (.sl .n k xs::r'):=⟨.inl (.inr ⟨_,_,_,rfl,rfl⟩),h⟩
theorem pH.agg {ds ds':List AV} {r r':List AV} (hd:eV ds ds') (h:pH r r'):pH (.agg ds::r) (.agg ds'::r'):=⟨.inr ⟨_,_,rfl,rfl,hd⟩,h⟩
theorem eV.nil:eV [] []:=trivial
theorem eV.same {a:AV} {r r':List AV} (h:eV r r'):eV (a::r) (a::r'):=⟨.inl rfl,h⟩
theorem eV.n {t:Tg} {k:Nat} {xs:List AV} {r r':List AV} (h:eV r r'):eV (.sl t k xs::r) (.sl .n k xs::r'):=⟨.inr ⟨_,_,_,rfl,rfl⟩,h⟩
theorem wU.nil:wU [] []:=⟨rfl,fun i a a' h=>by simp at h⟩
theorem wU.cons {a a':AV} {r r':List AV} (h:Wx a a') (hr:wU r r'):wU (a::r) (a'::r'):=by
 refine ⟨by simp [hr.1],fun i b b' h1 h2=> ?_⟩
 rcases i with _|i
 · simp at h1 h2;subst h1;subst h2;exact h
 · exact hr.2 i b b' (by simpa using h1) (by simpa using h2)
def WE (e e1:Env):Prop:=∀p∈e1,Wx (Am.get e p.1) p.2
theorem WE.nil {e:Env}:WE e []:=by intro p hp;cases hp
theorem WE.cons {e r:Env} {i:Nat} {a:AV} (h:Wx (Am.get e i) a) (hr:WE e r):WE e ((i,a)::r):=by
 intro p hp
 rcases List.mem_cons.1 hp with rfl|hp
 · exact h
 · exact hr p hp
theorem WE.all {e e1:Env} (h:WE e e1):∀t,Wx (Am.get e t) (Am.get e1 t):=by
 intro t
 have key:∀e1:Env,Am.get e1 t= .un∨∃p∈e1,p.1=t∧Am.get e1 t=p.2:=by
  intro e1
  induction e1 with
  |nil=>exact .inl rfl
  |cons p r ih=>
   obtain ⟨i,a⟩:=p
   simp only [Am.get]
   split
   · rename_i h;exact .inr ⟨(i,a),by simp,h,rfl⟩
   · rcases ih with h|⟨p,hp,h1,h2⟩
     · exact .inl h
     · exact .inr ⟨p,List.mem_cons_of_mem _ hp,h1,h2⟩
 rcases key e1 with h0|⟨p,hp,rfl,h2⟩
 · rw [h0];exact Wx.un _
 · rw [h2];exact h p hp
section
variable {P:Program} {L:List Nat} {N n0:Nat} {e:Env} {ah:AH} {t:List It} {Q K:Exit→Env→AH→Prop} {r:List aM} {d:Option Nat}
theorem AW.Jm {c:Code} {e1:Env} {cc:AH} (hw:WS e ah e1 cc) (h:AW P L N n0 c Q e1 cc):AW P L N n0 c Q e ah:=
 fun F γ C ts w hs hn=>h F γ C ts w (hs.wx hw) hn
theorem AW.closed {c:Code} (h:AW P L N n0 c (fun x e ah=>Q x e ah∨∃e1 cc,WS e ah e1 cc∧Q x e1 cc) e ah):AW P L N n0 c Q e ah:=by
 intro F γ C ts w hs hn
 refine wp_mono (h F γ C ts w hs hn) ?_
 rintro x a w' ⟨hd,hg,e',aE,γ',C',h1,h2,h3,h4⟩
 rcases h1 with h1|⟨e1,cc,hw,h1⟩
 · exact ⟨hd,hg,e',aE,γ',C',h1,h2,h3,h4⟩
 · exact ⟨hd,hg,e1,cc,γ',C',h1,h2,h3.wx hw,h4⟩
theorem AX.weak {c:av} {e1:Env} {cc:AH} (he:WE e e1) (hh:gr ah cc) (h:AX P L N n0 c Q e1 cc):AX P L N n0 c Q e ah:=
 fun c' ck=>AW.Jm ⟨he.all,hh⟩ (h c' ck)
theorem AX.mono {c:av} {Q':Exit→Env→AH→Prop} (h:AX P L N n0 c Q e ah) (hq:∀x e ah,Q x e ah→Q' x e ah):AX P L N n0 c Q' e ah:=
 fun c' ck=>(h c' ck).mono hq
theorem AX.go {m c:av} (hm:erase m=c) (ho:rH N c=true)
 (h:∀K':Exit→Env→AH→Prop,(∀x e ah e1 cc,WE e e1→gr ah cc→K x e1 cc→K' x e ah)→U P L N n0 [.code m] K' .normal e ah):AX P L N n0 c K e ah:=by
 subst hm
 intro c' ck
 refine AW.closed (pV c' m _ e ah ck ho (h _ ?_))
 intro x e ah e1 cc h1 h2 h3
 exact .inr ⟨e1,cc,⟨h1.all,h2⟩,h3⟩
theorem aby {c:av} (h:AX P L N n0 c (fun x e ah=>U P L N n0 t Q x e ah) e ah):UX P L N n0 c t Q e ah:=h
inductive St (ρ τ σ:Type) where
 |ret (r:ρ)
 |eC (t:τ)
 |cv (s:σ)
def iter {ρ τ σ:Type} (body:σ→Option (St ρ τ σ)):Nat→σ→Option (ρ⊕τ)
 |0,_=>none
 |n+1,s=>match body s with
  |none=>none
  |some (.ret r)=>some (.inl r)
  |some (.eC t)=>some (.inr t)
  |some (.cv s')=>iter body n s'
theorem AX.iter {ρ τ σ:Type} {body:σ→Option (St ρ τ σ)} {m c:av} (hm:erase m=c) (ho:rH N c=true) (J:σ→Env→AH→Prop) {F:Nat} {s0:σ} {o:ρ⊕τ} (hit:Am.iter body F s0=some o) (h0:J s0 e ah)
 (round:∀(K':Exit→Env→AH→Prop) s st e ah,J s e ah→body s=some st→
  (∀s',st= .cv s'→∀e' aE e1 cc,WE e' e1→gr aE cc→J s' e1 cc→K' .normal e' aE)→
  (∀t,st= .eC t→o= .inr t)→(∀r,st= .ret r→o= .inl r)→
  (∀x e' aE e1 cc,x≠ .normal→WE e' e1→gr aE cc→K x e1 cc→K' x e' aE)→U P L N n0 [.code m] K' .normal e ah):AX P L N n0 (.loop c) K e ah:=by
 subst hm
 intro c'
 induction c' with
 |loop c0 _=>
  intro ck
  simp only [bR,Option.map_eq_some_iff] at ck
  obtain ⟨a,ha,he⟩:=ck
  injection he with he
  subst he
  refine AW.loop (fun k e ah=>∃s e1 cc,WS e ah e1 cc∧J s e1 cc∧Am.iter body k s=some o∨(J s e ah∧Am.iter body k s=some o)) (k0:=F) ?_ ⟨s0,e,ah, .inr ⟨h0,hit⟩⟩
  have main:∀k s e ah,J s e ah→Am.iter body k s=some o→AW P L N n0 c0 (fun x e' aE=>match x with
   | .normal=>∃k',k'<k∧∃s e1 cc,WS e' aE e1 cc∧J s e1 cc∧Am.iter body k' s=some o∨(J s e' aE∧Am.iter body k' s=some o)|x=>K x e' aE) e ah:=by
   intro k s e ah hJ hk
   cases k with
   |zero=>simp [Am.iter] at hk
   |succ k=>
    cases hb:body s with
    |none=>simp [Am.iter,hb] at hk
    |some st=>
     simp only [Am.iter,hb] at hk
     refine AW.closed (pV c0 m _ e ah ha ho (round _ s st e ah hJ hb ?_ ?_ ?_ ?_))
     · rintro s' rfl e' aE e1 cc g1 g2 g3
       exact .inl ⟨k,Nat.lt_succ_self k,s',e1,cc, .inl ⟨⟨g1.all,g2⟩,g3,hk⟩⟩
     · rintro t rfl;simp only [Option.some.injEq] at hk;exact hk.symm
     · rintro r rfl;simp only [Option.some.injEq] at hk;exact hk.symm
     · intro x e' aE e1 cc hx g1 g2 g3
       cases x with
       |normal=>exact absurd rfl hx
       |_=>exact .inr ⟨e1,cc,⟨g1.all,g2⟩,g3⟩
  rintro k e ah ⟨s,e1,cc,⟨hw,hJ,hk⟩|⟨hJ,hk⟩⟩
  · exact AW.Jm hw (main k s e1 cc hJ hk)
  · exact main k s e ah hJ hk
 |scope c0 ih=>exact fun ck=>AW.scope (ih ck)
 |region id ops draw=>intro ck;simp only [bR] at ck;repeat' (split at ck)<;>simp at ck
 |block i c0=>intro ck;simp only [bR,Option.map_eq_some_iff] at ck;obtain ⟨a, -,h⟩:=ck;cases h
 |seq a b=>intro ck;simp only [bR] at ck;split at ck<;>simp at ck
 |cond a b c=>intro ck;simp only [bR] at ck;split at ck<;>simp at ck
 |_=>intro ck;simp [bR] at ck
theorem aA.wkx {f:Nat} {args:List AV} {ah:AH} {R R':AV→AH→Prop} (h:aA P f args ah R) (hr:∀r aE,R r aE→∃r' Fy,Wx r r'∧gr aE Fy∧R' r' Fy):aA P f args ah R':=by
 refine ⟨h.1,fun F γ C w vs hs=>(h.2 F γ C w vs hs).mono ?_⟩
 rintro en w' ⟨r,v,aE,γ',C',rfl,h1,h2,h3,h4⟩
 obtain ⟨r',Fy,g1,g2,g3⟩:=hr r aE h1
 refine ⟨r',v,Fy,γ',C',rfl,g3,h2,h3.wx ⟨fun t=> ?_,g2⟩,h4⟩
 simp only [Am.get]
 split
 · exact g1
 · exact Wx.un _
def WL:List AV→List AV→Prop
 |[],[]=>True
 |a::r,a'::r'=>Wx a a'∧WL r r'
 |_,_=>False
theorem WL.nil:WL [] []:=trivial
theorem WL.cons {a a':AV} {r r':List AV} (h:Wx a a') (hr:WL r r'):WL (a::r) (a'::r'):=⟨h,hr⟩
theorem WL.len:∀ {zq zq':List AV},WL zq zq'→zq'.length=zq.length:=by
 intro zq
 induction zq with
 |nil=>intro zq' h;cases zq' with|nil=>rfl|cons=>exact h.elim
 |cons a r ih=>intro zq' h;cases zq' with|nil=>exact h.elim|cons a' r'=>simp [ih h.2]
theorem WL.get:∀ {zq zq':List AV},WL zq zq'→∀(i:Nat) (a a':AV),zq[i]? =some a→zq'[i]? =some a'→Wx a a':=by
 intro zq
 induction zq with
 |nil=>intro zq' _ i a a' h;simp at h
 |cons a r ih=>
  intro zq' h i b b' h1 h2
  cases zq' with
  |nil=>exact h.elim
  |cons a' r'=>
   rcases i with _|i
   · simp at h1 h2;subst h1;subst h2;exact h.1
   · exact ih h.2 i b b' (by simpa using h1) (by simpa using h2)
theorem aA.Jm {f:Nat} {args args':List AV} {ah cc:AH} {R:AV→AH→Prop} (hw:WL args args') (hh:gr ah cc) (h:aA P f args' cc R):aA P f args ah R:=by
 refine ⟨h.1,fun F γ C w vs hs=>h.2 F γ C w vs ?_⟩
 rw [hw.len]
 refine hs.wx ⟨fun t=> ?_,hh⟩
 rw [dH,dH]
 simp only [Nat.zero_le,if_true,Nat.sub_zero]
 cases h1:args[t]? with
 |none=>
  have:args'[t]? =none:=by
   rw [List.getElem?_eq_none_iff] at h1 ⊢
   rw [hw.len];exact h1
  rw [this];exact Wx.un _
 |some a=>
  have hlt:t<args'.length:=by rw [hw.len];exact (List.getElem?_eq_some_iff.1 h1).1
  rw [List.getElem?_eq_getElem hlt]
  exact hw.get t a _ h1 (List.getElem?_eq_getElem hlt)
theorem aaC {f:Nat} {zq zq':List AV} {cc:AH} {R:AV→AH→Prop} (h:aA P f zq' cc R) (hw:WL zq zq') (hh:gr ah cc) (hk:∀v aE,R v aE→U P L N n0 (.ops r::t) Q .normal (aF L (xC e) d v.df) aE):
 UK P L N n0 f zq d r t Q e ah:=(h.Jm hw hh).mono hk
def xG (P:Program) (ah:AH) (rs:List ResultVar) (R:AV→AH→Prop) (e':Env) (H:AH):Prop:=
 ∃vs r' aE,gX P e' H rs=some vs∧Wx (fin vs) r'∧R r' aE∧
  ((Cl ah.length (fin vs)∧nt ah.length (H.take ah.length)∧ah.length≤H.length∧gr (H.take ah.length) aE)∨gr H aE)
theorem aA.goX {f:Nat} {rs:List ResultVar} {ac m:av} (hF:bw P f N rs ac) (hm:erase m=ac) {args:List AV} {R:AV→AH→Prop} (L:List Nat)
 (ho:rH N ac=true) (hN:args.length≤N)
 (h:nt ah.length ah→∀K:Exit→Env→AH→Prop,(∀x e' H,x= .normal∨x= .ret→xG P ah rs R e' H→K x e' H)→
  AX P L N ah.length ac K (fL 0 args) ah):aA P f args ah R:=by
 refine aA.wkx (R:=fun r aE=>∃r' Fy,Wx r r'∧gr aE Fy∧R r' Fy) ?_ (fun r aE h=>h)
 obtain ⟨fn,c,h1,h2,h3,h4,rfl,rfl⟩:=hF
 refine aA.Qu L h1 h2 h3 h4 ho hN ?_
 intro hcl hargs
 refine h hcl _ ?_
 rintro x e' H hx ⟨vs,r',aE,g1,g2,g3,⟨g4,g5,g6,g7⟩|g4⟩
 · refine .inl ⟨ah.length,Nat.le_refl _,hx, ?_⟩
   rw [g1]
   exact ⟨g4,g5,g6,r',aE,g2,g7,g3⟩
 · refine .inr ⟨hx, ?_⟩
   rw [g1]
   exact ⟨r',aE,g2,g4,g3⟩
end
end Go.Am
end
section
namespace Go.Am
open Go
variable [Tabs]
def idx {α:Type} (l:List α) (i:Int):Option α:=if 0≤i then l[i.toNat]? else none
def sub {α:Type} (l:List α) (i j:Int):Option (List α):=if 0≤i∧i≤j∧j≤l.length then some ((l.take j.toNat).drop i.toNat) else none
def cw {α:Type} (b:Nat) (xs ys:List α):Option (List α):=if (xs.length+ys.length)*b≤140737488355328∧xs.length+ys.length≤4611686018427387904 then some (xs++ys) else none
def cat (l m:List UInt8):Option (List UInt8):=if l.length+m.length≤9223372036854775807 then some (l++m) else none
def ml {α:Type} (f:α→AV) (xs:List α):List AV:=xs.map f
def dv (k:IntKind) (i j:Int):Option Int:=if j=0 then none else some (k.wrap (i.tdiv j))
def rm (k:IntKind) (i j:Int):Option Int:=if j=0 then none else some (i.tmod j)
def shl (k:IntKind) (i j:Int):Int:=k.wrap (i*2 ^ (min j.toNat k.bits))
def shr (k:IntKind) (i j:Int):Int:=i.fdiv (2 ^ (min j.toNat k.bits))
def QD (k:IntKind) (i j:Int):Int:=k.wrap (BitVec.ofInt k.bits i &&& BitVec.ofInt k.bits j).toNat
def ior (k:IntKind) (i j:Int):Int:=k.wrap (BitVec.ofInt k.bits i ||| BitVec.ofInt k.bits j).toNat
def Vu (k:IntKind) (i j:Int):Int:=k.wrap (BitVec.ofInt k.bits i ^^^ BitVec.ofInt k.bits j).toNat
def rY (k:IntKind) (i:Int):AV:= .int k i
theorem ak {α β:Type} {o:Option α} {f:α→Option β} {r:β} (h:o.bind f=some r):∃x,o=some x∧f x=some r:=Option.bind_eq_some_iff.1 h
theorem ifb {β:Type} {B:Bool} {x y:Option β} {r:β} (h:(if B=true then x else y)=some r):(B=true∧x=some r)∨(B=false∧y=some r):=by
 cases B
 · exact .inr ⟨rfl,h⟩
 · exact .inl ⟨rfl,h⟩
theorem Fz {β:Type} {p:Prop} [Decidable p] {x:Option β} {r:β} (h:(if p then x else none)=some r):p∧x=some r:=by
 split at h
 · exact ⟨by assumption,h⟩
 · cases h
theorem QE {α:Type} (f:α→AV) (l:List α) (i:Int):idx (ml f l) i=(idx l i).map f:=by
 unfold idx ml;split<;>simp
theorem Jn {α:Type} (f:α→AV) (l:List α) (i j:Int):sub (ml f l) i j=(sub l i j).map (ml f):=by
 unfold sub ml;simp only [List.length_map];split<;>simp [List.map_take,List.map_drop,ml]
theorem yC {α:Type} (f:α→AV) (l:List α):(ml f l).length=l.length:=by simp [ml]
theorem eH {α:Type} {f:α→AV} {b:Nat} {xs ys zs:List α} (h:cw b xs ys=some zs):cw b (ml f xs) (ml f ys)=some (ml f zs):=by
 unfold cw at h ⊢
 simp only [yC]
 obtain ⟨hc,h⟩:=Fz h
 rw [if_pos hc]
 injection h with h
 subst h
 simp [ml]
theorem DU (l:List UInt8):bytesOf (ml b8 l)=some l:=LC l
section
variable {P:Program} {L:List Nat} {N n0:Nat} {e:Env} {ah:AH} {t:List It} {Q:Exit→Env→AH→Prop} {r:List aM} {d:Option Nat} {g:Option (Nat×Bool)}
theorem abz {y:Nat} {bs:List UInt8}:UG P L N n0 ⟨d, .lit y bs,g⟩ r t Q e ah (some true)=U P L N n0 (It.ops r::t) Q Exit.normal (put (aF L e d (.sl .ex 1 (ml b8 bs))) y .un) ah:=rfl
theorem QF {l:List UInt8} {k:IntKind} {i:Int}:Lz L e ah d (.str l) (.int k i)=(idx l i).map fun c=>(aF L e d (b8 c),ah):=by
 simp only [Lz,idx]
 split
 · cases l[i.toNat]? <;>rfl
 · rfl
theorem QG {tg:Tg} {k:Nat} {xs:List AV} {ki:IntKind} {i:Int}:uv L e ah d k (.sl tg k xs) (.int ki i)=(idx xs i).map fun a=>(aF L e d (.ep a 0),ah):=by
 simp only [uv,idx]
 split
 · cases xs[i.toNat]? <;>simp [QA]
 · rfl
def bI (e:Env) (dflt:Int):Option Ar→AV
 |none=> .int .i64 dflt
 |some x=>ev e x
def QH (L:List Nat) (e:Env) (ah:AH) (d:Option Nat) (l:List UInt8):AV→AV→Option (Env×AH)
 | .int _ i, .int _ j=>(sub l i j).map fun m=>(aF L e d (.str m),ah)
 |_,_=>none
theorem Jo {n:Nat} {x:Option Ar}:nr e n x=wh (bI e n x):=by
 cases x with
 |none=>simp [nr,bI,wh]
 |some x=>simp only [Vp,bI]
theorem FA {x:Option Ar}:nr e 0 x=wh (bI e 0 x):=Jo (n:=0)
theorem ac9 {k:IntKind} {i:Int}:wh (.int k i)=if 0≤i then some i.toNat else none:=rfl
theorem FB {α:Type} (l:List α) (i j:Int):sub l i j=if 0≤i then if 0≤j then if i.toNat≤j.toNat∧j.toNat≤l.length then some ((l.take j.toNat).drop i.toNat) else none else none else none:=by
 unfold sub
 by_cases h1:0≤i
 · by_cases h2:0≤j
   · simp only [if_pos h1,if_pos h2]
     have:(0≤i∧i≤j∧j≤(l.length:Int))↔(i.toNat≤j.toNat∧j.toNat≤l.length):=by omega
     simp only [this]
   · rw [if_neg (by omega)];simp [h2]
 · rw [if_neg (by omega)];simp [h1]
theorem Zk {l:List UInt8} {lo hi:Option Ar}:Qx L e ah d lo hi (.str l)=QH L e ah d l (bI e 0 lo) (bI e l.length hi):=by
 simp only [Qx,FA,Jo]
 generalize bI e 0 lo=a
 generalize bI e l.length hi=b
 cases a with
 |int k i=>
  cases b with
  |int k' j=>
   simp only [wh,QH,FB]
   by_cases h1:0≤i<;>by_cases h2:0≤j<;>simp only [h1,h2,if_true,if_false,Qw,Option.map_none]
   split<;>rfl
  |_=>simp only [wh,QH];split<;>rfl
 |_=>cases b<;>rfl
def QI (L:List Nat) (e:Env) (ah:AH) (d:Option Nat) (k:Nat) (xs:List AV):AV→AV→Option (Env×AH)
 | .int _ i, .int _ j=>(sub xs i j).map fun ys=>(aF L e d (.sl .n k ys),ah)
 |_,_=>none
theorem Zl {tg:Tg} {k:Nat} {xs:List AV} {lo hi:Option Ar}:Qz L e ah d k lo hi (.sl tg k xs)=QI L e ah d k xs (bI e 0 lo) (bI e xs.length hi):=by
 simp only [Qz,FA,Jo]
 generalize bI e 0 lo=a
 generalize bI e xs.length hi=b
 cases a with
 |int k i=>
  cases b with
  |int k' j=>
   simp only [wh,QI,FB]
   by_cases h1:0≤i<;>by_cases h2:0≤j<;>simp only [h1,h2,if_true,if_false,Qy,Option.map_none,true_and]
   split<;>rfl
  |_=>simp only [wh,QI];split<;>rfl
 |_=>cases b<;>rfl
def DV {α:Type} (l:List α) (i j m:Int):Option (List α):=if j=m then sub l i j else none
theorem LD {α:Type} (f:α→AV) (l:List α) (i j m:Int):DV (ml f l) i j m=(DV l i j m).map (ml f):=by
 unfold DV;split
 · exact Jn ..
 · rfl
def FC (L:List Nat) (e:Env) (ah:AH) (d:Option Nat) (k:Nat) (xs:List AV):AV→AV→AV→Option (Env×AH)
 | .int _ i, .int _ j, .int _ m=>(DV xs i j m).map fun ys=>(aF L e d (.sl .ex k ys),ah)
 |_,_,_=>none
theorem Vv {tg:Tg} {k:Nat} {xs:List AV} {lo:Option Ar} {hi m:Ar}:Jl L e ah d k lo hi m (.sl tg k xs)=FC L e ah d k xs (bI e 0 lo) (ev e hi) (ev e m):=by
 simp only [Jl,FA,Vp]
 generalize bI e 0 lo=a
 generalize ev e hi=b
 generalize ev e m=c
 cases a with
 |int k i=>
  cases b with
  |int k' j=>
   cases c with
   |int k'' l=>
    simp only [wh,FC,DV,FB]
    by_cases h1:0≤i<;>by_cases h2:0≤j<;>by_cases h3:0≤l<;>by_cases h4:j=l<;>simp only [h1,h2,h3,h4,if_true,if_false,Jk,Option.map_none,true_and]
    all_goals first
     |rfl
     |(exfalso;omega)
     |(subst h4;split<;>rename_i q<;>split<;>rename_i q2<;>first|rfl|(exfalso;omega))
     |(split<;>first|rfl|(exfalso;omega))
   |_=>simp only [wh,FC];repeat' split
       all_goals first|rfl|skip
  |_=>simp only [wh,FC];repeat' split
      all_goals first|rfl|skip
 |_=>cases b<;>cases c<;>rfl
theorem Zm {tg:Tg} {k b:Nat} {x:Ar} {ys:List AV}:Vr L e ah d k b x (.sl tg k ys)=zm L e ah d k b x ys:=by simp [Vr]
theorem Vw {b:Nat} {x:Ar} {l:List UInt8}:Vs L e ah d b x (.str l)=zm L e ah d 1 b x (ml b8 l):=rfl
def tG (L:List Nat) (e:Env) (ah:AH) (d:Option Nat) (k:Nat) (x:Ar) (xs zs:List AV):Tg→Option (Env×AH)
 | .ex=>some (aF L e d (.sl .own k zs),ah)
 | .own=>match x with
   | .t x=>some (aF L (put e x (.sl .n k xs)) d (.sl .own k zs),ah)
   |_=>none
 | .fr (.tmp t)=>match get e t with
   | .sl .own k' us=>if k'=k then some (aF L (put e t (.sl .n k' us)) d (.sl .own k zs),ah) else none
   |_=>none
 | .fr (.cell s q)=>match ah[s]? with
   |some cs=>match cs[q]? with
    |some (.sl .own k' us)=>if k'=k then (over cs q [.sl .n k' us]).map fun cs=>(aF L e d (.sl .own k zs),ah.set s cs) else none
    |_=>none
   |none=>none
 | .n=>none
def FD (L:List Nat) (e:Env) (ah:AH) (d:Option Nat) (k:Nat) (x:Ar) (xs:List AV) (tg:Tg):Option (List AV)→Option (Env×AH)
 |some zs=>tG L e ah d k x xs zs tg
 |none=>none
theorem Vx {L:List Nat} {e:Env} {ah:AH} {d:Option Nat} {k:Nat} {x:Ar} {xs zs:List AV} {tg:Tg}:FD L e ah d k x xs tg (some zs)=tG L e ah d k x xs zs tg:=rfl
def Jp (L:List Nat) (e:Env) (ah:AH) (d:Option Nat) (k b:Nat) (x:Ar) (ys:List AV):AV→Option (Env×AH)
 | .sl tg k' xs=>if k'=k then FD L e ah d k x xs tg (cw b xs ys) else none
 |_=>none
theorem Zn {k b:Nat} {x:Ar} {ys:List AV}:zm L e ah d k b x ys=Jp L e ah d k b x ys (ev e x):=by
 simp only [zm]
 cases ev e x with
 |sl tg k' xs=>
  simp only [Jp,cw]
  by_cases h1:k'=k
  · subst h1
    simp only [true_and,if_true]
    by_cases h2:(xs.length+ys.length)*b≤140737488355328∧xs.length+ys.length≤4611686018427387904
    · simp only [if_pos h2,FD]
      cases tg with
      |fr l=>cases l with
       |tmp u=>
        simp only [tG]
        cases get e u with
        |sl Zo k2 zs=>cases Zo<;>rfl
        |_=>rfl
       |cell s q=>
        simp only [tG]
        cases ah[s]? with
        |none=>rfl
        |some cs=>
         simp only []
         cases cs[q]? with
         |none=>rfl
         |some a=>cases a with
          |sl Zo k2 zs=>cases Zo<;>rfl
          |_=>rfl
      |own=>cases x<;>rfl
      |_=>rfl
    · simp only [if_neg h2,FD]
  · simp [h1]
 |_=>rfl
end
theorem Vy {k:IntKind} {i j:Int}:bl .add (.int k i) (.int k j)=some (.int k (k.wrap (i+j))):=by simp [bl,cU]
theorem Vz {k:IntKind} {i j:Int}:bl .sub (.int k i) (.int k j)=some (.int k (k.wrap (i - j))):=by simp [bl,cU]
theorem abA {k:IntKind} {i j:Int}:bl .mul (.int k i) (.int k j)=some (.int k (k.wrap (i*j))):=by simp [bl,cU]
theorem abB {k:IntKind} {i j:Int}:bl .quo (.int k i) (.int k j)=(dv k i j).map (.int k):=by simp [bl,cU,dv];split<;>rfl
theorem VA {k:IntKind} {i j:Int}:bl .rem (.int k i) (.int k j)=(rm k i j).map (.int k):=by simp [bl,cU,rm];split<;>rfl
theorem VB {k:IntKind} {i j:Int}:bl .and (.int k i) (.int k j)=some (.int k (QD k i j)):=by simp [bl,cU,QD]
theorem aaD {k:IntKind} {i j:Int}:bl .or (.int k i) (.int k j)=some (.int k (ior k i j)):=by simp [bl,cU,ior]
theorem VC {k:IntKind} {i j:Int}:bl .xor (.int k i) (.int k j)=some (.int k (Vu k i j)):=by simp [bl,cU,Vu]
theorem afB {k k':IntKind} {i j:Int}:bl .shl (.int k i) (.int k' j)=if j<0 then none else some (.int k (shl k i j)):=by simp [bl,shl]
theorem afC {k k':IntKind} {i j:Int}:bl .shr (.int k i) (.int k' j)=if j<0 then none else some (.int k (shr k i j)):=by simp [bl,shr]
theorem VD {k:IntKind} {i j:Int}:bl .eql (.int k i) (.int k j)=some (.bool (decide (i=j))):=by simp [bl,cU]
theorem VE {k:IntKind} {i j:Int}:bl .neq (.int k i) (.int k j)=some (.bool (!decide (i=j))):=by simp [bl,cU]
theorem VF {k:IntKind} {i j:Int}:bl .lss (.int k i) (.int k j)=some (.bool (decide (i<j))):=by simp [bl,cU]
theorem VG {k:IntKind} {i j:Int}:bl .leq (.int k i) (.int k j)=some (.bool (decide (i≤j))):=by simp [bl,cU]
theorem VH {k:IntKind} {i j:Int}:bl .gtr (.int k i) (.int k j)=some (.bool (decide (j<i))):=by simp [bl,cU]
theorem VI {k:IntKind} {i j:Int}:bl .geq (.int k i) (.int k j)=some (.bool (decide (j≤i))):=by simp [bl,cU]
theorem Zp {k k':IntKind} {i:Int}:bl .shr (.int k i) (.int k' 1)=some (.int k (shr k i 1)):=by simp [bl,shr]
theorem Zq {k k':IntKind} {i:Int}:bl .shl (.int k i) (.int k' 1)=some (.int k (shl k i 1)):=by simp [bl,shl]
theorem Zr {k k':IntKind} {i:Int}:bl .shr (.int k i) (.int k' 2)=some (.int k (shr k i 2)):=by simp [bl,shr]
theorem Zs {k k':IntKind} {i:Int}:bl .shl (.int k i) (.int k' 2)=some (.int k (shl k i 2)):=by simp [bl,shl]
theorem Zt {k k':IntKind} {i:Int}:bl .shr (.int k i) (.int k' 3)=some (.int k (shr k i 3)):=by simp [bl,shr]
theorem Zu {k k':IntKind} {i:Int}:bl .shl (.int k i) (.int k' 3)=some (.int k (shl k i 3)):=by simp [bl,shl]
theorem Zv {k k':IntKind} {i:Int}:bl .shr (.int k i) (.int k' 4)=some (.int k (shr k i 4)):=by simp [bl,shr]
theorem Zw {k k':IntKind} {i:Int}:bl .shl (.int k i) (.int k' 4)=some (.int k (shl k i 4)):=by simp [bl,shl]
theorem Zx {k k':IntKind} {i:Int}:bl .shr (.int k i) (.int k' 5)=some (.int k (shr k i 5)):=by simp [bl,shr]
theorem Zy {k k':IntKind} {i:Int}:bl .shl (.int k i) (.int k' 5)=some (.int k (shl k i 5)):=by simp [bl,shl]
theorem Zz {k k':IntKind} {i:Int}:bl .shr (.int k i) (.int k' 6)=some (.int k (shr k i 6)):=by simp [bl,shr]
theorem ZA {k k':IntKind} {i:Int}:bl .shl (.int k i) (.int k' 6)=some (.int k (shl k i 6)):=by simp [bl,shl]
theorem ZB {k k':IntKind} {i:Int}:bl .shr (.int k i) (.int k' 7)=some (.int k (shr k i 7)):=by simp [bl,shr]
theorem ZC {k k':IntKind} {i:Int}:bl .shl (.int k i) (.int k' 7)=some (.int k (shl k i 7)):=by simp [bl,shl]
theorem ZD {k k':IntKind} {i:Int}:bl .shr (.int k i) (.int k' 8)=some (.int k (shr k i 8)):=by simp [bl,shr]
theorem ZE {k k':IntKind} {i:Int}:bl .shl (.int k i) (.int k' 8)=some (.int k (shl k i 8)):=by simp [bl,shl]
theorem VJ {k k':IntKind} {i:Int}:bl .shr (.int k i) (.int k' 16)=some (.int k (shr k i 16)):=by simp [bl,shr]
theorem VK {k k':IntKind} {i:Int}:bl .shl (.int k i) (.int k' 16)=some (.int k (shl k i 16)):=by simp [bl,shl]
theorem VL {k k':IntKind} {i:Int}:bl .shr (.int k i) (.int k' 24)=some (.int k (shr k i 24)):=by simp [bl,shr]
theorem VM {k k':IntKind} {i:Int}:bl .shl (.int k i) (.int k' 24)=some (.int k (shl k i 24)):=by simp [bl,shl]
theorem abC {l m:List UInt8}:bl .add (.str l) (.str m)=(cat l m).map .str:=by simp only [bl,cat];split<;>rfl
theorem abD {l m:List UInt8}:bl .eql (.str l) (.str m)=some (.bool (decide (l=m))):=rfl
theorem abE {l m:List UInt8}:bl .neq (.str l) (.str m)=some (.bool (!decide (l=m))):=rfl
theorem VN (n:Int):IntKind.wrap .u8 n=((UInt8.ofInt n).toNat:Int):=by
 have:(UInt8.ofInt n).toNat=(n % 256).toNat:=by
  rw [UInt8.ofInt]
  simp
  omega
 rw [this]
 simp only [IntKind.wrap,IntKind.bits,IntKind.signed,Bool.false_and,if_false,Bool.false_eq_true]
 omega
theorem ZF (a b:UInt8):IntKind.wrap .u8 ((a.toNat:Int)+b.toNat)=((a+b).toNat:Int):=by
 have h1:=a.toNat_lt
 have h2:=b.toNat_lt
 simp only [IntKind.wrap,IntKind.bits,IntKind.signed,Bool.false_and,if_false,Bool.false_eq_true,UInt8.toNat_add]
 omega
theorem ZG (a b:UInt8):IntKind.wrap .u8 ((a.toNat:Int) - b.toNat)=((a - b).toNat:Int):=by
 have h1:=a.toNat_lt
 have h2:=b.toNat_lt
 simp only [IntKind.wrap,IntKind.bits,IntKind.signed,Bool.false_and,if_false,Bool.false_eq_true,UInt8.toNat_sub]
 omega
theorem Jq (a:UInt8):IntKind.wrap .u8 (a.toNat:Int)=(a.toNat:Int):=by
 have h1:=a.toNat_lt
 simp only [IntKind.wrap,IntKind.bits,IntKind.signed,Bool.false_and,if_false,Bool.false_eq_true]
 omega
theorem ofInt8 (a:UInt8):BitVec.ofInt 8 (a.toNat:Int)=a.toBitVec:=by
 apply BitVec.eq_of_toNat_eq;simp
theorem abF {a b:UInt8}:bl .add (b8 a) (b8 b)=some (b8 (a+b)):=by simp only [b8];rw [Vy,ZF]
theorem abG {a b:UInt8}:bl .sub (b8 a) (b8 b)=some (b8 (a - b)):=by simp only [b8];rw [Vz,ZG]
theorem abH {a b:UInt8}:bl .and (b8 a) (b8 b)=some (b8 (a &&& b)):=by
 simp only [b8];rw [VB,QD]
 have:((BitVec.ofInt IntKind.u8.bits (a.toNat:Int) &&& BitVec.ofInt IntKind.u8.bits (b.toNat:Int)).toNat:Int)=((a &&& b).toNat:Int):=by
  simp only [IntKind.bits,ofInt8];rfl
 rw [this,Jq]
theorem adM {a b:UInt8}:bl .or (b8 a) (b8 b)=some (b8 (a ||| b)):=by
 simp only [b8];rw [aaD,ior]
 have:((BitVec.ofInt IntKind.u8.bits (a.toNat:Int) ||| BitVec.ofInt IntKind.u8.bits (b.toNat:Int)).toNat:Int)=((a ||| b).toNat:Int):=by
  simp only [IntKind.bits,ofInt8];rfl
 rw [this,Jq]
theorem abI {a b:UInt8}:bl .xor (b8 a) (b8 b)=some (b8 (a ^^^ b)):=by
 simp only [b8];rw [VC,Vu]
 have:((BitVec.ofInt IntKind.u8.bits (a.toNat:Int) ^^^ BitVec.ofInt IntKind.u8.bits (b.toNat:Int)).toNat:Int)=((a ^^^ b).toNat:Int):=by
  simp only [IntKind.bits,ofInt8];rfl
 rw [this,Jq]
theorem abJ {a b:UInt8}:bl .rem (b8 a) (b8 b)=if b=0 then none else some (b8 (a % b)):=by
 simp only [b8];rw [VA,rm]
 by_cases h:b=0
 · subst h;simp
 · have h2:¬(b.toNat:Int)=0:=by
    intro h0;apply h;apply UInt8.toNat_inj.1;simp;omega
   rw [if_neg h,if_neg h2]
   simp only [Option.map_some,UInt8.toNat_mod]
   rw [Int.tmod_eq_emod_of_nonneg (by omega)]
   simp
theorem abK {a b:UInt8}:bl .eql (b8 a) (b8 b)=some (.bool (decide (a=b))):=by
 simp only [b8];rw [VD];simp [←UInt8.toNat_inj,Int.ofNat_inj]
theorem abL {a b:UInt8}:bl .neq (b8 a) (b8 b)=some (.bool (!decide (a=b))):=by
 simp only [b8];rw [VE];simp [←UInt8.toNat_inj,Int.ofNat_inj]
theorem abM {a b:UInt8}:bl .lss (b8 a) (b8 b)=some (.bool (decide (a<b))):=by
 simp only [b8];rw [VF];simp [UInt8.lt_iff_toNat_lt]
theorem abN {a b:UInt8}:bl .leq (b8 a) (b8 b)=some (.bool (decide (a≤b))):=by
 simp only [b8];rw [VG];simp [UInt8.le_iff_toNat_le]
theorem abO {a b:UInt8}:bl .gtr (b8 a) (b8 b)=some (.bool (decide (b<a))):=by
 simp only [b8];rw [VH];simp [UInt8.lt_iff_toNat_lt]
theorem abP {a b:UInt8}:bl .geq (b8 a) (b8 b)=some (.bool (decide (b≤a))):=by
 simp only [b8];rw [VI];simp [UInt8.le_iff_toNat_le]
theorem adN {k:IntKind} {c:UInt8}:fS (.int k) (b8 c)=some (.int k (k.wrap c.toNat)):=rfl
theorem adO {k:IntKind} {i:Int}:fS (.int .u8) (.int k i)=some (b8 (UInt8.ofInt i)):=by simp only [fS,b8,VN]
theorem adP {c:UInt8}:fS (.int .u8) (b8 c)=some (b8 c):=by simp only [fS,b8,Jq]
theorem adQ {k':IntKind} {i:Int}:fS (.int .i8) (.int k' i)=some (.int .i8 (IntKind.wrap .i8 i)):=rfl
theorem abQ {k':IntKind} {i:Int}:fS (.int .i16) (.int k' i)=some (.int .i16 (IntKind.wrap .i16 i)):=rfl
theorem abR {k':IntKind} {i:Int}:fS (.int .i32) (.int k' i)=some (.int .i32 (IntKind.wrap .i32 i)):=rfl
theorem abS {k':IntKind} {i:Int}:fS (.int .i64) (.int k' i)=some (.int .i64 (IntKind.wrap .i64 i)):=rfl
theorem abT {k':IntKind} {i:Int}:fS (.int .u16) (.int k' i)=some (.int .u16 (IntKind.wrap .u16 i)):=rfl
theorem abU {k':IntKind} {i:Int}:fS (.int .u32) (.int k' i)=some (.int .u32 (IntKind.wrap .u32 i)):=rfl
theorem abV {k':IntKind} {i:Int}:fS (.int .u64) (.int k' i)=some (.int .u64 (IntKind.wrap .u64 i)):=rfl
theorem adR {l:List UInt8}:fS .same (.str l)=some (.str l):=rfl
theorem adS {l:List UInt8}:fS .sb (.str l)=some (.sl .own 1 (ml b8 l)):=rfl
theorem adT {tg:Tg} {xs:List AV}:fS .bs (.sl tg 1 xs)=(bytesOf xs).map .str:=rfl
theorem abW {k:IntKind} {i:Int}:Ns .neg (.int k i)=some (.int k (k.wrap (0 - i))):=rfl
theorem abX {b:Bool}:Ns .not (.bool b)=some (.bool !b):=rfl
def adU (k:IntKind) (i:Int):Int:=k.wrap (BitVec.ofInt k.bits (if k.signed then -1 else k.max) ^^^ BitVec.ofInt k.bits i).toNat
theorem abY {k:IntKind} {i:Int}:Ns .xor (.int k i)=some (.int k (adU k i)):=rfl
theorem Jr:bytesOf []=some []:=rfl
theorem NT {c:UInt8} {r:List AV}:bytesOf (b8 c::r)=(bytesOf r).map (c:: ·):=by
 simp [b8,bytesOf]
theorem Q_i {ks:List Pk} {k:IntKind} {i j:Int} {zq bs:List AV}:cC (.i::ks) (.int k i::zq) (.int k j::bs)=(cC ks zq bs).map (decide (i=j)&& ·):=by simp [cC]
theorem Q_s {ks:List Pk} {l m:List UInt8} {zq bs:List AV}:cC (.s::ks) (.str l::zq) (.str m::bs)=(cC ks zq bs).map (decide (l=m)&& ·):=rfl
theorem Q_b {ks:List Pk} {x y:Bool} {zq bs:List AV}:cC (.b::ks) (.bool x::zq) (.bool y::bs)=(cC ks zq bs).map ((x==y)&& ·):=rfl
theorem Q_n:cC [] [] []=some true:=rfl
theorem adV {x y:Bool}:Np (.bool x) (.bool y)=some (x==y):=rfl
theorem adW {s o:Nat}:Nq (.ptr s o) (.v (.pointer none))=some false:=rfl
theorem adX {s o:Nat}:Nq (.v (.pointer none)) (.ptr s o)=some false:=rfl
theorem adY:Nq (.v (.pointer none)) (.v (.pointer none))=some true:=rfl
section
variable {P:Program} {L:List Nat} {N n0:Nat} {e:Env} {ah:AH} {t:List It} {Q:Exit→Env→AH→Prop} {r:List aM} {d:Option Nat}
theorem jJ {c:UInt8}:(b8 c).bN=b8 c:=rfl
theorem aaE {c:UInt8}:(b8 c).sh=b8 c:=rfl
theorem afX {c:UInt8}:(b8 c).s1=b8 c:=rfl
theorem afY {c:UInt8}:(b8 c).s0=b8 c:=rfl
theorem aaF {c:UInt8}:(b8 c).df=b8 c:=rfl
theorem afD {c:UInt8}:(b8 c).jA=b8 c:=rfl
theorem afE {c:UInt8}:(b8 c).rE=b8 c:=rfl
theorem afi {c:UInt8} {l:Loc}:(b8 c).e5 l=b8 c:=rfl
theorem afF {c:UInt8}:(b8 c).bY=false:=rfl
theorem iJ {c:UInt8}:(b8 c).flat=true:=rfl
theorem afG {c:UInt8}:(b8 c).iR=true:=rfl
theorem afZ {c:UInt8}:(b8 c).np=true:=rfl
theorem adZ {c:UInt8}:(b8 c).cells=[b8 c]:=rfl
theorem afH {c:UInt8}:(b8 c).fo=false:=rfl
theorem af0 {c:UInt8} {x:Ar}:cp L x (b8 c)=b8 c:=rfl
theorem afI {c:UInt8} {x:Ar}:kI P L N n0 e ah d r t Q x (b8 c)=U P L N n0 (.ops r::t) Q .normal (aF L e d (b8 c)) ah:=rfl
theorem QJ {n:Nat} {c:UInt8}:Cl n (b8 c):= .int ..
theorem abZ {l:List UInt8} {c:UInt8}:Lz L e ah d (.str l) (b8 c)=(idx l c.toNat).map fun c=>(aF L e d (b8 c),ah):=QF
theorem ab0 {tg:Tg} {k:Nat} {xs:List AV} {c:UInt8}:uv L e ah d k (.sl tg k xs) (b8 c)=(idx xs c.toNat).map fun a=>(aF L e d (.ep a 0),ah):=QG
theorem afJ {s o:Nat} {c:UInt8}:jI s o (some (b8 c))=some (b8 c):=rfl
theorem ab1 {c:UInt8}:Rz L d e ah (some (b8 c))=some (aF L e d (b8 c),ah):=rfl
end
theorem h_eq {H:AH} {q:Nat} {c:List AV} (h:q<H.length):(H.set q c)[q]? =some c:=List.getElem?_set_self h
theorem aaG {H:AH} {s q:Nat} {c:List AV} (h:s≠q):(H.set s c)[q]? =H[q]? :=List.getElem?_set_ne h
theorem VO {H T:AH} {q:Nat} (h:q<H.length):(H++T)[q]? =H[q]? :=List.getElem?_append_left h
theorem ab2 {H:AH} {c:List AV}:(H++[c])[H.length]? =some c:=by simp
theorem QK {H:AH} {q:Nat} {c:List AV} (h:q=H.length):(H++[c])[q]? =some c:=by subst h;simp
theorem aV {H:AH} {q:Nat} {c:List AV} (h:H[q]? =some c):q<H.length:=(List.getElem?_eq_some_iff.1 h).1
theorem zo {H:AH} {q:Nat} {c:List AV}:(H.set q c).length=H.length:=List.length_set
theorem zp {H:AH} {c:List AV}:(H++[c]).length=H.length+1:=by simp
structure Fr (ah:AH) (n0:Nat) (S:List Nat) (H:AH):Prop where
 le:n0≤H.length
 eq:∀j,j<n0→j∉S→H[j]? =ah[j]?
theorem Fr.refl (ah:AH) (S:List Nat):Fr ah ah.length S ah:=⟨Nat.le_refl _,fun _ _ _=>rfl⟩
theorem Fr.set {ah H:AH} {n0 s:Nat} {S:List Nat} {c:List AV} (h:Fr ah n0 S H) (hs:s∈S∨n0≤s):Fr ah n0 S (H.set s c):=by
 refine ⟨by simpa using h.le,fun j hj FE=> ?_⟩
 rw [List.getElem?_set_ne,h.eq j hj FE]
 rintro rfl
 rcases hs with hs|hs
 · exact FE hs
 · omega
theorem Fr.app {ah H T:AH} {n0:Nat} {S:List Nat} (h:Fr ah n0 S H):Fr ah n0 S (H++T):=by
 have:=h.le
 exact ⟨by simp;omega,fun j hj FE=>by rw [List.getElem?_append_left (by omega),h.eq j hj FE]⟩
theorem Fr.aaH {ah H:AH} (h:Fr ah ah.length [] H):H.take ah.length=ah:=by
 apply List.ext_getElem?
 intro j
 by_cases hj:j<ah.length
 · rw [List.getElem?_take_of_lt hj,h.eq j hj (by simp)]
 · rw [List.getElem?_eq_none (by simp;omega),List.getElem?_eq_none (by omega)]
theorem Fr.aaI {ah H:AH} {s:Nat} {c:List AV} (h:Fr ah ah.length [s] H) (hs:H[s]? =some c) (hl:s<ah.length):H.take ah.length=ah.set s c:=by
 apply List.ext_getElem?
 intro j
 by_cases hj:j<ah.length
 · rw [List.getElem?_take_of_lt hj]
   by_cases he:j=s
   · subst he;rw [hs,List.getElem?_set_self hl]
   · rw [List.getElem?_set_ne (Ne.symm he),h.eq j hj (by simpa using he)]
 · rw [List.getElem?_eq_none (by simp;omega),List.getElem?_eq_none (by simp;omega)]
theorem Fr.aaJ {ah H:AH} {s s2:Nat} {c c2:List AV} (h:Fr ah ah.length [s,s2] H) (hs:H[s]? =some c) (hs2:H[s2]? =some c2) (hl:s<ah.length) (Ec:s2<ah.length) (hne:s≠s2):H.take ah.length=(ah.set s c).set s2 c2:=by
 apply List.ext_getElem?
 intro j
 by_cases hj:j<ah.length
 · rw [List.getElem?_take_of_lt hj]
   by_cases he:j=s2
   · subst he;rw [hs2,List.getElem?_set_self (by simpa using Ec)]
   · rw [List.getElem?_set_ne (Ne.symm he)]
     by_cases he1:j=s
     · subst he1;rw [hs,List.getElem?_set_self hl]
     · rw [List.getElem?_set_ne (Ne.symm he1),h.eq j hj (by simp;exact ⟨he1,he⟩)]
 · rw [List.getElem?_eq_none (by simp;omega),List.getElem?_eq_none (by simp;omega)]
end Go.Am
end
section
namespace Go.Am
open Go
variable [Tabs]
def eE:Bool→AV
 |true=> .eG
 |false=> .v .nilIface
def QL (L:List Nat) (e:Env) (ah:AH) (d:Option Nat):AV→Option (Env×AH)
 | .sl _ _ xs=>some (aF L e d (.int .i64 xs.length),ah)
 | .cN _ _ _ n=>some (aF L e d (.int .i64 n),ah)
 | .cr _ _ n _=>some (aF L e d (.int .i64 n),ah)
 |_=>none
def VP (L:List Nat) (e:Env) (ah:AH) (d:Option Nat):AV→Option (Env×AH)
 | .str l=>some (aF L e d (.int .i64 l.length),ah)
 |_=>none
def VQ (L:List Nat) (e:Env) (ah:AH) (d:Option Nat):Option AV→Option (Env×AH)
 |some a=>some (aF L e d a.sh,ah)
 |none=>none
def VS (L:List Nat) (e:Env) (ah:AH) (d:Option Nat) (i:Nat):AV→Option (Env×AH)
 | .bz cs=>VQ L e ah d (cs[i]?)
 |_=>none
def NU (L:List Nat) (e:Env) (ah:AH) (d:Option Nat):Option AV→Option (Env×AH)
 |some a=>some (aF L e d a.bN,ah)
 |none=>none
def Js (L:List Nat) (e:Env) (ah:AH) (d:Option Nat) (q:Nat):Option Nat→AV→Option (Env×AH)
 |some n, .agg cs=>if q+n≤cs.length then some (aF L e d (.agg (((cs.drop q).take n).map AV.bN)),ah) else none
 |none, .agg cs=>NU L e ah d (cs[q]?)
 |_,_=>none
def VT (L:List Nat) (e:Env) (ah:AH) (d:Option Nat) (n:Option Nat):AV→Option (Env×AH)
 | .ep a p=>Jj L d n e ah (.ep a p)
 |_=>none
theorem VU {z:Value}:AV.bN (.v z)=(.v z:AV):=rfl
theorem NV {k:IntKind} {i:Int}:AV.bN (.int k i)=(.int k i:AV):=rfl
theorem LF {b:Bool}:AV.bN (.bool b)=(.bool b:AV):=rfl
theorem NW {l:List UInt8}:AV.bN (.str l)=(.str l:AV):=rfl
theorem NY {s o:Nat}:AV.bN (.ptr s o)=(.ptr s o:AV):=rfl
theorem RD {a:AV} {o:Nat}:AV.bN (.ep a o)=(.ep a o:AV):=rfl
theorem RE {f:Nat} {cs:List AV}:AV.bN (.fn f cs)=(.fn f cs:AV):=rfl
theorem RF:AV.bN (.un)=(.un:AV):=rfl
theorem RG {c:UInt8}:AV.bN (b8 c)=(b8 c:AV):=rfl
theorem RH {k:Nat} {xs:List AV}:AV.bN (.sl .n k xs)=(.sl .n k xs:AV):=rfl
theorem NZ {k:Nat} {xs:List AV}:AV.bN (.sl .ex k xs)=(.sl .ex k xs:AV):=rfl
theorem LG {k:Nat} {xs:List AV}:AV.bN (.sl .own k xs)=(.sl .n k xs:AV):=rfl
theorem N0 {l:Loc} {k:Nat} {xs:List AV}:AV.bN (.sl (.fr l) k xs)=(.sl .n k xs:AV):=rfl
theorem N1 {cs:List AV}:AV.bN (.agg cs)=(.agg cs:AV):=rfl
theorem N2 {cs:List AV}:AV.bN (.bz cs)=(.bz cs:AV):=rfl
theorem N3 {q0 k0 o0 m0:Nat}:AV.bN (.cN q0 k0 o0 m0)=(.cN q0 k0 o0 m0:AV):=rfl
theorem N4 {q0 k0 m0 c0:Nat}:AV.bN (.cr q0 k0 m0 c0)=(.cr q0 k0 m0 c0:AV):=rfl
theorem N5:AV.bN (.eG)=(.eG:AV):=rfl
theorem RI {eb:Bool}:AV.bN (eE eb)=(eE eb:AV):=by cases eb<;>rfl
theorem ZH {z:Value}:AV.sh (.v z)=(.v z:AV):=rfl
theorem RJ {k:IntKind} {i:Int}:AV.sh (.int k i)=(.int k i:AV):=rfl
theorem N6 {b:Bool}:AV.sh (.bool b)=(.bool b:AV):=rfl
theorem RL {l:List UInt8}:AV.sh (.str l)=(.str l:AV):=rfl
theorem RM {s o:Nat}:AV.sh (.ptr s o)=(.ptr s o:AV):=rfl
theorem VV {a:AV} {o:Nat}:AV.sh (.ep a o)=(.ep a o:AV):=rfl
theorem VW {f:Nat} {cs:List AV}:AV.sh (.fn f cs)=(.fn f cs:AV):=rfl
theorem VX:AV.sh (.un)=(.un:AV):=rfl
theorem VY {c:UInt8}:AV.sh (b8 c)=(b8 c:AV):=rfl
theorem VZ {k:Nat} {xs:List AV}:AV.sh (.sl .n k xs)=(.sl .n k xs:AV):=rfl
theorem RN {k:Nat} {xs:List AV}:AV.sh (.sl .ex k xs)=(.sl .ex k xs:AV):=rfl
theorem N7 {k:Nat} {xs:List AV}:AV.sh (.sl .own k xs)=(.sl .n k xs:AV):=rfl
theorem RO {l:Loc} {k:Nat} {xs:List AV}:AV.sh (.sl (.fr l) k xs)=(.sl .n k xs:AV):=rfl
theorem RP {cs:List AV}:AV.sh (.agg cs)=(.agg (cs.map AV.bN):AV):=rfl
theorem RQ {cs:List AV}:AV.sh (.bz cs)=(.bz (cs.map AV.bN):AV):=rfl
theorem RR {q0 k0 o0 m0:Nat}:AV.sh (.cN q0 k0 o0 m0)=(.cN q0 k0 o0 m0:AV):=rfl
theorem RS {q0 k0 m0 c0:Nat}:AV.sh (.cr q0 k0 m0 c0)=(.cr q0 k0 m0 c0:AV):=rfl
theorem RT:AV.sh (.eG)=(.eG:AV):=rfl
theorem V0 {eb:Bool}:AV.sh (eE eb)=(eE eb:AV):=by cases eb<;>rfl
theorem ZI {z:Value}:AV.s1 (.v z)=(.v z:AV):=rfl
theorem RU {k:IntKind} {i:Int}:AV.s1 (.int k i)=(.int k i:AV):=rfl
theorem N8 {b:Bool}:AV.s1 (.bool b)=(.bool b:AV):=rfl
theorem RV {l:List UInt8}:AV.s1 (.str l)=(.str l:AV):=rfl
theorem RW {s o:Nat}:AV.s1 (.ptr s o)=(.ptr s o:AV):=rfl
theorem V1 {a:AV} {o:Nat}:AV.s1 (.ep a o)=(.ep a o:AV):=rfl
theorem V3 {f:Nat} {cs:List AV}:AV.s1 (.fn f cs)=(.fn f cs:AV):=rfl
theorem V4:AV.s1 (.un)=(.un:AV):=rfl
theorem V5 {c:UInt8}:AV.s1 (b8 c)=(b8 c:AV):=rfl
theorem V6 {k:Nat} {xs:List AV}:AV.s1 (.sl .n k xs)=(.sl .n k xs:AV):=rfl
theorem RX {k:Nat} {xs:List AV}:AV.s1 (.sl .ex k xs)=(.sl .n k xs:AV):=rfl
theorem N9 {k:Nat} {xs:List AV}:AV.s1 (.sl .own k xs)=(.sl .n k xs:AV):=rfl
theorem RY {l:Loc} {k:Nat} {xs:List AV}:AV.s1 (.sl (.fr l) k xs)=(.sl .n k xs:AV):=rfl
theorem RZ {cs:List AV}:AV.s1 (.agg cs)=(.agg cs:AV):=rfl
theorem R0 {cs:List AV}:AV.s1 (.bz cs)=(.bz cs:AV):=rfl
theorem R1 {q0 k0 o0 m0:Nat}:AV.s1 (.cN q0 k0 o0 m0)=(.cN q0 k0 o0 m0:AV):=rfl
theorem R2 {q0 k0 m0 c0:Nat}:AV.s1 (.cr q0 k0 m0 c0)=(.cr q0 k0 m0 c0:AV):=rfl
theorem R3:AV.s1 (.eG)=(.eG:AV):=rfl
theorem V7 {eb:Bool}:AV.s1 (eE eb)=(eE eb:AV):=by cases eb<;>rfl
theorem ZJ {z:Value}:AV.s0 (.v z)=(.v z:AV):=rfl
theorem R4 {k:IntKind} {i:Int}:AV.s0 (.int k i)=(.int k i:AV):=rfl
theorem Oa {b:Bool}:AV.s0 (.bool b)=(.bool b:AV):=rfl
theorem R5 {l:List UInt8}:AV.s0 (.str l)=(.str l:AV):=rfl
theorem R6 {s o:Nat}:AV.s0 (.ptr s o)=(.ptr s o:AV):=rfl
theorem V8 {a:AV} {o:Nat}:AV.s0 (.ep a o)=(.ep a o:AV):=rfl
theorem V9 {f:Nat} {cs:List AV}:AV.s0 (.fn f cs)=(.fn f cs:AV):=rfl
theorem Wa:AV.s0 (.un)=(.un:AV):=rfl
theorem Wb {c:UInt8}:AV.s0 (b8 c)=(b8 c:AV):=rfl
theorem Wc {k:Nat} {xs:List AV}:AV.s0 (.sl .n k xs)=(.sl .n k xs:AV):=rfl
theorem R7 {k:Nat} {xs:List AV}:AV.s0 (.sl .ex k xs)=(.sl .n k xs:AV):=rfl
theorem Ob {k:Nat} {xs:List AV}:AV.s0 (.sl .own k xs)=(.sl .n k xs:AV):=rfl
theorem R8 {l:Loc} {k:Nat} {xs:List AV}:AV.s0 (.sl (.fr l) k xs)=(.sl .n k xs:AV):=rfl
theorem R9 {cs:List AV}:AV.s0 (.agg cs)=(.agg (cs.map AV.s1):AV):=rfl
theorem Sa {cs:List AV}:AV.s0 (.bz cs)=(.bz cs:AV):=rfl
theorem Sb {q0 k0 o0 m0:Nat}:AV.s0 (.cN q0 k0 o0 m0)=(.cN q0 k0 o0 m0:AV):=rfl
theorem Sc {q0 k0 m0 c0:Nat}:AV.s0 (.cr q0 k0 m0 c0)=(.cr q0 k0 m0 c0:AV):=rfl
theorem Sd:AV.s0 (.eG)=(.eG:AV):=rfl
theorem Wd {eb:Bool}:AV.s0 (eE eb)=(eE eb:AV):=by cases eb<;>rfl
theorem ZK {z:Value}:AV.df (.v z)=(.v z:AV):=rfl
theorem Se {k:IntKind} {i:Int}:AV.df (.int k i)=(.int k i:AV):=rfl
theorem Oc {b:Bool}:AV.df (.bool b)=(.bool b:AV):=rfl
theorem Sf {l:List UInt8}:AV.df (.str l)=(.str l:AV):=rfl
theorem Sg {s o:Nat}:AV.df (.ptr s o)=(.ptr s o:AV):=rfl
theorem We {a:AV} {o:Nat}:AV.df (.ep a o)=(.ep a o:AV):=rfl
theorem Wf {f:Nat} {cs:List AV}:AV.df (.fn f cs)=(.fn f cs:AV):=rfl
theorem Wg:AV.df (.un)=(.un:AV):=rfl
theorem Wh {c:UInt8}:AV.df (b8 c)=(b8 c:AV):=rfl
theorem Wi {k:Nat} {xs:List AV}:AV.df (.sl .n k xs)=(.sl .n k xs:AV):=rfl
theorem Sh {k:Nat} {xs:List AV}:AV.df (.sl .ex k xs)=(.sl .ex k xs:AV):=rfl
theorem Od {k:Nat} {xs:List AV}:AV.df (.sl .own k xs)=(.sl .own k xs:AV):=rfl
theorem Si {l:Loc} {k:Nat} {xs:List AV}:AV.df (.sl (.fr l) k xs)=(.sl .n k xs:AV):=rfl
theorem Sj {cs:List AV}:AV.df (.agg cs)=(.agg cs:AV):=rfl
theorem Sk {cs:List AV}:AV.df (.bz cs)=(.bz cs:AV):=rfl
theorem Sl {q0 k0 o0 m0:Nat}:AV.df (.cN q0 k0 o0 m0)=(.cN q0 k0 o0 m0:AV):=rfl
theorem Sm {q0 k0 m0 c0:Nat}:AV.df (.cr q0 k0 m0 c0)=(.cr q0 k0 m0 c0:AV):=rfl
theorem Sn:AV.df (.eG)=(.eG:AV):=rfl
theorem Wj {eb:Bool}:AV.df (eE eb)=(eE eb:AV):=by cases eb<;>rfl
theorem Oe {z:Value}:AV.bY (.v z)=false:=rfl
theorem Jt {k:IntKind} {i:Int}:AV.bY (.int k i)=false:=rfl
theorem Hr {b:Bool}:AV.bY (.bool b)=false:=rfl
theorem Ju {l:List UInt8}:AV.bY (.str l)=false:=rfl
theorem Jv {s o:Nat}:AV.bY (.ptr s o)=false:=rfl
theorem LH {a:AV} {o:Nat}:AV.bY (.ep a o)=false:=rfl
theorem LI {f:Nat} {cs:List AV}:AV.bY (.fn f cs)=false:=rfl
theorem LJ:AV.bY (.un)=false:=rfl
theorem LK {c:UInt8}:AV.bY (b8 c)=false:=rfl
theorem LL {k:Nat} {xs:List AV}:AV.bY (.sl .n k xs)=false:=rfl
theorem Jw {k:Nat} {xs:List AV}:AV.bY (.sl .ex k xs)=false:=rfl
theorem Hs {k:Nat} {xs:List AV}:AV.bY (.sl .own k xs)=true:=rfl
theorem Jx {l:Loc} {k:Nat} {xs:List AV}:AV.bY (.sl (.fr l) k xs)=false:=rfl
theorem Jy {cs:List AV}:AV.bY (.agg cs)=false:=rfl
theorem Jz {cs:List AV}:AV.bY (.bz cs)=false:=rfl
theorem JA {q0 k0 o0 m0:Nat}:AV.bY (.cN q0 k0 o0 m0)=false:=rfl
theorem JB {q0 k0 m0 c0:Nat}:AV.bY (.cr q0 k0 m0 c0)=false:=rfl
theorem JC:AV.bY (.eG)=false:=rfl
theorem LM {eb:Bool}:AV.bY (eE eb)=false:=by cases eb<;>rfl
theorem Wl {z:Value}:AV.rE (.v z)=(.v z:AV):=rfl
theorem Of {k:IntKind} {i:Int}:AV.rE (.int k i)=(.int k i:AV):=rfl
theorem LN {b:Bool}:AV.rE (.bool b)=(.bool b:AV):=rfl
theorem Og {l:List UInt8}:AV.rE (.str l)=(.str l:AV):=rfl
theorem Oh {s o:Nat}:AV.rE (.ptr s o)=(.ptr s o:AV):=rfl
theorem Sp {a:AV} {o:Nat}:AV.rE (.ep a o)=(.ep a o:AV):=rfl
theorem Sq {f:Nat} {cs:List AV}:AV.rE (.fn f cs)=(.fn f cs:AV):=rfl
theorem Sr:AV.rE (.un)=(.un:AV):=rfl
theorem Ss {c:UInt8}:AV.rE (b8 c)=(b8 c:AV):=rfl
theorem Su {k:Nat} {xs:List AV}:AV.rE (.sl .n k xs)=(.sl .n k xs:AV):=rfl
theorem Oi {k:Nat} {xs:List AV}:AV.rE (.sl .ex k xs)=(.sl .ex k xs:AV):=rfl
theorem LO {k:Nat} {xs:List AV}:AV.rE (.sl .own k xs)=(.sl .n k xs:AV):=rfl
theorem Oj {l:Loc} {k:Nat} {xs:List AV}:AV.rE (.sl (.fr l) k xs)=(.sl (.fr l) k xs:AV):=rfl
theorem Ok {cs:List AV}:AV.rE (.agg cs)=(.agg cs:AV):=rfl
theorem Ol {cs:List AV}:AV.rE (.bz cs)=(.bz cs:AV):=rfl
theorem Om {q0 k0 o0 m0:Nat}:AV.rE (.cN q0 k0 o0 m0)=(.cN q0 k0 o0 m0:AV):=rfl
theorem On {q0 k0 m0 c0:Nat}:AV.rE (.cr q0 k0 m0 c0)=(.cr q0 k0 m0 c0:AV):=rfl
theorem Oo:AV.rE (.eG)=(.eG:AV):=rfl
theorem Sv {eb:Bool}:AV.rE (eE eb)=(eE eb:AV):=by cases eb<;>rfl
theorem Sw {z:Value} {l0:Loc}:AV.e5 l0 (.v z)=(.v z:AV):=rfl
theorem LP {k:IntKind} {i:Int} {l0:Loc}:AV.e5 l0 (.int k i)=(.int k i:AV):=rfl
theorem JD {b:Bool} {l0:Loc}:AV.e5 l0 (.bool b)=(.bool b:AV):=rfl
theorem LQ {l:List UInt8} {l0:Loc}:AV.e5 l0 (.str l)=(.str l:AV):=rfl
theorem LR {s o:Nat} {l0:Loc}:AV.e5 l0 (.ptr s o)=(.ptr s o:AV):=rfl
theorem Oq {a:AV} {o:Nat} {l0:Loc}:AV.e5 l0 (.ep a o)=(.ep a o:AV):=rfl
theorem Ot {f:Nat} {cs:List AV} {l0:Loc}:AV.e5 l0 (.fn f cs)=(.fn f cs:AV):=rfl
theorem Ou {l0:Loc}:AV.e5 l0 (.un)=(.un:AV):=rfl
theorem Ov {c:UInt8} {l0:Loc}:AV.e5 l0 (b8 c)=(b8 c:AV):=rfl
theorem Ox {k:Nat} {xs:List AV} {l0:Loc}:AV.e5 l0 (.sl .n k xs)=(.sl .n k xs:AV):=rfl
theorem LS {k:Nat} {xs:List AV} {l0:Loc}:AV.e5 l0 (.sl .ex k xs)=(.sl .ex k xs:AV):=rfl
theorem JE {k:Nat} {xs:List AV} {l0:Loc}:AV.e5 l0 (.sl .own k xs)=(.sl .own k xs:AV):=rfl
theorem LU {l:Loc} {k:Nat} {xs:List AV} {l0:Loc}:AV.e5 l0 (.sl (.fr l) k xs)=if l=l0 then .sl .n k xs else .sl (.fr l) k xs:=rfl
theorem LV {cs:List AV} {l0:Loc}:AV.e5 l0 (.agg cs)=(.agg cs:AV):=rfl
theorem LW {cs:List AV} {l0:Loc}:AV.e5 l0 (.bz cs)=(.bz cs:AV):=rfl
theorem LX {q0 k0 o0 m0:Nat} {l0:Loc}:AV.e5 l0 (.cN q0 k0 o0 m0)=(.cN q0 k0 o0 m0:AV):=rfl
theorem LY {q0 k0 m0 c0:Nat} {l0:Loc}:AV.e5 l0 (.cr q0 k0 m0 c0)=(.cr q0 k0 m0 c0:AV):=rfl
theorem LZ {l0:Loc}:AV.e5 l0 (.eG)=(.eG:AV):=rfl
theorem Oy {eb:Bool} {l0:Loc}:AV.e5 l0 (eE eb)=(eE eb:AV):=by cases eb<;>rfl
theorem Wm {z:Value}:AV.jA (.v z)=(.v z:AV):=rfl
theorem Oz {k:IntKind} {i:Int}:AV.jA (.int k i)=(.int k i:AV):=rfl
theorem L0 {b:Bool}:AV.jA (.bool b)=(.bool b:AV):=rfl
theorem OA {l:List UInt8}:AV.jA (.str l)=(.str l:AV):=rfl
theorem OB {s o:Nat}:AV.jA (.ptr s o)=(.ptr s o:AV):=rfl
theorem Sx {a:AV} {o:Nat}:AV.jA (.ep a o)=(.ep a o:AV):=rfl
theorem Sy {f:Nat} {cs:List AV}:AV.jA (.fn f cs)=(.fn f cs:AV):=rfl
theorem Sz:AV.jA (.un)=(.un:AV):=rfl
theorem SA {c:UInt8}:AV.jA (b8 c)=(b8 c:AV):=rfl
theorem SB {k:Nat} {xs:List AV}:AV.jA (.sl .n k xs)=(.sl .n k xs:AV):=rfl
theorem OC {k:Nat} {xs:List AV}:AV.jA (.sl .ex k xs)=(.sl .ex k xs:AV):=rfl
theorem L1 {k:Nat} {xs:List AV}:AV.jA (.sl .own k xs)=(.sl .own k xs:AV):=rfl
theorem OD {cs:List AV}:AV.jA (.agg cs)=(.agg cs:AV):=rfl
theorem OE {cs:List AV}:AV.jA (.bz cs)=(.bz cs:AV):=rfl
theorem OG {q0 k0 o0 m0:Nat}:AV.jA (.cN q0 k0 o0 m0)=(.cN q0 k0 o0 m0:AV):=rfl
theorem OH {q0 k0 m0 c0:Nat}:AV.jA (.cr q0 k0 m0 c0)=(.cr q0 k0 m0 c0:AV):=rfl
theorem OI:AV.jA (.eG)=(.eG:AV):=rfl
theorem SC {eb:Bool}:AV.jA (eE eb)=(eE eb:AV):=by cases eb<;>rfl
theorem Wn {a b k:Nat} {xs:List AV}:AV.jA (.sl (.fr (.cell a b)) k xs)= .sl .n k xs:=rfl
theorem Wo {a k:Nat} {xs:List AV}:AV.jA (.sl (.fr (.tmp a)) k xs)= .sl (.fr (.tmp a)) k xs:=rfl
theorem OJ {z:Value}:AV.cells (.v z)=[.v z]:=rfl
theorem JF {k:IntKind} {i:Int}:AV.cells (.int k i)=[.int k i]:=rfl
theorem Ht {b:Bool}:AV.cells (.bool b)=[.bool b]:=rfl
theorem JG {l:List UInt8}:AV.cells (.str l)=[.str l]:=rfl
theorem JH {s o:Nat}:AV.cells (.ptr s o)=[.ptr s o]:=rfl
theorem L2 {a:AV} {o:Nat}:AV.cells (.ep a o)=[.ep a o]:=rfl
theorem L3 {f:Nat} {cs:List AV}:AV.cells (.fn f cs)=[.fn f cs]:=rfl
theorem L4:AV.cells (.un)=[.un]:=rfl
theorem L5 {c:UInt8}:AV.cells (b8 c)=[b8 c]:=rfl
theorem L6 {k:Nat} {xs:List AV}:AV.cells (.sl .n k xs)=[.sl .n k xs]:=rfl
theorem JI {k:Nat} {xs:List AV}:AV.cells (.sl .ex k xs)=[.sl .ex k xs]:=rfl
theorem Hu {k:Nat} {xs:List AV}:AV.cells (.sl .own k xs)=[.sl .own k xs]:=rfl
theorem JJ {l:Loc} {k:Nat} {xs:List AV}:AV.cells (.sl (.fr l) k xs)=[.sl (.fr l) k xs]:=rfl
theorem JK {cs:List AV}:AV.cells (.agg cs)=cs:=rfl
theorem JL {cs:List AV}:AV.cells (.bz cs)=[.bz cs]:=rfl
theorem JM {q0 k0 o0 m0:Nat}:AV.cells (.cN q0 k0 o0 m0)=[.cN q0 k0 o0 m0]:=rfl
theorem JN {q0 k0 m0 c0:Nat}:AV.cells (.cr q0 k0 m0 c0)=[.cr q0 k0 m0 c0]:=rfl
theorem JO:AV.cells (.eG)=[.eG]:=rfl
theorem L7 {eb:Bool}:AV.cells (eE eb)=[eE eb]:=by cases eb<;>rfl
theorem Wp {z:Value}:AV.iR (.v z)=true:=rfl
theorem OK {k:IntKind} {i:Int}:AV.iR (.int k i)=true:=rfl
theorem L8 {b:Bool}:AV.iR (.bool b)=true:=rfl
theorem OL {l:List UInt8}:AV.iR (.str l)=true:=rfl
theorem OM {s o:Nat}:AV.iR (.ptr s o)=true:=rfl
theorem SD {a:AV} {o:Nat}:AV.iR (.ep a o)=true:=rfl
theorem SE {f:Nat} {cs:List AV}:AV.iR (.fn f cs)=true:=rfl
theorem SF:AV.iR (.un)=false:=rfl
theorem SG {c:UInt8}:AV.iR (b8 c)=true:=rfl
theorem SH {k:Nat} {xs:List AV}:AV.iR (.sl .n k xs)=true:=rfl
theorem OO {k:Nat} {xs:List AV}:AV.iR (.sl .ex k xs)=true:=rfl
theorem L9 {k:Nat} {xs:List AV}:AV.iR (.sl .own k xs)=true:=rfl
theorem OP {l:Loc} {k:Nat} {xs:List AV}:AV.iR (.sl (.fr l) k xs)=true:=rfl
theorem OQ {cs:List AV}:AV.iR (.agg cs)=false:=rfl
theorem OS {cs:List AV}:AV.iR (.bz cs)=false:=rfl
theorem OT {q0 k0 o0 m0:Nat}:AV.iR (.cN q0 k0 o0 m0)=true:=rfl
theorem OU {q0 k0 m0 c0:Nat}:AV.iR (.cr q0 k0 m0 c0)=true:=rfl
theorem OV:AV.iR (.eG)=true:=rfl
theorem SI {eb:Bool}:AV.iR (eE eb)=true:=by cases eb<;>rfl
theorem SJ {z:Value}:AV.flat (.v z)=true:=rfl
theorem Ma {k:IntKind} {i:Int}:AV.flat (.int k i)=true:=rfl
theorem JP {b:Bool}:AV.flat (.bool b)=true:=rfl
theorem Mb {l:List UInt8}:AV.flat (.str l)=true:=rfl
theorem Mc {s o:Nat}:AV.flat (.ptr s o)=true:=rfl
theorem OW {a:AV} {o:Nat}:AV.flat (.ep a o)=true:=rfl
theorem OX {f:Nat} {cs:List AV}:AV.flat (.fn f cs)=true:=rfl
theorem OY:AV.flat (.un)=true:=rfl
theorem OZ {c:UInt8}:AV.flat (b8 c)=true:=rfl
theorem O0 {k:Nat} {xs:List AV}:AV.flat (.sl .n k xs)=true:=rfl
theorem Md {k:Nat} {xs:List AV}:AV.flat (.sl .ex k xs)=true:=rfl
theorem JQ {k:Nat} {xs:List AV}:AV.flat (.sl .own k xs)=true:=rfl
theorem Me {l:Loc} {k:Nat} {xs:List AV}:AV.flat (.sl (.fr l) k xs)=true:=rfl
theorem Mf {cs:List AV}:AV.flat (.agg cs)=false:=rfl
theorem Mg {cs:List AV}:AV.flat (.bz cs)=false:=rfl
theorem Mh {q0 k0 o0 m0:Nat}:AV.flat (.cN q0 k0 o0 m0)=true:=rfl
theorem Mi {q0 k0 m0 c0:Nat}:AV.flat (.cr q0 k0 m0 c0)=true:=rfl
theorem Mj:AV.flat (.eG)=true:=rfl
theorem O1 {eb:Bool}:AV.flat (eE eb)=true:=by cases eb<;>rfl
theorem ZL {z:Value}:AV.np (.v z)=true:=rfl
theorem SK {k:IntKind} {i:Int}:AV.np (.int k i)=true:=rfl
theorem O2 {b:Bool}:AV.np (.bool b)=true:=rfl
theorem SL {l:List UInt8}:AV.np (.str l)=true:=rfl
theorem SM {s o:Nat}:AV.np (.ptr s o)=false:=rfl
theorem Wq {a:AV} {o:Nat}:AV.np (.ep a o)=false:=rfl
theorem Wr {f:Nat} {cs:List AV}:AV.np (.fn f cs)=cs.isEmpty:=rfl
theorem Ws:AV.np (.un)=true:=rfl
theorem Wt {c:UInt8}:AV.np (b8 c)=true:=rfl
theorem Wu {k:Nat} {xs:List AV}:AV.np (.sl .n k xs)=true:=rfl
theorem SN {k:Nat} {xs:List AV}:AV.np (.sl .ex k xs)=true:=rfl
theorem O3 {k:Nat} {xs:List AV}:AV.np (.sl .own k xs)=true:=rfl
theorem SP {l:Loc} {k:Nat} {xs:List AV}:AV.np (.sl (.fr l) k xs)=true:=rfl
theorem SQ {cs:List AV}:AV.np (.agg cs)=false:=rfl
theorem SS {cs:List AV}:AV.np (.bz cs)=false:=rfl
theorem SU {q0 k0 o0 m0:Nat}:AV.np (.cN q0 k0 o0 m0)=false:=rfl
theorem SV {q0 k0 m0 c0:Nat}:AV.np (.cr q0 k0 m0 c0)=false:=rfl
theorem SW:AV.np (.eG)=true:=rfl
theorem Wv {eb:Bool}:AV.np (eE eb)=true:=by cases eb<;>rfl
theorem O4 {z:Value}:AV.fo (.v z)=false:=rfl
theorem JR {k:IntKind} {i:Int}:AV.fo (.int k i)=false:=rfl
theorem Hv {b:Bool}:AV.fo (.bool b)=false:=rfl
theorem JS {l:List UInt8}:AV.fo (.str l)=false:=rfl
theorem JT {s o:Nat}:AV.fo (.ptr s o)=false:=rfl
theorem Mk {a:AV} {o:Nat}:AV.fo (.ep a o)=false:=rfl
theorem Ml {f:Nat} {cs:List AV}:AV.fo (.fn f cs)=false:=rfl
theorem Mm:AV.fo (.un)=false:=rfl
theorem Mn {c:UInt8}:AV.fo (b8 c)=false:=rfl
theorem Mo {k:Nat} {xs:List AV}:AV.fo (.sl .n k xs)=false:=rfl
theorem JU {k:Nat} {xs:List AV}:AV.fo (.sl .ex k xs)=false:=rfl
theorem Hw {k:Nat} {xs:List AV}:AV.fo (.sl .own k xs)=false:=rfl
theorem JV {l:Loc} {k:Nat} {xs:List AV}:AV.fo (.sl (.fr l) k xs)=false:=rfl
theorem JW {cs:List AV}:AV.fo (.agg cs)=false:=rfl
theorem JX {cs:List AV}:AV.fo (.bz cs)=true:=rfl
theorem JY {q0 k0 o0 m0:Nat}:AV.fo (.cN q0 k0 o0 m0)=false:=rfl
theorem JZ {q0 k0 m0 c0:Nat}:AV.fo (.cr q0 k0 m0 c0)=false:=rfl
theorem J0:AV.fo (.eG)=false:=rfl
theorem Mp {eb:Bool}:AV.fo (eE eb)=false:=by cases eb<;>rfl
theorem ZM {L:List Nat} {x:Ar} {z:Value}:cp L x (.v z)= .v z:=rfl
theorem SX {L:List Nat} {x:Ar} {k:IntKind} {i:Int}:cp L x (.int k i)= .int k i:=rfl
theorem O5 {L:List Nat} {x:Ar} {b:Bool}:cp L x (.bool b)= .bool b:=rfl
theorem SY {L:List Nat} {x:Ar} {l:List UInt8}:cp L x (.str l)= .str l:=rfl
theorem SZ {L:List Nat} {x:Ar} {s o:Nat}:cp L x (.ptr s o)= .ptr s o:=rfl
theorem Ww {L:List Nat} {x:Ar} {a:AV} {o:Nat}:cp L x (.ep a o)= .ep a o:=rfl
theorem Wy {L:List Nat} {x:Ar} {f:Nat} {cs:List AV}:cp L x (.fn f cs)= .fn f cs:=rfl
theorem Wz {L:List Nat} {x:Ar}:cp L x (.un)= .un:=rfl
theorem WA {L:List Nat} {x:Ar} {c:UInt8}:cp L x (b8 c)=b8 c:=rfl
theorem WC {L:List Nat} {x:Ar} {k:Nat} {xs:List AV}:cp L x (.sl .n k xs)= .sl .n k xs:=rfl
theorem S0 {L:List Nat} {x:Ar} {k:Nat} {xs:List AV}:cp L x (.sl .ex k xs)= .sl .ex k xs:=rfl
theorem S1 {L:List Nat} {x:Ar} {l:Loc} {k:Nat} {xs:List AV}:cp L x (.sl (.fr l) k xs)= .sl (.fr l) k xs:=rfl
theorem S3 {L:List Nat} {x:Ar} {cs:List AV}:cp L x (.agg cs)= .agg (cs.map AV.bN):=rfl
theorem S4 {L:List Nat} {x:Ar} {cs:List AV}:cp L x (.bz cs)= .bz (cs.map AV.bN):=rfl
theorem S5 {L:List Nat} {x:Ar} {q0 k0 o0 m0:Nat}:cp L x (.cN q0 k0 o0 m0)= .cN q0 k0 o0 m0:=rfl
theorem S6 {L:List Nat} {x:Ar} {q0 k0 m0 c0:Nat}:cp L x (.cr q0 k0 m0 c0)= .cr q0 k0 m0 c0:=rfl
theorem S7 {L:List Nat} {x:Ar}:cp L x (.eG)= .eG:=rfl
theorem WD {L:List Nat} {x:Ar} {eb:Bool}:cp L x (eE eb)=eE eb:=by cases eb<;>rfl
theorem WI {L:List Nat} {u k:Nat} {xs:List AV}:cp L (.t u) (.sl .own k xs)=if L.contains u then .sl (.fr (.tmp u)) k xs else .sl .n k xs:=rfl
theorem WJ {L:List Nat} {a:AV} {k:Nat} {xs:List AV}:cp L (.c a) (.sl .own k xs)= .sl .n k xs:=rfl
theorem WK {P:Program} {L:List Nat} {N n0:Nat} {e:Env} {ah:AH} {t:List It} {Q:Exit→Env→AH→Prop} {r:List aM} {d:Option Nat} {x:Ar} {z:Value}:kI P L N n0 e ah d r t Q x (.v z)=U P L N n0 (.ops r::t) Q .normal (aF L e d (cp L x (.v z))) ah:=rfl
theorem O6 {P:Program} {L:List Nat} {N n0:Nat} {e:Env} {ah:AH} {t:List It} {Q:Exit→Env→AH→Prop} {r:List aM} {d:Option Nat} {x:Ar} {k:IntKind} {i:Int}:kI P L N n0 e ah d r t Q x (.int k i)=U P L N n0 (.ops r::t) Q .normal (aF L e d (cp L x (.int k i))) ah:=rfl
theorem Mq {P:Program} {L:List Nat} {N n0:Nat} {e:Env} {ah:AH} {t:List It} {Q:Exit→Env→AH→Prop} {r:List aM} {d:Option Nat} {x:Ar} {b:Bool}:kI P L N n0 e ah d r t Q x (.bool b)=U P L N n0 (.ops r::t) Q .normal (aF L e d (cp L x (.bool b))) ah:=rfl
theorem O7 {P:Program} {L:List Nat} {N n0:Nat} {e:Env} {ah:AH} {t:List It} {Q:Exit→Env→AH→Prop} {r:List aM} {d:Option Nat} {x:Ar} {l:List UInt8}:kI P L N n0 e ah d r t Q x (.str l)=U P L N n0 (.ops r::t) Q .normal (aF L e d (cp L x (.str l))) ah:=rfl
theorem O8 {P:Program} {L:List Nat} {N n0:Nat} {e:Env} {ah:AH} {t:List It} {Q:Exit→Env→AH→Prop} {r:List aM} {d:Option Nat} {x:Ar} {s o:Nat}:kI P L N n0 e ah d r t Q x (.ptr s o)=U P L N n0 (.ops r::t) Q .normal (aF L e d (cp L x (.ptr s o))) ah:=rfl
theorem S8 {P:Program} {L:List Nat} {N n0:Nat} {e:Env} {ah:AH} {t:List It} {Q:Exit→Env→AH→Prop} {r:List aM} {d:Option Nat} {x:Ar} {a:AV} {o:Nat}:kI P L N n0 e ah d r t Q x (.ep a o)=U P L N n0 (.ops r::t) Q .normal (aF L e d (cp L x (.ep a o))) ah:=rfl
theorem S9 {P:Program} {L:List Nat} {N n0:Nat} {e:Env} {ah:AH} {t:List It} {Q:Exit→Env→AH→Prop} {r:List aM} {d:Option Nat} {x:Ar} {f:Nat} {cs:List AV}:kI P L N n0 e ah d r t Q x (.fn f cs)=U P L N n0 (.ops r::t) Q .normal (aF L e d (cp L x (.fn f cs))) ah:=rfl
theorem Ta {P:Program} {L:List Nat} {N n0:Nat} {e:Env} {ah:AH} {t:List It} {Q:Exit→Env→AH→Prop} {r:List aM} {d:Option Nat} {x:Ar}:kI P L N n0 e ah d r t Q x (.un)=U P L N n0 (.ops r::t) Q .normal (aF L e d (cp L x (.un))) ah:=rfl
theorem Tb {P:Program} {L:List Nat} {N n0:Nat} {e:Env} {ah:AH} {t:List It} {Q:Exit→Env→AH→Prop} {r:List aM} {d:Option Nat} {x:Ar} {c:UInt8}:kI P L N n0 e ah d r t Q x (b8 c)=U P L N n0 (.ops r::t) Q .normal (aF L e d (cp L x (b8 c))) ah:=rfl
theorem Tc {P:Program} {L:List Nat} {N n0:Nat} {e:Env} {ah:AH} {t:List It} {Q:Exit→Env→AH→Prop} {r:List aM} {d:Option Nat} {x:Ar} {k:Nat} {xs:List AV}:kI P L N n0 e ah d r t Q x (.sl .n k xs)=U P L N n0 (.ops r::t) Q .normal (aF L e d (cp L x (.sl .n k xs))) ah:=rfl
theorem O9 {P:Program} {L:List Nat} {N n0:Nat} {e:Env} {ah:AH} {t:List It} {Q:Exit→Env→AH→Prop} {r:List aM} {d:Option Nat} {x:Ar} {k:Nat} {xs:List AV}:kI P L N n0 e ah d r t Q x (.sl .ex k xs)=U P L N n0 (.ops r::t) Q .normal (aF L e d (cp L x (.sl .ex k xs))) ah:=rfl
theorem Pa {P:Program} {L:List Nat} {N n0:Nat} {e:Env} {ah:AH} {t:List It} {Q:Exit→Env→AH→Prop} {r:List aM} {d:Option Nat} {x:Ar} {l:Loc} {k:Nat} {xs:List AV}:kI P L N n0 e ah d r t Q x (.sl (.fr l) k xs)=U P L N n0 (.ops r::t) Q .normal (aF L e d (cp L x (.sl (.fr l) k xs))) ah:=rfl
theorem Pb {P:Program} {L:List Nat} {N n0:Nat} {e:Env} {ah:AH} {t:List It} {Q:Exit→Env→AH→Prop} {r:List aM} {d:Option Nat} {x:Ar} {cs:List AV}:kI P L N n0 e ah d r t Q x (.agg cs)=U P L N n0 (.ops r::t) Q .normal (aF L e d (cp L x (.agg cs))) ah:=rfl
theorem Pc {P:Program} {L:List Nat} {N n0:Nat} {e:Env} {ah:AH} {t:List It} {Q:Exit→Env→AH→Prop} {r:List aM} {d:Option Nat} {x:Ar} {cs:List AV}:kI P L N n0 e ah d r t Q x (.bz cs)=U P L N n0 (.ops r::t) Q .normal (aF L e d (cp L x (.bz cs))) ah:=rfl
theorem Pd {P:Program} {L:List Nat} {N n0:Nat} {e:Env} {ah:AH} {t:List It} {Q:Exit→Env→AH→Prop} {r:List aM} {d:Option Nat} {x:Ar} {q0 k0 o0 m0:Nat}:kI P L N n0 e ah d r t Q x (.cN q0 k0 o0 m0)=U P L N n0 (.ops r::t) Q .normal (aF L e d (cp L x (.cN q0 k0 o0 m0))) ah:=rfl
theorem Pe {P:Program} {L:List Nat} {N n0:Nat} {e:Env} {ah:AH} {t:List It} {Q:Exit→Env→AH→Prop} {r:List aM} {d:Option Nat} {x:Ar} {q0 k0 m0 c0:Nat}:kI P L N n0 e ah d r t Q x (.cr q0 k0 m0 c0)=U P L N n0 (.ops r::t) Q .normal (aF L e d (cp L x (.cr q0 k0 m0 c0))) ah:=rfl
theorem Pf {P:Program} {L:List Nat} {N n0:Nat} {e:Env} {ah:AH} {t:List It} {Q:Exit→Env→AH→Prop} {r:List aM} {d:Option Nat} {x:Ar}:kI P L N n0 e ah d r t Q x (.eG)=U P L N n0 (.ops r::t) Q .normal (aF L e d (cp L x (.eG))) ah:=rfl
theorem Td {P:Program} {L:List Nat} {N n0:Nat} {e:Env} {ah:AH} {t:List It} {Q:Exit→Env→AH→Prop} {r:List aM} {d:Option Nat} {x:Ar} {eb:Bool}:kI P L N n0 e ah d r t Q x (eE eb)=U P L N n0 (.ops r::t) Q .normal (aF L e d (cp L x (eE eb))) ah:=by cases eb<;>rfl
theorem Te {P:Program} {L:List Nat} {N n0:Nat} {e:Env} {ah:AH} {t:List It} {Q:Exit→Env→AH→Prop} {r:List aM} {d:Option Nat} {y k:Nat} {xs:List AV}:kI P L N n0 e ah d r t Q (.t y) (.sl .own k xs)=U P L N n0 (.ops r::t) Q .normal (aF L (put e y (.sl .n k xs)) d (.sl .own k xs)) ah:=rfl
theorem Tf {P:Program} {L:List Nat} {N n0:Nat} {e:Env} {ah:AH} {t:List It} {Q:Exit→Env→AH→Prop} {r:List aM} {d:Option Nat} {a:AV} {k:Nat} {xs:List AV}:kI P L N n0 e ah d r t Q (.c a) (.sl .own k xs)=U P L N n0 (.ops r::t) Q .normal (aF L e d (cp L (.c a) (.sl .own k xs))) ah:=rfl
theorem Th {L:List Nat} {e:Env} {ah:AH} {d:Option Nat} {a b:Ar}:NR L e ah d a b (.bool true)=some (aF L e d (ev e a).sh,ah):=rfl
theorem Ti {L:List Nat} {e:Env} {ah:AH} {d:Option Nat} {a b:Ar}:NR L e ah d a b (.bool false)=some (aF L e d (ev e b).sh,ah):=rfl
theorem Pg {L:List Nat} {e:Env} {ah:AH} {d:Option Nat} {s o:Nat}:Vl L e ah d (.ptr s o)=some (aF L e d (.ptr s o),ah):=rfl
theorem Tj {L:List Nat} {e:Env} {ah:AH} {d:Option Nat} {a:AV} {o:Nat}:Vl L e ah d (.ep a o)=some (aF L e d (.ep a o),ah):=rfl
theorem Ph {L:List Nat} {e:Env} {ah:AH} {d:Option Nat} {q s o:Nat}:Vm L e ah d q (.ptr s o)=some (aF L e d (.ptr s (o+q)),ah):=rfl
theorem Tk {L:List Nat} {e:Env} {ah:AH} {d:Option Nat} {q o:Nat} {a:AV}:Vm L e ah d q (.ep a o)=some (aF L e d (.ep a (o+q)),ah):=rfl
theorem Tl {L:List Nat} {e:Env} {ah:AH} {d:Option Nat} {n:Option Nat} {s o:Nat}:Jj L d n e ah (.ptr s o)=Zd L d n s o e ah (ah[s]?):=rfl
theorem WN {L:List Nat} {e:Env} {ah:AH} {d:Option Nat} {o:Nat} {a:AV}:Jj L d none e ah (.ep a o)=Rz L d e ah (a.cells[o]?):=rfl
theorem WO {L:List Nat} {e:Env} {ah:AH} {d:Option Nat} {n o:Nat} {a:AV}:Jj L d (some n) e ah (.ep a o)=if o+n≤a.cells.length∧bP ((a.cells.drop o).take n) then some (aF L e d (.agg (((a.cells.drop o).take n).map AV.s1)),ah) else none:=rfl
theorem WQ {s1 o1:Nat} {z:Value}:jI s1 o1 (some (.v z))=some (AV.bN (.v z)):=rfl
theorem Pj {s1 o1:Nat} {k:IntKind} {i:Int}:jI s1 o1 (some (.int k i))=some (AV.bN (.int k i)):=rfl
theorem Mr {s1 o1:Nat} {b:Bool}:jI s1 o1 (some (.bool b))=some (AV.bN (.bool b)):=rfl
theorem Pm {s1 o1:Nat} {l:List UInt8}:jI s1 o1 (some (.str l))=some (AV.bN (.str l)):=rfl
theorem Pn {s1 o1:Nat} {s o:Nat}:jI s1 o1 (some (.ptr s o))=some (AV.bN (.ptr s o)):=rfl
theorem Tm {s1 o1:Nat} {a:AV} {o:Nat}:jI s1 o1 (some (.ep a o))=some (AV.bN (.ep a o)):=rfl
theorem Tn {s1 o1:Nat} {f:Nat} {cs:List AV}:jI s1 o1 (some (.fn f cs))=some (AV.bN (.fn f cs)):=rfl
theorem Tp {s1 o1:Nat}:jI s1 o1 (some (.un))=some (AV.bN (.un)):=rfl
theorem Tq {s1 o1:Nat} {c:UInt8}:jI s1 o1 (some (b8 c))=some (AV.bN (b8 c)):=rfl
theorem Tr {s1 o1:Nat} {k:Nat} {xs:List AV}:jI s1 o1 (some (.sl .n k xs))=some (AV.bN (.sl .n k xs)):=rfl
theorem Po {s1 o1:Nat} {k:Nat} {xs:List AV}:jI s1 o1 (some (.sl .ex k xs))=some (AV.bN (.sl .ex k xs)):=rfl
theorem Pp {s o k:Nat} {xs:List AV}:jI s o (some (.sl .own k xs))=some (.sl (.fr (.cell s o)) k xs):=rfl
theorem Pq {s1 o1:Nat} {l:Loc} {k:Nat} {xs:List AV}:jI s1 o1 (some (.sl (.fr l) k xs))=some (AV.bN (.sl (.fr l) k xs)):=rfl
theorem Pr {s1 o1:Nat} {q0 k0 o0 m0:Nat}:jI s1 o1 (some (.cN q0 k0 o0 m0))=some (AV.bN (.cN q0 k0 o0 m0)):=rfl
theorem Pt {s1 o1:Nat} {q0 k0 m0 c0:Nat}:jI s1 o1 (some (.cr q0 k0 m0 c0))=some (AV.bN (.cr q0 k0 m0 c0)):=rfl
theorem Pu {s1 o1:Nat}:jI s1 o1 (some (.eG))=some (AV.bN (.eG)):=rfl
theorem Ts {s1 o1:Nat} {eb:Bool}:jI s1 o1 (some (eE eb))=some (AV.bN (eE eb)):=by cases eb<;>rfl
theorem ZN {L:List Nat} {e:Env} {ah:AH} {d:Option Nat} {ks:List Pk} {neq:Bool} {zq bs:List AV}:aaA L e ah d ks neq (.agg zq) (.agg bs)=(cC ks zq bs).map fun b=>(aF L e d (.bool (if neq then !b else b)),ah):=rfl
theorem ZO {L:List Nat} {e:Env} {ah:AH} {d:Option Nat} {l:List UInt8} {k k2:IntKind} {i j:Int}:QH L e ah d l (.int k i) (.int k2 j)=(sub l i j).map fun m=>(aF L e d (.str m),ah):=rfl
theorem ZP {L:List Nat} {e:Env} {ah:AH} {d:Option Nat} {q:Nat} {xs:List AV} {k k2:IntKind} {i j:Int}:QI L e ah d q xs (.int k i) (.int k2 j)=(sub xs i j).map fun ys=>(aF L e d (.sl .n q ys),ah):=rfl
theorem WR {L:List Nat} {e:Env} {ah:AH} {d:Option Nat} {q:Nat} {xs:List AV} {k k2 k3:IntKind} {i j m:Int}:FC L e ah d q xs (.int k i) (.int k2 j) (.int k3 m)=(DV xs i j m).map fun ys=>(aF L e d (.sl .ex q ys),ah):=rfl
theorem WT {L:List Nat} {e:Env} {ah:AH} {d:Option Nat} {k b:Nat} {x:Ar} {ys xs:List AV} {tg:Tg}:Jp L e ah d k b x ys (.sl tg k xs)=FD L e ah d k x xs tg (cw b xs ys):=by simp [Jp]
theorem WX {L:List Nat} {e:Env} {ah:AH} {d:Option Nat} {k:Nat} {x:Ar} {xs zs:List AV}:tG L e ah d k x xs zs .ex=some (aF L e d (.sl .own k zs),ah):=rfl
theorem Tt {L:List Nat} {e:Env} {ah:AH} {d:Option Nat} {k y:Nat} {xs zs:List AV}:tG L e ah d k (.t y) xs zs .own=some (aF L (put e y (.sl .n k xs)) d (.sl .own k zs),ah):=rfl
def aTt (L:List Nat) (e:Env) (ah:AH) (d:Option Nat) (k u:Nat) (zs:List AV):AV→Option (Env×AH)
 | .sl .own k' us=>if k'=k then some (aF L (put e u (.sl .n k' us)) d (.sl .own k zs),ah) else none
 |_=>none
def ZQ (L:List Nat) (e:Env) (ah:AH) (d:Option Nat) (k s q:Nat) (zs cs:List AV):Option AV→Option (Env×AH)
 |some (.sl .own k' us)=>if k'=k then (over cs q [.sl .n k' us]).map fun cs=>(aF L e d (.sl .own k zs),ah.set s cs) else none
 |_=>none
def aTh (L:List Nat) (e:Env) (ah:AH) (d:Option Nat) (k s q:Nat) (zs:List AV):Option (List AV)→Option (Env×AH)
 |some cs=>ZQ L e ah d k s q zs cs (cs[q]?)
 |none=>none
theorem ZR {L:List Nat} {e:Env} {ah:AH} {d:Option Nat} {k u:Nat} {x:Ar} {xs zs:List AV}:tG L e ah d k x xs zs (.fr (.tmp u))=aTt L e ah d k u zs (Am.get e u):=by simp only [tG];cases Am.get e u with|sl tg k2 us=>cases tg<;>rfl|_=>rfl
theorem ZS {L:List Nat} {e:Env} {ah:AH} {d:Option Nat} {k s q:Nat} {x:Ar} {xs zs:List AV}:tG L e ah d k x xs zs (.fr (.cell s q))=aTh L e ah d k s q zs (ah[s]?):=by simp only [tG];cases ah[s]? with|none=>rfl|some cs=>simp only [aTh];cases cs[q]? with|none=>rfl|some a=>cases a with|sl tg k2 us=>cases tg<;>rfl|_=>rfl
theorem ab3 {L:List Nat} {e:Env} {ah:AH} {d:Option Nat} {k u:Nat} {zs us:List AV}:aTt L e ah d k u zs (.sl .own k us)=some (aF L (put e u (.sl .n k us)) d (.sl .own k zs),ah):=by simp [aTt]
theorem ab4 {L:List Nat} {e:Env} {ah:AH} {d:Option Nat} {k s q:Nat} {zs cs:List AV}:aTh L e ah d k s q zs (some cs)=ZQ L e ah d k s q zs cs (cs[q]?):=rfl
theorem ab5 {L:List Nat} {e:Env} {ah:AH} {d:Option Nat} {k s q:Nat} {zs cs us:List AV}:ZQ L e ah d k s q zs cs (some (.sl .own k us))=(over cs q [.sl .n k us]).map fun cs=>(aF L e d (.sl .own k zs),ah.set s cs):=by simp [ZQ]
theorem ab6:bP []=true:=rfl
theorem ab7 {a:AV} {r:List AV}:bP (a::r)=(a.flat&&bP r):=rfl
theorem ab8:bU []=true:=rfl
theorem ad0 {a:AV} {r:List AV}:bU (a::r)=(a.iR&&bU r):=rfl
theorem ab9:gz []=true:=rfl
theorem ad1 {a:AV} {r:List AV}:gz (a::r)=(a.np&&gz r):=rfl
theorem ad3 {t:Nat}:Am.get [] t= .un:=rfl
theorem ad4 {i t:Nat} {a:AV} {r:Env}:Am.get ((i,a)::r) t=if i=t then a else Am.get r t:=rfl
theorem ad5 {d:Nat} {a:AV}:put [] d a=[(d,a)]:=rfl
theorem ad6 {i d:Nat} {a b:AV} {r:Env}:put ((i,b)::r) d a=if i=d then (d,a)::r else if d<i then (d,a)::(i,b)::r else (i,b)::put r d a:=rfl
theorem ad7 {L:List Nat}:keep L []=[]:=rfl
theorem ad8 {L:List Nat} {i:Nat} {a:AV} {r:Env}:keep L ((i,a)::r)=if L.contains i then (i,a)::keep L r else keep L r:=rfl
theorem ad9 {l:Loc}:lR l []=[]:=rfl
theorem aea {l:Loc} {i:Nat} {a:AV} {r:Env}:lR l ((i,a)::r)=(i,a.e5 l)::lR l r:=rfl
theorem aeb:xC []=[]:=rfl
theorem aec {i:Nat} {a:AV} {r:Env}:xC ((i,a)::r)=(i,a.jA)::xC r:=rfl
theorem aed {e:Env}:qc e none=e:=rfl
theorem aee {e:Env} {d:Nat}:qc e (some d)=put e d (.bz []):=rfl
theorem aef {L:List Nat} {e:Env} {a:AV}:aF L e none a=e:=rfl
theorem aeg {L:List Nat} {e:Env} {d:Nat} {a:AV}:aF L e (some d) a=if L.contains d then (if a.bY then put (lR (.tmp d) e) d a else put e d a.df) else put e d a:=rfl
theorem aeh {i:Nat}:fL i []=[]:=rfl
theorem aei {i:Nat} {a:AV} {r:List AV}:fL i (a::r)=(i,a)::fL (i+1) r:=rfl
theorem aej {k:IntKind} {i:Int}:rY k i= .int k i:=rfl
theorem aek {a b:Nat}:(Loc.tmp a=Loc.tmp b)=(a=b):=by simp
theorem ael {a b c d:Nat}:(Loc.cell a b=Loc.cell c d)=(a=c∧b=d):=by simp
theorem acd {a c d:Nat}:(Loc.tmp a=Loc.cell c d)=False:=by simp
theorem ace {a c d:Nat}:(Loc.cell c d=Loc.tmp a)=False:=by simp
def vw (e:Env) (ah:AH) (s p n:Nat) (x:Ar) (cs:List AV):AV→Option (Env×AH)
 | .sl .own k xs=>match x with
   | .t y=>if n=1 then (over cs p [.sl .own k xs]).map fun cs=>(lR (.cell s p) (put e y (.sl .n k xs)),ah.set s cs) else none
   | .c a=>if (AV.sl .own k xs).cells.length=n∧bU (AV.sl .own k xs).cells then (over cs p ((AV.sl .own k xs).cells.map AV.bN)).map fun cs=>(e,ah.set s cs) else none
 |w=>if w.cells.length=n∧bU w.cells then (over cs p (w.cells.map AV.bN)).map fun cs=>(e,ah.set s cs) else none
def ZT (e:Env) (ah:AH) (s p n:Nat) (x:Ar):Option (List AV)→Option (Env×AH)
 |some cs=>vw e ah s p n x cs (ev e x)
 |none=>none
def stK (e:Env) (ah:AH) (n:Nat) (x:Ar):AV→Option (Env×AH)
 | .ptr s p=>ZT e ah s p n x (ah[s]?)
 |_=>none
theorem aaK {P:Program} {L:List Nat} {N n0:Nat} {e:Env} {ah:AH} {t:List It} {Q:Exit→Env→AH→Prop} {r:List aM} {d:Option Nat} {a x:Ar} {n:Nat} {g:Option (Nat×Bool)}:UG P L N n0 ⟨d, .st a x n,g⟩ r t Q e ah (some true)=US P L N n0 r t Q (stK e ah n x (ev e a)):=by
 simp only [UG,bK]
 congr 1
 cases ev e a with
 |ptr s p=>
  simp only [stK]
  cases ah[s]? with
  |none=>rfl
  |some cs=>
   simp only [ZT]
   cases ev e x with
   |sl tg k xs=>cases tg<;>cases x<;>rfl
   |_=>rfl
 |_=>rfl
theorem acf {e:Env} {ah:AH} {s p n:Nat} {x:Ar}:stK e ah n x (.ptr s p)=ZT e ah s p n x (ah[s]?):=rfl
theorem acg {e:Env} {ah:AH} {s p n:Nat} {x:Ar} {cs:List AV}:ZT e ah s p n x (some cs)=vw e ah s p n x cs (ev e x):=rfl
theorem Tu {e:Env} {ah:AH} {s p n y k:Nat} {cs xs:List AV}:vw e ah s p n (.t y) cs (.sl .own k xs)=if n=1 then (over cs p [.sl .own k xs]).map fun cs=>(lR (.cell s p) (put e y (.sl .n k xs)),ah.set s cs) else none:=rfl
theorem WY {e:Env} {ah:AH} {s p n:Nat} {x:Ar} {cs:List AV} {z:Value}:vw e ah s p n x cs (.v z)=if (AV.cells (.v z)).length=n∧bU (AV.cells (.v z)) then (over cs p ((AV.cells (.v z)).map AV.bN)).map fun cs=>(e,ah.set s cs) else none:=rfl
theorem Pv {e:Env} {ah:AH} {s p n:Nat} {x:Ar} {cs:List AV} {k:IntKind} {i:Int}:vw e ah s p n x cs (.int k i)=if (AV.cells (.int k i)).length=n∧bU (AV.cells (.int k i)) then (over cs p ((AV.cells (.int k i)).map AV.bN)).map fun cs=>(e,ah.set s cs) else none:=rfl
theorem Ms {e:Env} {ah:AH} {s p n:Nat} {x:Ar} {cs:List AV} {b:Bool}:vw e ah s p n x cs (.bool b)=if (AV.cells (.bool b)).length=n∧bU (AV.cells (.bool b)) then (over cs p ((AV.cells (.bool b)).map AV.bN)).map fun cs=>(e,ah.set s cs) else none:=rfl
theorem Pw {e:Env} {ah:AH} {s p n:Nat} {x:Ar} {cs:List AV} {l:List UInt8}:vw e ah s p n x cs (.str l)=if (AV.cells (.str l)).length=n∧bU (AV.cells (.str l)) then (over cs p ((AV.cells (.str l)).map AV.bN)).map fun cs=>(e,ah.set s cs) else none:=rfl
theorem Px {e:Env} {ah:AH} {s p n:Nat} {x:Ar} {cs:List AV} {s0 o:Nat}:vw e ah s p n x cs (.ptr s0 o)=if (AV.cells (.ptr s0 o)).length=n∧bU (AV.cells (.ptr s0 o)) then (over cs p ((AV.cells (.ptr s0 o)).map AV.bN)).map fun cs=>(e,ah.set s cs) else none:=rfl
theorem Tv {e:Env} {ah:AH} {s p n:Nat} {x:Ar} {cs:List AV} {a:AV} {o:Nat}:vw e ah s p n x cs (.ep a o)=if (AV.cells (.ep a o)).length=n∧bU (AV.cells (.ep a o)) then (over cs p ((AV.cells (.ep a o)).map AV.bN)).map fun cs=>(e,ah.set s cs) else none:=rfl
theorem Tw {e:Env} {ah:AH} {s p n:Nat} {x:Ar} {cs:List AV} {f:Nat} {ds:List AV}:vw e ah s p n x cs (.fn f ds)=if (AV.cells (.fn f ds)).length=n∧bU (AV.cells (.fn f ds)) then (over cs p ((AV.cells (.fn f ds)).map AV.bN)).map fun cs=>(e,ah.set s cs) else none:=rfl
theorem Tx {e:Env} {ah:AH} {s p n:Nat} {x:Ar} {cs:List AV} {c:UInt8}:vw e ah s p n x cs (b8 c)=if (AV.cells (b8 c)).length=n∧bU (AV.cells (b8 c)) then (over cs p ((AV.cells (b8 c)).map AV.bN)).map fun cs=>(e,ah.set s cs) else none:=rfl
theorem Ty {e:Env} {ah:AH} {s p n:Nat} {x:Ar} {cs:List AV} {k:Nat} {xs:List AV}:vw e ah s p n x cs (.sl .n k xs)=if (AV.cells (.sl .n k xs)).length=n∧bU (AV.cells (.sl .n k xs)) then (over cs p ((AV.cells (.sl .n k xs)).map AV.bN)).map fun cs=>(e,ah.set s cs) else none:=rfl
theorem Py {e:Env} {ah:AH} {s p n:Nat} {x:Ar} {cs:List AV} {k:Nat} {xs:List AV}:vw e ah s p n x cs (.sl .ex k xs)=if (AV.cells (.sl .ex k xs)).length=n∧bU (AV.cells (.sl .ex k xs)) then (over cs p ((AV.cells (.sl .ex k xs)).map AV.bN)).map fun cs=>(e,ah.set s cs) else none:=rfl
theorem Pz {e:Env} {ah:AH} {s p n:Nat} {x:Ar} {cs:List AV} {l:Loc} {k:Nat} {xs:List AV}:vw e ah s p n x cs (.sl (.fr l) k xs)=if (AV.cells (.sl (.fr l) k xs)).length=n∧bU (AV.cells (.sl (.fr l) k xs)) then (over cs p ((AV.cells (.sl (.fr l) k xs)).map AV.bN)).map fun cs=>(e,ah.set s cs) else none:=rfl
theorem PA {e:Env} {ah:AH} {s p n:Nat} {x:Ar} {cs:List AV} {ds:List AV}:vw e ah s p n x cs (.agg ds)=if (AV.cells (.agg ds)).length=n∧bU (AV.cells (.agg ds)) then (over cs p ((AV.cells (.agg ds)).map AV.bN)).map fun cs=>(e,ah.set s cs) else none:=rfl
theorem PB {e:Env} {ah:AH} {s p n:Nat} {x:Ar} {cs:List AV} {q0 k0 o0 m0:Nat}:vw e ah s p n x cs (.cN q0 k0 o0 m0)=if (AV.cells (.cN q0 k0 o0 m0)).length=n∧bU (AV.cells (.cN q0 k0 o0 m0)) then (over cs p ((AV.cells (.cN q0 k0 o0 m0)).map AV.bN)).map fun cs=>(e,ah.set s cs) else none:=rfl
theorem PC {e:Env} {ah:AH} {s p n:Nat} {x:Ar} {cs:List AV} {q0 k0 m0 c0:Nat}:vw e ah s p n x cs (.cr q0 k0 m0 c0)=if (AV.cells (.cr q0 k0 m0 c0)).length=n∧bU (AV.cells (.cr q0 k0 m0 c0)) then (over cs p ((AV.cells (.cr q0 k0 m0 c0)).map AV.bN)).map fun cs=>(e,ah.set s cs) else none:=rfl
theorem PD {e:Env} {ah:AH} {s p n:Nat} {x:Ar} {cs:List AV}:vw e ah s p n x cs (.eG)=if (AV.cells (.eG)).length=n∧bU (AV.cells (.eG)) then (over cs p ((AV.cells (.eG)).map AV.bN)).map fun cs=>(e,ah.set s cs) else none:=rfl
theorem Tz {e:Env} {ah:AH} {s p n:Nat} {x:Ar} {cs:List AV} {eb:Bool}:vw e ah s p n x cs (eE eb)=if (AV.cells (eE eb)).length=n∧bU (AV.cells (eE eb)) then (over cs p ((AV.cells (eE eb)).map AV.bN)).map fun cs=>(e,ah.set s cs) else none:=by cases eb<;>rfl
theorem ZU {c0:AV} {cs ws:List AV} {o:Nat}:over (c0::cs) o ws=if o+ws.length≤(c0::cs).length then some ((c0::cs).take o++ws++(c0::cs).drop (o+ws.length)) else none:=rfl
theorem aem {e:Env} {cs:List AV}:fill e cs []=some cs:=rfl
def WZ (e:Env) (r:List (Nat×Nat×Ar)):Option (List AV)→Option (List AV)
 |some cs=>fill e cs r
 |none=>none
theorem aen {e:Env} {cs:List AV} {o n:Nat} {x:Ar} {r:List (Nat×Nat×Ar)}:fill e cs ((o,n,x)::r)=if (ev e x).cells.length=n∧bU (ev e x).cells then WZ e r (over cs o ((ev e x).cells.map AV.bN)) else none:=by
 simp only [fill]
 split
 · cases over cs o ((ev e x).cells.map AV.bN)<;>rfl
 · rfl
theorem aeo {e:Env} {cs:List AV} {r:List (Nat×Nat×Ar)}:WZ e r (some cs)=fill e cs r:=rfl
theorem W0 {P:Program} {L:List Nat} {N n0:Nat} {e:Env} {ah:AH} {t:List It} {Q:Exit→Env→AH→Prop} {r:List aM} {d:Option Nat} {x:Ar} {g:Option (Nat×Bool)}:UG P L N n0 ⟨d, .len x,g⟩ r t Q e ah (some true)=US P L N n0 r t Q (QL L e ah d (ev e x)):=by simp only [UG,bK];cases ev e x<;>rfl
theorem ZV {L:List Nat} {e:Env} {ah:AH} {d:Option Nat} {tg:Tg} {k:Nat} {xs:List AV}:QL L e ah d (.sl tg k xs)=some (aF L e d (.int .i64 xs.length),ah):=rfl
theorem QM {P:Program} {L:List Nat} {N n0:Nat} {e:Env} {ah:AH} {t:List It} {Q:Exit→Env→AH→Prop} {r:List aM} {d:Option Nat} {x:Ar} {g:Option (Nat×Bool)}:UG P L N n0 ⟨d, .lens x,g⟩ r t Q e ah (some true)=US P L N n0 r t Q (VP L e ah d (ev e x)):=by simp only [UG,bK];cases ev e x<;>rfl
theorem W3 {L:List Nat} {e:Env} {ah:AH} {d:Option Nat} {l:List UInt8}:VP L e ah d (.str l)=some (aF L e d (.int .i64 l.length),ah):=rfl
theorem W4 {P:Program} {L:List Nat} {N n0:Nat} {e:Env} {ah:AH} {t:List It} {Q:Exit→Env→AH→Prop} {r:List aM} {d:Option Nat} {x:Ar} {i:Nat} {g:Option (Nat×Bool)}:UG P L N n0 ⟨d, .ext x i,g⟩ r t Q e ah (some true)=US P L N n0 r t Q (VS L e ah d i (ev e x)):=by simp only [UG,bK];cases ev e x with|bz cs=>simp only [VS];cases cs[i]? <;>rfl|_=>rfl
theorem ZW {L:List Nat} {e:Env} {ah:AH} {d:Option Nat} {i:Nat} {cs:List AV}:VS L e ah d i (.bz cs)=VQ L e ah d (cs[i]?):=rfl
theorem ZX {L:List Nat} {e:Env} {ah:AH} {d:Option Nat} {a:AV}:VQ L e ah d (some a)=some (aF L e d a.sh,ah):=rfl
theorem QN {P:Program} {L:List Nat} {N n0:Nat} {e:Env} {ah:AH} {t:List It} {Q:Exit→Env→AH→Prop} {r:List aM} {d:Option Nat} {x:Ar} {q:Nat} {n:Option Nat} {g:Option (Nat×Bool)}:UG P L N n0 ⟨d, .Ik x q n,g⟩ r t Q e ah (some true)=US P L N n0 r t Q (Js L e ah d q n (ev e x)):=by
 simp only [UG,bK]
 cases ev e x with
 |agg cs=>
  cases n with
  |some n=>rfl
  |none=>simp only [Js];cases cs[q]? <;>rfl
 |_=>cases n<;>rfl
theorem ach {L:List Nat} {e:Env} {ah:AH} {d:Option Nat} {q:Nat} {cs:List AV}:Js L e ah d q none (.agg cs)=NU L e ah d (cs[q]?):=rfl
theorem aci {L:List Nat} {e:Env} {ah:AH} {d:Option Nat} {a:AV}:NU L e ah d (some a)=some (aF L e d a.bN,ah):=rfl
theorem acj {L:List Nat} {e:Env} {ah:AH} {d:Option Nat} {q n:Nat} {cs:List AV}:Js L e ah d q (some n) (.agg cs)=if q+n≤cs.length then some (aF L e d (.agg (((cs.drop q).take n).map AV.bN)),ah) else none:=rfl
theorem W5 {P:Program} {L:List Nat} {N n0:Nat} {e:Env} {ah:AH} {t:List It} {Q:Exit→Env→AH→Prop} {r:List aM} {d:Option Nat} {x:Ar} {n:Option Nat} {g:Option (Nat×Bool)}:UG P L N n0 ⟨d, .Bh x n,g⟩ r t Q e ah (some true)=US P L N n0 r t Q (VT L e ah d n (ev e x)):=by
 simp only [UG,bK]
 cases ev e x with
 |ep a p=>
  cases n with
  |some n=>rfl
  |none=>simp only [VT,Jj,Rz];cases a.cells[p]? <;>rfl
 |_=>cases n<;>rfl
theorem ack {L:List Nat} {e:Env} {ah:AH} {d:Option Nat} {n:Option Nat} {a:AV} {p:Nat}:VT L e ah d n (.ep a p)=Jj L d n e ah (.ep a p):=rfl
def WA0:=And.intro @VU<|And.intro @NV<|And.intro @LF<|And.intro @NW<|And.intro @NY<|And.intro @RD<|And.intro @RE<|And.intro @RF<|And.intro @RG<|And.intro @RH<|And.intro @NZ<|And.intro @LG<|And.intro @N0<|And.intro @N1<|And.intro @N2<|And.intro @N3<|And.intro @N4<|And.intro @N5<|And.intro @RI<|And.intro @ZH<|And.intro @RJ<|And.intro @N6<|And.intro @RL<|And.intro @RM<|And.intro @VV<|And.intro @VW<|And.intro @VX<|And.intro @VY<|And.intro @VZ<|And.intro @RN<|And.intro @N7<|And.intro @RO<|And.intro @RP<|And.intro @RQ<|And.intro @RR<|And.intro @RS<|And.intro @RT<|And.intro @V0<|And.intro @ZI<|And.intro @RU<|And.intro @N8<|And.intro @RV<|And.intro @RW<|And.intro @V1<|And.intro @V3<|And.intro @V4<|And.intro @V5<|And.intro @V6<|And.intro @RX<|And.intro @N9<|And.intro @RY<|And.intro @RZ<|And.intro @R0<|And.intro @R1<|And.intro @R2<|And.intro @R3<|And.intro @V7<|And.intro @ZJ<|And.intro @R4<|@Oa
def WA1:=And.intro @R5<|And.intro @R6<|And.intro @V8<|And.intro @V9<|And.intro @Wa<|And.intro @Wb<|And.intro @Wc<|And.intro @R7<|And.intro @Ob<|And.intro @R8<|And.intro @R9<|And.intro @Sa<|And.intro @Sb<|And.intro @Sc<|And.intro @Sd<|And.intro @Wd<|And.intro @ZK<|And.intro @Se<|And.intro @Oc<|And.intro @Sf<|And.intro @Sg<|And.intro @We<|And.intro @Wf<|And.intro @Wg<|And.intro @Wh<|And.intro @Wi<|And.intro @Sh<|And.intro @Od<|And.intro @Si<|And.intro @Sj<|And.intro @Sk<|And.intro @Sl<|And.intro @Sm<|And.intro @Sn<|And.intro @Wj<|And.intro @Oe<|And.intro @Jt<|And.intro @Hr<|And.intro @Ju<|And.intro @Jv<|And.intro @LH<|And.intro @LI<|And.intro @LJ<|And.intro @LK<|And.intro @LL<|And.intro @Jw<|And.intro @Hs<|And.intro @Jx<|And.intro @Jy<|And.intro @Jz<|And.intro @JA<|And.intro @JB<|And.intro @JC<|And.intro @LM<|And.intro @Wl<|And.intro @Of<|And.intro @LN<|And.intro @Og<|And.intro @Oh<|@Sp
def WA2:=And.intro @Sq<|And.intro @Sr<|And.intro @Ss<|And.intro @Su<|And.intro @Oi<|And.intro @LO<|And.intro @Oj<|And.intro @Ok<|And.intro @Ol<|And.intro @Om<|And.intro @On<|And.intro @Oo<|And.intro @Sv<|And.intro @Sw<|And.intro @LP<|And.intro @JD<|And.intro @LQ<|And.intro @LR<|And.intro @Oq<|And.intro @Ot<|And.intro @Ou<|And.intro @Ov<|And.intro @Ox<|And.intro @LS<|And.intro @JE<|And.intro @LU<|And.intro @LV<|And.intro @LW<|And.intro @LX<|And.intro @LY<|And.intro @LZ<|And.intro @Oy<|And.intro @Wm<|And.intro @Oz<|And.intro @L0<|And.intro @OA<|And.intro @OB<|And.intro @Sx<|And.intro @Sy<|And.intro @Sz<|And.intro @SA<|And.intro @SB<|And.intro @OC<|And.intro @L1<|And.intro @OD<|And.intro @OE<|And.intro @OG<|And.intro @OH<|And.intro @OI<|And.intro @SC<|And.intro @Wn<|And.intro @Wo<|And.intro @OJ<|And.intro @JF<|And.intro @Ht<|And.intro @JG<|And.intro @JH<|And.intro @L2<|And.intro @L3<|@L4
def WA3:=And.intro @L5<|And.intro @L6<|And.intro @JI<|And.intro @Hu<|And.intro @JJ<|And.intro @JK<|And.intro @JL<|And.intro @JM<|And.intro @JN<|And.intro @JO<|And.intro @L7<|And.intro @Wp<|And.intro @OK<|And.intro @L8<|And.intro @OL<|And.intro @OM<|And.intro @SD<|And.intro @SE<|And.intro @SF<|And.intro @SG<|And.intro @SH<|And.intro @OO<|And.intro @L9<|And.intro @OP<|And.intro @OQ<|And.intro @OS<|And.intro @OT<|And.intro @OU<|And.intro @OV<|And.intro @SI<|And.intro @SJ<|And.intro @Ma<|And.intro @JP<|And.intro @Mb<|And.intro @Mc<|And.intro @OW<|And.intro @OX<|And.intro @OY<|And.intro @OZ<|And.intro @O0<|And.intro @Md<|And.intro @JQ<|And.intro @Me<|And.intro @Mf<|And.intro @Mg<|And.intro @Mh<|And.intro @Mi<|And.intro @Mj<|And.intro @O1<|And.intro @ZL<|And.intro @SK<|And.intro @O2<|And.intro @SL<|And.intro @SM<|And.intro @Wq<|And.intro @Wr<|And.intro @Ws<|And.intro @Wt<|And.intro @Wu<|@SN
def WA4:=And.intro @O3<|And.intro @SP<|And.intro @SQ<|And.intro @SS<|And.intro @SU<|And.intro @SV<|And.intro @SW<|And.intro @Wv<|And.intro @O4<|And.intro @JR<|And.intro @Hv<|And.intro @JS<|And.intro @JT<|And.intro @Mk<|And.intro @Ml<|And.intro @Mm<|And.intro @Mn<|And.intro @Mo<|And.intro @JU<|And.intro @Hw<|And.intro @JV<|And.intro @JW<|And.intro @JX<|And.intro @JY<|And.intro @JZ<|And.intro @J0<|And.intro @Mp<|And.intro @ZM<|And.intro @SX<|And.intro @O5<|And.intro @SY<|And.intro @SZ<|And.intro @Ww<|And.intro @Wy<|And.intro @Wz<|And.intro @WA<|And.intro @WC<|And.intro @S0<|And.intro @S1<|And.intro @S3<|And.intro @S4<|And.intro @S5<|And.intro @S6<|And.intro @S7<|And.intro @WD<|And.intro @WI<|And.intro @WJ<|And.intro @WK<|And.intro @O6<|And.intro @Mq<|And.intro @O7<|And.intro @O8<|And.intro @S8<|And.intro @S9<|And.intro @Ta<|And.intro @Tb<|And.intro @Tc<|And.intro @O9<|And.intro @Pa<|@Pb
def WA5:=And.intro @Pc<|And.intro @Pd<|And.intro @Pe<|And.intro @Pf<|And.intro @Td<|And.intro @Te<|And.intro @Tf<|And.intro @Th<|And.intro @Ti<|And.intro @Pg<|And.intro @Tj<|And.intro @Ph<|And.intro @Tk<|And.intro @Tl<|And.intro @WN<|And.intro @WO<|And.intro @WQ<|And.intro @Pj<|And.intro @Mr<|And.intro @Pm<|And.intro @Pn<|And.intro @Tm<|And.intro @Tn<|And.intro @Tp<|And.intro @Tq<|And.intro @Tr<|And.intro @Po<|And.intro @Pp<|And.intro @Pq<|And.intro @Pr<|And.intro @Pt<|And.intro @Pu<|And.intro @Ts<|And.intro @ZN<|And.intro @ZO<|And.intro @ZP<|And.intro @WR<|And.intro @WT<|And.intro @WX<|And.intro @Tt<|And.intro @ZR<|And.intro @ZS<|And.intro @ab3<|And.intro @ab4<|And.intro @ab5<|And.intro @ab6<|And.intro @ab7<|And.intro @ab8<|And.intro @ad0<|And.intro @ab9<|And.intro @ad1<|And.intro @ad3<|And.intro @ad4<|And.intro @ad5<|And.intro @ad6<|And.intro @ad7<|And.intro @ad8<|And.intro @ad9<|And.intro @aea<|@aeb
def WA6:=And.intro @aec<|And.intro @aed<|And.intro @aee<|And.intro @aef<|And.intro @aeg<|And.intro @aeh<|And.intro @aei<|And.intro @aej<|And.intro @aek<|And.intro @ael<|And.intro @acd<|And.intro @ace<|And.intro @aaK<|And.intro @acf<|And.intro @acg<|And.intro @Tu<|And.intro @WY<|And.intro @Pv<|And.intro @Ms<|And.intro @Pw<|And.intro @Px<|And.intro @Tv<|And.intro @Tw<|And.intro @Tx<|And.intro @Ty<|And.intro @Py<|And.intro @Pz<|And.intro @PA<|And.intro @PB<|And.intro @PC<|And.intro @PD<|And.intro @Tz<|And.intro @ZU<|And.intro @aem<|And.intro @aen<|And.intro @aeo<|And.intro @W0<|And.intro @ZV<|And.intro @QM<|And.intro @W3<|And.intro @W4<|And.intro @ZW<|And.intro @ZX<|And.intro @QN<|And.intro @ach<|And.intro @aci<|And.intro @acj<|And.intro @W5<|@ack
end Go.Am
end
section
namespace Go.Am
open Go
variable [Tabs]
def Bw (n:Nat) (i:Int):Option Nat:=if 0≤i∧i<n then some i.toNat else none
def QO {α:Type} (xs:List α) (j:Nat) (c:α):Option (List α):=if j<xs.length then some (xs.set j c) else none
section
variable {P:Program} {L:List Nat} {e:Env} {ah:AH} {d:Option Nat}
theorem ZY {xs:List UInt8} {j:Nat} {c:UInt8}:over (ml b8 xs) j [b8 c]=(QO xs j c).map (ml b8):=by
 unfold over QO ml
 simp only [List.length_map,List.length_cons,List.length_nil]
 by_cases h:j<xs.length
 · rw [if_pos (by omega),if_pos h]
   simp only [Option.map_some,Option.some.injEq,List.map_set]
   rw [List.set_eq_take_append_cons_drop,if_pos (by simpa using h)]
   simp
 · rw [if_neg (by omega),if_neg h];rfl
theorem acm {xs:List UInt8} {j:Nat}:(ml b8 xs)[j]? =(xs[j]?).map b8:=by simp [ml]
theorem aep {s n:Nat} {ki:IntKind} {i:Int}:uv L e ah d 1 (.cN s 1 0 n) (.int ki i)=(Bw n i).map fun j=>(aF L e d (.ptr s j),ah):=by
 simp only [uv,Bw,and_true]
 split<;>simp
theorem acn {s k o n:Nat}:QL L e ah d (.cN s k o n)=some (aF L e d (.int .i64 n),ah):=rfl
theorem W6 {h:Cv} {l:List UInt8}:Fx L e ah d h (.str l)=(fS h (.str l)).map fun a=>(aF L e d a,ah):=rfl
theorem W7 {h:Cv} {k:IntKind} {i:Int}:Fx L e ah d h (.int k i)=(fS h (.int k i)).map fun a=>(aF L e d a,ah):=rfl
theorem ZZ {h:Cv} {c:UInt8}:Fx L e ah d h (b8 c)=(fS h (b8 c)).map fun a=>(aF L e d a,ah):=rfl
theorem Z0 {h:Cv} {t:Tg} {k:Nat} {xs:List AV}:Fx L e ah d h (.sl t k xs)=(fS h (.sl t k xs)).map fun a=>(aF L e d a,ah):=rfl
theorem W8 {s n:Nat}:Fx L e ah d .bs (.cN s 1 0 n)=Vn L e ah d 0 n (ah[s]?):=rfl
theorem M_s {p n:Nat} {cs:List AV}:Vn L e ah d p n (some cs)=Qv L e ah d p n cs:=rfl
theorem M_t {n:Nat} {xs:List UInt8}:Qv L e ah d 0 n (ml b8 xs)=(sub xs 0 (n:Int)).map fun l=>(aF L e d (.str l),ah):=by
 unfold Qv sub
 have hb:bytesOf (((ml b8 xs).drop 0).take n)=some (xs.take n):=by
  have:((ml b8 xs).drop 0).take n=(ml b8 (xs.take n)):=by simp [ml,List.map_take]
  rw [this];exact DU _
 rw [hb]
 by_cases h:n≤xs.length
 · rw [if_pos (by simp [ml];exact h),if_pos (by omega)];simp
 · rw [if_neg (by simp [ml];omega),if_neg (by omega)];rfl
theorem M_o {l:List UInt8}:Vo L e ah d (.str l)=some (aF L e d (.cN ah.length 1 0 l.length),ah++[ml b8 l]):=rfl
theorem aco:Nr .eG (.v .nilIface)=some false:=rfl
theorem acp:Nr (.v .nilIface) (.v .nilIface)=some true:=rfl
theorem acq {b:Bool}:Nr (eE b) (.v .nilIface)=some (!b):=by cases b<;>rfl
theorem acr {k:IntKind} {i j:Int}:K1 true (.int k i) (.int k j)=some (.int k (max i j)):=by simp [K1]
theorem acs {k:IntKind} {i j:Int}:K1 false (.int k i) (.int k j)=some (.int k (min i j)):=by simp [K1]
end
def WM:=And.intro @ZY<|And.intro @acm<|And.intro @aep<|And.intro @acn<|And.intro @W6<|And.intro @W7<|And.intro @ZZ<|And.intro @Z0<|And.intro @W8<|And.intro @M_s<|And.intro @M_t<|And.intro @M_o<|And.intro @aco<|And.intro @acp<|And.intro @acq<|And.intro @Bool.not_not<|And.intro @acr<|And.intro @acs<|And.intro @Ze<|And.intro @Zf<|And.intro @adF @adG
theorem Wx.cN {s k o n:Nat}:Wx (.cN s k o n) (.cN s k o n):= .same (by simp)
theorem Wx.eG:Wx .eG .eG:= .same (by simp)
theorem Wx.epE {a b:AV} {o:Nat} (h:a=b):Wx (.ep a o) (.ep b o):=by subst h;exact Wx.ep
theorem Wx.err {b:Bool}:Wx (eE b) (eE b):= .same (by cases b<;>simp [eE])
end Go.Am
end
