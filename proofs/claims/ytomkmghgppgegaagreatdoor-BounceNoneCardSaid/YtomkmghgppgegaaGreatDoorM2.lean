import Derived.Test.YtomkmghgppgegaaGreatDoorM1
import Derived.Laws.Cover3
import Derived.Scope
import Derived.Lib.SlBytesConst
import Derived.OrdersHeld
set_option linter.unusedSimpArgs false
set_option linter.unusedVariables false
set_option linter.unusedSectionVars false
set_option linter.defProp false
section
namespace Go.Am
open Go
variable [Tabs]
section
variable {P:Program} {L:List Nat} {N:Nat} {F:Nat→Prop} {γ:List Nat} {C C':Nat→List Value} {e:Env} {ah:AH} {ts:Array Value} {ds:List Deferred} {w w':World} {m0:Bool}
variable {d:Option Nat} {ty oH:TypeId} {pos:String} {af:Array Edge} {g:Option (Nat×Bool)} {e':Env} {aB:AH}
theorem Gg (h:SR L N F γ C e ah ts w) {row:Array Value} {t:TypeId} {fr:Nat×Nat} {cs:List AV} (hw:∀b,b<w.heap.size→w'.heap[b]? =w.heap[b]?) (hsz:w'.heap.size=w.heap.size+1)
 (hb:w'.heap[w.heap.size]? =some (.cells row t fr)) (hfr:∀i,i<cs.length→¬(fr.1≤i∧i<fr.2)) (hl:cs.length≤row.size)
 (hc:∀(i:Nat) (a:AV),cs[i]? =some a→VR C γ a (row.getD i undef)∧a.plain=true∧TC w' C a (row.getD i undef)) (ho:iT w w':=by exact ⟨rfl,rfl,rfl⟩):
 SR L N F (γ++[w.heap.size]) C e (ah++[cs]) ts w'∧Ext F C w C w'∧(γ++[w.heap.size])[ah.length]? =some w.heap.size:=by
 obtain ⟨hg,SD⟩:=h.grow (ho:=ho) (w':=w') (C':=C) hw (by omega) (fun _ _=>rfl) (fun b hb hne=>absurd (vM h hb) hne)
 have ho:=hg.GV (b:=w.heap.size) (cs:=cs) hb hfr hl (fun i a hi=>⟨(hc i a hi).1,(hc i a hi).2.2,gT (hc i a hi).2.1⟩) (vM h (Nat.le_refl _)) (fun hF=>Nat.lt_irrefl _ (h.ij.lt _ hF)) (fun p hp=>by
  have hb0:blk γ e ah ts w p w.heap.size:=by
   cases p with
   |obj s=>exact hp
   |cell s i=>
    obtain ⟨x,a,b0,g1,g2,g3,g4⟩:=hp
    have:=eF h (p:= .obj s) (b:=b0) g3
    exact ⟨x,a,b0,g1,g2,g3,by rwa [fN (hw b0 this)] at g4⟩
   |tmp t=>exact hp
  exact Nat.lt_irrefl _ (eF h hb0))
 exact ⟨ho,SD,by rw [List.getElem?_append_right (by rw [h.mem.len];exact Nat.le_refl _),h.mem.len];simp⟩
theorem yu (a:AV):a.s1.plain=true:=by
 cases a with
 |sl t k xs=>rfl
 |_=>rfl
theorem G0 (a:AV) (v:Value) (h:a.flat=true):TC w C a.s1 v:=by
 cases a with
 |agg cs=>simp [AV.flat] at h
 |bz cs=>simp [AV.flat] at h
 |_=>cases v<;>trivial
theorem Gh {k:Nat}:∀(ys:List AV),(∀(i:Nat) (a:AV),ys[i]? =some a→a.cells.length=k)→((ys.map fun a=>a.cells.map AV.s1).flatten).length=ys.length*k∧
 ∀(q:Nat) (a:AV),((ys.map fun a=>a.cells.map AV.s1).flatten)[q]? =some a→∃i j y z,ys[i]? =some y∧y.cells[j]? =some z∧a=z.s1∧q=i*k+j∧j<k:=by
 intro ys
 induction ys with
 |nil=>intro _;exact ⟨by simp,by simp⟩
 |cons y r ih=>
  intro hk
  obtain ⟨h1,h2⟩:=ih fun i a hi=>hk (i+1) a (by simpa using hi)
  have hy:=hk 0 y rfl
  refine ⟨by simp only [List.map_cons,List.flatten_cons,List.length_append,List.length_map,h1,hy,List.length_cons,Nat.succ_mul];omega,fun q a hq=> ?_⟩
  simp only [List.map_cons,List.flatten_cons] at hq
  by_cases hlt:q<k
  · rw [List.getElem?_append_left (by simp;omega),List.getElem?_map] at hq
    cases hz:y.cells[q]? with
    |none=>rw [hz] at hq;simp at hq
    |some z=>
     rw [hz] at hq
     obtain rfl:z.s1=a:=by simpa using hq
     exact ⟨0,q,y,z,rfl,hz,rfl,by simp,hlt⟩
  · rw [List.getElem?_append_right (by simp;omega)] at hq
    obtain ⟨i,j,y',z,g1,g2,g3,g4,g5⟩:=h2 _ _ hq
    refine ⟨i+1,j,y',z,by simpa using g1,g2,g3, ?_,g5⟩
    simp only [List.length_map,hy] at g4
    rw [Nat.succ_mul];omega
theorem Jx {a:AV} {v:Value} (h:VR C γ a v) (hs:v.oneCell'=true):a.flat=true:=by
 cases a with
 |agg cs=>obtain ⟨vs,rfl, -⟩:=h.mL;simp [Value.oneCell'] at hs
 |bz cs=>obtain ⟨vs,rfl, -⟩:=h.vE;simp [Value.oneCell'] at hs
 |_=>rfl
theorem SP {t u el s0:TypeId} {x y:Operand} {x' y':Ar} {K:Env→AH→Prop} (h:SR L N F γ C e ah ts w) (hd:∀x,d=some x→x<N)
 (hx:di P t x=some x') (hy:di P u y=some y') (ht:P.underlying t=some (.slice el)) (hu:P.underlying u=some (.slice s0)) (hz:(zeroOf P el).map List.length=some (cz P el))
 (hk:oC L d (cz P el) (GG P el) x' y' e ah K):
 ∃e' aB,K e' aB∧aZ m0 P L N F γ C ⟨d, .call {callee:= .builtin .append,args:= #[x,y],argTypes:= #[t,u]},ty,pos,af,g⟩ ts ds w e' aB:=by
 obtain ⟨i,z,hi,Zk,SH,hib,hzs⟩:=zG hz
 have h1:=fP (ds:=ds) h hx
 have h2:=fP (ds:=ds) h hy
 unfold oC at hk
 split at hk
 case h_2=>exact hk.elim
 rename_i tg k1 ys s k2 n c SI yq
 obtain ⟨hk1,hk2,hys,hfit,h63,hcase⟩:=hk
 generalize hkk:cz P el=k at*
 subst hk1;subst hk2
 rw [yq] at h1;rw [SI] at h2
 obtain ⟨ad,Cs,hnc,hpos⟩:=h1.1.vG
 obtain ⟨ad2,c2,Fb, -, -⟩:=h2.1.eP
 rw [Fb] at h2
 obtain ⟨news,o1,o2,o3,o4⟩:=Dy (P:=P) h h2.1
 have hym:0<ys.length:=List.length_pos_iff.2 hys
 obtain ⟨hfl,hfg⟩:=Gh (k:=k2) ys fun i a hi=>(o4 i a hi).1
 have hlen:∀w2:World,(Builtin.lenOf (Act.eval ⟨ts,ds⟩ y)).run P w2= .ok ys.length w2:=by rw [Fb];intro w2;rfl
 have hnew:∀w2:World,w2.heap=w.heap→(Builtin.firstCells i.size ys.length (Act.eval ⟨ts,ds⟩ y)).run P w2= .ok news.toArray w2:=by rw [SH,Fb];exact o3
 have e7:∀v' w',(Builtin.append_ #[t,u] ty #[.slice ad n c,Act.eval ⟨ts,ds⟩ y]).run P w= .ok v' w'→
  (execOp (Act.eval ⟨ts,ds⟩) ⟨d, .call {callee:= .builtin .append,args:= #[x,y],argTypes:= #[t,u]},ty,pos,af,g⟩).run P w= .ok (.value v') w':=by
  intro v' w' hr
  simp [execOp,resolve,invoke,builtin,Cs,hr]
 have SQ:∀(q:Nat) (a:AV),((ys.map fun a=>a.cells.map AV.s1).flatten)[q]? =some a→VR C γ a (news.getD q undef)∧a.plain=true∧∀w2:World,TC w2 C a (news.getD q undef):=by
  intro q a hq
  obtain ⟨i,j,y',z,g1,g2,rfl,rfl,g5⟩:=hfg q a hq
  have hv:=(o4 i y' g1).2 j z g2
  have hlt:i<ys.length:=(List.getElem?_eq_some_iff.1 g1).1
  have hmul:(i+1)*k2≤ys.length*k2:=Nat.mul_le_mul_right _ hlt
  rw [Nat.succ_mul] at hmul
  have hone:=o2 (news[i*k2+j]'(by omega)) (List.getElem_mem _)
  have hgd:news.getD (i*k2+j) undef=news[i*k2+j]'(by omega):=by rw [List.getD_eq_getElem?_getD,List.getElem?_eq_getElem (by omega)];rfl
  rw [hgd] at hv ⊢
  exact ⟨(Wk.iK (Wk.s1 z)).vr (hv.up γ),yu z,fun w2=>G0 z _ (Jx hv hone)⟩
 have fresh:∀ {pre:List AV} {olds:List Value},c<n+ys.length→olds.length=n*k2→pre.length=n*k2→
  (Builtin.firstCells i.size n (.slice ad n c)).run P w.drew= .ok olds.toArray w.drew→
  (∀(q:Nat) (a:AV),pre[q]? =some a→VR C γ a (olds.getD q undef)∧a.plain=true∧∀w2:World,TC w2 C a (olds.getD q undef))→
  (∀c',n+ys.length≤c'→K (Am.aC L e d (.b5 ah.length k2 (n+ys.length) c')) (ah++[pre++((ys.map fun a=>a.cells.map AV.s1).flatten++List.replicate ((c' - n - ys.length)*k2) .un)]))→
  ∃e' aB,K e' aB∧aZ m0 P L N F γ C ⟨d, .call {callee:= .builtin .append,args:= #[x,y],argTypes:= #[t,u]},ty,pos,af,g⟩ ts ds w e' aB:=by
  intro pre olds hg hol hpl hold hpre hK
  have hr:=qJ (ty:=ty) (z:=z) (base:=ad) (olds:=olds) ht hu (.inr ⟨_,rfl⟩) hi Zk (hlen w) (hnew w.drew rfl) hold hg h63 (by rw [hib];exact hfit)
  generalize hcap:grownCap w (n+ys.length) c el=cap at hr
  have hge:n+ys.length≤cap:=by rw [←hcap];exact grownCap_ge w _ _ _
  generalize hrow:(olds++news++(Builtin.zeroCells z.cells (cap - (n+ys.length))).toList).toArray=row at hr
  have hzl:(Builtin.zeroCells z.cells (cap - (n+ys.length))).size=(cap - (n+ys.length))*k2:=by rw [size_zeroCells,hzs]
  obtain ⟨q1,q2,q3⟩:=heap_alloc w.drew (.cells row el)
  refine ⟨_,_,hK cap hge, ?_⟩
  obtain ⟨g1,g2,g3⟩:=Gg (w':=w.drew.alloc (.cells row el)) (cs:=pre++((ys.map fun a=>a.cells.map AV.s1).flatten++List.replicate ((cap - n - ys.length)*k2) .un)) h q2 q3 q1 (by simp) (by
   rw [←hrow];simp only [List.size_toArray,List.length_append,List.length_replicate,Array.length_toList,hzl,hol,hpl,hfl,o1]
   rw [show cap - n - ys.length=cap - (n+ys.length) by omega];omega) (fun q a hq=>by
   have hrd:row.getD q undef=(olds++news++(Builtin.zeroCells z.cells (cap - (n+ys.length))).toList).getD q undef:=by rw [←hrow];simp [Array.getD_eq_getD_getElem?,List.getD_eq_getElem?_getD]
   rw [hrd,List.append_assoc]
   by_cases hq1:q<pre.length
   · rw [List.getElem?_append_left hq1] at hq
     rw [List.getD_eq_getElem?_getD,List.getElem?_append_left (by omega), ←List.getD_eq_getElem?_getD]
     exact ⟨(hpre q a hq).1,(hpre q a hq).2.1,(hpre q a hq).2.2 _⟩
   · rw [List.getElem?_append_right (by omega)] at hq
     rw [List.getD_eq_getElem?_getD,List.getElem?_append_right (by omega), ←List.getD_eq_getElem?_getD,show q - olds.length=q - pre.length by omega]
     by_cases Fe:q - pre.length<((ys.map fun a=>a.cells.map AV.s1).flatten).length
     · rw [List.getElem?_append_left Fe] at hq
       rw [List.getD_eq_getElem?_getD,List.getElem?_append_left (by omega), ←List.getD_eq_getElem?_getD]
       have:=SQ _ a hq
       exact ⟨this.1,this.2.1,this.2.2 _⟩
     · rw [List.getElem?_append_right (by omega)] at hq
       have:a= .un:=by
        have:=List.mem_of_getElem? hq
        exact (List.mem_replicate.1 this).2
       subst this
       refine ⟨.un ..,rfl, ?_⟩
       generalize List.getD _ _ _=v
       cases v<;>trivial)
  exact ⟨_,_,γ++[w.heap.size],C, .inl (e7 _ _ hr),List.prefix_append _ _,g1.aC hd (.b5 _ _ _ _ _ _ g3 hge) trivial rfl (by simp),g2,fun G1=>by simp [gR] at G1,fun hq=>by simp [dM] at hq⟩
 rcases hcase with ⟨rfl,rfl,hK⟩|⟨cs,hcs,YD,hcl,abH,hcf,hA,hB⟩
 · refine fresh (pre:=[]) (olds:=[]) (by omega) (by simp) (by simp) ?_ (by simp) ?_
   · cases ad with
     |none=>rfl
     |some a=>simp [Builtin.firstCells,loadCells,loadCellsFrom]
   · intro c' bZ
     have:=hK c' (by omega)
     simpa [jh] using this
 · obtain ⟨b,hb,abI⟩:∃b,γ[s]? =some b∧ad=some ⟨b,0,none⟩:=by
    rcases hpos with ⟨-,rfl⟩|hpos
    · rw [Nat.zero_mul] at hcl;exact absurd (List.eq_nil_of_length_eq_zero hcl) YD
    · exact hpos
   subst abI
   obtain ⟨vs,tv,hh,hsz,hcell⟩:=h.mem.obj s b cs hcs hb
   have hnk:n*k2≤c*k2:=Nat.mul_le_mul_right _ abH
   by_cases hroom:n+ys.length≤c
   · have hmk:(n+ys.length)*k2≤c*k2:=Nat.mul_le_mul_right _ hroom
     rw [Nat.add_mul] at hmk
     refine ⟨_,_,hA hroom, ?_⟩
     have zF:=run_storeCells_cells (P:=P) b (0+n*k2) news 0 w (fun j hj=>by
      rw [ck hh];simp;omega) (fun j hj=>by
      have:=h.mem.vH s b cs vs tv.1 tv.2 hcs hb hh (0+n*k2+0+j) (by omega)
      simp only [World.frozen?,hh]
      rw [Bool.and_eq_false_iff,decide_eq_false_iff_not,decide_eq_false_iff_not]
      exact Decidable.not_and_iff_or_not.1 this) o2
     rw [Nat.add_zero] at zF
     have hr:=kT (w':=w.setCells b (0+n*k2) news) (ty:=ty) ht hu (.inr ⟨_,rfl⟩) hi (hlen w) (hnew w rfl) hroom (base:=some ⟨b,0,none⟩)
      (fun a ha=>by injection ha with ha;subst ha;rw [add_eq,SH];exact zF) (fun h=>by cases h)
     obtain ⟨⟨nw,g1,g2,g3⟩,g4,g5⟩:=oJ b news (0+n*k2) w vs tv.1 tv.2 hh (by omega)
     have Cu:(cs.take (n*k2)++(ys.map fun a=>a.cells.map AV.s1).flatten++cs.drop ((n+ys.length)*k2)).length=cs.length:=by
      simp only [List.length_append,List.length_take,List.length_drop,hfl,Nat.add_mul];omega
     obtain ⟨k1,k2'⟩:=h.Di (ho:=rM b news (0+n*k2) w) (p:=0) hcs hb hh g1 g2 Cu g4 g5 (fun hz=>absurd hz YD) (fun q a hq=>by
      have hg:=g3 q
      by_cases hq1:q<n*k2
      · left
        rw [List.append_assoc,List.getElem?_append_left (by simp;omega),List.getElem?_take_of_lt hq1] at hq
        exact ⟨hq,by rw [hg,if_neg (by omega)]⟩
      · by_cases Fe:q<n*k2+ys.length*k2
        · right;left
          rw [List.append_assoc,List.getElem?_append_right (by simp;omega),List.getElem?_append_left (by simp only [List.length_take,hfl];omega)] at hq
          simp only [List.length_take,show min (n*k2) cs.length=n*k2 by omega] at hq
          have:=SQ _ a hq
          rw [hg,if_pos (by omega),show q - (0+n*k2)=q - n*k2 by omega]
          exact ⟨gT this.2.1,this.1,this.2.2 _⟩
        · left
          rw [List.getElem?_append_right (by simp only [List.length_append,List.length_take,hfl];omega),List.getElem?_drop] at hq
          simp only [List.length_append,List.length_take,hfl,Nat.add_mul] at hq
          rw [show n*k2+ys.length*k2+(q - (min (n*k2) cs.length+ys.length*k2))=q by omega] at hq
          exact ⟨hq,by rw [hg,if_neg (by omega)]⟩)
     exact ⟨_,_,γ,C, .inl (e7 _ _ hr),List.prefix_refl _,k1.aC hd (.b5 _ _ _ _ _ _ hb hroom) trivial rfl (by simp),k2',fun G1=>by simp [gR] at G1,fun hq=>by simp [dM] at hq⟩
   · obtain ⟨r,hr,hrs, -,hrc⟩:=jQ (P:=P) (w:=w.drew) (b:=b) (o:=0) (n*k2) 0 #[] (fun j _ hj=>⟨vs.getD j undef,by
      have:w.drew.cell? ⟨b,0+j,none⟩=w.cell? ⟨b,0+j,none⟩:=rfl
      rw [this,ck hh];simp [Array.getD_eq_getD_getElem?,Array.getElem?_eq_getElem (show j<vs.size by omega)]⟩)
     have LB:∀j,j<n*k2→r.toList.getD j undef=vs.getD j undef:=by
      intro j hj
      have:=hrc j hj
      have e0:w.drew.cell? ⟨b,0+(0+j),none⟩=w.cell? ⟨b,0+(0+j),none⟩:=rfl
      rw [e0,ck hh] at this
      simp at this
      simp [List.getD_eq_getElem?_getD,Array.getD_eq_getD_getElem?,this]
     refine fresh (pre:=(cs.take (n*k2)).map AV.s1) (olds:=r.toList) (by omega) (by simpa using hrs) (by simp;omega) ?_ (fun q a hq=> ?_) ?_
     · rw [SH]
       simp only [Builtin.firstCells,loadCells]
       exact hr
     · rw [List.getElem?_map] at hq
       cases hc0:(cs.take (n*k2))[q]? with
       |none=>rw [hc0] at hq;simp at hq
       |some a0=>
        rw [hc0] at hq
        obtain rfl:a0.s1=a:=by simpa using hq
        have Jy:q<n*k2:=by have:=(List.getElem?_eq_some_iff.1 hc0).1;simp at this;omega
        rw [List.getElem?_take_of_lt Jy] at hc0
        have hv:=hcell q a0 hc0
        rw [LB q Jy]
        refine ⟨(Wk.iK (Wk.s1 a0)).vr hv.1,yu a0,fun w2=> ?_⟩
        exact G0 a0 _ (ji hcf (i:=q) (by rw [List.getElem?_take_of_lt Jy];exact hc0))
     · intro c' bZ
       have:=hB (by omega) c' bZ
       rw [show c' - n - ys.length=(c' - n) - ys.length by omega]
       simpa [jh] using this
theorem G2 {el:TypeId} (h:SR L N F γ C e ah ts w):∀(l:List (Nat×Operand)) (ps:List (Nat×Nat×Ar)) (cs cs':List AV) (cells:Array Value),
 wR P el l=some ps→fill e cs ps=some cs'→cells.size=cs.length→(∀(i:Nat) (a:AV),cs[i]? =some a→VR C γ a (cells.getD i undef)∧kM a (cells.getD i undef))→
 ∃r,Instr.fill (fun i=>some (i*cz P el,cz P el)) cells (l.map fun (x:Nat×Operand)=>(x.1,Act.eval ⟨ts,ds⟩ x.2))=some r∧r.size=cs'.length∧
  ∀(i:Nat) (a:AV),cs'[i]? =some a→VR C γ a (r.getD i undef)∧kM a (r.getD i undef):=by
 intro l
 induction l with
 |nil=>
  intro ps cs cs' cells hp hf hl hc
  simp only [wR,Option.some.injEq] at hp
  subst hp
  simp only [fill,Option.some.injEq] at hf
  subst hf
  exact ⟨cells,rfl,hl,hc⟩
 |cons x r ih=>
  intro ps cs cs' cells hp hf hl hc
  obtain ⟨i,x⟩:=x
  simp only [wR] at hp
  split at hp
  case h_2=>cases hp
  rename_i a zq ha has
  simp only [Option.some.injEq] at hp
  subst hp
  simp only [fill] at hf
  split at hf
  case isFalse=>cases hf
  rename_i vJ
  obtain ⟨hcl,hok⟩:=vJ
  split at hf
  case h_2=>cases hf
  rename_i WA hov
  obtain ⟨o1,o2,o3⟩:=vO hov
  obtain ⟨a1,a2⟩:=fP (ds:=ds) h ha
  obtain ⟨c1,c2⟩:=a1.cells hok
  have c3:=a2.cells a1 hok
  simp only [List.length_map] at o1 o3
  generalize hoff:i*cz P el=off at*
  obtain ⟨f1,f2⟩:=AQ (Act.eval ⟨ts,ds⟩ x) off cells (by omega)
  obtain ⟨q,q1,q2,q3⟩:=ih zq WA cs' _ has hf (by rw [f1,o2];exact hl) (fun j b hb=>by
   rw [o3 j] at hb
   rw [f2 j]
   by_cases hin:off≤j∧j<off+(ev e a).cells.length
   · rw [if_pos hin,List.getElem?_map] at hb
     rw [if_pos (by omega)]
     cases hq:(ev e a).cells[j - off]? with
     |none=>rw [hq] at hb;simp at hb
     |some y=>
      rw [hq] at hb
      obtain rfl:y.bP=b:=by simpa using hb
      refine ⟨(Wk.iK (Wk.bP y)).vr (c2 _ y hq).1, ?_⟩
      have:=c3 _ y hq
      generalize ((Act.eval ⟨ts,ds⟩ x).cells.getD (j - off) undef)=v at this
      cases y with
      |sl t k xs=>cases t<;>cases v<;>first|trivial|exact this
      |_=>exact this
   · rw [if_neg hin] at hb
     rw [if_neg (by omega)]
     exact hc j b hb)
  refine ⟨q, ?_,q2,q3⟩
  simp only [List.map_cons,Instr.fill]
  rw [hoff,if_neg (by simp;omega)]
  exact q1
theorem Jz (e:Env):∀(ps:List (Nat×Nat×Ar)) (z:List AV),ps.all GH=true→fill e z ps=fill [] z ps:=by
 intro ps
 induction ps with
 |nil=>intro z _;rfl
 |cons p r ih=>
  intro z h
  obtain ⟨o,n,x⟩:=p
  simp only [List.all_cons,Bool.and_eq_true] at h
  cases x with
  |t u=>simp [GH] at h
  |c a=>
   simp only [fill]
   have h1:ev e (.c a)=a:=rfl
   have h2:ev [] (.c a)=a:=rfl
   rw [h1,h2]
   split
   · cases over z o (a.cells.map AV.bP) with
     |none=>rfl
     |some cs=>exact ih cs h.2
   · rfl
theorem DA {t el:TypeId} {mm:Nat} {parts:Array (Nat×Operand)} {z:List AV} {ps:List (Nat×Nat×Ar)} (h:SR L N F γ C e ah ts w) (hd:∀x,d=some x→x<N)
 (hu:P.underlying t=some (.array mm el)) (hz:zeroOf P t=some z) (hc:wR P el parts.toList=some ps) (hel:(P.info? el).isSome=true)
 (hev:bF L ⟨d, .build z ps,none⟩ e ah=some (e',aB)):aZ m0 P L N F γ C ⟨d, .build t parts,ty,pos,af,g⟩ ts ds w e' aB:=by
 obtain ⟨zv,SK,hzs,hinfo,Js⟩:=oK (C:=C) (γ:=γ) hz
 simp only [bF] at hev
 cases hf:fill e z ps with
 |none=>rw [hf] at hev;cases hev
 |some cs=>
  rw [hf] at hev
  simp only [Option.map_some,Option.some.injEq,Prod.mk.injEq] at hev
  obtain ⟨rfl,rfl⟩:=hev
  obtain ⟨r,r1,r2,r3⟩:=G2 (ds:=ds) h parts.toList ps z cs zv.cells hc hf hzs (fun i a hi=>⟨(Js i a hi).1,(Js i a hi).2.1⟩)
  refine aZ.plain h hd (v:= .agg r) ?_ (.agg _ _ _ r2.symm fun i a hi=>(r3 i a hi).1) (fun i a hi=>(r3 i a hi).2) rfl
  intro w _
  have hl:(parts.map fun (i,x)=>(i,Act.eval ⟨ts,ds⟩ x)).toList=parts.toList.map fun (x:Nat×Operand)=>(x.1,Act.eval ⟨ts,ds⟩ x.2):=by rw [Array.toList_map]
  simp only [execOp,Instr.build,Sem.run_bind,SK,Result.andThen_ok,bL hu,eJ hel,hl]
  rw [r1]
  rfl
theorem xh (w:World) (t e:TypeId) (a:Option Addr) (l c:Nat) (h:P.underlying t=some (.slice e)):(binOp .eql t (.slice a l c) (.slice none 0 0)).run P w= .ok (.bool a.isNone) w:=by
 simp only [binOp]
 simp [run_equal_slice_nil w t e a l c h]
theorem Zl {t el:TypeId} {op:BinOp} {x:Operand} {x':Ar} {neq:Bool} {K:Env→AH→Prop} (h:SR L N F γ C e ah ts w) (hd:∀x,d=some x→x<N) (hx:bx x=some x')
 (hu:P.underlying t=some (.slice el)) (hop:op=if neq then .neq else .eql) (hk:Dp L d neq x' e ah K):
 ∃e' aB,K e' aB∧aZ m0 P L N F γ C ⟨d, .binOp op t x (.const (.slice none 0 0)) oH,ty,pos,af,g⟩ ts ds w e' aB:=by
 have h1:=bR (ds:=ds) h hx
 unfold Dp at hk
 split at hk
 case h_2=>exact hk.elim
 rename_i tg k xs he
 rw [he] at h1
 obtain ⟨a,c,hv, -,hcase⟩:=h1.1.eP
 have hcn:Act.eval ⟨ts,ds⟩ (.const (.slice none 0 0))= .slice none 0 0:=rfl
 have key:∀b,b=(if neq then !a.isNone else a.isNone)→aZ m0 P L N F γ C ⟨d, .binOp op t x (.const (.slice none 0 0)) oH,ty,pos,af,g⟩ ts ds w (Am.aC L e d (.bool b)) ah:=by
  intro b hb
  subst hb
  refine aZ.plain h hd (v:= .bool (if neq then !a.isNone else a.isNone)) ?_ (.bool ..) trivial rfl
  intro w _
  cases neq
  · simp only [Bool.false_eq_true,if_false] at hop;subst hop
    simp [execOp,hv,hcn,eqGuard,xh w t el a xs.length c hu]
  · simp only [if_true] at hop;subst hop
    simp [execOp,hv,hcn,eqGuard,run_neq_slice_nil w t el a xs.length c hu]
 by_cases hxs:xs=[]
 · exact ⟨_,_,hk.1 hxs _,key _ rfl⟩
 · refine ⟨_,_,hk.2 hxs,key _ ?_⟩
   obtain ⟨b,o,rfl, -⟩:=hcase.resolve_left hxs
   cases neq<;>rfl
theorem SS {m:Bool} {t el:TypeId} {n:Nat} {parts:Array (Nat×Operand)} {zq':List Ar} (h:SR L N F γ C e ah ts w) (hd:∀x,d=some x→x<N) (ht:P.underlying t=some (.slice el))
 (hn:parts.size=n) (hb:n*cz P el≤16777216) (hz:(zeroOf P el).isSome=true) (hc:kR P el 0 parts.toList=some zq')
 (hev:bF L ⟨d, .lZ (cz P el) zq',none⟩ e ah=some (e',aB)):aZ m P L N F γ C ⟨d, .buildSlice t n parts,ty,pos,af,g⟩ ts ds w e' aB:=by
 rcases zq' with _|⟨z,as0⟩
 · simp only [bF,Option.some.injEq,Prod.mk.injEq] at hev
   obtain ⟨rfl,rfl⟩:=hev
   have hn0:n=0:=by
    have:=(yt (ds:=ds) h _ _ _ hc).1
    have h2:parts.toList.length=n:=by rw [Array.length_toList];exact hn
    rw [h2] at this
    exact this.symm
   obtain ⟨r,hrs,hrun, -,key⟩:=wU (ds:=ds) (d:=none) h (by simp) ht hn hb hz hc (by rfl)
   obtain ⟨C',g1,g2⟩:=key (0,0) (.inl rfl)
   subst hn0
   have g3:SR L N F γ C' e ah ts (w.alloc (.cells r el (0,0))):=g1
   refine ⟨.slice (some ⟨w.heap.size,0,none⟩) 0 0,w.alloc (.cells r el (0,0)),γ,C', .inl ?_,List.prefix_refl _,g3.aC hd (.oF _ _ _ _) trivial rfl (by simp),g2,fun _ s b hb=>(heap_alloc w _).2.1 b (eF h (p:= .obj s) hb),fun hq=>by simp [dM] at hq⟩
   simp [execOp,hrun]
 generalize YE:z::as0=zq' at hc hev
 have hev:bF L ⟨d, .lZ (cz P el) zq',none⟩ e ah=some (e',aB):=hev
 rw [←YE] at hev
 simp only [bF] at hev
 rw [YE] at hev
 split at hev
 case isFalse=>cases hev
 rename_i hall
 simp only [Option.some.injEq,Prod.mk.injEq] at hev
 obtain ⟨rfl,rfl⟩:=hev
 obtain ⟨r,hrs,hrun,hcell, -⟩:=wU (ds:=ds) h hd ht hn hb hz hc hall
 have hal:zq'.length=n:=by
  have:=(yt (ds:=ds) h _ _ _ hc).1
  rw [this,Array.length_toList];exact hn
 have hpart:∀(i:Nat) (a:AV),(zq'.map (ev e))[i]? =some a→a.cells.length=cz P el∧bQ a.cells=true:=by
  intro i a hi
  rw [List.getElem?_map] at hi
  cases hq:zq'[i]? with
  |none=>rw [hq] at hi;simp at hi
  |some b=>
   rw [hq] at hi
   obtain rfl:ev e b=a:=by simpa using hi
   have:=List.all_eq_true.1 hall b (List.mem_of_getElem? hq)
   simp only [Bool.and_eq_true,decide_eq_true_eq] at this
   exact ⟨this.1.1,this.1.2⟩
 obtain ⟨f1,f2⟩:=Gh (zq'.map (ev e)) fun i a hi=>(hpart i a hi).1
 have hcs:(zq'.map fun p=>(ev e p).cells.map AV.s1)=(zq'.map (ev e)).map fun a=>a.cells.map AV.s1:=by rw [List.map_map];rfl
 rw [hcs]
 obtain ⟨q1,q2,q3⟩:=heap_alloc w (.cells r el (0,0))
 obtain ⟨k1,k2,k3⟩:=Gg (w':=w.alloc (.cells r el (0,0))) (cs:=((zq'.map (ev e)).map fun a=>a.cells.map AV.s1).flatten) h q2 q3 q1 (fun i _=>by simp) (by rw [f1,hrs];simp [hal]) (fun q a hq=>by
  obtain ⟨i,j,y,z,g1,g2,g3,g4,g5⟩:=f2 q a hq
  subst g3;subst g4
  obtain ⟨p1,p2⟩:=hpart i y g1
  rw [List.getElem?_map] at g1
  cases hq:zq'[i]? with
  |none=>rw [hq] at g1;simp at g1
  |some b=>
   rw [hq] at g1
   obtain rfl:ev e b=y:=by simpa using g1
   exact ⟨(Wk.iK (Wk.s1 z)).vr (hcell i b hq j z g2),yu z,G0 z _ (O9 (yp p2 g2))⟩)
 refine ⟨_,_,γ++[w.heap.size],C, .inl ?_,List.prefix_append _ _,k1.aC hd (.cw _ _ _ _ _ _ _ k3 (Nat.le_refl _)) trivial rfl (by simp),k2,fun _ s b hb=>q2 b (eF h (p:= .obj s) hb),fun hq=>by simp [dM] at hq⟩
 simp [execOp,hrun,hal]
end
end Go.Am
end
section
namespace Go.Am
open Go
variable [Tabs]
section
variable {P:Program} {L:List Nat} {N:Nat} {F:Nat→Prop} {γ:List Nat} {C C':Nat→List Value} {e:Env} {ah:AH} {ts:Array Value} {ds:List Deferred} {w w':World} {m:Bool}
variable {e':Env} {aB:AH}
def fI.nZ:fI→Bool
 | .call _ _=>true
 | .kP _ _ _ _=>true
 | .nq _ _=>true
 |_=>false
theorem LL {o:Oper} {op:fI} (h:SR L N F γ C e ah ts w) (hd:∀x,o.dst=some x→x<N) (hc:cop P o=some op) (e7:op.nZ=false)
 (hm:m=true∨((∀x n,op≠ .ld x n)∧∀x,op≠ .iJ .bs x))
 (hev:bF L ⟨o.dst,op,none⟩ e ah=some (e',aB)):aZ m P L N F γ C o ts ds w e' aB:=by
 obtain ⟨d,o,ty,pos,af,g⟩:=o
 simp only at hd hev
 cases o with
 |move x=>
  simp only [cop,Option.map_eq_some_iff] at hc
  obtain ⟨a,ha,rfl⟩:=hc
  simp only [bF,Option.some.injEq,Prod.mk.injEq] at hev
  obtain ⟨rfl,rfl⟩:=hev
  exact Y7 h hd ha
 |assign x=>
  simp only [cop,Option.map_eq_some_iff] at hc
  obtain ⟨a,ha,rfl⟩:=hc
  exact V5 h hd ha hev
 |pick c a b=>
  simp only [cop] at hc
  split at hc
  · rename_i c' a' b' h1 h2 h3
    injection hc with hc;subst hc
    exact Sm h hd h1 h2 h3 hev
  · cases hc
 |alloc t=>
  simp only [cop,Option.map_eq_some_iff] at hc
  obtain ⟨a,ha,rfl⟩:=hc
  exact LH h hd ha hev
 |box t x=>
  simp only [cop,Option.map_eq_some_iff] at hc
  obtain ⟨a,ha,rfl⟩:=hc
  exact Wr h hd ha hev
 |build t parts=>
  simp only [cop] at hc
  split at hc
  case h_3=>cases hc
  case h_2=>
   rename_i mm el hu
   split at hc
   case h_2=>cases hc
   rename_i z ps hz hp
   split at hc
   case isFalse=>cases hc
   rename_i hall
   split at hc
   · rename_i jj
     simp only [Option.map_eq_some_iff] at hc
     obtain ⟨z',Zg,rfl⟩:=hc
     refine DA h hd hu hz hp hall ?_
     rw [←hev]
     simp only [bF]
     rw [Jz e ps z jj,Zg]
     rfl
   · injection hc with hc;subst hc
     exact DA h hd hu hz hp hall hev
  rename_i fs hu
  split at hc
  case h_2=>cases hc
  rename_i z ps hz hp
  split at hc
  case isFalse=>cases hc
  rename_i hall
  injection hc with hc;subst hc
  exact Pn h hd hu hz hp hall hev
 |buildSlice t n parts=>
  simp only [cop] at hc
  split at hc
  case h_2=>cases hc
  rename_i el hel
  split at hc
  case isFalse=>cases hc
  rename_i hh
  obtain ⟨h1,h2,h3⟩:=hh
  simp only [Option.map_eq_some_iff] at hc
  obtain ⟨zq,ha,rfl⟩:=hc
  refine Wz h hd ?_ h1 h2 h3 ha hev
  unfold Dn at hel
  split at hel
  · rename_i e hu;injection hel with hel;subst hel;exact hu
  · cases hel
 |load t x=>
  simp only [cop] at hc
  split at hc
  case isFalse=>cases hc
  rename_i ht
  simp only [Option.map_eq_some_iff] at hc
  obtain ⟨a,ha,rfl⟩:=hc
  obtain rfl:m=true:=hm.resolve_right (fun h=>h.1 _ _ rfl)
  exact Y9 h hd ha ht hev
 |store t a x=>
  simp only [cop] at hc
  split at hc
  case h_2=>cases hc
  rename_i a' x' ha hx
  split at hc
  case isFalse=>cases hc
  rename_i ht
  simp only [Bool.and_eq_true,Option.isNone_iff_eq_none] at ht
  obtain ⟨ht,rfl⟩:=ht
  injection hc with hc;subst hc
  exact Zj h ha hx ht hev
 |nilCheck x=>
  simp only [cop,Option.map_eq_some_iff] at hc
  obtain ⟨a,ha,rfl⟩:=hc
  exact V6 h hd ha hev
 |fieldAddr t x f=>
  simp only [cop] at hc
  split at hc
  case h_2=>cases hc
  rename_i x' fd hx hf
  split at hc
  case isTrue=>cases hc
  rename_i hs
  injection hc with hc;subst hc
  exact V7 h hd hx hf hs hev
 |field t x f=>
  simp only [cop] at hc
  split at hc
  case h_2=>cases hc
  rename_i x' fd hx hf
  split at hc
  case isFalse=>cases hc
  rename_i hs
  injection hc with hc;subst hc
  exact Sp h hd hx hf hs hev
 |binOp WC t x y oH=>
  simp only [cop] at hc
  split at hc
  case h_3=>cases hc
  case h_2=>
   rename_i x' hx hy
   split at hc
   · rename_i ms hu
     injection hc with hc;subst hc;exact SE h hd hx hu rfl hev
   · rename_i ms hu
     injection hc with hc;subst hc;exact SE h hd hx hu rfl hev
   · injection hc with hc;subst hc;cases e7
   · injection hc with hc;subst hc;cases e7
   · cases hc
  rename_i x' y' hx hy
  split at hc
  · rename_i fs hu
    split at hc
    case h_2=>cases hc
    rename_i ks hk
    split at hc
    · injection hc with hc;subst hc;exact Ol h hd hx hy hu hk rfl hev
    · injection hc with hc;subst hc;exact Ol h hd hx hy hu hk rfl hev
    · cases hc
  · injection hc with hc;subst hc;exact Ok h hd hx hy hev
  · injection hc with hc;subst hc;exact Ok h hd hx hy hev
  · rename_i hu
    split at hc
    · injection hc with hc;subst hc;exact Sq h hd hx hy hu rfl hev
    · injection hc with hc;subst hc;exact Sq h hd hx hy hu rfl hev
    · cases hc
  · rename_i u hu
    split at hc
    · injection hc with hc;subst hc;exact Sr h hd hx hy hu rfl hev
    · injection hc with hc;subst hc;exact Sr h hd hx hy hu rfl hev
    · cases hc
  · cases hc
 |unOp WC t x=>
  simp only [cop,Option.map_eq_some_iff] at hc
  obtain ⟨a,ha,rfl⟩:=hc
  exact Za h hd ha hev
 |convert s t x=>
  simp only [cop] at hc
  split at hc
  case h_2=>cases hc
  rename_i hh x' n7 hx
  injection hc with hc;subst hc
  exact Ws h hd hx n7 (hm.imp id fun q=>by rintro rfl;exact q.2 _ rfl) hev
 |makeFunc fn first cs=>
  cases fn with
  |func f=>
   simp only [cop] at hc
   split at hc
   case isFalse=>cases hc
   rename_i hf
   simp only [Option.map_eq_some_iff] at hc
   obtain ⟨a,ha,rfl⟩:=hc
   exact We h hd hf ha hev
  |_=>simp [cop] at hc
 |slice t x lo hi mx=>
  simp only [cop] at hc
  split at hc
  case h_2=>cases hc
  rename_i x' lo' hi' Zc hx hlo hhi Pd
  split at hc
  · rename_i hu
    split at hc
    · injection hc with hc;subst hc
      have:mx=none:=by
       cases mx with
       |none=>rfl
       |some y=>simp only [oD] at Pd;cases hy:bx y<;>rw [hy] at Pd<;>simp at Pd
      subst this
      exact Wn h hd hx hlo hhi hu hev
    · cases hc
  · rename_i el hu
    split at hc
    case isFalse=>cases hc
    rename_i ht
    injection hc with hc;subst hc
    exact Wo h hd hx hlo hhi Pd hu ht hev
  · cases hc
 |indexAddr t x i=>
  simp only [cop] at hc
  split at hc
  case h_3=>cases hc
  case h_2=>
   rename_i x' i' hel hx hi
   split at hc
   case h_2=>cases hc
   rename_i mm el hu
   split at hc
   case isFalse=>cases hc
   rename_i ht
   injection hc with hc;subst hc
   exact Wj h hd hx hi hu ht hev
  rename_i el x' i' hel hx hi
  split at hc
  case isFalse=>cases hc
  rename_i ht
  injection hc with hc;subst hc
  unfold Dn at hel
  split at hel
  · rename_i e hu;injection hel with hel;subst hel;exact Wi h hd hx hi hu ht hev
  · cases hel
 |index t x i=>
  simp only [cop] at hc
  split at hc
  case h_2=>cases hc
  rename_i x' i' hu hx hi
  injection hc with hc;subst hc
  exact Wh h hd hx hi hu hev
 |extract x i=>
  simp only [cop,Option.map_eq_some_iff] at hc
  obtain ⟨a,ha,rfl⟩:=hc
  exact Wf h hd ha hev
 |call c=>
  obtain ⟨callee,args,argTypes⟩:=c
  simp only [cop] at hc
  split at hc
  · rename_i x t h1 h2
    have e1:args= #[x]:=by rw [←Array.toArray_toList (xs:=args),h1]
    have e2:argTypes= #[t]:=by rw [←Array.toArray_toList (xs:=argTypes),h2]
    subst e1;subst e2
    split at hc
    · rename_i x' hu hx;injection hc with hc;subst hc;exact Ss h hd hx hu hev
    · rename_i s x' hu hx;injection hc with hc;subst hc;exact Wg h hd hx hu hev
    · cases hc
  · rename_i x y t u h1 h2
    have e1:args= #[x,y]:=by rw [←Array.toArray_toList (xs:=args),h1]
    have e2:argTypes= #[t,u]:=by rw [←Array.toArray_toList (xs:=argTypes),h2]
    subst e1;subst e2
    split at hc
    case h_2=>cases hc
    rename_i x' y' _ _ hx hy
    split at hc
    case isFalse=>cases hc
    rename_i htu
    injection hc with hc;subst hc
    obtain ⟨rfl, -⟩:=htu
    exact SF (mx:=true) h hd hx hy hev
  · rename_i x y t u h1 h2
    have e1:args= #[x,y]:=by rw [←Array.toArray_toList (xs:=args),h1]
    have e2:argTypes= #[t,u]:=by rw [←Array.toArray_toList (xs:=argTypes),h2]
    subst e1;subst e2
    split at hc
    case h_2=>cases hc
    rename_i x' y' _ _ hx hy
    split at hc
    case isFalse=>cases hc
    rename_i htu
    injection hc with hc;subst hc
    obtain ⟨rfl, -⟩:=htu
    exact SF (mx:=false) h hd hx hy hev
  · rename_i x y t u h1 h2
    have e1:args= #[x,y]:=by rw [←Array.toArray_toList (xs:=args),h1]
    have e2:argTypes= #[t,u]:=by rw [←Array.toArray_toList (xs:=argTypes),h2]
    subst e1;subst e2
    split at hc
    case h_2=>cases hc
    rename_i el x' hel hx
    have ht:P.underlying t=some (.slice el):=by
     unfold Dn at hel
     split at hel
     · rename_i e hu;injection hel with hel;subst hel;exact hu
     · cases hel
    split at hc
    · rename_i s y' hu hy
      split at hc
      case isFalse=>cases hc
      rename_i hz
      injection hc with hc;subst hc
      exact Ww h hd hx hy ht hu hz hev
    · rename_i y' hu hy
      split at hc
      case isFalse=>cases hc
      rename_i hz
      injection hc with hc;subst hc
      exact SJ h hd hx hy ht hu hz.2 hz.1 hev
    · cases hc
  · split at hc
    · injection hc with hc;subst hc;cases e7
    · cases hc
  · cases hc
 |_=>simp [cop] at hc
theorem WD {o:Oper} {op:fI} (h:SR L N F γ C e ah ts w) (hd:∀x,o.dst=some x→x<N) (hc:dH P m o=some op) (e7:op.nZ=false)
 (hev:bF L ⟨o.dst,op,none⟩ e ah=some (e',aB)):aZ m P L N F γ C o ts ds w e' aB:=by
 cases m with
 |true=>exact LL h hd (by simpa [dH] using hc) e7 (.inl rfl) hev
 |false=>
  simp only [dH,Bool.false_eq_true,if_false,Option.map_eq_some_iff] at hc
  obtain ⟨op',ho,rfl⟩:=hc
  by_cases Cu:∃x,op'= .iJ .bs x
  · obtain ⟨x,rfl⟩:=Cu
    obtain ⟨d,oo,ty,pos,af,g⟩:=o
    cases oo with
    |convert s t y=>
     simp only [cop] at ho
     split at ho
     case h_2=>cases ho
     rename_i hh x' n7 hx
     injection ho with ho
     injection ho with e1 e2
     subst e1;subst e2
     exact SB h hd hx n7 hev
    |makeFunc fn first cs=>
     cases fn with
     |func f=>simp only [cop] at ho;split at ho<;>simp at ho
     |_=>simp [cop] at ho
    |_=>
     exfalso
     simp only [cop] at ho
     first
      |cases ho;done
      |(simp at ho;done)
      |(repeat' (split at ho))<;>(first|(cases ho;done)|(simp at ho;done))
  by_cases hl:∃x n,op'= .ld x n
  · obtain ⟨x,n,rfl⟩:=hl
    obtain ⟨d,oo,ty,pos,af,g⟩:=o
    cases oo with
    |load t y=>
     simp only [cop] at ho
     split at ho
     case isFalse=>cases ho
     rename_i ht
     simp only [Option.map_eq_some_iff] at ho
     obtain ⟨a,ha,he⟩:=ho
     injection he with e1 e2
     subst e1;subst e2
     exact Oj h hd ha ht hev
    |makeFunc fn first cs=>
     cases fn with
     |func f=>simp only [cop] at ho;split at ho<;>simp at ho
     |_=>simp [cop] at ho
    |_=>
     exfalso
     simp only [cop] at ho
     first
      |cases ho;done
      |(simp at ho;done)
      |(repeat' (split at ho))<;>(first|(cases ho;done)|(simp at ho;done))
  · have:op'.Jh=op':=by
     cases op' with
     |ld x n=>exact absurd ⟨_,_,rfl⟩ hl
     |iJ hh x=>cases hh<;>first|rfl|exact absurd ⟨_,rfl⟩ Cu
     |_=>rfl
    rw [this] at e7 hev
    exact LL h hd ho e7 (.inr ⟨fun x n he=>hl ⟨x,n,he⟩,fun x he=>Cu ⟨x,he⟩⟩) hev
theorem SU {o:Oper} {x':Ar} (hc:cop P o=some (.aS x')):∃x,o=⟨o.dst, .assign x,o.type,o.pos,o.after,o.guard⟩∧di P o.type x=some x':=by
 obtain ⟨d,oo,ty,pos,af,g⟩:=o
 cases oo with
 |assign y=>
  simp only [cop,Option.map_eq_some_iff] at hc
  obtain ⟨a,ha,he⟩:=hc
  injection he with he
  subst he
  exact ⟨y,rfl,ha⟩
 |makeFunc fn first cs=>
  cases fn with
  |func f=>simp only [cop] at hc;split at hc<;>simp at hc
  |_=>simp [cop] at hc
 |_=>
  exfalso
  simp only [cop] at hc
  first
   |cases hc;done
   |(simp at hc;done)
   |(repeat' (split at hc))<;>(first|(cases hc;done)|(simp at hc;done))
theorem DB {o:Oper} {k b:Nat} {x' y':Ar} (hop:cop P o=some (.app k b x' y')):
 ∃x y t u el s,o=⟨o.dst, .call {callee:= .builtin .append,args:= #[x,y],argTypes:= #[t,u]},o.type,o.pos,o.after,o.guard⟩∧di P t x=some x'∧di P u y=some y'∧
  P.underlying t=some (.slice el)∧P.underlying u=some (.slice s)∧(zeroOf P el).map List.length=some (cz P el)∧k=cz P el∧b=GG P el:=by
 obtain ⟨d,oo,ty,pos,af,g⟩:=o
 cases oo with
 |call c=>
  obtain ⟨callee,args,argTypes⟩:=c
  simp only [cop] at hop
  split at hop
  · split at hop<;>simp at hop
  · split at hop
    · split at hop<;>simp at hop
    · cases hop
  · split at hop
    · split at hop<;>simp at hop
    · cases hop
  · rename_i x y t u h1 h2
    have e1:args= #[x,y]:=by rw [←Array.toArray_toList (xs:=args),h1]
    have e2:argTypes= #[t,u]:=by rw [←Array.toArray_toList (xs:=argTypes),h2]
    subst e1;subst e2
    split at hop
    case h_2=>cases hop
    rename_i el x2 hel hx
    have ht:P.underlying t=some (.slice el):=by
     unfold Dn at hel
     split at hel
     · rename_i e hu;injection hel with hel;subst hel;exact hu
     · cases hel
    split at hop
    · rename_i s y2 hu hy
      split at hop
      case isFalse=>cases hop
      rename_i hz
      injection hop with hop
      injection hop with q1 q2 q3 q4
      subst q1;subst q2;subst q3;subst q4
      exact ⟨x,y,t,u,el,s,rfl,hx,hy,ht,hu,hz,rfl,rfl⟩
    · split at hop<;>simp at hop
    · cases hop
  · split at hop<;>simp at hop
  · cases hop
 |makeFunc fn first cs=>
  cases fn with
  |func f=>simp only [cop] at hop;split at hop<;>simp at hop
  |_=>simp [cop] at hop
 |_=>
  exfalso
  simp only [cop] at hop
  first
   |cases hop;done
   |(simp at hop;done)
   |(repeat' (split at hop))<;>(first|(cases hop;done)|(simp at hop;done))
theorem On {o:Oper} {neq:Bool} {x':Ar} (hop:cop P o=some (.nq neq x')):
 ∃op t x oH el,o=⟨o.dst, .binOp op t x (.const (.slice none 0 0)) oH,o.type,o.pos,o.after,o.guard⟩∧bx x=some x'∧P.underlying t=some (.slice el)∧op=if neq then .neq else .eql:=by
 obtain ⟨d,oo,ty,pos,af,g⟩:=o
 cases oo with
 |binOp op t x y oH=>
  simp only [cop] at hop
  split at hop
  case h_3=>cases hop
  case h_2=>
   rename_i x2 hx hy
   split at hop
   · cases hop
   · cases hop
   · rename_i el hu
     injection hop with hop;injection hop with h1 h2;subst h1;subst h2
     exact ⟨_,t,x,oH,el,rfl,hx,hu,rfl⟩
   · rename_i el hu
     injection hop with hop;injection hop with h1 h2;subst h1;subst h2
     exact ⟨_,t,x,oH,el,rfl,hx,hu,rfl⟩
   · cases hop
  exfalso
  (repeat' (split at hop))<;>(first|(cases hop;done)|(simp at hop;done))
 |makeFunc fn first cs=>
  cases fn with
  |func f=>simp only [cop] at hop;split at hop<;>simp at hop
  |_=>simp [cop] at hop
 |_=>
  exfalso
  simp only [cop] at hop
  first
   |cases hop;done
   |(simp at hop;done)
   |(repeat' (split at hop))<;>(first|(cases hop;done)|(simp at hop;done))
theorem WI {op:fI} {n:Bool} {x:Ar} (h:op.Jh= .nq n x):op= .nq n x:=by
 cases op with
 |iJ hh x=>cases hh<;>cases h
 |ld x n=>cases h
 |_=>exact h
theorem SV {op:fI} {k b:Nat} {x y:Ar} (h:op.Jh= .app k b x y):op= .app k b x y:=by
 cases op with
 |iJ hh x=>cases hh<;>cases h
 |ld x n=>cases h
 |_=>exact h
theorem SW {op:fI} {x:Ar} (h:op.Jh= .aS x):op= .aS x:=by
 cases op with
 |iJ hh x=>cases hh<;>cases h
 |ld x n=>cases h
 |_=>exact h
theorem SX {o:Oper} {k:Nat} {zs:List Ar} (hop:cop P o=some (.fS k zs)):
 ∃t n parts el,o=⟨o.dst, .buildSlice t n parts,o.type,o.pos,o.after,o.guard⟩∧P.underlying t=some (.slice el)∧parts.size=n∧n*cz P el≤16777216∧(zeroOf P el).isSome=true∧
  kR P el 0 parts.toList=some zs∧k=cz P el:=by
 obtain ⟨d,oo,ty,pos,af,g⟩:=o
 cases oo with
 |buildSlice t n parts=>
  simp only [cop] at hop
  split at hop
  case h_2=>cases hop
  rename_i el hel
  split at hop
  case isFalse=>cases hop
  rename_i hq
  have ht:P.underlying t=some (.slice el):=by
   unfold Dn at hel
   split at hel
   · rename_i e hu;injection hel with hel;subst hel;exact hu
   · cases hel
  cases hc:kR P el 0 parts.toList with
  |none=>rw [hc] at hop;cases hop
  |some zs'=>
   rw [hc] at hop
   simp only [Option.map_some,Option.some.injEq,fI.fS.injEq] at hop
   obtain ⟨rfl,rfl⟩:=hop
   exact ⟨t,n,parts,el,rfl,ht,hq.1,hq.2.1,hq.2.2,hc,rfl⟩
 |makeFunc fn first cs=>
  cases fn with
  |func f=>simp only [cop] at hop;split at hop<;>simp at hop
  |_=>simp [cop] at hop
 |call c=>
  obtain ⟨callee,args,tys⟩:=c
  simp only [cop] at hop
  (repeat' (split at hop))<;>(first|(cases hop;done)|(simp at hop;done))
 |_=>
  simp only [cop] at hop
  first
   |cases hop;done
   |(simp at hop;done)
   |(repeat' (split at hop))<;>(first|(cases hop;done)|(simp at hop;done))
theorem SY {op:fI} {k:Nat} {zs:List Ar} (h:op.Jh= .fS k zs):op= .fS k zs:=by
 cases op with
 |iJ hh x=>cases hh<;>cases h
 |ld x n=>cases h
 |_=>exact h
theorem Po {o:Oper} {k:Nat} {zs:List Ar} (hc:dH P m o=some (.fS k zs)):cop P o=some (.fS k zs):=by
 cases m with
 |true=>simpa [dH] using hc
 |false=>
  simp only [dH,Bool.false_eq_true,if_false,Option.map_eq_some_iff] at hc
  obtain ⟨op',ho,hE⟩:=hc
  rw [ho,SY hE]
theorem AR {o:Oper} {k b:Nat} {x y:Ar} (hc:dH P m o=some (.app k b x y)):cop P o=some (.app k b x y):=by
 cases m with
 |true=>simpa [dH] using hc
 |false=>
  simp only [dH,Bool.false_eq_true,if_false,Option.map_eq_some_iff] at hc
  obtain ⟨op',ho,hE⟩:=hc
  rw [ho,SV hE]
theorem Pp {o:Oper} {x:Ar} (hc:dH P m o=some (.aS x)):cop P o=some (.aS x):=by
 cases m with
 |true=>simpa [dH] using hc
 |false=>
  simp only [dH,Bool.false_eq_true,if_false,Option.map_eq_some_iff] at hc
  obtain ⟨op',ho,hE⟩:=hc
  rw [ho,SW hE]
theorem JA {o:Oper} {n:Bool} {x:Ar} (hc:dH P m o=some (.nq n x)):cop P o=some (.nq n x):=by
 cases m with
 |true=>simpa [dH] using hc
 |false=>
  simp only [dH,Bool.false_eq_true,if_false,Option.map_eq_some_iff] at hc
  obtain ⟨op',ho,hE⟩:=hc
  rw [ho,WI hE]
theorem G3 {o:Oper} {n:Bool} {x:Ar} {K:Env→AH→Prop} (h:SR L N F γ C e ah ts w) (hd:∀x,o.dst=some x→x<N) (hc:dH P m o=some (fI.er (.nq n x)))
 (hk:Dp L o.dst n x e ah K):∃e' aB,K e' aB∧aZ m P L N F γ C o ts ds w e' aB:=by
 obtain ⟨op,t,x0,oH,el,ho,hx,hu,hop⟩:=On (JA hc)
 rw [ho]
 exact Zl (d:=o.dst) h hd hx hu hop hk
theorem Gi {o:Oper} {k b:Nat} {x y:Ar} {K:Env→AH→Prop} (h:SR L N F γ C e ah ts w) (hd:∀x,o.dst=some x→x<N) (hc:dH P m o=some (fI.er (.kP k b x y)))
 (hk:oC L o.dst k b x y e ah K):∃e' aB,K e' aB∧aZ m P L N F γ C o ts ds w e' aB:=by
 obtain ⟨x0,y0,t,u,el,s,ho,hx,hy,ht,hu,hz,rfl,rfl⟩:=DB (AR hc)
 rw [ho]
 exact SP (d:=o.dst) h hd hx hy ht hu hz hk
theorem JB {o:Oper} {k:Nat} {x:Ar} (h:SR L N F γ C e ah ts w) (hd:∀x,o.dst=some x→x<N) (hc:dH P m o=some (fI.er (.xe k x)))
 (hev:bF L ⟨o.dst, .xe k x,none⟩ e ah=some (e',aB)):aZ m P L N F γ C o ts ds w e' aB:=by
 obtain ⟨x0,ho,hx⟩:=SU (Pp hc)
 rw [ho]
 exact Wl (d:=o.dst) h hd hx hev
theorem Gj {o:Oper} {k:Nat} {zs:List Ar} (h:SR L N F γ C e ah ts w) (hd:∀x,o.dst=some x→x<N) (hc:dH P m o=some (fI.er (.lZ k zs)))
 (hev:bF L ⟨o.dst, .lZ k zs,none⟩ e ah=some (e',aB)):aZ m P L N F γ C o ts ds w e' aB:=by
 obtain ⟨t,n,parts,el,ho,ht,hn,hb,hz,hcs,rfl⟩:=SX (Po hc)
 rw [ho]
 exact SS (d:=o.dst) h hd ht hn hb hz hcs hev
theorem Gk {op:fI} {f:Ar} {zq:List Ar} (h:op.Jh= .call f zq):op= .call f zq:=by
 cases op with
 |iJ hh x=>cases hh<;>cases h
 |ld x n=>cases h
 |_=>exact h
theorem abJ {op:fI} {f:Ar} {zq:List Ar} (h:op.er= .call f zq):op= .call f zq:=by
 cases op with
 |sH x=>cases h
 |kP=>cases h
 |xe=>cases h
 |lZ=>cases h
 |_=>exact h
theorem G4 {o:Oper} {op:fI} (h:SR L N F γ C e ah ts w) (hd:∀x,o.dst=some x→x<N) (hc:cop P o=some op.er) (e7:op.nZ=false)
 (hev:bF L ⟨o.dst,op,none⟩ e ah=some (e',aB)):aZ true P L N F γ C o ts ds w e' aB:=by
 by_cases hx:∃x,op= .sH x
 · obtain ⟨x,rfl⟩:=hx
   obtain ⟨d,oo,ty,pos,af,g⟩:=o
   have hc:cop P ⟨d,oo,ty,pos,af,g⟩=some (.iJ .sb x):=hc
   cases oo with
   |convert s t y=>
    simp only [cop] at hc
    split at hc
    case h_2=>cases hc
    rename_i hh x' n7 hx
    injection hc with hc
    injection hc with e1 e2
    subst e1;subst e2
    exact SC h hd hx n7 hev
   |makeFunc fn first cs=>
    cases fn with
    |func f=>simp only [cop] at hc;split at hc<;>simp at hc
    |_=>simp [cop] at hc
   |_=>
    exfalso
    simp only [cop] at hc
    first
     |cases hc;done
     |(simp at hc;done)
     |(repeat' (split at hc))<;>(first|(cases hc;done)|(simp at hc;done))
 · by_cases hy:∃k x,op= .xe k x
   · obtain ⟨k,x,rfl⟩:=hy
     exact JB (m:=true) h hd (by simpa [dH] using hc) hev
   by_cases hz:∃k x,op= .lZ k x
   · obtain ⟨k,x,rfl⟩:=hz
     exact Gj (m:=true) h hd (by simpa [dH] using hc) hev
   have:op.er=op:=by
    cases op<;>first|rfl|exact absurd ⟨_,rfl⟩ hx|exact absurd ⟨_,_,rfl⟩ hy|exact absurd ⟨_,_,rfl⟩ hz|cases e7|rfl
   rw [this] at hc
   exact LL h hd hc e7 (.inl rfl) hev
theorem JC {o:Oper} {op:fI} (h:SR L N F γ C e ah ts w) (hd:∀x,o.dst=some x→x<N) (hc:dH P m o=some op.er) (e7:op.nZ=false)
 (hev:bF L ⟨o.dst,op,none⟩ e ah=some (e',aB)):aZ m P L N F γ C o ts ds w e' aB:=by
 cases m with
 |true=>exact G4 h hd (by simpa [dH] using hc) e7 hev
 |false=>
  by_cases hx:∃x,op= .sH x
  · obtain ⟨x,rfl⟩:=hx
    simp only [dH,Bool.false_eq_true,if_false,Option.map_eq_some_iff] at hc
    obtain ⟨op',ho,hE⟩:=hc
    have hE:op'.Jh= .iJ .sb x:=hE
    have:op'= .iJ .sb x:=by
     cases op' with
     |iJ hh y=>cases hh<;>first|exact hE|cases hE
     |ld y n=>cases hE
     |_=>exact hE
    subst this
    obtain ⟨v,w',γ',C',h1,h2,h3,h4,h5,h6⟩:=G4 (op:= .sH x) (ds:=ds) h hd ho rfl hev
    refine ⟨v,w',γ',C',h1,h2,h3,h4,h5,fun hq=> ?_⟩
    exfalso
    obtain ⟨d,oo,ty,pos,af,g⟩:=o
    cases oo with
    |convert s t y=>
     simp only [cop] at ho
     split at ho
     case h_2=>cases ho
     rename_i hh x' n7 hx
     injection ho with ho
     injection ho with e1 e2
     subst e1
     unfold GI at n7
     split at n7
     · cases n7
     · cases n7
     · rename_i el hs ht
       simp [dM,ht] at hq
     · split at n7
       · split at n7<;>cases n7
       · cases n7
     · cases n7
    |makeFunc fn first cs=>
     cases fn with
     |func f=>simp only [cop] at ho;split at ho<;>simp at ho
     |_=>simp [cop] at ho
    |_=>
     simp only [cop] at ho
     first
      |cases ho;done
      |(simp at ho;done)
      |(repeat' (split at ho))<;>(first|(cases ho;done)|(simp at ho;done))
  · by_cases hy:∃k x,op= .xe k x
    · obtain ⟨k,x,rfl⟩:=hy
      exact JB h hd hc hev
    by_cases hz:∃k x,op= .lZ k x
    · obtain ⟨k,x,rfl⟩:=hz
      exact Gj h hd hc hev
    have:op.er=op:=by
     cases op<;>first|rfl|exact absurd ⟨_,rfl⟩ hx|exact absurd ⟨_,_,rfl⟩ hy|exact absurd ⟨_,_,rfl⟩ hz|cases e7|rfl
    rw [this] at hc
    exact WD h hd hc e7 hev
theorem vP (L:List Nat) (d:Option Nat) (op:fI) (g:Option (Nat×Bool)) (e:Env) (ah:AH):bF L ⟨d,op,g⟩ e ah=bF L ⟨d,op,none⟩ e ah:=by
 cases op<;>rfl
def fJ (P:Program) (f:Nat):Bool:=match P.funcs[f]? with
 |some fn=>fn.body.isSome&&fn.name != "runtime.NumGoroutine"
 |none=>false
def fo:Nat→List AV→Env
 |_,[]=>[]
 |i,a::r=>(i,a)::fo (i+1) r
theorem dy:∀(l:List AV) (i t:Nat),get (fo i l) t=if i≤t then (l[t - i]?).getD .un else .un:=by
 intro l
 induction l with
 |nil=>intro i t;simp [fo,get]
 |cons a r ih=>
  intro i t
  simp only [fo,get]
  by_cases h:i=t
  · subst h;simp
  · rw [if_neg h,ih]
    by_cases h1:i≤t
    · obtain ⟨q,hq⟩:∃q,t - i=q+1:=⟨t - i - 1,by omega⟩
      rw [if_pos h1,if_pos (by omega),hq,show t - (i+1)=q by omega];simp
    · rw [if_neg h1,if_neg (by omega)]
def ay (P:Program) (f:Nat) (args:List AV) (ah:AH) (R:AV→AH→Prop):Prop:=
 fJ P f=true∧∀(F:Nat→Prop) (γ:List Nat) (C:Nat→List Value) (w:World) (vs:Array Value),SR [] args.length F γ C (fo 0 args) ah vs w→
  Calls P f vs w fun en w'=>∃r v aB γ' C',en= .returned v∧R r aB∧γ <+: γ'∧SR [] 1 F γ' C' [(0,r)] aB #[v] w'∧Ext F C w C' w'
theorem ay.mono {f:Nat} {args:List AV} {ah:AH} {R R':AV→AH→Prop} (h:ay P f args ah R) (hr:∀r aB,R r aB→R' r aB):ay P f args ah R':=
 ⟨h.1,fun F γ C w vs hs=>(h.2 F γ C w vs hs).mono fun _ _ ⟨r,v,aB,γ',C',h1,h2,h3⟩=>⟨r,v,aB,γ',C',h1,hr _ _ h2,h3⟩⟩
def AV.iL:AV→AV
 | .sl (.fr (.cell _ _)) k xs=> .sl .n k xs
 |a=>a
def vQ:Env→Env
 |[]=>[]
 |(i,a)::r=>(i,a.iL)::vQ r
theorem zH (e:Env) (t:Nat):get (vQ e) t=(get e t).iL:=by
 induction e with
 |nil=>rfl
 |cons p r ih=>
  obtain ⟨i,b⟩:=p
  simp only [vQ,get]
  by_cases h:i=t<;>simp [h,ih]
theorem Wk.iL (a:AV):Wk a a.iL:=by
 cases a with
 |sl t k xs=>
  cases t with
  |fr m=>cases m<;>first|exact .n .. |exact .same _
  |_=>exact .same _
 |_=>exact .same _
theorem adA (a:AV):a.iL.Ca=a.Ca:=by
 cases a with
 |sl t k xs=>cases t with
  |fr l=>cases l<;>rfl
  |_=>rfl
 |_=>rfl
theorem SZ (a:AV):a.iL.bT=a.bT:=by
 cases a with
 |sl t k xs=>
  cases t with
  |fr m=>cases m<;>rfl
  |_=>rfl
 |_=>rfl
theorem Pq (a:AV) (v:Value):bD a.iL v=bD a v:=by
 cases a with
 |sl t k xs=>
  cases t with
  |fr m=>cases m<;>simp [AV.iL,bD]
  |_=>rfl
 |_=>rfl
theorem WJ {a:AV} {l:Loc} {k:Nat} {xs:List AV} (h:a.iL= .sl (.fr l) k xs):a= .sl (.fr l) k xs∧∃t,l= .tmp t:=by
 cases a with
 |sl t k' xs'=>
  cases t with
  |fr m=>cases m with
   |tmp u=>simp only [AV.iL] at h;exact ⟨h,u,by injection h with h;injection h with h;exact h.symm⟩
   |cell s o=>simp [AV.iL] at h
  |_=>simp [AV.iL] at h
 |_=>simp [AV.iL] at h
theorem JD {f:Nat} {zq:List AV} {vs:Array Value} {R:AV→AH→Prop} {d:Option Nat} (h:SR L N F γ C e ah ts w) (hd:∀x,d=some x→x<N) (hac:ay P f zq ah R)
 (hlen:vs.size=zq.length) (has:∀(i:Nat) (a:AV),zq[i]? =some a→VR C γ a (vs.getD i undef)∧TC w C a (vs.getD i undef)∧a.plain=true):
 Calls P f vs w fun en w'=>∃r v aB γ' C',en= .returned v∧R r aB∧γ <+: γ'∧SR L N F γ' C' (Am.aC L (vQ e) d r.df) aB (Act.put ⟨ts,ds⟩ d v).tmps w'∧Ext F C w C' w':=by
 let F':Nat→Prop:=fun b=>F b∨∃t,blk γ e ah ts w (.tmp t) b
 have Pr:∀t,get (fo 0 zq) t=(zq[t]?).getD .un:=fun t=>by rw [dy];simp
 have hnot:∀t,(get (fo 0 zq) t).bT=false:=by
  intro t
  rw [Pr]
  cases ht:zq[t]? with
  |none=>rfl
  |some a=>exact gT (has t a ht).2.2
 have hsub:∀p b,blk γ (fo 0 zq) ah vs w p b→blk γ e ah ts w p b∧∀t,p≠ .tmp t:=by
  intro p b hp
  cases p with
  |obj s=>exact ⟨hp,by simp⟩
  |cell s i=>exact ⟨hp,by simp⟩
  |tmp t=>simp only [blk] at hp;rw [iE _ (hnot t)] at hp;cases hp
 have hs:SR [] zq.length F' γ C (fo 0 zq) ah vs w:=by
  refine ⟨h.mem,hlen,fun t=> ?_,fun p q b hp hq=>h.dm p q b (hsub p b hp).1 (hsub q b hq).1,fun p b hp=> ?_,⟨fun b hb=> ?_,fun e he=>by obtain ⟨h1,h2⟩:=h.ij.Jj e he;exact ⟨.inl h1,h2⟩⟩,fun t l k xs ht=> ?_⟩
  · rw [Pr]
    cases ht:zq[t]? with
    |none=>exact ⟨.un ..,by cases vs.getD t undef<;>trivial⟩
    |some a=>exact ⟨(has t a ht).1,(has t a ht).2.1⟩
  · rintro (hF|⟨t,ht⟩)
    · exact h.nf p b (hsub p b hp).1 hF
    · exact (hsub p b hp).2 t (h.dm p (.tmp t) b (hsub p b hp).1 ht)
  · rcases hb with hF|⟨t,ht⟩
    · exact h.ij.lt b hF
    · exact eF h ht
  · rw [Pr] at ht
    cases hq:zq[t]? with
    |none=>rw [hq] at ht;simp at ht
    |some a=>rw [hq] at ht;exact absurd ht (wS (has t a hq).2.2 l k xs)
 refine (hac.2 F' γ C w vs hs).mono ?_
 rintro en w' ⟨r,v,aB,γ',C',rfl,hR,hγ,kz,hx⟩
 refine ⟨r,v,aB,γ',C',rfl,hR,hγ, ?_,⟨hx.pre,fun b hb=>hx.keep b (.inl hb),hx.size,hx.out⟩⟩
 have hg:∀(s b:Nat),γ[s]? =some b→γ'[s]? =some b:=by
  intro s b hs
  obtain ⟨q,rfl⟩:=hγ
  rw [List.getElem?_append_left (List.getElem?_eq_some_iff.1 hs).1];exact hs
 have hown:∀t b,bD (get e t) (ts.getD t undef)=some b→F' b:=fun t b hb=> .inr ⟨t,hb⟩
 have hbk:∀p b,blk γ' (vQ e) aB ts w' p b→(∃t,p= .tmp t∧blk γ e ah ts w (.tmp t) b)∨((∀t,p≠ .tmp t)∧blk γ' [(0,r)] aB #[v] w' p b):=by
  intro p b hp
  cases p with
  |obj s=>exact .inr ⟨by simp,hp⟩
  |cell s i=>exact .inr ⟨by simp,hp⟩
  |tmp t=>simp only [blk,zH,Pq] at hp;exact .inl ⟨t,rfl,hp⟩
 have h2:SR L N F γ' C' (vQ e) aB ts w':=by
  refine ⟨kz.mem,h.sz,fun t=> ?_,fun p q b hp hq=> ?_,fun p b hp=> ?_,h.ij.keep hx.size (fun b hb=>(hx.keep b (.inl hb)).1),fun t l k xs ht=> ?_⟩
  · rw [zH]
    refine ⟨(Wk.iL _).vr ((h.env t).1.mono hx.pre _ hg),(Wk.iL _).tc ((h.env t).2.mono fun b hb=> ?_)⟩
    exact hx.keep b (hown t b hb)
  · rcases hbk p b hp with ⟨t,rfl,h1⟩|⟨h1,h2⟩<;>rcases hbk q b hq with ⟨u,rfl,h3⟩|⟨h3,h4⟩
    · exact h.dm _ _ b h1 h3
    · exact absurd (hown t b h1) (kz.nf q b h4)
    · exact absurd (hown u b h3) (kz.nf p b h2)
    · exact kz.dm p q b h2 h4
  · rcases hbk p b hp with ⟨t,rfl,h1⟩|⟨h1,h2⟩
    · exact h.nf _ b h1
    · exact fun hF=>kz.nf p b h2 (.inl hF)
  · rw [zH] at ht
    obtain ⟨h1,u,rfl⟩:=WJ ht
    have:=h.fr t _ k xs h1
    exact ⟨this.1,fun hu=>this.2 (by rw [zH,SZ] at hu;exact hu)⟩
 have hr:=kz.env 0
 simp only [get,if_true] at hr
 have hv0:(#[v]:Array Value).getD 0 undef=v:=rfl
 rw [hv0] at hr
 by_cases ho:r.bT=true
 · cases r with
   |sl t k xs=>
    cases t with
    |own=>
     simp only [AV.df]
     refine h2.sJ hd hr.1 hr.2 fun b hb=> ?_
     have hb0:blk γ' [(0, .sl .own k xs)] aB #[v] w' (.tmp 0) b:=hb
     refine ⟨fun hF=>kz.nf _ b hb0 (.inl hF),fun p hp=> ?_⟩
     rcases hbk p b hp with ⟨t,rfl,h1⟩|⟨h1,h3⟩
     · exact kz.nf _ b hb0 (hown t b h1)
     · exact h1 0 (kz.dm p (.tmp 0) b h3 hb0)
    |_=>cases ho
   |dc=>exact h2.aC hd (.un ..) (by cases v<;>trivial) rfl (by simp [AV.df])
   |cV=>exact h2.aC hd (.un ..) (by cases v<;>trivial) rfl (by simp [AV.df])
   |_=>cases ho
 · have ho':r.bT=false:=by simpa using ho
   exact h2.aC hd ((Wk.df r).vr hr.1) ((Wk.df r).tc hr.2) (Oi ho') (fun l k xs hl=>absurd hl (Lz r l k xs))
end
end Go.Am
end
section
namespace Go.Am
open Go
variable [Tabs]
def zI (P:Program) (L:List Nat) (o:aM) (e:Env) (ah:AH) (K:Env→AH→Prop):Prop:=
 match o.op with
 | .call f zq=>
   match ev e f with
   | .fn f caps=>cc caps=true∧ay P f (zq.map (fun x=>(ev e x).sh)++caps.map AV.s1) ah fun r aB=>K (aC L (vQ e) o.d r.df) aB
   |_=>False
 | .kP k b x y=>oC L o.d k b x y e ah K
 | .nq n x=>Dp L o.d n x e ah K
 |_=>match bF L o e ah with
  |some (e',aB)=>K e' aB
  |none=>False
def oL (e:Env):Option Nat→Env
 |some d=>put e d (.bz [])
 |none=>e
def eI (P:Program) (L:List Nat):List aM→Env→AH→(Env→AH→Prop)→Prop
 |[],e,ah,K=>K e ah
 |o::r,e,ah,K=>match gB e o with
  |some true=>zI P L o e ah fun e ah=>eI P L r e ah K
  |some false=>eI P L r (oL e o.d) ah K
  |none=>False
def kN (N:Nat):List aM→Bool
 |[]=>true
 |o::r=>(match o.d with|some d=>decide (d<N)|none=>true)&&(match o.op with| .lit y _=>decide (y<N)|_=>true)&&kN N r
theorem Oo (N:Nat):∀zq:List aM,kN N (zq.map aM.er)=kN N zq:=by
 intro zq
 induction zq with
 |nil=>rfl
 |cons o r ih=>
  obtain ⟨d,op,g⟩:=o
  simp only [List.map_cons,kN,ih,aM.er]
  cases op<;>rfl
def NG:Exit→Prop
 | .goto _=>False
 |_=>True
def AW (P:Program) (L:List Nat) (N n0:Nat) (c:Code) (Q:Exit→Env→AH→Prop) (e:Env) (ah:AH):Prop:=
 ∀(F:Nat→Prop) (γ:List Nat) (C:Nat→List Value) (ts:Array Value) (w:World),SR L N F γ C e ah ts w→n0≤γ.length→
  c.wp P (fun x a' w'=>a'.defers=[]∧NG x∧∃e' aB γ' C',Q x e' aB∧γ.take n0 <+: γ'∧SR L N F γ' C' e' aB a'.tmps w'∧Ext F C w C' w') ⟨ts,[]⟩ w
section
variable {P:Program} {L:List Nat} {N n0:Nat} {F:Nat→Prop} {γ:List Nat} {C C':Nat→List Value} {e:Env} {ah:AH} {ts:Array Value} {w w':World}
variable {e':Env} {aB:AH}
theorem Gl {γ γ':List Nat} {n:Nat} (h:γ <+: γ'):γ.take n <+: γ':=(List.take_prefix n γ).trans h
theorem oM {γ γ' γ'':List Nat} {n:Nat} (h0:n≤γ.length) (h:γ.take n <+: γ') (h':γ'.take n <+: γ''):γ.take n <+: γ'':=by
 obtain ⟨r,rfl⟩:=h
 have:(γ.take n++r).take n=γ.take n:=by
  rw [List.take_append_of_le_length (by simp;omega),List.take_take,Nat.min_self]
 rwa [this] at h'
theorem JE {γ γ':List Nat} {n:Nat} (h0:n≤γ.length) (h:γ.take n <+: γ'):n≤γ'.length:=by
 have:=h.length_le;simp at this;omega
theorem AW.mono {c:Code} {Q Q':Exit→Env→AH→Prop} (h:AW P L N n0 c Q e ah) (hq:∀x e ah,Q x e ah→Q' x e ah):AW P L N n0 c Q' e ah:=
 fun F γ C ts w hs hn=>wp_mono (h F γ C ts w hs hn) fun _ _ _ ⟨hd,hg,e',aB,γ',C',h1,h2⟩=>⟨hd,hg,e',aB,γ',C',hq _ _ _ h1,h2⟩
theorem AW.skip {Q:Exit→Env→AH→Prop} (h:Q .normal e ah):AW P L N n0 .skip Q e ah:=
 fun F γ C ts w hs hn=>wp_skip ⟨rfl,trivial,e,ah,γ,C,h,List.take_prefix _ _,hs,Ext.refl ..⟩
theorem AW.label {Q:Exit→Env→AH→Prop} {l:Nat} (h:Q .normal e ah):AW P L N n0 (.label l) Q e ah:=
 fun F γ C ts w hs hn=>wp_label ⟨rfl,trivial,e,ah,γ,C,h,List.take_prefix _ _,hs,Ext.refl ..⟩
theorem AW.ret {Q:Exit→Env→AH→Prop} (h:Q .ret e ah):AW P L N n0 .ret Q e ah:=
 fun F γ C ts w hs hn=>wp_ret ⟨rfl,trivial,e,ah,γ,C,h,List.take_prefix _ _,hs,Ext.refl ..⟩
theorem AW.exit {Q:Exit→Env→AH→Prop} {i:Nat} (h:Q (.exit i) e ah):AW P L N n0 (.exit i) Q e ah:=
 fun F γ C ts w hs hn=>wp_exit ⟨rfl,trivial,e,ah,γ,C,h,List.take_prefix _ _,hs,Ext.refl ..⟩
theorem AW.seq {a b:Code} {Q:Exit→Env→AH→Prop} (h:AW P L N n0 a (fun x e ah=>match x with| .normal=>AW P L N n0 b Q e ah|x=>Q x e ah) e ah):AW P L N n0 (.seq a b) Q e ah:=by
 intro F γ C ts w hs hn
 refine wp_seq (wp_mono (h F γ C ts w hs hn) ?_)
 rintro x ⟨ts',ds'⟩ w' ⟨rfl,hg,e',aB,γ',C',h1,h2,h3,h4⟩
 cases x with
 |normal=>
  refine wp_mono (h1 F γ' C' ts' w' h3 (JE hn h2)) ?_
  rintro x ⟨S0,ds2⟩ w2 ⟨rfl,hg,e2,qq,γ2,C2,g1,g2,g3,g4⟩
  exact ⟨rfl,hg,e2,qq,γ2,C2,g1,oM hn h2 g2,g3,h4.trans g4⟩
 |_=>exact ⟨rfl,hg,e',aB,γ',C',h1,h2,h3,h4⟩
theorem AW.cond {c:Operand} {c':Ar} {a b:Code} {t:Bool} {Q:Exit→Env→AH→Prop} (hc:bx c=some c') (ht:ev e c'= .bool t) (h:AW P L N n0 (if t then a else b) Q e ah):
 AW P L N n0 (.cond c a b) Q e ah:=by
 intro F γ C ts w hs hn
 have:=(bR (ds:=[]) hs hc).1
 rw [ht] at this
 exact wp_cond (t:=t) this.gC (h F γ C ts w hs hn)
theorem AW.blk {c:Code} {i:Nat} {Q:Exit→Env→AH→Prop} (h:AW P L N n0 c (fun x e ah=>match x with| .exit j=>if j=i then Q .normal e ah else Q (.exit j) e ah|x=>Q x e ah) e ah):
 AW P L N n0 (.block i c) Q e ah:=by
 intro F γ C ts w hs hn
 refine wp_block (wp_mono (h F γ C ts w hs hn) ?_)
 rintro x a w' ⟨hd,hg,e',aB,γ',C',h1,h2⟩
 cases x with
 |exit j=>
  simp only [Exit.inBlock] at h1 ⊢
  by_cases hj:j=i
  · rw [if_pos hj] at h1 ⊢;exact ⟨hd,trivial,e',aB,γ',C',h1,h2⟩
  · rw [if_neg hj] at h1 ⊢;exact ⟨hd,trivial,e',aB,γ',C',h1,h2⟩
 |_=>exact ⟨hd,hg,e',aB,γ',C',h1,h2⟩
theorem AW.loop {c:Code} {Q:Exit→Env→AH→Prop} (I:Nat→Env→AH→Prop) {k0:Nat}
 (round:∀k e ah,I k e ah→AW P L N n0 c (fun x e' aB=>match x with| .normal=>∃k',k'<k∧I k' e' aB|x=>Q x e' aB) e ah) (h0:I k0 e ah):AW P L N n0 (.loop c) Q e ah:=by
 intro F γ C ts w hs hn
 refine wp_loop_ghost (fun k a w'=>a.defers=[]∧∃e' aB γ' C',I k e' aB∧γ.take n0 <+: γ'∧SR L N F γ' C' e' aB a.tmps w'∧Ext F C w C' w') k0
  ⟨rfl,e,ah,γ,C,h0,List.take_prefix _ _,hs,Ext.refl ..⟩ ?_
 rintro k ⟨DC,ds1⟩ w1 ⟨rfl,e1,bW,γ1,C1,h1,h2,h3,h4⟩
 refine wp_mono (round k e1 bW h1 F γ1 C1 DC w1 h3 (JE hn h2)) ?_
 rintro x ⟨S0,ds2⟩ w2 ⟨rfl,hg,e2,qq,γ2,C2,g1,g2,g3,g4⟩
 cases x with
 |normal=>obtain ⟨k',hk',hI⟩:=g1;exact ⟨k',hk',rfl,e2,qq,γ2,C2,hI,oM hn h2 g2,g3,h4.trans g4⟩
 |_=>exact ⟨rfl,hg,e2,qq,γ2,C2,g1,oM hn h2 g2,g3,h4.trans g4⟩
theorem AW.scope {c:Code} {Q:Exit→Env→AH→Prop} (h:AW P L N n0 c Q e ah):AW P L N n0 (.scope c) Q e ah:=
 fun F γ C ts w hs hn=>wp_scope_straight (wp_mono (h F γ C ts w hs hn) fun x _ _ h=>by cases x<;>first|exact h|exact h.2.1.elim)
theorem AW.weak {c:Code} {Q:Exit→Env→AH→Prop} {e1:Env} (hw:∀t,Wk (get e t) (get e1 t)) (h:AW P L N n0 c Q e1 ah):AW P L N n0 c Q e ah:=
 fun F γ C ts w hs hn=>h F γ C ts w (hs.wk hw) hn
theorem iF {ops:Array Oper} {o:Oper} {g:Option (Nat×Bool)} {d:Option Nat} {op:fI} {b:Bool} (h:SR L N F γ C e ah ts w) (hg:gQ ops o.guard=some g) (hb:gB e ⟨d,op,g⟩=some b):
 Region.wanted o (yielded ops ts)=b:=by
 unfold Region.wanted
 cases ho:o.guard with
 |none=>
  rw [ho] at hg
  simp only [gQ,Option.some.injEq] at hg
  subst hg
  simp only [gB,Option.some.injEq] at hb
  exact hb
 |some jw=>
  obtain ⟨j,want⟩:=jw
  rw [ho] at hg
  simp only [gQ,Option.map_eq_some_iff] at hg
  obtain ⟨t,ht,rfl⟩:=hg
  simp only [gB] at hb
  split at hb
  · rename_i b' he
    have hv:=(h.env t).1
    rw [he] at hv
    have hv:=hv.gC
    have hy:yielded ops ts j=some b':=by
     unfold yielded
     rw [ht]
     simp only [Option.bind_some]
     have:ts[t]? =some (.bool b'):=by
      rw [Array.getD_eq_getD_getElem?] at hv
      cases hq:ts[t]? with
      |none=>rw [hq] at hv;simp [undef] at hv
      |some v=>rw [hq] at hv;simp at hv;rw [hv]
     rw [this]
    simp only [hy]
    simp only [Option.some.injEq] at hb
    rw [←hb]
    simp
  · rename_i he
    have hv:=(h.env t).1
    rw [he] at hv
    obtain ⟨vs,hv, -⟩:=hv.vE
    have hy:yielded ops ts j=none:=by
     unfold yielded
     rw [ht]
     simp only [Option.bind_some]
     rw [Array.getD_eq_getD_getElem?] at hv
     cases hq:ts[t]? with
     |none=>rfl
     |some v=>rw [hq] at hv;simp at hv;rw [hv]
    simp only [hy]
    simp only [Option.some.injEq] at hb
    exact hb
  · cases hb
  · cases hb
theorem Gm (h:SR L N F γ C e ah ts w):∀(tys:List TypeId) (l:List Operand) (zq:List Ar),yl P tys l=some zq→zq.length=l.length∧
 ∀(i:Nat) (x:Operand) (a:Ar),l[i]? =some x→zq[i]? =some a→VR C γ (ev e a) (Act.eval ⟨ts,[]⟩ x)∧TC w C (ev e a) (Act.eval ⟨ts,[]⟩ x):=by
 intro tys l
 induction l generalizing tys with
 |nil=>intro zq hc;cases tys<;>(simp [yl] at hc;subst hc;simp)
 |cons x r ih=>
  intro zq hc
  cases tys with
  |nil=>simp [yl] at hc
  |cons t tys=>
   simp only [yl] at hc
   split at hc
   case h_2=>cases hc
   rename_i a zq' ha has
   simp only [Option.some.injEq] at hc
   subst hc
   obtain ⟨h1,h2⟩:=ih tys zq' has
   refine ⟨by simp [h1],fun j y b hy hb=> ?_⟩
   cases j with
   |zero=>simp at hy hb;subst hy;subst hb;exact fP h ha
   |succ j=>exact h2 j y b (by simpa using hy) (by simpa using hb)
theorem DD {f:Nat} (hf:fJ P f=true) {d:Option Nat} {x:Operand} {args:Array Operand} {tys:Array TypeId} {ty:TypeId} {pos:String} {af:Array Edge} {g:Option (Nat×Bool)} {caps:Array Value} {ρ:Operand→Value}
 (hx:ρ x= .func (.func f) #[] caps):
 (execOp ρ ⟨d, .call {callee:= .value x,args:=args,argTypes:=tys},ty,pos,af,g⟩).run P w= .ok (.enter f (args.map ρ++caps)) w:=by
 unfold fJ at hf
 split at hf
 case h_2=>cases hf
 rename_i fn hfn
 simp only [Bool.and_eq_true,bne_iff_ne] at hf
 obtain ⟨h1,h2⟩:=hf
 have h3:fn.body.isNone=false:=by cases hb:fn.body<;>simp_all
 have h4:(fn.name== "runtime.NumGoroutine")=false:=by simpa using h2
 have h5:fn.body≠none:=by intro h0;rw [h0] at h1;cases h1
 simp [execOp,resolve,Deferred.ofValue,hx,invoke,callFunc,program,Sem.run,hfn,h2,h5]
theorem AU {o:Oper} {f:Ar} {vR:List Ar} (hop:cop P o=some (.call f vR)):
 ∃x args tys,o=⟨o.dst, .call {callee:= .value x,args:=args,argTypes:=tys},o.type,o.pos,o.after,o.guard⟩∧bx x=some f∧yl P tys.toList args.toList=some vR:=by
 obtain ⟨d,oo,ty,pos,af,gd⟩:=o
 cases oo with
 |call c=>
  obtain ⟨callee,args,tys⟩:=c
  simp only [cop] at hop
  split at hop
  · split at hop<;>simp at hop
  · split at hop
    · split at hop
      · simp at hop
      · cases hop
    · cases hop
  · split at hop
    · split at hop
      · simp at hop
      · cases hop
    · cases hop
  · split at hop
    · split at hop
      · split at hop<;>simp at hop
      · split at hop<;>simp at hop
      · cases hop
    · cases hop
  · rename_i x
    split at hop
    · rename_i f2 as2 h1 h2
      injection hop with hop
      injection hop with e1 e2
      subst e1;subst e2
      exact ⟨x,args,tys,rfl,h1,h2⟩
    · cases hop
  · cases hop
 |makeFunc fn first cs=>
  cases fn with
  |func f=>simp only [cop] at hop;split at hop<;>simp at hop
  |_=>simp [cop] at hop
 |_=>
  exfalso
  simp only [cop] at hop
  first
   |cases hop;done
   |(simp at hop;done)
   |(repeat' (split at hop))<;>(first|(cases hop;done)|(simp at hop;done))
theorem DE (hs:SR L N F γ C e ah ts w) {vR:List Ar} {caps:List AV} {args:Array Operand} {vs:Array Value} (hfl:cc caps=true) (hcl:caps.length=vs.size)
 (n7:∀(i:Nat) (a:AV),caps[i]? =some a→VR C γ a (vs.getD i undef)) (c1:vR.length=args.toList.length)
 (c2:∀(i:Nat) (x:Operand) (a:Ar),args.toList[i]? =some x→vR[i]? =some a→VR C γ (ev e a) (Act.eval ⟨ts,[]⟩ x)∧TC w C (ev e a) (Act.eval ⟨ts,[]⟩ x)):
 ∀(i:Nat) (a:AV),(vR.map (fun x=>(ev e x).sh)++caps.map AV.s1)[i]? =some a→
  VR C γ a ((args.map (Act.eval ⟨ts,[]⟩)++vs).getD i undef)∧TC w C a ((args.map (Act.eval ⟨ts,[]⟩)++vs).getD i undef)∧a.plain=true:=by
 intro i a hi
 by_cases hlt:i<vR.length
 · rw [List.getElem?_append_left (by simpa using hlt),List.getElem?_map,List.getElem?_eq_getElem hlt] at hi
   obtain rfl:(ev e vR[i]).sh=a:=by simpa using hi
   have hlt2:i<args.toList.length:=by omega
   have:=c2 i _ _ (List.getElem?_eq_getElem hlt2) (List.getElem?_eq_getElem hlt)
   have hgd:(args.map (Act.eval ⟨ts,[]⟩)++vs).getD i undef=Act.eval ⟨ts,[]⟩ args.toList[i]:=by
    rw [Array.length_toList] at hlt2
    simp [Array.getD_eq_getD_getElem?,Array.getElem?_append,hlt2]
   rw [hgd]
   exact ⟨(Wk.sh _).vr this.1,(Wk.sh _).tc this.2,sK _⟩
 · rw [List.getElem?_append_right (by simpa using hlt),List.getElem?_map] at hi
   simp only [List.length_map] at hi
   cases Fe:caps[i - vR.length]? with
   |none=>rw [Fe] at hi;simp at hi
   |some b=>
    rw [Fe] at hi
    obtain rfl:b.s1=a:=by simpa using hi
    have hgd:(args.map (Act.eval ⟨ts,[]⟩)++vs).getD i undef=vs.getD (i - vR.length) undef:=by
     have c1':vR.length=args.size:=by simpa using c1
     simp only [Array.getD_eq_getD_getElem?]
     rw [Array.getElem?_append_right (by simp;omega)]
     simp [c1']
    rw [hgd]
    exact ⟨(Wk.iK (Wk.s1 _)).vr (n7 _ _ Fe),Sn b (ji hfl Fe) _,Gc b⟩
theorem JF {o:Oper} {a:fI} (h:Of P o=some a):cop P o=some a∨a= .bad:=by
 unfold Of at h
 cases hc:cop P o with
 |none=>rw [hc] at h;injection h with h;exact .inr h.symm
 |some b=>rw [hc] at h;exact .inl h
theorem WK {op:fI} (h:op.er= .bad):op= .bad:=by cases op<;>first|rfl|cases h
theorem Ce {ops:Array Oper} {l:List Oper} {zq:List aM} (h:jP P ops l=some zq):(l=[]∧zq=[])∨
 (∃o o2 r a zq',l=o::o2::r∧me P o o2=some a∧jP P ops r=some zq'∧zq=a::zq')∨
 (∃o o2 r ag zq',l=o::o2::r∧Jg P ops o o2=some ag∧jP P ops r=some zq'∧zq=ag++zq')∨
 ∃o r op g zq',l=o::r∧(cop P o=some op∨op= .bad)∧gQ ops o.guard=some g∧jP P ops r=some zq'∧zq=⟨o.dst,op,g⟩::zq':=by
 cases l with
 |nil=>simp only [jP,Option.some.injEq] at h;exact .inl ⟨rfl,h.symm⟩
 |cons o r=>
  cases r with
  |nil=>
   simp only [jP] at h
   split at h
   case h_2=>cases h
   rename_i a g h1 h2
   injection h with h
   exact .inr (.inr (.inr ⟨o,[],a,g,[],rfl,JF h1,h2,rfl,h.symm⟩))
  |cons o2 r=>
   rw [jP] at h
   split at h
   · rename_i a ha
     simp only [Option.map_eq_some_iff] at h
     obtain ⟨zq',h1,rfl⟩:=h
     exact .inr (.inl ⟨o,o2,r,a,zq',rfl,ha,h1,rfl⟩)
   · split at h
     · rename_i ag hag
       simp only [Option.map_eq_some_iff] at h
       obtain ⟨zq',h1,rfl⟩:=h
       exact .inr (.inr (.inl ⟨o,o2,r,ag,zq',rfl,hag,h1,rfl⟩))
     · split at h
       case h_2=>cases h
       rename_i a g zq' h1 h2 h3
       injection h with h
       exact .inr (.inr (.inr ⟨o,o2::r,a,g,zq',rfl,JF h1,h2,h3,h.symm⟩))
theorem Oq {a b:aM} {y:Nat} {bs:List UInt8} (h:a.er=b) (hb:b.op= .lit y bs):a=b:=by
 obtain ⟨d,op,g⟩:=a
 subst h
 cases op<;>first|rfl|(simp [aM.er,fI.er] at hb)
theorem DF {o o2:Oper} {a:aM} (h:me P o o2=some a):∃y bs,a.op= .lit y bs:=by
 unfold me at h
 split at h
 case h_2=>cases h
 split at h
 case isFalse=>cases h
 split at h
 case h_2=>cases h
 split at h
 case h_2=>cases h
 split at h
 case isFalse=>cases h
 split at h
 case h_2=>cases h
 simp only [Option.map_eq_some_iff] at h
 obtain ⟨bs, -,rfl⟩:=h
 exact ⟨_,_,rfl⟩
theorem AY {ops:Array Oper} {o o2:Oper} {ag:List aM} (h:Jg P ops o o2=some ag):∃d y bs t w g,ag=[⟨some y, .mv (.c .un),some (t,w)⟩,⟨d, .lit y bs,some (t,w)⟩]∧t≠y∧
 me P (bare o) (bare o2)=some ⟨d, .lit y bs,g⟩∧gQ ops o.guard=some (some (t,w))∧gQ ops o2.guard=some (some (t,w)):=by
 unfold Jg at h
 split at h
 case isFalse=>cases h
 rename_i hg
 split at h
 case h_2=>cases h
 rename_i x t w d y bs g h1 h2 h3
 split at h
 · cases h
 · rename_i hty
   injection h with h
   exact ⟨d,y,bs,t,w,g,h.symm,hty,h3,h2,by rw [←hg];exact h2⟩
theorem Zm {a b:aM} {x:Ar} (h:a.er=b) (hb:b.op= .mv x):a=b:=by
 obtain ⟨d,op,g⟩:=a
 subst h
 cases op<;>first|rfl|(simp [aM.er,fI.er] at hb)
theorem G5 {ops:Array Oper} {l:List Oper} {zq:List aM} (h:jP P ops l=some (zq.map aM.er)):(l=[]∧zq=[])∨
 (∃o o2 r a zq',l=o::o2::r∧me P o o2=some a∧jP P ops r=some (zq'.map aM.er)∧zq=a::zq')∨
 (∃o o2 r ag zq',l=o::o2::r∧Jg P ops o o2=some ag∧jP P ops r=some (zq'.map aM.er)∧zq=ag++zq')∨
 ∃o r op g zq',l=o::r∧(cop P o=some op.er∨op= .bad)∧gQ ops o.guard=some g∧jP P ops r=some (zq'.map aM.er)∧zq=⟨o.dst,op,g⟩::zq':=by
 rcases Ce h with ⟨h1,h2⟩|⟨o,o2,r,a,zq',h1,h2,h3,h4⟩|⟨o,o2,r,ag,zq',h1,h2,h3,h4⟩|⟨o,r,op,g,zq',h1,h2,h3,h4,h5⟩
 · exact .inl ⟨h1,by simpa using h2⟩
 · cases zq with
   |nil=>simp at h4
   |cons x xs=>
    simp only [List.map_cons,List.cons.injEq] at h4
    obtain ⟨y,bs,hl⟩:=DF h2
    have:=Oq h4.1 hl
    subst this
    exact .inr (.inl ⟨o,o2,r,x,xs,h1,h2,by rw [h3,h4.2],rfl⟩)
 · obtain ⟨d,y,bs,t,w,g,rfl, -⟩:=AY h2
   cases zq with
   |nil=>simp at h4
   |cons x xs=>
    cases xs with
    |nil=>simp at h4
    |cons x2 xs=>
     simp only [List.map_cons,List.cons_append,List.nil_append,List.cons.injEq] at h4
     have e1:=Zm h4.1 rfl
     have e2:=Oq h4.2.1 rfl
     subst e1;subst e2
     exact .inr (.inr (.inl ⟨o,o2,r,_,xs,h1,h2,by rw [h3,h4.2.2],rfl⟩))
 · cases zq with
   |nil=>simp at h5
   |cons x xs=>
    simp only [List.map_cons,List.cons.injEq] at h5
    obtain ⟨d,op',g'⟩:=x
    obtain ⟨h6,h7⟩:=h5
    simp only [aM.er] at h6
    injection h6 with e1 e2 e3
    subst e1;subst e2;subst e3
    exact .inr (.inr (.inr ⟨o,r,op',g',xs,h1,h2.imp id WK,h3,by rw [h4,h7],rfl⟩))
theorem JG {ops:Array Oper} {o o2:Oper} {l:List Oper} {a:aM} {zq:List aM} {K:Env→AH→Prop} {Q:Exit→Act→World→Prop} (gL:me P (bare o) (bare o2)=some a)
 (hw1:Region.wanted o (yielded ops ts)=true) (Dx:∀y bs v,a.op= .lit y bs→Region.wanted o2 (yielded ops ((⟨ts,[]⟩:Act).put (some y) v).tmps)=true) (hd:kN N (a::zq)=true)
 (hs:SR L N F γ C e ah ts w) (hk:eI P L (a::zq) e ah K)
 (next:∀e1 bW C1 DC w1,eI P L zq e1 bW K→kN N zq=true→SR L N F γ C1 e1 bW DC w1→Ext F C w C1 w1→wpList P ops Q l ⟨DC,[]⟩ w1):wpList P ops Q (o::o2::l) ⟨ts,[]⟩ w:=by
 obtain ⟨d1,op1,ty1,pos1,af1,g1⟩:=o
 obtain ⟨d2,WC,oH,pos2,af2,g2⟩:=o2
 unfold me bare at gL
 split at gL
 case h_2=>cases gL
 rename_i t n parts s d x y h1 h2 h3
 simp only at h1 h2 h3
 subst h1;subst h2;subst h3
 split at gL
 case isFalse=>cases gL
 rename_i hcs
 obtain ⟨rfl,rfl,rfl,WN,hg2,hyd,hn,hn2⟩:=hcs
 split at gL
 case h_2=>cases gL
 rename_i el hel
 split at gL
 case h_2=>cases gL
 rename_i hu8
 split at gL
 case isFalse=>cases gL
 rename_i hsz
 split at gL
 case h_2=>cases gL
 rename_i vR abK
 simp only [Option.map_eq_some_iff] at gL
 obtain ⟨bs,LI,rfl⟩:=gL
 have Dx:=fun v=>Dx _ _ v rfl
 simp only [kN,Bool.and_eq_true] at hd
 obtain ⟨⟨hd1,JH⟩,hd3⟩:=hd
 have hy:x<N:=by simpa using JH
 have jy:∀z,d2=some z→z<N:=by
  intro z hz
  rw [hz] at hd1
  simpa using hd1
 simp only [eI,gB,zI,bF] at hk
 have ht:P.underlying d=some (.slice el):=by
  unfold Dn at hel
  split at hel
  · rename_i h;injection hel with hel;subst hel;exact h
  · cases hel
 obtain ⟨q1,q2⟩:=SM LI e
 obtain ⟨r,hrs,hrun, -,key⟩:=wU (ds:=[]) (d:=d2) hs jy ht hn (by rw [hsz.1];omega) hsz.2 abK (by rw [hsz.1];exact q2)
 obtain ⟨C',k1,k2⟩:=key (r.size,r.size+1) (.inr rfl)
 rw [q1,hsz.1] at k1
 have k3:=k1.Cc (d:=x) (a:= .un) (v:= .slice (some ⟨w.heap.size,0,none⟩) n n) hy (.un ..) trivial rfl (by simp)
 unfold wpList
 rw [if_pos hw1]
 refine .inl ?_
 unfold Oper.wp
 have e1:(execOp (Act.eval ⟨ts,[]⟩) ⟨some x, .buildSlice d n parts,ty1,pos1,af1,g1⟩).run P w= .ok (.value (.slice (some ⟨w.heap.size,0,none⟩) n n)) (w.alloc (.cells r el)):=by
  simp [execOp,hrun]
 rw [e1]
 simp only [Oper.upon]
 unfold wpList
 rw [if_pos (Dx _)]
 refine .inl ?_
 unfold Oper.wp
 have hlt:x<ts.size:=by rw [hs.sz];exact hy
 have e2:(execOp (Act.eval ((⟨ts,[]⟩:Act).put (some x) (.slice (some ⟨w.heap.size,0,none⟩) n n))) ⟨d2, .convert d d (.tmp x),oH,pos2,af2,g2⟩).run P (w.alloc (.cells r el))= .ok (.value (.slice (some ⟨w.heap.size,0,none⟩) n n)) (w.alloc (.cells r el (r.size,r.size+1))):=by
  have hev:Act.eval ((⟨ts,[]⟩:Act).put (some x) (.slice (some ⟨w.heap.size,0,none⟩) n n)) (.tmp x)= .slice (some ⟨w.heap.size,0,none⟩) n n:=by
   simp [Act.eval,Act.put,hlt]
  have:=Lib.run_convert_bytes_const (P:=P) w d el r n n ht hu8
  simp only [execOp,hev,Sem.run_bind,this,Result.andThen_ok,Sem.run_pure]
 rw [e2]
 simp only [Oper.upon]
 rw [←SR.Dz ts [] hyd]
 have hput:(((⟨ts,[]⟩:Act).put d2 (.slice (some ⟨w.heap.size,0,none⟩) n n)).put (some x) (.slice (some ⟨w.heap.size,0,none⟩) n n))=
  ⟨(((⟨ts,[]⟩:Act).put d2 (.slice (some ⟨w.heap.size,0,none⟩) n n)).tmps).setIfInBounds x (.slice (some ⟨w.heap.size,0,none⟩) n n),[]⟩:=by
  cases d2<;>rfl
 rw [hput]
 exact next _ _ C' _ _ hk hd3 k3 k2
theorem WO {ops:Array Oper} {o o2:Oper} {l:List Oper} {a:aM} {zq:List aM} {K:Env→AH→Prop} {Q:Exit→Act→World→Prop} (gL:me P o o2=some a) (hd:kN N (a::zq)=true)
 (hs:SR L N F γ C e ah ts w) (hk:eI P L (a::zq) e ah K)
 (next:∀e1 bW C1 DC w1,eI P L zq e1 bW K→kN N zq=true→SR L N F γ C1 e1 bW DC w1→Ext F C w C1 w1→wpList P ops Q l ⟨DC,[]⟩ w1):wpList P ops Q (o::o2::l) ⟨ts,[]⟩ w:=by
 have hg:o.guard=none∧o2.guard=none:=by
  unfold me at gL
  split at gL
  case h_2=>cases gL
  split at gL
  case isFalse=>cases gL
  rename_i hcs
  exact ⟨by simpa using hcs.2.2.2.1,by simpa using hcs.2.2.2.2.1⟩
 have e1:bare o=o:=by obtain ⟨d,op,ty,pos,af,g⟩:=o;simp only at hg;simp [bare,hg.1]
 have e2:bare o2=o2:=by obtain ⟨d,op,ty,pos,af,g⟩:=o2;simp only at hg;simp [bare,hg.2]
 exact JG (by rw [e1,e2];exact gL) (by simp [Region.wanted,hg.1]) (fun _ _ _ _=>by simp [Region.wanted,hg.2]) hd hs hk next
theorem S1 {ops:Array Oper}:∀(n:Nat) (l:List Oper) (zq:List aM) (e:Env) (ah:AH) (K:Env→AH→Prop) (F:Nat→Prop) (γ:List Nat) (C:Nat→List Value) (ts:Array Value) (w:World)
 (Q:Exit→Act→World→Prop),l.length≤n→jP P ops l=some (zq.map aM.er)→kN N zq=true→SR L N F γ C e ah ts w→eI P L zq e ah K→
 (∀e' aB γ' C' ts' w',K e' aB→γ <+: γ'→SR L N F γ' C' e' aB ts' w'→Ext F C w C' w'→Q .normal ⟨ts',[]⟩ w')→wpList P ops Q l ⟨ts,[]⟩ w:=by
 intro n
 induction n with
 |zero=>
  intro l zq e ah K F γ C ts w Q hn hc hd hs hk hq
  obtain rfl:l=[]:=List.eq_nil_of_length_eq_zero (by omega)
  simp only [jP,Option.some.injEq] at hc
  obtain rfl:zq=[]:=by simpa using hc.symm
  exact wpList_nil (hq e ah γ C ts w hk (List.prefix_refl _) hs (Ext.refl ..))
 |succ n ih=>
  intro l zq e ah K F γ C ts w Q hn hc hd hs hk hq
  rcases G5 hc with ⟨rfl,rfl⟩|⟨o,o2,l,a,zq',rfl,gL,has,rfl⟩|⟨o,o2,l,ag,zq',rfl,gL,has,rfl⟩|⟨o,l,op,g,zq',rfl,hop,hg,has,rfl⟩
  · exact wpList_nil (hq e ah γ C ts w hk (List.prefix_refl _) hs (Ext.refl ..))
  · exact WO gL hd hs hk fun e1 bW C1 DC w1 hk1 hd1 hs1 hx1=>ih l zq' e1 bW K F γ C1 DC w1 Q (by simp at hn;omega) has hd1 hs1 hk1
     fun e' aB γ' C' ts' w' g1 g2 g3 g4=>hq e' aB γ' C' ts' w' g1 g2 g3 (hx1.trans g4)
  · obtain ⟨d,y,bs,tg,want,g0,rfl,hty,hlo,WN,hg2⟩:=AY gL
    have hd:kN N [⟨some y, .mv (.c .un),some (tg,want)⟩,⟨d, .lit y bs,some (tg,want)⟩]=true∧kN N zq'=true:=by
     simp only [List.cons_append,List.nil_append,kN,Bool.and_eq_true,Bool.and_true] at hd ⊢
     exact ⟨⟨hd.1,hd.2.1⟩,hd.2.2⟩
    have hyN:y<N:=by
     have:=hd.1
     simp only [kN,Bool.and_eq_true] at this
     simpa using this.1.1
    have abL:∀v,SR L N F γ C (put e y .un) ah (ts.setIfInBounds y v) w:=fun v=>hs.Cc hyN (.un ..) trivial rfl (by simp)
    have hge:∀a,get (put e y a) tg=get e tg:=fun a=>by rw [fm,if_neg hty]
    have zC:∀a (d d2:Option Nat) (op WC:fI),gB (put e y a) ⟨d,op,some (tg,want)⟩=gB e ⟨d2,WC,some (tg,want)⟩:=fun a _ _ _ _=>by simp only [gB,hge]
    rw [List.cons_append,List.cons_append,List.nil_append] at hk
    simp only [eI] at hk
    split at hk
    · rename_i n9
      have hw1:=iF hs WN n9
      have e0:aC L e (some y) (cp L (.c .un) (ev e (.c .un)))=put e y .un:=by
       simp only [ev,cp,aC];split<;>rfl
      simp only [zI,bF] at hk
      rw [e0,zC .un d (some y) (.lit y bs) (.mv (.c .un)),n9] at hk
      simp only at hk
      have hk3:eI P L (⟨d, .lit y bs,g0⟩::zq') (put e y .un) ah K:=by
       have h0:g0=none:=by
        unfold me at hlo
        split at hlo
        case h_2=>cases hlo
        split at hlo
        case isFalse=>cases hlo
        split at hlo
        case h_2=>cases hlo
        split at hlo
        case h_2=>cases hlo
        split at hlo
        case isFalse=>cases hlo
        split at hlo
        case h_2=>cases hlo
        simp only [Option.map_eq_some_iff] at hlo
        obtain ⟨_, -,hlo⟩:=hlo
        injection hlo with _ _ h3
        exact h3.symm
       subst h0
       exact hk
      refine JG hlo hw1 (fun y' bs' v h=> ?_) (by
       have h1:=hd.1
       simp only [kN,Bool.and_eq_true] at h1 ⊢
       exact ⟨h1.2.1,hd.2⟩) (hs.sI (.un _)) hk3 fun e1 bW C1 DC w1 hk1 hd1 hs1 hx1=>ih l zq' e1 bW K F γ C1 DC w1 Q (by simp at hn;omega) has hd1 hs1 hk1
       fun e' aB γ' C' ts' w' g1 g2 g3 g4=>hq e' aB γ' C' ts' w' g1 g2 g3 (hx1.trans g4)
      injection h with h1 h2
      subst h1
      exact iF (abL v) hg2 (d:=d) (op:= .lit y bs) ((zC .un d (some y) (.lit y bs) (.mv (.c .un))).trans n9)
    · rename_i n9
      have hw1:=iF hs WN n9
      rw [show oL e (some y)=put e y (.bz []) from rfl,zC (.bz []) d (some y) (.lit y bs) (.mv (.c .un)),n9] at hk
      simp only at hk
      obtain ⟨hdo,hdy⟩:o.dst=some y∧o2.dst=d:=by
       unfold me bare at hlo
       split at hlo
       case h_2=>cases hlo
       rename_i h1 h2 h3
       simp only at h3
       split at hlo
       case isFalse=>cases hlo
       split at hlo
       case h_2=>cases hlo
       split at hlo
       case h_2=>cases hlo
       split at hlo
       case isFalse=>cases hlo
       split at hlo
       case h_2=>cases hlo
       simp only [Option.map_eq_some_iff] at hlo
       obtain ⟨_, -,hlo⟩:=hlo
       injection hlo with q1 q2 _
       injection q2 with q2 _
       subst q2
       exact ⟨h3,q1⟩
      have hs1:SR L N F γ C (put e y (.bz [])) ah (ts.setIfInBounds y undef) w:=hs.Cc hyN (.bz _ [] #[] rfl (by simp)) (by simp [undef,TC]) rfl (by simp)
      unfold wpList
      rw [if_neg (by rw [hw1];simp)]
      unfold wpList
      have Zn:(⟨ts,[]⟩:Act).put o.dst undef=⟨ts.setIfInBounds y undef,[]⟩:=by rw [hdo];rfl
      rw [Zn]
      have Dx:=iF hs1 hg2 (d:=d) (op:= .lit y bs) ((zC (.bz []) d (some y) (.lit y bs) (.mv (.c .un))).trans n9)
      rw [if_neg (by show ¬(Region.wanted o2 (yielded ops (ts.setIfInBounds y undef))=true);rw [Dx];simp)]
      have hput:(⟨ts.setIfInBounds y undef,[]⟩:Act).put o2.dst undef=⟨((⟨ts.setIfInBounds y undef,[]⟩:Act).put o2.dst undef).tmps,[]⟩:=by cases o2.dst<;>rfl
      rw [hput]
      refine ih l zq' _ ah K F γ C _ w Q (by simp at hn;omega) has hd.2 ?_ hk hq
      rw [hdy]
      cases hdd:d with
      |none=>exact hs1
      |some d'=>
       have hdN:d'<N:=by
        have:=hd.1
        simp only [kN,Bool.and_eq_true,hdd] at this
        simpa using this.2.1.1
       exact hs1.Cc hdN (.bz _ [] #[] rfl (by simp)) (by simp [undef,TC]) rfl (by simp)
    · exact hk.elim
  have hn':l.length≤n:=by simp at hn;omega
  simp only [kN,Bool.and_eq_true] at hd
  have jy:∀x,o.dst=some x→x<N:=by
   intro x hx
   have:=hd.1.1
   rw [hx] at this
   simpa using this
  simp only [eI] at hk
  split at hk
  · rename_i n9
    have hw:=iF hs hg n9
    unfold wpList
    rw [if_pos hw]
    refine .inl ?_
    rcases hop with hop|rfl
    case inr=>exact hk.elim
    by_cases e7:op.nZ=true
    · cases op with
      |call f vR=>
       simp only [zI] at hk
       split at hk
       case h_2=>exact hk.elim
       rename_i f' caps Zo
       obtain ⟨hfl,hk⟩:=hk
       obtain ⟨x,args,tys,ho,hx,hargs⟩:=AU hop
       have h1:=bR (ds:=[]) hs hx
       rw [Zo] at h1
       obtain ⟨vs,Zp,hcl,n7⟩:=h1.1.zz
       obtain ⟨c1,c2⟩:=Gm hs _ _ _ hargs
       have DG:=JD (d:=o.dst) (ds:=[]) (vs:=args.map (Act.eval ⟨ts,[]⟩)++vs) hs jy hk (by simp [c1,hcl]) (DE hs hfl hcl n7 c1 c2)
       have LM:(execOp (Act.eval ⟨ts,[]⟩) o).run P w= .ok (.enter f' (args.map (Act.eval ⟨ts,[]⟩)++vs)) w:=by
        rw [ho];exact DD hk.1 Zp
       unfold Oper.wp
       rw [LM]
       simp only [Oper.upon]
       refine DG.mono ?_
       rintro en w1 ⟨r,v,bW,γ1,C1,rfl,hR,hγ,hs1,hx1⟩
       have hput:(⟨ts,[]⟩:Act).put o.dst v=⟨((⟨ts,[]⟩:Act).put o.dst v).tmps,[]⟩:=by cases o.dst<;>rfl
       show wpList P ops Q l ((⟨ts,[]⟩:Act).put o.dst v) w1
       rw [hput]
       exact ih l zq' _ bW K F γ1 C1 _ w1 Q hn' has hd.2 hs1 hR fun e' aB γ' C' ts' w' g1 g2 g3 g4=>hq e' aB γ' C' ts' w' g1 (hγ.trans g2) g3 (hx1.trans g4)
      |kP k b x y=>
       simp only [zI] at hk
       obtain ⟨e1,bW,hk',v,w1,γ1,C1,hr,hγ,hs1,hx1, -, -⟩:=Gi (m:=true) (ds:=[]) hs jy (by simpa [dH] using hop) hk
       have next:wpList P ops Q l ((⟨ts,[]⟩:Act).put o.dst v) w1:=by
        have hput:(⟨ts,[]⟩:Act).put o.dst v=⟨((⟨ts,[]⟩:Act).put o.dst v).tmps,[]⟩:=by cases o.dst<;>rfl
        rw [hput]
        exact ih l zq' e1 bW K F γ1 C1 _ w1 Q hn' has hd.2 hs1 hk' fun e' aB γ' C' ts' w' g1 g2 g3 g4=>hq e' aB γ' C' ts' w' g1 (hγ.trans g2) g3 (hx1.trans g4)
       unfold Oper.wp
       rcases hr with hr|⟨hr,rfl⟩<;>rw [hr]<;>exact next
      |nq n x=>
       simp only [zI] at hk
       obtain ⟨e1,bW,hk',v,w1,γ1,C1,hr,hγ,hs1,hx1, -, -⟩:=G3 (m:=true) (ds:=[]) hs jy (by simpa [dH] using hop) hk
       have next:wpList P ops Q l ((⟨ts,[]⟩:Act).put o.dst v) w1:=by
        have hput:(⟨ts,[]⟩:Act).put o.dst v=⟨((⟨ts,[]⟩:Act).put o.dst v).tmps,[]⟩:=by cases o.dst<;>rfl
        rw [hput]
        exact ih l zq' e1 bW K F γ1 C1 _ w1 Q hn' has hd.2 hs1 hk' fun e' aB γ' C' ts' w' g1 g2 g3 g4=>hq e' aB γ' C' ts' w' g1 (hγ.trans g2) g3 (hx1.trans g4)
       unfold Oper.wp
       rcases hr with hr|⟨hr,rfl⟩<;>rw [hr]<;>exact next
      |_=>cases e7
    · have qK:op.nZ=false:=by simpa using e7
      have hk':match bF L ⟨o.dst,op,g⟩ e ah with|some (e',aB)=>eI P L zq' e' aB K|none=>False:=by
       cases op<;>first|exact hk|cases qK
      rw [vP] at hk'
      cases hev:bF L ⟨o.dst,op,none⟩ e ah with
      |none=>rw [hev] at hk';exact hk'.elim
      |some ea=>
       obtain ⟨e1,bW⟩:=ea
       rw [hev] at hk'
       obtain ⟨v,w1,γ1,C1,hr,hγ,hs1,hx1, -, -⟩:=G4 (ds:=[]) hs jy hop qK hev
       have next:wpList P ops Q l ((⟨ts,[]⟩:Act).put o.dst v) w1:=by
        have hput:(⟨ts,[]⟩:Act).put o.dst v=⟨((⟨ts,[]⟩:Act).put o.dst v).tmps,[]⟩:=by cases o.dst<;>rfl
        rw [hput]
        exact ih l zq' e1 bW K F γ1 C1 _ w1 Q hn' has hd.2 hs1 hk' fun e' aB γ' C' ts' w' g1 g2 g3 g4=>hq e' aB γ' C' ts' w' g1 (hγ.trans g2) g3 (hx1.trans g4)
       unfold Oper.wp
       rcases hr with hr|⟨hr,rfl⟩<;>rw [hr]<;>exact next
  · rename_i n9
    have hw:=iF hs hg n9
    unfold wpList
    rw [if_neg (by rw [hw];simp)]
    have hput:(⟨ts,[]⟩:Act).put o.dst undef=⟨((⟨ts,[]⟩:Act).put o.dst undef).tmps,[]⟩:=by cases o.dst<;>rfl
    rw [hput]
    refine ih l zq' _ ah K F γ C _ w Q hn' has hd.2 ?_ hk hq
    cases ho:o.dst with
    |none=>exact hs
    |some d=>exact hs.Cc (jy d ho) (.bz _ [] #[] rfl (by simp)) (by simp [undef,TC]) rfl (by simp)
  · exact hk.elim
theorem WQ {ops:Array Oper} (l:List Oper) (zq:List aM) (e:Env) (ah:AH) (K:Env→AH→Prop) (F:Nat→Prop) (γ:List Nat) (C:Nat→List Value) (ts:Array Value) (w:World)
 (Q:Exit→Act→World→Prop) (hc:jP P ops l=some (zq.map aM.er)) (hd:kN N zq=true) (hs:SR L N F γ C e ah ts w) (hk:eI P L zq e ah K)
 (hq:∀e' aB γ' C' ts' w',K e' aB→γ <+: γ'→SR L N F γ' C' e' aB ts' w'→Ext F C w C' w'→Q .normal ⟨ts',[]⟩ w'):wpList P ops Q l ⟨ts,[]⟩ w:=
 S1 l.length l zq e ah K F γ C ts w Q (Nat.le_refl _) hc hd hs hk hq
end
end Go.Am
end
section
namespace Go.Am
open Go
variable [Tabs]
section
variable {P:Program} {ops:Array Oper} {Q:Exit→Act→World→Prop} {md:Region.Mode} {S:World→Prop} {D:Nat→Bool}
def wpS (P:Program) (ops:Array Oper) (Q:Exit→Act→World→Prop) (S:World→Prop) (D:Nat→Bool):Nat→Array Bool→Act→World→Prop
 |0,listed,a,w=>Region.ready .any ops listed=[]∧Q .normal a w
 |n+1,listed,a,w=>(Region.ready .any ops listed=[]→Q .normal a w)∧
  ∀i∈Region.ready .any ops listed,wpOp P ops Q i (fun a' w'=>(D i=false→S w')∧wpS P ops Q S D n (listed.setIfInBounds i true) a' w') a w
theorem wpS.any:∀ {n:Nat} {listed:Array Bool} {a:Act} {w:World},wpS P ops Q S D n listed a w→wpAny P .any ops Q n listed a w
 |0,_,_,_,h=>h
 |_+1,_,_,_,h=>⟨h.1,fun i hi=>wpOp_mono (fun _ _ h'=>h'.2.any) (h.2 i hi)⟩
theorem wpS.mono {S':World→Prop} (hS:∀w,S' w→S w):∀ {n:Nat} {listed:Array Bool} {a:Act} {w:World},wpS P ops Q S' D n listed a w→wpS P ops Q S D n listed a w
 |0,_,_,_,h=>h
 |_+1,_,_,_,h=>⟨h.1,fun i hi=>wpOp_mono (fun _ _ h'=>⟨fun hd=>hS _ (h'.1 hd),h'.2.mono hS⟩) (h.2 i hi)⟩
theorem ir {listed:Array Bool} {i j:Nat} (h:(listed.setIfInBounds i true).getD j true=false):listed.getD j true=false:=by
 by_cases hij:i=j
 · subst hij
   by_cases hlt:i<listed.size
   · simp [hlt] at h
   · simp [Array.getElem?_eq_none (Nat.le_of_not_lt hlt)] at h
 · rwa [getD_set_ne true hij] at h
theorem Cf:∀ {n:Nat} {listed:Array Bool} {a:Act} {w:World},(∀j,listed.getD j true=false→D j=true)→wpAny P .any ops Q n listed a w→wpS P ops Q S D n listed a w
 |0,_,_,_,_,h=>h
 |_+1,listed,_,_,hD,h=>⟨h.1,fun i hi=>wpOp_mono (fun _ _ h'=>⟨fun hd=>Bool.noConfusion ((hD i (mem_ready.1 hi).1).symm.trans hd),Cf (fun j hj=>hD j (ir hj)) h'⟩) (h.2 i hi)⟩
theorem LN {i:Nat} {oi:Oper} {v:Value} (hi:ops[i]? =some oi) (hsel:∀(j:Nat) (o:Oper) cs b,ops[j]? =some o→o.op≠ .select cs b)
 (hQ:∀c a w,¬Q (.panic c) a w) (W:Nat→Prop):
 ∀(n:Nat) (listed:Array Bool) (a:Act) (w:World),
  (∀j oj,ops[j]? =some oj→j≠i→listed.getD j true=false→(∀e∈oj.after,Region.binds .any e=true→e.on≠i)→oi.apart ops oj=true)→
  (∀j,W j→listed.getD j true=false∧∃oj,ops[j]? =some oj∧∃e∈oj.after,Region.binds .any e=true∧(e.on=i∨W e.on))→(∀j,j<ops.size→D j=true→listed.getD j true=false→W j)→
  i∈Region.ready .any ops listed→YieldsIf P ops S oi v a→S w→
  wpS P ops Q S D n (listed.setIfInBounds i true) (a.put oi.dst v) w→wpS P ops Q S D (n+1) listed a w:=by
 intro n
 induction n with
 |zero=>
  intro listed a w _ _ _ hr hy hS H
  refine ⟨fun h=>(by rw [h] at hr;cases hr),fun j hj=> ?_⟩
  by_cases hji:j=i
  · subst hji;exact hy.wpOp hi hS ⟨fun _=>hS,H⟩
  · have:=ready_mono hj hji
    rw [H.1] at this
    cases this
 |succ n ih=>
  intro listed a w hfree vS hDW hr hy hS H
  refine ⟨fun h=>(by rw [h] at hr;cases hr),fun j hj=> ?_⟩
  by_cases hji:j=i
  · subst hji;exact hy.wpOp hi hS ⟨fun _=>hS,H⟩
  · have h1:=H.2 j (ready_mono hj hji)
    obtain ⟨YF,oj,LO,hall⟩:=mem_ready.1 hj
    have hun:∀k,listed.getD k true=false→listed.getD k false=false:=fun k hk=>by
     rcases Nat.lt_or_ge k listed.size with h'|h'
     · simp [h'] at hk ⊢;exact hk
     · simp [Array.getElem?_eq_none h'] at hk
    have hnot:∀e∈oj.after,Region.binds .any e=true→listed.getD e.on true=false→False:=fun e he hb hu=>by
     have h1:=hall e he hb
     rw [hun _ hu] at h1
     cases h1
    have hni:∀e∈oj.after,Region.binds .any e=true→e.on≠i:=fun e he hb heq=>hnot e he hb (by rw [heq];exact (mem_ready.1 hr).1)
    have hWj:¬W j:=by
     intro hw
     obtain ⟨-,oj',Ot,e,he,hb,h0⟩:=vS j hw
     rw [LO] at Ot
     injection Ot with Ot
     subst Ot
     rcases h0 with h0|h0
     · exact hni e he hb h0
     · exact hnot e he hb (vS _ h0).1
    have Zq:D j=false:=by
     cases hd:D j with
     |false=>rfl
     |true=>exact absurd (hDW j (Array.getElem?_eq_some_iff.1 LO).1 hd YF) hWj
    have h2:=wpOp_putIf LO (hfree j oj LO hji YF hni) (fun cs b=>hsel i oi cs b hi) (fun cs b=>hsel j oj cs b LO) (fun c a w hq=>(hQ c _ w hq).elim) hy h1
    refine wpOp_mono (fun a' w' h3=> ?_) h2
    have hS':=h3.2.1 Zq
    refine ⟨fun _=>hS',ih (listed.setIfInBounds j true) a' w' ?_ ?_ ?_ (ready_mono hr (Ne.symm hji)) h3.1 hS' ?_⟩
    · exact fun k ok hk hki Zr hno=>hfree k ok hk hki (ir Zr) hno
    · intro k hk
      obtain ⟨h5,h6⟩:=vS k hk
      refine ⟨?_,h6⟩
      rw [getD_set_ne true (fun h7=>hWj (by rw [h7];exact hk))]
      exact h5
    · exact fun k hk hd Zr=>hDW k hk hd (ir Zr)
    · rw [Array.setIfInBounds_comm _ _ hji]
      exact h3.2.2
end
section
variable {P:Program} {L:List Nat} {N n0:Nat} {F:Nat→Prop} {γ:List Nat} {C C':Nat→List Value} {e:Env} {ah:AH} {ts:Array Value} {w w':World} {m:Bool}
variable {e':Env} {aB:AH} {ops:Array Oper} {Q:Exit→Act→World→Prop}
theorem KA.trans {γ':List Nat} {w2:World} (hg:∀(s b:Nat),γ[s]? =some b→γ'[s]? =some b) (hC:∀b,C b <+: C' b) (h:KA m γ C w w') (h':KA m γ' C' w' w2):KA m γ C w w2:=
 ⟨fun b i hi=>(h'.1 b i (Nat.lt_of_lt_of_le hi (hC b).length_le)).trans (h.1 b i hi),fun hm s b hs=>(h'.2 hm s b (hg s b hs)).trans (h.2 hm s b hs)⟩
theorem S3 {γ γ':List Nat} (h:γ <+: γ') {s b:Nat} (hs:γ[s]? =some b):γ'[s]? =some b:=by
 obtain ⟨q,rfl⟩:=h
 rw [List.getElem?_append_left (List.getElem?_eq_some_iff.1 hs).1];exact hs
theorem KA.G6 {e ah ts e' aB ts'} {γ':List Nat} (h:SR L N F γ C e ah ts w) (h':SR L N F γ' C' e' aB ts' w') (hx:Ext F C w C' w')
 (ho:m=true→∀(s b:Nat),γ[s]? =some b→w'.heap[b]? =w.heap[b]?):KA m γ C w w':=by
 refine ⟨fun b i hi=> ?_,ho⟩
 rw [oy h hi,oy h' (Nat.lt_of_lt_of_le hi (hx.pre b).length_le),gS (hx.pre b) hi]
theorem AZ (a:Act) (d:Option Nat) (v:Value) (h:a.defers=[]):a.put d v=⟨(a.put d v).tmps,[]⟩:=by
 obtain ⟨ts,ds⟩:=a
 simp only at h
 subst h
 cases d<;>rfl
theorem JI {o:Oper} {i:Nat} {op:fI} {g:Option (Nat×Bool)} {zq:List aM} {K:Env→AH→Prop} {R:Act→World→Prop} (hi:ops[i]? =some o) (hop:dH P m o=some op.er) (hg:gQ ops o.guard=some g)
 (jy:∀x,o.dst=some x→x<N) (hs:SR L N F γ C e ah ts w) (hk:eI P L (⟨o.dst,op,g⟩::zq) e ah K)
 (next:∀v e' aB γ' C' w',eI P L zq e' aB K→γ <+: γ'→SR L N F γ' C' e' aB ((⟨ts,[]⟩:Act).put o.dst v).tmps w'→Ext F C w C' w'→(Gb P m o=true→KA m γ C w w')→R ((⟨ts,[]⟩:Act).put o.dst v) w'):
 wpOp P ops Q i R ⟨ts,[]⟩ w:=by
 unfold wpOp
 simp only [hi]
 simp only [eI] at hk
 split at hk
 · rename_i n9
   rw [if_pos (iF hs hg n9)]
   refine .inl ?_
   by_cases e7:op.nZ=true
   · cases op with
     |call f vR=>
      have hop:cop P o=some (.call f vR):=by
       cases m with
       |true=>simpa [dH,fI.er] using hop
       |false=>
        simp only [dH,Bool.false_eq_true,if_false,Option.map_eq_some_iff] at hop
        obtain ⟨op',h1,h2⟩:=hop
        rw [h1,Gk h2]
      simp only [zI] at hk
      split at hk
      case h_2=>exact hk.elim
      rename_i f' caps Zo
      obtain ⟨hfl,hk⟩:=hk
      obtain ⟨x,args,tys,ho,hx,hargs⟩:=AU hop
      have h1:=bR (ds:=[]) hs hx
      rw [Zo] at h1
      obtain ⟨vs,Zp,hcl,n7⟩:=h1.1.zz
      obtain ⟨c1,c2⟩:=Gm hs _ _ _ hargs
      have DG:=JD (d:=o.dst) (ds:=[]) (vs:=args.map (Act.eval ⟨ts,[]⟩)++vs) hs jy hk (by simp [c1,hcl]) (DE hs hfl hcl n7 c1 c2)
      have LM:(execOp (Act.eval ⟨ts,[]⟩) o).run P w= .ok (.enter f' (args.map (Act.eval ⟨ts,[]⟩)++vs)) w:=by
       rw [ho];exact DD hk.1 Zp
      unfold Oper.wp
      rw [LM]
      simp only [Oper.upon]
      refine DG.mono ?_
      rintro en w1 ⟨r,v,bW,γ1,C1,rfl,hR,hγ,hs1,hx1⟩
      refine next v _ bW γ1 C1 w1 hR hγ hs1 hx1 fun hst=>KA.G6 hs hs1 hx1 fun hm=> ?_
      rw [ho] at hst
      simp [Gb,dM,gR,zw,hm] at hst
     |kP k b x y=>
      simp only [zI] at hk
      obtain ⟨e1,bW,hk',v,w1,γ1,C1,hr,hγ,hs1,hx1,hst, -⟩:=Gi (ds:=[]) hs jy hop hk
      have nx:=next v e1 bW γ1 C1 w1 hk' hγ hs1 hx1 fun h=>KA.G6 hs hs1 hx1 fun hm=>by
       refine hst ?_
       obtain ⟨_,_,_,_,_,_,ho, -⟩:=DB (AR hop)
       rw [ho] at h
       simp [Gb,dM,gR,hm] at h
      unfold Oper.wp
      rcases hr with hr|⟨hr,rfl⟩<;>rw [hr]<;>exact nx
     |nq n x=>
      simp only [zI] at hk
      obtain ⟨e1,bW,hk',v,w1,γ1,C1,hr,hγ,hs1,hx1,hst, -⟩:=G3 (ds:=[]) hs jy hop hk
      have nx:=next v e1 bW γ1 C1 w1 hk' hγ hs1 hx1 fun h=>KA.G6 hs hs1 hx1 fun hm=>by
       refine hst ?_
       obtain ⟨_,_,_,_,_,ho, -⟩:=On (JA hop)
       rw [ho];rfl
      unfold Oper.wp
      rcases hr with hr|⟨hr,rfl⟩<;>rw [hr]<;>exact nx
     |_=>cases e7
   · have qK:op.nZ=false:=by simpa using e7
     have hk':match bF L ⟨o.dst,op,g⟩ e ah with|some (e',aB)=>eI P L zq e' aB K|none=>False:=by
      cases op<;>first|exact hk|cases qK
     rw [vP] at hk'
     cases hev:bF L ⟨o.dst,op,none⟩ e ah with
     |none=>rw [hev] at hk';exact hk'.elim
     |some ea=>
      obtain ⟨e1,bW⟩:=ea
      rw [hev] at hk'
      obtain ⟨v,w1,γ1,C1,hr,hγ,hs1,hx1,hst, -⟩:=JC (ds:=[]) hs jy hop qK hev
      have nx:=next v e1 bW γ1 C1 w1 hk' hγ hs1 hx1 fun h=>KA.G6 hs hs1 hx1 fun hm=>by
       refine hst ?_
       cases G1:gR o.op with
       |false=>rfl
       |true=>
        exfalso
        cases ho:o.op with
        |call c=>
         rw [ho] at G1
         obtain ⟨ce,_,_⟩:=c
         cases ce with
         |builtin b=>cases b<;>simp [gR] at G1;simp [Gb,dM,gR,ho,hm] at h
         |_=>simp [gR] at G1
        |store a b c=>simp [Gb,dM,gR,ho,hm] at h
        |_=>rw [ho] at G1;simp [gR] at G1
      unfold Oper.wp
      rcases hr with hr|⟨hr,rfl⟩<;>rw [hr]<;>exact nx
 · rename_i n9
   have hw:=iF hs hg n9
   rw [if_neg (by rw [hw];simp)]
   refine next undef _ ah γ C w hk (List.prefix_refl _) ?_ (Ext.refl ..) fun _=>KA.refl ..
   cases ho:o.dst with
   |none=>exact hs
   |some d=>exact hs.Cc (jy d ho) (.bz _ [] #[] rfl (by simp)) (by simp [undef,TC]) rfl (by simp)
 · exact hk.elim
theorem Pt {o:Oper} {op:fI} {g:Option (Nat×Bool)} {zq:List aM} {K:Env→AH→Prop} (hq:dM P o.op=true) (hop:dH P m o=some op.er) (hg:gQ ops o.guard=some g)
 (jy:∀x,o.dst=some x→x<N) (hs:SR L N F γ C e ah ts w) (hk:eI P L (⟨o.dst,op,g⟩::zq) e ah K):
 ∃v e' aB,YieldsIf P ops (KA m γ C w) o v ⟨ts,[]⟩∧eI P L zq e' aB K∧SR L N F γ C e' aB ((⟨ts,[]⟩:Act).put o.dst v).tmps w:=by
 simp only [eI] at hk
 split at hk
 · rename_i n9
   have hw:=iF hs hg n9
   by_cases hnq:∃n x,op= .nq n x
   · obtain ⟨n,x,rfl⟩:=hnq
     simp only [zI] at hk
     obtain ⟨e1,bW,hk',v,w1,γ1,C1,hr,hγ,hs1,hx1,hst,WR⟩:=G3 (ds:=[]) hs jy hop hk
     obtain ⟨rfl,rfl,rfl,hrun⟩:=WR hq
     exact ⟨v,e1,bW, .inl ⟨hw,hrun⟩,hk',hs1⟩
   have qK:op.nZ=false:=by
    cases op with
    |call f vR=>
     exfalso
     have hop:cop P o=some (.call f vR):=by
      cases m with
      |true=>simpa [dH,fI.er] using hop
      |false=>
       simp only [dH,Bool.false_eq_true,if_false,Option.map_eq_some_iff] at hop
       obtain ⟨op',h1,h2⟩:=hop
       rw [h1,Gk h2]
     obtain ⟨x,args,tys,ho, -, -⟩:=AU hop
     rw [ho] at hq
     simp [dM] at hq
    |kP k b x y=>
     exfalso
     obtain ⟨_,_,_,_,_,_,ho, -⟩:=DB (AR hop)
     rw [ho] at hq
     simp [dM] at hq
    |nq n x=>exact absurd ⟨_,_,rfl⟩ hnq
    |_=>rfl
   have hk':match bF L ⟨o.dst,op,g⟩ e ah with|some (e',aB)=>eI P L zq e' aB K|none=>False:=by
    cases op<;>first|exact hk|cases qK
   rw [vP] at hk'
   cases hev:bF L ⟨o.dst,op,none⟩ e ah with
   |none=>rw [hev] at hk';exact hk'.elim
   |some ea=>
    obtain ⟨e1,bW⟩:=ea
    rw [hev] at hk'
    obtain ⟨v,w1,γ1,C1,hr,hγ,hs1,hx1,hst,WR⟩:=JC (ds:=[]) hs jy hop qK hev
    obtain ⟨rfl,rfl,rfl,hrun⟩:=WR hq
    exact ⟨v,e1,bW, .inl ⟨hw,hrun⟩,hk',hs1⟩
 · rename_i n9
   refine ⟨undef,_,ah, .inr ⟨iF hs hg n9,rfl⟩,hk, ?_⟩
   cases ho:o.dst with
   |none=>exact hs
   |some d=>exact hs.Cc (jy d ho) (.bz _ [] #[] rfl (by simp)) (by simp [undef,TC]) rfl (by simp)
 · exact hk.elim
theorem LP:∀(l r:List (Bool×Nat)) (zq:List aM),fL P ops (l++r)=some zq→∃a1 a2,fL P ops l=some a1∧fL P ops r=some a2∧zq=a1++a2:=by
 intro l
 induction l with
 |nil=>intro r zq h;exact ⟨[],zq,rfl,h,rfl⟩
 |cons p l ih=>
  intro r zq h
  obtain ⟨m,i⟩:=p
  simp only [List.cons_append,fL] at h
  split at h
  case h_2=>cases h
  rename_i o ho
  split at h
  case h_2=>cases h
  rename_i a g zq' h1 h2 h3
  injection h with h
  obtain ⟨a1,a2,g1,g2,rfl⟩:=ih r zq' h3
  exact ⟨⟨o.dst,a,g⟩::a1,a2,by simp [fL,ho,h1,h2,g1],g2,by rw [←h];rfl⟩
theorem JJ (l r:List (Bool×Nat)) (zq:List aM) (h:fL P ops (l++r)=some (zq.map aM.er)):∃a1 a2,fL P ops l=some (a1.map aM.er)∧fL P ops r=some (a2.map aM.er)∧zq=a1++a2:=by
 obtain ⟨b1,b2,h1,h2,h3⟩:=LP _ _ _ h
 obtain ⟨a1,a2,rfl,rfl,rfl⟩:=List.map_eq_append_iff.1 h3
 exact ⟨a1,a2,h1,h2,rfl⟩
theorem Pu:∀(l r:List aM) (e:Env) (ah:AH) (K:Env→AH→Prop),eI P L (l++r) e ah K=eI P L l e ah fun e ah=>eI P L r e ah K:=by
 intro l
 induction l with
 |nil=>intros;rfl
 |cons o l ih=>
  intro r e ah K
  simp only [List.cons_append,eI,ih]
theorem S4:∀(l r:List aM),kN N (l++r)=true→kN N l=true∧kN N r=true:=by
 intro l
 induction l with
 |nil=>intro r h;exact ⟨rfl,h⟩
 |cons o l ih=>
  intro r h
  simp only [List.cons_append,kN,Bool.and_eq_true] at h ⊢
  obtain ⟨h1,h2⟩:=ih r h.2
  exact ⟨⟨h.1,h1⟩,h2⟩
theorem Ou {o:Oper} {a:fI} {g:Option (Nat×Bool)} {zq:List aM} (h:kN N (⟨o.dst,a,g⟩::zq)=true):(∀x,o.dst=some x→x<N)∧kN N zq=true:=by
 simp only [kN,Bool.and_eq_true] at h
 refine ⟨fun x hx=> ?_,h.2⟩
 have:=h.1.1
 rw [hx] at this
 simpa using this
theorem Cg {i:Nat} {r:List (Bool×Nat)} {zq:List aM} (h:fL P ops ((m,i)::r)=some zq):
 ∃o a g zq',ops[i]? =some o∧dH P m o=some a∧gQ ops o.guard=some g∧fL P ops r=some zq'∧zq=⟨o.dst,a,g⟩::zq':=by
 simp only [fL] at h
 split at h
 case h_2=>cases h
 rename_i o ho
 split at h
 case h_2=>cases h
 rename_i a g zq' h1 h2 h3
 injection h with h
 exact ⟨o,a,g,zq',ho,h1,h2,h3,h.symm⟩
theorem zJ {i:Nat} {r:List (Bool×Nat)} {zq:List aM} (h:fL P ops ((m,i)::r)=some (zq.map aM.er)):
 ∃o a g zq',ops[i]? =some o∧dH P m o=some (fI.er a)∧gQ ops o.guard=some g∧fL P ops r=some (zq'.map aM.er)∧zq=⟨o.dst,a,g⟩::zq':=by
 obtain ⟨o,a,g,zq',h1,h2,h3,h4,h5⟩:=Cg h
 cases zq with
 |nil=>simp at h5
 |cons x xs=>
  simp only [List.map_cons,List.cons.injEq] at h5
  obtain ⟨d,op',g'⟩:=x
  obtain ⟨h6,h7⟩:=h5
  simp only [aM.er] at h6
  injection h6 with e1 e2 e3
  subst e1;subst e2;subst e3
  exact ⟨o,op',g',xs,h1,h2,h3,by rw [h4,h7],rfl⟩
theorem Pv {D:Nat→Bool} (hsel:Region.noSelect ops=true) (hQ:∀c a w,¬Q (.panic c) a w):∀(l:List Nat) (zq:List aM) (e:Env) (ah:AH) (γ:List Nat) (C:Nat→List Value) (ts:Array Value) (w:World) (listed:Array Bool) (n:Nat)
 (K:Env→AH→Prop),fL P ops (l.map fun i=>(m,i))=some (zq.map aM.er)→kN N zq=true→SR L N F γ C e ah ts w→eI P L zq e ah K→vD P ops m D l listed=true→
 (∀e' aB γ' C' ts' w',K e' aB→γ <+: γ'→SR L N F γ' C' e' aB ts' w'→Ext F C w C' w'→wpS P ops Q (KA m γ' C' w') D n (l.foldl (fun a i=>a.setIfInBounds i true) listed) ⟨ts',[]⟩ w')→
 wpS P ops Q (KA m γ C w) D (l.length+n) listed ⟨ts,[]⟩ w:=by
 intro l
 induction l with
 |nil=>
  intro zq e ah γ C ts w listed n K hc hd hs hk hst cont
  simp only [List.map_nil,fL,Option.some.injEq] at hc
  obtain rfl:zq=[]:=by simpa using hc.symm
  have:=cont e ah γ C ts w hk (List.prefix_refl _) hs (Ext.refl ..)
  simpa using this
 |cons i l ih=>
  intro zq e ah γ C ts w listed n K hc hd hs hk hst cont
  obtain ⟨o,a,g,zq',ho,hop,hg,has,rfl⟩:=zJ hc
  obtain ⟨jy,hd'⟩:=Ou hd
  simp only [vD,ho,Bool.and_eq_true,Bool.or_eq_true] at hst
  obtain ⟨hst,DH⟩:=hst
  have hlen:(i::l).length+n=(l.length+n)+1:=by simp;omega
  rw [hlen]
  rcases hst with ⟨⟨⟨⟨hq,hDi⟩,hr⟩,hfree⟩,vS⟩|⟨hok,hr⟩
  · obtain ⟨v,e1,bW,hy,hk1,hs1⟩:=Pt hq hop hg jy hs hk
    refine LN ho (Region.noSelect_spec hsel) hQ (fun j=>j∈Ji ops i) _ listed _ w (Region.free_spec ho hfree) (fun j hj=> ?_) (fun j hj Zq hju=> ?_) (by simpa using hr) hy (KA.refl ..) ?_
    · simp only [GK,GJ,Bool.and_eq_true,List.all_eq_true] at vS
      obtain ⟨h1,h2⟩:=vS.1 j hj
      refine ⟨by simpa using h1, ?_⟩
      split at h2
      · rename_i oj LO
        obtain ⟨x,hx,hb⟩:=Array.any_eq_true'.1 h2
        simp only [Bool.and_eq_true,Bool.or_eq_true,beq_iff_eq,List.contains_iff_mem] at hb
        exact ⟨oj,LO,x,hx,hb.1,hb.2⟩
      · cases h2
    · simp only [GK,GJ,Bool.and_eq_true,List.all_eq_true,List.mem_range] at vS
      have:=vS.2 j hj
      simpa [Zq,hju] using this
    · rw [AZ _ _ _ rfl]
      exact ih zq' e1 bW γ C _ w _ n K has hd' hs1 hk1 DH cont
  · have hr:Region.ready .any ops listed=[i]:=by simpa using hr
    refine ⟨fun h=>(by rw [hr] at h;cases h),fun j hj=> ?_⟩
    rw [hr] at hj
    obtain rfl:j=i:=by simpa using hj
    refine JI ho hop hg jy hs hk fun v e1 bW γ1 C1 w1 hk1 hγ hs1 hx1 hka=>⟨fun _=>hka hok, ?_⟩
    rw [AZ _ _ _ rfl]
    refine (ih zq' e1 bW γ1 C1 _ w1 _ n K has hd' hs1 hk1 DH fun e' aB γ' C' ts' w' g1 g2 g3 g4=> ?_).mono fun w2 h2=>(hka hok).trans (fun s b hs=>S3 hγ hs) hx1.pre h2
    exact cont e' aB γ' C' ts' w' g1 (hγ.trans g2) g3 (hx1.trans g4)
theorem Ff:∀(l:List Nat) (listed:Array Bool) (j:Nat),(l.foldl (fun a i=>a.setIfInBounds i true) listed).getD j true=false→listed.getD j true=false∧j∉l:=by
 intro l
 induction l with
 |nil=>intro listed j h;exact ⟨h,by simp⟩
 |cons i l ih=>
  intro listed j h
  obtain ⟨h1,h2⟩:=ih _ j h
  refine ⟨ir h1, ?_⟩
  rw [List.mem_cons,not_or]
  refine ⟨fun hj=> ?_,h2⟩
  subst hj
  by_cases hlt:j<listed.size
  · simp [hlt] at h1
  · have:=ir h1
    simp [Array.getElem?_eq_none (Nat.le_of_not_lt hlt)] at this
theorem LQ (hsel:Region.noSelect ops=true) (hQ:∀c a w,¬Q (.panic c) a w):∀(st:List (Bool×List Nat)) (zq:List aM) (e:Env) (ah:AH) (γ:List Nat) (C:Nat→List Value) (ts:Array Value) (w:World) (listed:Array Bool)
 (K:Env→AH→Prop),fL P ops (rJ st)=some (zq.map aM.er)→kN N zq=true→SR L N F γ C e ah ts w→eI P L zq e ah K→ox P ops st listed=true→
 (∀e' aB γ' C' ts' w',K e' aB→γ <+: γ'→SR L N F γ' C' e' aB ts' w'→Ext F C w C' w'→Q .normal ⟨ts',[]⟩ w')→
 wpAny P .any ops Q (rJ st).length listed ⟨ts,[]⟩ w:=by
 intro st
 induction st with
 |nil=>
  intro zq e ah γ C ts w listed K hc hd hs hk hst cont
  simp only [rJ,fL,Option.some.injEq] at hc
  obtain rfl:zq=[]:=by simpa using hc.symm
  exact ⟨by simpa [ox] using hst,cont e ah γ C ts w hk (List.prefix_refl _) hs (Ext.refl ..)⟩
 |cons s st ih=>
  intro zq e ah γ C ts w listed K hc hd hs hk hst cont
  obtain ⟨m,l⟩:=s
  simp only [rJ] at hc ⊢
  obtain ⟨a1,a2,hc1,hc2,rfl⟩:=JJ _ _ _ hc
  obtain ⟨hd1,JH⟩:=S4 _ _ hd
  rw [Pu] at hk
  unfold ox at hst
  rw [Bool.and_eq_true] at hst
  obtain ⟨hst,DH⟩:=hst
  have key:∀(Q':Nat→Bool),vD P ops m Q' l listed=true→(∀j,Q' j= !l.contains j)→wpAny P .any ops Q (l.map (fun i=>(m,i))++rJ st).length listed ⟨ts,[]⟩ w:=by
   intro D abM hD
   rw [List.length_append,List.length_map]
   refine (Pv hsel hQ l a1 e ah γ C ts w listed _ _ hc1 hd1 hs hk abM fun e' aB γ' C' ts' w' g1 g2 g3 g4=> ?_).any
   refine Cf (fun j hj=> ?_) (ih a2 e' aB γ' C' ts' w' _ K hc2 JH g3 g1 DH fun e2 qq γ2 C2 S0 w2 q1 q2 q3 q4=>cont e2 qq γ2 C2 S0 w2 q1 (g2.trans q2) q3 (g4.trans q4))
   rw [hD]
   simpa using (Ff l listed j hj).2
  split at hst
  · rename_i i
    simp only [Bool.and_eq_true,beq_iff_eq] at hst
    obtain ⟨rfl,hr⟩:=hst
    obtain ⟨o,a,g,zq',ho,hop,hg,has,rfl⟩:=zJ hc1
    simp only [List.map_nil,fL,Option.some.injEq] at has
    obtain rfl:zq'=[]:=by simpa using has.symm
    obtain ⟨jy, -⟩:=Ou hd1
    refine ⟨fun h=>(by rw [hr] at h;cases h),fun j hj=> ?_⟩
    rw [hr] at hj
    obtain rfl:j=i:=by simpa using hj
    refine JI ho hop hg jy hs hk fun v e1 bW γ1 C1 w1 hk1 hγ hs1 hx1 hka=> ?_
    rw [AZ _ _ _ rfl]
    exact ih a2 e1 bW γ1 C1 _ w1 _ K hc2 JH hs1 hk1 DH fun e2 qq γ2 C2 S0 w2 q1 q2 q3 q4=>cont e2 qq γ2 C2 S0 w2 q1 (hγ.trans q2) q3 (hx1.trans q4)
  · exact key _ hst fun _=>rfl
theorem Pw {st:List (Bool×List Nat)} (h:sched P ops=some st):ox P ops st (Array.replicate ops.size false)=true∧(rJ st).length=ops.size:=by
 have:zy P ops st=true:=by
  unfold sched at h
  split at h
  · rename_i s hs
    injection h with h;subst h
    exact (Option.filter_eq_some_iff.1 hs).2
  · exact (Option.filter_eq_some_iff.1 h).2
 simpa [zy] using this
theorem AW.drawn {id:Nat} {st:List (Bool×List Nat)} {zq:List aM} {Q:Exit→Env→AH→Prop} (hm:P.follows .mixedOrders=true) (hsel:Region.noSelect ops=true) (hst:sched P ops=some st) (hc:fL P ops (rJ st)=some (zq.map aM.er))
 (hd:kN N zq=true) (h:eI P L zq e ah fun e ah=>Q .normal (keep L e) ah):AW P L N n0 (.region id ops true) Q e ah:=by
 intro F γ C ts w hs hn
 obtain ⟨h1,h2⟩:=Pw hst
 refine wp_mono (Q:=fun x a' w'=>x= .normal∧a'.defers=[]∧NG x∧∃e' aB γ' C',Q x e' aB∧γ.take n0 <+: γ'∧SR L N F γ' C' e' aB a'.tmps w'∧Ext F C w C' w') ?_ (fun _ _ _ h=>h.2)
 refine wp_region_any hm ?_
 have hw0:∀b,b<w.heap.size→({w with drawn:=w.drawn+1}:World).heap[b]? =w.heap[b]? :=fun _ _=>rfl
 obtain ⟨hs1,hx1⟩:=hs.grow (w':= {w with drawn:=w.drawn+1}) (C':=C) hw0 (Nat.le_refl _) (fun _ _=>rfl) (fun b hb hne=>absurd (vM hs hb) hne)
 have Ch:=fun q=>LQ (Q:=fun x a' w'=>x= .normal∧a'.defers=[]∧NG x∧∃e' aB γ' C',Q x e' aB∧γ.take n0 <+: γ'∧SR L N F γ' C' e' aB a'.tmps w'∧Ext F C w C' w') hsel (fun c a w hq=>by cases hq.1) st zq e ah γ C ts _ _ _ hc hd hs1 h h1 q
 rw [h2] at Ch
 refine Ch fun e' aB γ' C' ts' w' q1 q2 q3 q4=> ?_
 exact ⟨rfl,rfl,trivial,keep L e',aB,γ',C',q1,Gl q2,q3.keep L,hx1.trans q4⟩
end
end Go.Am
end
section
namespace Go.Am
open Go
variable [Tabs]
def qs (N:Nat):av→Bool
 | .rg ops=>kN N ops
 | .seq a b| .cond _ a b=>qs N a&&qs N b
 | .blk _ c| .loop c=>qs N c
 |_=>true
def AX (P:Program) (L:List Nat) (N n0:Nat) (c:av) (Q:Exit→Env→AH→Prop) (e:Env) (ah:AH):Prop:=
 ∀c',bN P c'=some c→AW P L N n0 c' Q e ah
def jM (P:Program) (L:List Nat) (N n0:Nat):av→(Exit→Env→AH→Prop)→Env→AH→Prop
 | .skip,Q,e,ah=>Q .normal e ah
 | .ret,Q,e,ah=>Q .ret e ah
 | .exit i,Q,e,ah=>Q (.exit i) e ah
 | .rg ops,Q,e,ah=>eI P L ops e ah fun e ah=>Q .normal (keep L e) ah
 | .seq a b,Q,e,ah=>jM P L N n0 a (fun x e ah=>match x with| .normal=>jM P L N n0 b Q e ah|x=>Q x e ah) e ah
 | .cond c a b,Q,e,ah=>match ev e c with
   | .bool t=>if t then jM P L N n0 a Q e ah else jM P L N n0 b Q e ah
   |_=>False
 | .blk i c,Q,e,ah=>jM P L N n0 c (fun x e ah=>match x with| .exit j=>if j=i then Q .normal e ah else Q (.exit j) e ah|x=>Q x e ah) e ah
 | .loop c,Q,e,ah=>AX P L N n0 (.loop c) Q e ah
 | .sem c,Q,e,ah=>AX P L N n0 c Q e ah
section
variable {P:Program} {L:List Nat} {N n0:Nat} {e:Env} {ah:AH}
theorem AW.region {id:Nat} {ops:Array Oper} {zq:List aM} {Q:Exit→Env→AH→Prop} (hc:jP P ops ops.toList=some (zq.map aM.er)) (hd:kN N zq=true)
 (h:eI P L zq e ah fun e ah=>Q .normal (keep L e) ah):AW P L N n0 (.region id ops false) Q e ah:=by
 intro F γ C ts w hs hn
 refine wp_region_list (WQ ops.toList zq e ah _ F γ C ts w _ hc hd hs h ?_)
 intro e' aB γ' C' ts' w' hq hγ hs' hx
 exact ⟨rfl,trivial,keep L e',aB,γ',C',hq,Gl hγ,hs'.keep L,hx⟩
theorem oz:∀(c':Code) (c:av) (Q:Exit→Env→AH→Prop) (e:Env) (ah:AH),bN P c'=some (erase c)→qs N (erase c)=true→jM P L N n0 c Q e ah→AW P L N n0 c' Q e ah:=by
 intro c'
 induction c' with
 |skip=>
  intro c Q e ah hc ho h
  cases c with
  |sem c0=>exact h _ hc
  |skip=>exact AW.skip h
  |_=>simp [bN,erase] at hc
 |label l=>
  intro c Q e ah hc ho h
  cases c with
  |sem c0=>exact h _ hc
  |skip=>exact AW.label h
  |_=>simp [bN,erase] at hc
 |ret=>
  intro c Q e ah hc ho h
  cases c with
  |sem c0=>exact h _ hc
  |ret=>exact AW.ret h
  |_=>simp [bN,erase] at hc
 |exit i=>
  intro c Q e ah hc ho h
  cases c with
  |sem c0=>exact h _ hc
  |exit j=>simp [bN,erase] at hc;subst hc;exact AW.exit h
  |_=>simp [bN,erase] at hc
 |region id ops draw=>
  intro c Q e ah hc ho h
  cases c with
  |sem c0=>exact h _ hc
  |rg zq=>
   simp only [bN,erase] at hc
   cases draw with
   |true=>
    simp only [if_true] at hc
    split at hc
    case isFalse=>cases hc
    rename_i hmn
    simp only [Bool.and_eq_true] at hmn
    split at hc
    case h_2=>cases hc
    rename_i st hst
    simp only [Option.map_eq_some_iff] at hc
    obtain ⟨zq',has,he⟩:=hc
    injection he with he
    subst he
    exact AW.drawn hmn.1 hmn.2 hst has (by simpa only [erase,qs,Oo] using ho) h
   |false=>
    simp only [Bool.false_eq_true,if_false,Option.map_eq_some_iff] at hc
    obtain ⟨zq',has,he⟩:=hc
    injection he with he
    subst he
    exact AW.region has (by simpa only [erase,qs,Oo] using ho) h
  |_=>simp only [bN,erase] at hc;repeat' (split at hc)<;>simp at hc
 |seq a b DI DJ=>
  intro c Q e ah hc ho h
  cases c with
  |sem c0=>exact h _ hc
  |seq x y=>
   simp only [bN,erase] at hc
   split at hc
   case h_2=>cases hc
   rename_i a' b' ha hb
   injection hc with hc
   injection hc with h1 h2
   subst h1;subst h2
   simp only [erase,qs,Bool.and_eq_true] at ho
   refine AW.seq ((DI x _ e ah ha ho.1 h).mono fun x e ah hx=> ?_)
   cases x with
   |normal=>exact DJ y _ e ah hb ho.2 hx
   |_=>exact hx
  |_=>simp only [bN,erase] at hc;split at hc<;>simp at hc
 |cond c0 a b DI DJ=>
  intro c Q e ah hc ho h
  cases c with
  |sem c0=>exact h _ hc
  |cond c2 x y=>
   simp only [bN,erase] at hc
   split at hc
   case h_2=>cases hc
   rename_i c1 a' b' h1 ha hb
   injection hc with hc
   injection hc with g0 g1 g2
   subst g0;subst g1;subst g2
   simp only [erase,qs,Bool.and_eq_true] at ho
   simp only [jM] at h
   split at h
   case h_2=>exact h.elim
   rename_i t ht
   refine AW.cond h1 ht ?_
   cases t with
   |true=>exact DI x Q e ah ha ho.1 h
   |false=>exact DJ y Q e ah hb ho.2 h
  |_=>simp only [bN,erase] at hc;split at hc<;>simp at hc
 |block i c0 ih=>
  intro c Q e ah hc ho h
  cases c with
  |sem c0=>exact h _ hc
  |blk j x=>
   simp only [bN,erase,Option.map_eq_some_iff] at hc
   obtain ⟨a,ha,he⟩:=hc
   injection he with h1 h2
   subst h1;subst h2
   exact AW.blk (ih x _ e ah ha ho h)
  |_=>simp [bN,erase] at hc
 |loop c0 ih=>
  intro c Q e ah hc ho h
  cases c with
  |sem c0=>exact h _ hc
  |loop x=>exact h _ hc
  |_=>simp [bN,erase] at hc
 |rangeFunc=>intro c Q e ah hc;simp [bN] at hc
 |goto=>intro c Q e ah hc;simp [bN] at hc
 |scope c0 ih=>intro c Q e ah hc ho h;exact AW.scope (ih c Q e ah hc ho h)
 |refuse=>intro c Q e ah hc;simp [bN] at hc
theorem A2 {o:Oper} {x:Ar} (h:cop P o=some (.sH x)):False:=by
 obtain ⟨d,oo,ty,pos,af,gd⟩:=o
 cases oo with
 |makeFunc fn first cs=>
  cases fn with
  |func f=>simp only [cop] at h;split at h<;>simp at h
  |_=>simp [cop] at h
 |call c=>
  obtain ⟨callee,args,tys⟩:=c
  simp only [cop] at h
  (repeat' (split at h))<;>(first|(cases h;done)|(simp at h;done))
 |_=>
  simp only [cop] at h
  first
   |cases h;done
   |(simp at h;done)
   |(repeat' (split at h))<;>(first|(cases h;done)|(simp at h;done))
theorem yw {o:Oper} {k b:Nat} {x y:Ar} (h:cop P o=some (.kP k b x y)):False:=by
 obtain ⟨d,oo,ty,pos,af,gd⟩:=o
 cases oo with
 |makeFunc fn first cs=>
  cases fn with
  |func f=>simp only [cop] at h;split at h<;>simp at h
  |_=>simp [cop] at h
 |call c=>
  obtain ⟨callee,args,tys⟩:=c
  simp only [cop] at h
  (repeat' (split at h))<;>(first|(cases h;done)|(simp at h;done))
 |_=>
  simp only [cop] at h
  first
   |cases h;done
   |(simp at h;done)
   |(repeat' (split at h))<;>(first|(cases h;done)|(simp at h;done))
theorem A3 {o:Oper} {k:Nat} {x:Ar} (h:cop P o=some (.xe k x)):False:=by
 obtain ⟨d,oo,ty,pos,af,gd⟩:=o
 cases oo with
 |makeFunc fn first cs=>
  cases fn with
  |func f=>simp only [cop] at h;split at h<;>simp at h
  |_=>simp [cop] at h
 |call c=>
  obtain ⟨callee,args,tys⟩:=c
  simp only [cop] at h
  (repeat' (split at h))<;>(first|(cases h;done)|(simp at h;done))
 |_=>
  simp only [cop] at h
  first
   |cases h;done
   |(simp at h;done)
   |(repeat' (split at h))<;>(first|(cases h;done)|(simp at h;done))
theorem yx {o:Oper} {k:Nat} {x:List Ar} (h:cop P o=some (.lZ k x)):False:=by
 obtain ⟨d,oo,ty,pos,af,gd⟩:=o
 cases oo with
 |makeFunc fn first cs=>
  cases fn with
  |func f=>simp only [cop] at h;split at h<;>simp at h
  |_=>simp [cop] at h
 |call c=>
  obtain ⟨callee,args,tys⟩:=c
  simp only [cop] at h
  (repeat' (split at h))<;>(first|(cases h;done)|(simp at h;done))
 |_=>
  simp only [cop] at h
  first
   |cases h;done
   |(simp at h;done)
   |(repeat' (split at h))<;>(first|(cases h;done)|(simp at h;done))
theorem WT {o:Oper} {op:fI} (h:cop P o=some op):op.er=op:=by
 cases op with
 |sH x=>exact (A2 h).elim
 |kP=>exact (yw h).elim
 |xe=>exact (A3 h).elim
 |lZ=>exact (yx h).elim
 |_=>rfl
theorem S5 {m:Bool} {o:Oper} {op:fI} (h:dH P m o=some op):op.er=op:=by
 cases op with
 |sH x=>
  exfalso
  cases m with
  |true=>exact A2 (by simpa [dH] using h)
  |false=>
   simp only [dH,Bool.false_eq_true,if_false,Option.map_eq_some_iff] at h
   obtain ⟨op',h1,h2⟩:=h
   cases op' with
   |iJ hh y=>cases hh<;>cases h2
   |ld y n=>cases h2
   |sH y=>exact A2 h1
   |_=>cases h2
 |kP=>
  exfalso
  cases m with
  |true=>exact yw (by simpa [dH] using h)
  |false=>
   simp only [dH,Bool.false_eq_true,if_false,Option.map_eq_some_iff] at h
   obtain ⟨op',h1,h2⟩:=h
   cases op' with
   |iJ hh y=>cases hh<;>cases h2
   |ld y n=>cases h2
   |kP=>exact yw h1
   |_=>cases h2
 |xe=>
  exfalso
  cases m with
  |true=>exact A3 (by simpa [dH] using h)
  |false=>
   simp only [dH,Bool.false_eq_true,if_false,Option.map_eq_some_iff] at h
   obtain ⟨op',h1,h2⟩:=h
   cases op' with
   |iJ hh y=>cases hh<;>cases h2
   |ld y n=>cases h2
   |xe=>exact A3 h1
   |_=>cases h2
 |lZ=>
  exfalso
  cases m with
  |true=>exact yx (by simpa [dH] using h)
  |false=>
   simp only [dH,Bool.false_eq_true,if_false,Option.map_eq_some_iff] at h
   obtain ⟨op',h1,h2⟩:=h
   cases op' with
   |iJ hh y=>cases hh<;>cases h2
   |ld y n=>cases h2
   |lZ=>exact yx h1
   |_=>cases h2
 |_=>rfl
theorem S6 {ops:Array Oper}:∀(n:Nat) (l:List Oper) (zq:List aM),l.length≤n→jP P ops l=some zq→zq.map aM.er=zq:=by
 intro n
 induction n with
 |zero=>
  intro l zq hn h
  obtain rfl:l=[]:=List.eq_nil_of_length_eq_zero (by omega)
  simp only [jP,Option.some.injEq] at h;subst h;rfl
 |succ n ih=>
  intro l zq hn h
  rcases Ce h with ⟨rfl,rfl⟩|⟨o,o2,r,a,zq',rfl,h2,h3,rfl⟩|⟨o,o2,r,ag,zq',rfl,h2,h3,rfl⟩|⟨o,r,op,g,zq',rfl,h2,h3,h4,rfl⟩
  · rfl
  · obtain ⟨y,bs,hl⟩:=DF h2
    obtain ⟨d,op,g⟩:=a
    simp only at hl;subst hl
    simp only [List.map_cons,ih r zq' (by simp at hn;omega) h3];rfl
  · obtain ⟨d,y,bs,t,w,g,rfl, -⟩:=AY h2
    simp only [List.cons_append,List.nil_append,List.map_cons,ih r zq' (by simp at hn;omega) h3];rfl
  · have he:op.er=op:=by
     rcases h2 with h2|rfl
     · exact WT h2
     · rfl
    simp only [List.map_cons,ih r zq' (by simp at hn;omega) h4,aM.er,he]
theorem Px {ops:Array Oper}:∀(l:List (Bool×Nat)) (zq:List aM),fL P ops l=some zq→zq.map aM.er=zq:=by
 intro l
 induction l with
 |nil=>intro zq h;simp only [fL,Option.some.injEq] at h;subst h;rfl
 |cons p r ih=>
  intro zq h
  obtain ⟨m,i⟩:=p
  obtain ⟨o,a,g,zq',h1,h2,h3,h4,rfl⟩:=Cg h
  simp only [List.map_cons,ih zq' h4,aM.er,S5 h2]
theorem jk:∀(c':Code) (c:av),bN P c'=some c→erase c=c:=by
 intro c'
 induction c' with
 |skip=>intro c hc;simp [bN] at hc;subst hc;rfl
 |label l=>intro c hc;simp [bN] at hc;subst hc;rfl
 |ret=>intro c hc;simp [bN] at hc;subst hc;rfl
 |exit i=>intro c hc;simp [bN] at hc;subst hc;rfl
 |region id ops draw=>
  intro c hc
  simp only [bN] at hc
  cases draw with
  |true=>
   simp only [if_true] at hc
   split at hc
   · split at hc
     · simp only [Option.map_eq_some_iff] at hc;obtain ⟨zq,has,rfl⟩:=hc;simp only [erase,Px _ _ has]
     · cases hc
   · cases hc
  |false=>simp only [Bool.false_eq_true,if_false,Option.map_eq_some_iff] at hc;obtain ⟨zq,has,rfl⟩:=hc;simp only [erase,S6 _ _ _ (Nat.le_refl _) has]
 |seq a b DI DJ=>
  intro c hc
  simp only [bN] at hc
  split at hc
  case h_2=>cases hc
  rename_i a' b' ha hb
  injection hc with hc
  subst hc
  simp only [erase,DI _ ha,DJ _ hb]
 |cond c0 a b DI DJ=>
  intro c hc
  simp only [bN] at hc
  split at hc
  case h_2=>cases hc
  rename_i c1 a' b' h1 ha hb
  injection hc with hc
  subst hc
  simp only [erase,DI _ ha,DJ _ hb]
 |block i c0 ih=>intro c hc;simp only [bN,Option.map_eq_some_iff] at hc;obtain ⟨a,ha,rfl⟩:=hc;simp only [erase,ih _ ha]
 |loop c0 ih=>intro c hc;simp only [bN,Option.map_eq_some_iff] at hc;obtain ⟨a,ha,rfl⟩:=hc;rfl
 |rangeFunc=>intro c hc;simp [bN] at hc
 |goto=>intro c hc;simp [bN] at hc
 |scope c0 ih=>intro c hc;exact ih c hc
 |refuse=>intro c hc;simp [bN] at hc
inductive It where
 |ops (r:List aM)
 |keep
 |code (c:av)
 |blk (i:Nat)
def U (P:Program) (L:List Nat) (N n0:Nat):List It→(Exit→Env→AH→Prop)→Exit→Env→AH→Prop
 |[],Q,x,e,ah=>Q x e ah
 | .code c::t,Q, .normal,e,ah=>jM P L N n0 c (fun x e ah=>U P L N n0 t Q x e ah) e ah
 | .ops r::t,Q, .normal,e,ah=>eI P L r e ah fun e ah=>U P L N n0 t Q .normal e ah
 | .keep::t,Q, .normal,e,ah=>U P L N n0 t Q .normal (keep L e) ah
 | .blk i::t,Q, .exit j,e,ah=>if j=i then U P L N n0 t Q .normal e ah else U P L N n0 t Q (.exit j) e ah
 | .blk _::t,Q,x,e,ah=>U P L N n0 t Q x e ah
 | .code _::t,Q,x,e,ah=>U P L N n0 t Q x e ah
 | .ops _::t,Q,x,e,ah=>U P L N n0 t Q x e ah
 | .keep::t,Q,x,e,ah=>U P L N n0 t Q x e ah
def UK (P:Program) (L:List Nat) (N n0 f:Nat) (zq:List AV) (d:Option Nat) (r:List aM) (t:List It) (Q:Exit→Env→AH→Prop) (e:Env) (ah:AH):Prop:=
 ay P f zq ah fun v aB=>U P L N n0 (.ops r::t) Q .normal (aC L (vQ e) d v.df) aB
def UF (P:Program) (L:List Nat) (N n0:Nat) (zq:List Ar) (d:Option Nat) (r:List aM) (t:List It) (Q:Exit→Env→AH→Prop) (e:Env) (ah:AH):AV→Prop
 | .fn f caps=>if cc caps then UK P L N n0 f (zq.map (fun x=>(ev e x).sh)++caps.map AV.s1) d r t Q e ah else False
 |_=>False
def US (P:Program) (L:List Nat) (N n0:Nat) (r:List aM) (t:List It) (Q:Exit→Env→AH→Prop):Option (Env×AH)→Prop
 |some (e,ah)=>U P L N n0 (.ops r::t) Q .normal e ah
 |none=>False
def UG (P:Program) (L:List Nat) (N n0:Nat) (o:aM) (r:List aM) (t:List It) (Q:Exit→Env→AH→Prop) (e:Env) (ah:AH):Option Bool→Prop
 |some true=>match o.op with
  | .call f zq=>UF P L N n0 zq o.d r t Q e ah (ev e f)
  | .kP k b x y=>oC L o.d k b x y e ah fun e ah=>U P L N n0 (.ops r::t) Q .normal e ah
  | .nq n x=>Dp L o.d n x e ah fun e ah=>U P L N n0 (.ops r::t) Q .normal e ah
  |_=>US P L N n0 r t Q (bF L o e ah)
 |some false=>U P L N n0 (.ops r::t) Q .normal (oL e o.d) ah
 |none=>False
def UC (P:Program) (L:List Nat) (N n0:Nat) (a b:av) (t:List It) (Q:Exit→Env→AH→Prop) (e:Env) (ah:AH):AV→Prop
 | .bool true=>U P L N n0 (.code a::t) Q .normal e ah
 | .bool false=>U P L N n0 (.code b::t) Q .normal e ah
 |_=>False
def UX (P:Program) (L:List Nat) (N n0:Nat) (c:av) (t:List It) (Q:Exit→Env→AH→Prop) (e:Env) (ah:AH):Prop:=
 AX P L N n0 c (fun x e ah=>U P L N n0 t Q x e ah) e ah
variable {t:List It} {Q:Exit→Env→AH→Prop} {x:Exit}
@[simp] theorem Zs:U P L N n0 [] Q x e ah=Q x e ah:=rfl
@[simp] theorem WX:U P L N n0 (.code .skip::t) Q .normal e ah=U P L N n0 t Q .normal e ah:=rfl
@[simp] theorem Zt:U P L N n0 (.code .ret::t) Q .normal e ah=U P L N n0 t Q .ret e ah:=rfl
@[simp] theorem WY {i:Nat}:U P L N n0 (.code (.exit i)::t) Q .normal e ah=U P L N n0 t Q (.exit i) e ah:=rfl
theorem S7 (b:av):(fun x e ah=>match x with| .normal=>jM P L N n0 b (fun x e ah=>U P L N n0 t Q x e ah) e ah|x=>U P L N n0 t Q x e ah)=fun x e ah=>U P L N n0 (.code b::t) Q x e ah:=by
 funext x e ah
 cases x<;>rfl
@[simp] theorem Zu {a b:av}:U P L N n0 (.code (.seq a b)::t) Q .normal e ah=U P L N n0 (.code a:: .code b::t) Q .normal e ah:=by
  simp only [U,jM]
  exact congrArg (fun K=>jM P L N n0 a K e ah) (S7 b)
@[simp] theorem Zv {i:Nat} {c:av}:U P L N n0 (.code (.blk i c)::t) Q .normal e ah=U P L N n0 (.code c:: .blk i::t) Q .normal e ah:=by
  have:(fun x e ah=>match x with| .exit j=>if j=i then U P L N n0 t Q .normal e ah else U P L N n0 t Q (.exit j) e ah|x=>U P L N n0 t Q x e ah)=fun x e ah=>U P L N n0 (.blk i::t) Q x e ah:=by
   funext x e ah
   cases x<;>rfl
  exact congrArg (fun K=>jM P L N n0 c K e ah) this
@[simp] theorem abN {ops:List aM}:U P L N n0 (.code (.rg ops)::t) Q .normal e ah=U P L N n0 (.ops ops:: .keep::t) Q .normal e ah:=rfl
@[simp] theorem WZ {c:av}:U P L N n0 (.code (.loop c)::t) Q .normal e ah=UX P L N n0 (.loop c) t Q e ah:=rfl
@[simp] theorem Zw {c:av}:U P L N n0 (.code (.sem c)::t) Q .normal e ah=UX P L N n0 c t Q e ah:=rfl
@[simp] theorem W0 {c:Ar} {a b:av}:U P L N n0 (.code (.cond c a b)::t) Q .normal e ah=UC P L N n0 a b t Q e ah (ev e c):=by
  simp only [U,jM]
  cases ev e c with
  |bool t=>cases t<;>rfl
  |_=>rfl
@[simp] theorem W3:U P L N n0 (.keep::t) Q .normal e ah=U P L N n0 t Q .normal (keep L e) ah:=rfl
@[simp] theorem S8 {i:Nat}:U P L N n0 (.blk i::t) Q .normal e ah=U P L N n0 t Q .normal e ah:=rfl
@[simp] theorem S9 {i:Nat}:U P L N n0 (.blk i::t) Q .ret e ah=U P L N n0 t Q .ret e ah:=rfl
@[simp] theorem Ta {i j:Nat}:U P L N n0 (.blk i::t) Q (.exit j) e ah=if j=i then U P L N n0 t Q .normal e ah else U P L N n0 t Q (.exit j) e ah:=rfl
@[simp] theorem Py {c:av}:U P L N n0 (.code c::t) Q .ret e ah=U P L N n0 t Q .ret e ah:=by cases c<;>rfl
@[simp] theorem Pz {c:av} {j:Nat}:U P L N n0 (.code c::t) Q (.exit j) e ah=U P L N n0 t Q (.exit j) e ah:=by cases c<;>rfl
@[simp] theorem LR:U P L N n0 (.ops []::t) Q .normal e ah=U P L N n0 t Q .normal e ah:=rfl
@[simp] theorem Zx {o:aM} {r:List aM}:U P L N n0 (.ops (o::r)::t) Q .normal e ah=UG P L N n0 o r t Q e ah (gB e o):=by
  simp only [U,eI]
  cases gB e o with
  |none=>rfl
  |some b=>
   cases b with
   |false=>rfl
   |true=>
    obtain ⟨d,op,g⟩:=o
    cases op with
    |call f zq=>
     simp only [zI,UG]
     cases ev e f with
     |fn f' caps=>
      simp only [UF,UK]
      by_cases hf:cc caps=true
      · simp only [hf,if_true,true_and];rfl
      · simp [hf]
     |_=>rfl
    |kP k b x y=>rfl
    |nq n x=>rfl
    |_=>
     simp only [zI,UG,US]
     cases bF L ⟨d,_,g⟩ e ah with
     |none=>rfl
     |some ea=>obtain ⟨e',aB⟩:=ea;rfl
@[simp] theorem Tb {r:List aM} {e':Env} {aB:AH}:US P L N n0 r t Q (some (e',aB))=U P L N n0 (.ops r::t) Q .normal e' aB:=rfl
@[simp] theorem PA {o:aM} {r:List aM}:UG P L N n0 o r t Q e ah (some false)=U P L N n0 (.ops r::t) Q .normal (oL e o.d) ah:=rfl
@[simp] theorem Tc {a b:av}:UC P L N n0 a b t Q e ah (.bool true)=U P L N n0 (.code a::t) Q .normal e ah:=rfl
@[simp] theorem PB {a b:av}:UC P L N n0 a b t Q e ah (.bool false)=U P L N n0 (.code b::t) Q .normal e ah:=rfl
@[simp] theorem Zy {zq:List Ar} {d:Option Nat} {r:List aM} {f:Nat} {caps:List AV}:UF P L N n0 zq d r t Q e ah (.fn f caps)=
 if cc caps then UK P L N n0 f (zq.map (fun x=>(ev e x).sh)++caps.map AV.s1) d r t Q e ah else False:=rfl
theorem abn {a b:av} {v:Bool} (h1:v=true→U P L N n0 (.code a::t) Q .normal e ah) (h2:v=false→U P L N n0 (.code b::t) Q .normal e ah):UC P L N n0 a b t Q e ah (.bool v):=by
 cases v
 · exact h2 rfl
 · exact h1 rfl
theorem adT {f:Nat} {zq:List AV} {d:Option Nat} {r:List aM} {R:AV→AH→Prop} (h:ay P f zq ah R) (hk:∀v aB,R v aB→U P L N n0 (.ops r::t) Q .normal (aC L (vQ e) d v.df) aB):
 UK P L N n0 f zq d r t Q e ah:=h.mono hk
theorem abO {c:av} (I:Nat→Env→AH→Prop) {k0:Nat} (ho:qs N c=true)
 (round:∀k e ah,I k e ah→U P L N n0 [.code c] (fun x e' aB=>match x with| .normal=>∃k',k'<k∧I k' e' aB|x=>U P L N n0 t Q x e' aB) .normal e ah) (h0:I k0 e ah):
 UX P L N n0 (.loop c) t Q e ah:=by
 intro c'
 induction c' with
 |loop c0 _=>
  intro bZ
  simp only [bN,Option.map_eq_some_iff] at bZ
  obtain ⟨a,ha,he⟩:=bZ
  injection he with he
  subst he
  exact AW.loop I (fun k e ah hI=>oz c0 a _ e ah (by rw [jk c0 a ha];exact ha) (by rw [jk c0 a ha];exact ho) (round k e ah hI)) h0
 |scope c0 ih=>exact fun bZ=>AW.scope (ih bZ)
 |region id ops draw=>intro bZ;simp only [bN] at bZ;repeat' (split at bZ)<;>simp at bZ
 |block i c0=>intro bZ;simp only [bN,Option.map_eq_some_iff] at bZ;obtain ⟨a, -,h⟩:=bZ;cases h
 |seq a b=>intro bZ;simp only [bN] at bZ;split at bZ<;>simp at bZ
 |cond a b c=>intro bZ;simp only [bN] at bZ;split at bZ<;>simp at bZ
 |_=>intro bZ;simp [bN] at bZ
end
end Go.Am
end
section
namespace Go.Am
open Go
variable [Tabs]
def AV.eV:AV→Bool
 | .bz _=>true
 |_=>false
def gD (P:Program) (e:Env) (ah:AH):List ResultVar→Option (List AV)
 |[]=>some []
 | .tmp t::r=>if (get e t).eV then none else match gD P e ah r with
   |some vs=>some (get e t::vs)
   |none=>none
 | .cell a ty::r=>if tok P ty then
  match get e a with
  | .ptr s o=>match ah[s]? with
    |some cs=>match kQ (tn P ty) s o cs,gD P e ah r with
     |some v,some vs=>some (v.sh::vs)
     |_,_=>none
    |none=>none
  |_=>none
   else none
def fin:List AV→AV
 |[a]=>a.df
 |l=> .bz (l.map AV.sh)
inductive Cl (n:Nat):AV→Prop
 |ptr (s o):s<n→Cl n (.ptr s o)
 |fn (f cs):(∀a∈cs,Cl n a)→Cl n (.fn f cs)
 |agg (cs):(∀a∈cs,Cl n a)→Cl n (.agg cs)
 |bz (cs):(∀a∈cs,Cl n a)→Cl n (.bz cs)
 |v (x):Cl n (.v x)
 |int (k i):Cl n (.int k i)
 |bool (b):Cl n (.bool b)
 |str (l):Cl n (.str l)
 |sl (t k xs):Cl n (.sl t k xs)
 |ep (e o):(∀a∈e.cells,Cl n a)→Cl n (.ep e o)
 |cw (s k o m):s<n→Cl n (.cw s k o m)
 |oF (s k):Cl n (.b5 s k 0 0)
 |b5 (s k m c):s<n→Cl n (.b5 s k m c)
 |ef:Cl n .ef
 |dc (t):Cl n (.dc t)
 |cV (e l):Cl n (.cV e l)
 |un:Cl n .un
@[simp] theorem W4 {n s k o m:Nat}:Cl n (.cw s k o m)↔s<n:=⟨fun h=>by cases h;assumption, .cw _ _ _ _⟩
@[simp] theorem adB {n:Nat}:Cl n .ef:= .ef
@[simp] theorem adC {n:Nat} {t:TypeId}:Cl n (.dc t):= .dc _
@[simp] theorem adD {n:Nat} {e:TypeId} {l:List UInt8}:Cl n (.cV e l):= .cV ..
@[simp] theorem W5 {n s o:Nat}:Cl n (.ptr s o)↔s<n:=⟨fun h=>by cases h;assumption, .ptr _ _⟩
@[simp] theorem Zz {n f:Nat} {cs:List AV}:Cl n (.fn f cs)↔∀a∈cs,Cl n a:=⟨fun h=>by cases h;assumption, .fn _ _⟩
@[simp] theorem W6 {n:Nat} {cs:List AV}:Cl n (.agg cs)↔∀a∈cs,Cl n a:=⟨fun h=>by cases h;assumption, .agg _⟩
@[simp] theorem W7 {n:Nat} {cs:List AV}:Cl n (.bz cs)↔∀a∈cs,Cl n a:=⟨fun h=>by cases h;assumption, .bz _⟩
@[simp] theorem aeh {n:Nat} {x:Value}:Cl n (.v x):= .v _
@[simp] theorem adE {n:Nat} {k:IntKind} {i:Int}:Cl n (.int k i):= .int ..
@[simp] theorem abP {n:Nat} {b:Bool}:Cl n (.bool b):= .bool _
@[simp] theorem adF {n:Nat} {l:List UInt8}:Cl n (.str l):= .str _
@[simp] theorem adU {n:Nat} {t:Tg} {k:Nat} {xs:List AV}:Cl n (.sl t k xs):= .sl ..
@[simp] theorem ZA {n:Nat} {e:AV} {o:Nat}:Cl n (.ep e o)↔∀a∈e.cells,Cl n a:=⟨fun h=>by cases h;assumption, .ep _ _⟩
@[simp] theorem aei {n:Nat}:Cl n .un:= .un
def lV (n:Nat) (ah:AH):Prop:=∀(s:Nat) (cs:List AV),ah[s]? =some cs→∀a∈cs,Cl n a
def LS (P:Program) (n:Nat) (rs:List ResultVar) (R:AV→AH→Prop) (x:Exit) (e:Env) (ah:AH):Prop:=
 (x= .normal∨x= .ret)∧match gD P e ah rs with
  |some vs=>Cl n (fin vs)∧lV n (ah.take n)∧n≤ah.length∧R (fin vs) (ah.take n)
  |none=>False
section
variable {P:Program} {L:List Nat} {N n0:Nat} {F:Nat→Prop} {γ:List Nat} {C C':Nat→List Value} {e:Env} {ah:AH} {ts:Array Value} {w w':World}
theorem VR.take {a:AV} {v:Value} {n:Nat} (h:VR C γ a v):Cl n a→VR C (γ.take n) a v:=by
 induction h with
 |v _ _ hs=>intro _;exact .v _ _ hs
 |un=>intro _;exact .un ..
 |int=>intro _;exact .int ..
 |bool=>intro _;exact .bool ..
 |str=>intro _;exact .str ..
 |ptr _ s o b hb=>intro hn;exact .ptr _ _ _ _ (by rw [List.getElem?_take_of_lt (W5.1 hn)];exact hb)
 |cw _ s k o n b c hb hn'=>intro hn;exact .cw _ _ _ _ _ _ _ (by rw [List.getElem?_take_of_lt (W4.1 hn)];exact hb) hn'
 |oF=>intro _;exact .oF ..
 |b5 _ s k n b c hb hn'=>
  intro hn
  cases hn with
  |oF=>exact .oF ..
  |b5 _ _ _ _ hs=>exact .b5 _ _ _ _ _ _ (by rw [List.getElem?_take_of_lt hs];exact hb) hn'
 |ef=>intro _;exact .ef ..
 |dc=>intro _;exact .dc ..
 |cV=>intro _;exact .cV ..
 |rK=>intro _;exact .rK ..
 |sl _ _ _ _ b o n c hn' hc hk hl ho hx=>intro _;exact .sl _ _ _ _ _ _ _ _ hn' hc hk hl ho hx
 |ep _ _ _ b p hl hx ih=>intro hn;exact .ep _ _ _ _ _ hl fun j a hj=>ih j a hj (ZA.1 hn a (List.mem_of_getElem? hj))
 |agg _ cs vs hl hx ih=>intro hn;exact .agg _ _ _ hl fun i a hi=>ih i a hi (W6.1 hn a (List.mem_of_getElem? hi))
 |bz _ cs vs hl hx ih=>intro hn;exact .bz _ _ _ hl fun i a hi=>ih i a hi (W7.1 hn a (List.mem_of_getElem? hi))
 |fn _ f cs vs hl hx ih=>intro hn;exact .fn _ _ _ _ hl fun i a hi=>ih i a hi (Zz.1 hn a (List.mem_of_getElem? hi))
theorem VR.cl {a:AV} {v:Value} (h:VR C γ a v):Cl γ.length a:=by
 have mem:∀ {cs:List AV} {a:AV},a∈cs→∃i:Nat,cs[i]? =some a:=fun ha=>by
  obtain ⟨i,hi,rfl⟩:=List.getElem_of_mem ha;exact ⟨i,List.getElem?_eq_getElem hi⟩
 induction h with
 |ptr _ s o b hb=>exact .ptr _ _ (List.getElem?_eq_some_iff.1 hb).1
 |agg _ cs vs hl hx ih=>exact .agg _ fun a ha=>by obtain ⟨i,hi⟩:=mem ha;exact ih i a hi
 |bz _ cs vs hl hx ih=>exact .bz _ fun a ha=>by obtain ⟨i,hi⟩:=mem ha;exact ih i a hi
 |fn _ f cs vs hl hx ih=>exact .fn _ _ fun a ha=>by obtain ⟨i,hi⟩:=mem ha;exact ih i a hi
 |cw _ s k o n b c hb _=>exact .cw _ _ _ _ (List.getElem?_eq_some_iff.1 hb).1
 |oF=>exact .oF ..
 |b5 _ s k n b c hb _=>exact .b5 _ _ _ _ (List.getElem?_eq_some_iff.1 hb).1
 |ef=>exact .ef
 |dc=>exact .dc _
 |cV=>exact .cV ..
 |v=>exact .v _
 |un=>exact .un
 |int=>exact .int ..
 |bool=>exact .bool _
 |str=>exact .str _
 |rK=>exact .sl ..
 |sl=>exact .sl ..
 |ep _ _ _ b p hl hx ih=>exact .ep _ _ fun a ha=>by obtain ⟨i,hi⟩:=mem ha;exact ih i a hi
theorem LU (h:SR L N F γ C e ah ts w) {a s o:Nat} {ty:TypeId} (ht:tok P ty=true) (hp:get e a= .ptr s o) {cs:List AV} (hs:ah[s]? =some cs) {v:AV} (hl:kQ (tn P ty) s o cs=some v):
 ∃u ad,ts.getD a undef= .pointer (some ad)∧(loadVar ty ad).run P w= .ok u w∧VR C γ v.sh u∧TC w C v.sh u:=by
 have hv:=(h.env a).1
 rw [hp] at hv
 obtain ⟨b,hb,hv⟩:=hv.fM
 obtain ⟨vs,tv,hh,hsz,hcell⟩:=h.mem.obj s b cs hs hb
 have vJ:=ck hh
 cases hn:tn P ty with
 |some n=>
  simp only [hn,kQ] at hl
  split at hl
  case isFalse=>cases hl
  rename_i hq
  obtain ⟨hq,hfl⟩:=hq
  injection hl with hl
  subst hl
  obtain ⟨r,hr,hrs,hrc⟩:=(run_load (w:=w) ht (b:=b) (o:=o)).1 n hn (fun j hj=>by
   rw [vJ];exact ⟨_,Array.getElem?_eq_getElem (by omega)⟩)
  obtain rfl:r=vs.extract o (o+n):=by
   apply Array.ext_getElem?
   intro j
   by_cases hj:j<n
   · rw [hrc j hj,vJ,Array.getElem?_extract,if_pos (by omega)]
   · rw [Array.getElem?_eq_none (by omega),Array.getElem?_eq_none (by simp;omega)]
  refine ⟨_,_,hv,hr, ?_, ?_⟩
  · exact (Wk.sh _).vr ((Wk.nY _ Wk.bP _).vr (Du hsz (fun i a hi=>(hcell i a hi).1) hq))
  · exact (Wk.sh _).tc ((Wk.nY _ Wk.bP _).tc (vI hsz (fun i a hi hin=>zB (hcell _ a hi).2 (ji hfl (i:=i) (by rw [List.getElem?_take_of_lt hin,List.getElem?_drop];exact hi))) hq))
 |none=>
  simp only [hn,kQ] at hl
  have vK:∀c,cs[o]? =some c→w.cell? ⟨b,o,none⟩=some (vs.getD o undef):=by
   intro c jj
   have hlt:o<vs.size:=Nat.lt_of_lt_of_le (List.getElem?_eq_some_iff.1 jj).1 hsz
   rw [vJ];simp [Array.getD_eq_getD_getElem?,Array.getElem?_eq_getElem hlt]
  split at hl
  · rename_i k xs jj
    injection hl with hl
    subst hl
    have hr:=(run_load (w:=w) ht (b:=b) (o:=o)).2 _ hn (vK _ jj)
    exact ⟨_,_,hv,hr,(hcell o _ jj).1.jL _,by simp only [AV.sh,AV.bP,Tg.sh];cases (vs.getD o undef)<;>trivial⟩
  · rename_i c hno jj
    split at hl
    case isFalse=>cases hl
    rename_i hfl
    injection hl with hl
    subst hl
    have hr:=(run_load (w:=w) ht (b:=b) (o:=o)).2 _ hn (vK _ jj)
    refine ⟨_,_,hv,hr, ?_, ?_⟩
    · exact (Wk.sh _).vr ((Wk.iK (Wk.bP c)).vr (hcell o _ jj).1)
    · exact (Wk.sh _).tc (Dg (zB (hcell o _ jj).2 hfl))
  · cases hl
theorem W8 (h:SR L N F γ C e ah ts w):∀(rs:List ResultVar) (vs:List AV),gD P e ah rs=some vs→
 ∃us:List Value,(rs.mapM fun| .tmp t=>pure (ts.getD t undef)| .cell a t=>do loadVar t (←asAddr (ts.getD a undef)):Sem (List Value)).run P w= .ok us w∧us.length=vs.length∧
  (∀(i:Nat) (a:AV),vs[i]? =some a→VR C γ a (us.getD i undef)∧TC w C a (us.getD i undef))∧
  (∀(i:Nat) (a:AV) (b:Nat),vs[i]? =some a→bD a (us.getD i undef)=some b→∃t,blk γ e ah ts w (.tmp t) b)∧∀(i:Nat) (a:AV),vs[i]? =some a→a.eV=false:=by
 intro rs
 induction rs with
 |nil=>intro vs hr;simp [gD] at hr;subst hr;exact ⟨[],rfl,rfl,by simp,by simp,by simp⟩
 |cons r rs ih=>
  intro vs hr
  cases r with
  |tmp t=>
   simp only [gD] at hr
   split at hr
   case isTrue=>cases hr
   rename_i hnt
   split at hr
   case h_2=>cases hr
   rename_i vs' hvs
   injection hr with hr
   subst hr
   obtain ⟨us,h1,h2,h3,h4,h5⟩:=ih vs' hvs
   refine ⟨ts.getD t undef::us, ?_,by simp [h2],fun i a hi=> ?_,fun i a b hi hb=> ?_,fun i a hi=>by
    cases i with
    |zero=>simp at hi;subst hi;simpa using hnt
    |succ i=>exact h5 i a (by simpa using hi)⟩
   · simp only [List.mapM_cons,Sem.run_bind,Sem.run_pure,Result.andThen_ok,h1]
   · cases i with
     |zero=>simp at hi;subst hi;exact h.env t
     |succ i=>exact h3 i a (by simpa using hi)
   · cases i with
     |zero=>simp at hi;subst hi;exact ⟨t,hb⟩
     |succ i=>exact h4 i a b (by simpa using hi) hb
  |cell a ty=>
   simp only [gD] at hr
   split at hr
   case isFalse=>cases hr
   rename_i ht
   split at hr
   case h_2=>cases hr
   rename_i s o hp
   split at hr
   case h_2=>cases hr
   rename_i cs hs
   split at hr
   case h_2=>cases hr
   rename_i v vs' hv hvs
   injection hr with hr
   subst hr
   obtain ⟨us,h1,h2,h3,h4,h5⟩:=ih vs' hvs
   obtain ⟨u,ad,g1,g2,g3,g4⟩:=LU (P:=P) h ht hp hs hv
   have hnt:v.sh.eV=false:=by
    unfold kQ at hv
    split at hv
    · split at hv<;>simp at hv;subst hv;rfl
    · split at hv
      · injection hv with hv;subst hv;rfl
      · split at hv<;>simp at hv
        rename_i c _ _ hf
        subst hv
        cases c<;>first|rfl|cases hf
      · cases hv
   refine ⟨u::us, ?_,by simp [h2],fun i a hi=> ?_,fun i a b hi hb=> ?_,fun i a hi=>by
    cases i with
    |zero=>simp at hi;subst hi;exact hnt
    |succ i=>exact h5 i a (by simpa using hi)⟩
   · have hA:(asAddr (ts.getD a undef)).run P w= .ok ad w:=by rw [g1];rfl
     simp only [List.mapM_cons,Sem.run_bind,hA,Sem.run_pure,Result.andThen_ok,g2,h1]
   · cases i with
     |zero=>simp at hi;subst hi;exact ⟨g3,g4⟩
     |succ i=>exact h3 i a (by simpa using hi)
   · cases i with
     |zero=>simp at hi;subst hi;rw [iE _ (gT (sK v))] at hb;cases hb
     |succ i=>exact h4 i a b (by simpa using hi) hb
def YG (P:Program) (n0:Nat) (rs:List ResultVar) (R:AV→AH→Prop) (x:Exit) (e:Env) (ah:AH):Prop:=
 (∃m,n0≤m∧LS P m rs R x e ah)∨((x= .normal∨x= .ret)∧match gD P e ah rs with
  |some vs=>R (fin vs) ah
  |none=>False)
theorem ay.Ov {f:Nat} {fn:Func} {c:Code} {ac:av} {args:List AV} {R:AV→AH→Prop} (L:List Nat) (hf:P.funcs[f]? =some fn) (hname:fn.name≠ "runtime.NumGoroutine") (hb:fn.body=some c)
 (hc:bN P c=some ac) (ho:qs fn.ntmps ac=true) (hN:args.length≤fn.ntmps)
 (h:lV ah.length ah→(∀a∈args,∀s o,a= .ptr s o→s<ah.length)→AX P L fn.ntmps ah.length ac (YG P ah.length fn.results.toList R) (fo 0 args) ah):ay P f args ah R:=by
 refine ⟨by simp [fJ,hf,hb,hname],fun F γ C w vs hs=> ?_⟩
 have hlen:=hs.mem.len
 have hcl:lV ah.length ah:=by
  intro s cs JK
  have hlt:s<γ.length:=by rw [hlen];exact (List.getElem?_eq_some_iff.1 JK).1
  obtain ⟨us,ty, -,hsz,hcell⟩:=hs.mem.obj s _ cs JK (List.getElem?_eq_getElem hlt)
  intro a ha
  obtain ⟨i,hi,rfl⟩:=List.getElem_of_mem ha
  rw [←hlen]
  exact (hcell i _ (List.getElem?_eq_getElem hi)).1.cl
 have hargs:∀a∈args,∀s o,a= .ptr s o→s<ah.length:=by
  intro a ha s o he
  obtain ⟨i,hi,rfl⟩:=List.getElem_of_mem ha
  have:=(hs.env i).1
  rw [dy] at this
  simp only [Nat.zero_le,if_true,Nat.sub_zero,List.getElem?_eq_getElem hi,Option.getD_some,he] at this
  obtain ⟨b,hb, -⟩:=this.fM
  rw [←hlen];exact (List.getElem?_eq_some_iff.1 hb).1
 have hU:=h hcl hargs
 have hW:AW P L fn.ntmps ah.length c (YG P ah.length fn.results.toList R) (fo 0 args) ah:=hU c hc
 have hvs:vs.size=args.length:=hs.sz
 have hs2:SR L fn.ntmps F γ C (fo 0 args) ah (vs++Array.replicate (fn.ntmps - vs.size) undef) w:=by
  have hg:∀t,t<vs.size→(vs++Array.replicate (fn.ntmps - vs.size) undef).getD t undef=vs.getD t undef:=by
   intro t ht;simp [Array.getD_eq_getD_getElem?,Array.getElem?_append,ht]
  have hx:∀t,¬t<vs.size→get (fo 0 args) t= .un:=by
   intro t ht;rw [dy];simp only [Nat.zero_le,if_true,Nat.sub_zero];rw [List.getElem?_eq_none (by omega)];rfl
  have hbk:∀p b,blk γ (fo 0 args) ah (vs++Array.replicate (fn.ntmps - vs.size) undef) w p b→blk γ (fo 0 args) ah vs w p b:=by
   intro p b hp
   cases p with
   |obj s=>exact hp
   |cell s i=>exact hp
   |tmp t=>
    by_cases ht:t<vs.size
    · simp only [blk,hg t ht] at hp ⊢;exact hp
    · simp only [blk,hx t ht,bD] at hp;cases hp
  refine ⟨hs.mem,by simp;omega,fun t=> ?_,fun p q b hp hq=>hs.dm p q b (hbk p b hp) (hbk q b hq),fun p b hp=>hs.nf p b (hbk p b hp),hs.ij,fun t l k xs htl=> ?_⟩
  · by_cases ht:t<vs.size
    · rw [hg t ht];exact hs.env t
    · rw [hx t ht];exact ⟨.un ..,by generalize (vs++Array.replicate (fn.ntmps - vs.size) undef).getD t undef=v;cases v<;>trivial⟩
  · by_cases ht:t<vs.size
    · have:=hs.fr t l k xs htl
      cases l with
      |tmp u=>have:=this.1;simp at this
      |cell s o=>intro cs a b h1 h2 h3 h4;rw [hg t ht];exact this cs a b h1 h2 h3 h4
    · rw [hx t ht] at htl;cases htl
 refine calls_of_wp hf hb (wp_mono (hW F γ C _ w hs2 (by omega)) ?_)
 rintro x ⟨ts',ds'⟩ w' ⟨rfl, -,e',aB,γ',C',ZB,hγ,hs',abQ⟩
 have hx:x= .normal∨x= .ret:=by
  rcases ZB with ⟨m, -,h, -⟩|⟨h, -⟩<;>exact h
 obtain ⟨vT,LB⟩:∃vT,gD P e' aB fn.results.toList=some vT:=by
  rcases ZB with ⟨m, -, -,h⟩|⟨-,h⟩
  · split at h
    · rename_i vs hv;exact ⟨vs,hv⟩
    · exact h.elim
  · split at h
    · rename_i vs hv;exact ⟨vs,hv⟩
    · exact h.elim
 obtain ⟨us,u1,u2,u3,u4,u5⟩:=W8 (P:=P) hs' _ _ LB
 have hres:(results fn ts').run P w'= .ok (if us.length=1 then us.getD 0 undef else .tuple us.toArray) w':=by
  unfold results
  rw [Array.mapM_eq_mapM_toList,map_eq_pure_bind]
  simp only [Sem.run_bind,Sem.run_pure]
  refine (congrArg (fun r=>Result.andThen (Result.andThen r fun (a:List Value) w'=> .ok a.toArray w') fun (a:Array Value) w'=> .ok (if h:a.size=1 then a[0] else Value.tuple a) w') u1).trans ?_
  simp only [Result.andThen_ok]
  by_cases h1:us.length=1
  · rw [if_pos h1]
    have:us.toArray.size=1:=by simpa using h1
    rw [dif_pos this]
    simp [List.getD_eq_getElem?_getD,h1]
  · rw [if_neg h1]
    have:¬us.toArray.size=1:=by simpa using h1
    rw [dif_neg this]
 generalize hv:(if us.length=1 then us.getD 0 undef else .tuple us.toArray)=v at hres
 have Ch:VR C' γ' (fin vT) v∧TC w' C' (fin vT) v∧(∀b,bD (fin vT) v=some b→∃t,blk γ' e' aB ts' w' (.tmp t) b)∧∀l k xs,fin vT≠ .sl (.fr l) k xs:=by
  by_cases h1:us.length=1
  · rw [if_pos h1] at hv
    obtain ⟨a,rfl⟩:∃a,vT=[a]:=by
     cases vT with
     |nil=>rw [h1] at u2;simp at u2
     |cons a r=>cases r with
      |nil=>exact ⟨a,rfl⟩
      |cons b r=>rw [h1] at u2;simp at u2
    have h3:=u3 0 a rfl
    rw [hv] at h3
    refine ⟨(Wk.df a).vr h3.1,(Wk.df a).tc h3.2,fun b hb=>u4 0 a b rfl ?_,fun l k xs=>Lz a l k xs⟩
    rw [hv];exact (Wk.df a).own hb
  · rw [if_neg h1] at hv
    have hf:fin vT= .bz (vT.map AV.sh):=by
     cases vT with
     |nil=>rfl
     |cons a r=>cases r with
      |nil=>exact absurd (by simpa using u2) h1
      |cons b r=>rfl
    rw [hf]
    subst hv
    refine ⟨.bz _ _ _ (by simp [u2]) fun i a hi=> ?_,fun i a hi=> ?_,fun b hb=>by simp [bD] at hb,by simp⟩
    · rw [List.getElem?_map] at hi
      cases hq:vT[i]? with
      |none=>rw [hq] at hi;simp at hi
      |some y=>
       rw [hq] at hi
       obtain rfl:y.sh=a:=by simpa using hi
       have:=(Wk.sh y).vr (u3 i y hq).1
       rwa [←gU]
    · rw [List.getElem?_map] at hi
      cases hq:vT[i]? with
      |none=>rw [hq] at hi;simp at hi
      |some y=>
       rw [hq] at hi
       obtain rfl:y.sh=a:=by simpa using hi
       have h3:=(Wk.sh y).tc (u3 i y hq).2
       have h4:=(Wk.sh y).vr (u3 i y hq).1
       rw [←gU]
       show GO y.sh (us.getD i undef)
       have h5:y.sh.eV=false:=by have:=u5 i y hq;cases y<;>first|rfl|cases this
       generalize us.getD i undef=u at h3 h4
       generalize hz:y.sh=z at h3 h4 h5
       cases z with
       |agg cs=>obtain ⟨vs,rfl, -⟩:=h4.mL;exact h3
       |bz cs=>cases h5
       |sl t k xs=>cases t<;>cases u<;>first|trivial|exact h3|(exfalso;cases y<;>simp [AV.sh,AV.bP] at hz;done)|skip
       |_=>cases u<;>trivial
 obtain ⟨m,hm,hrc,abR,aej,hRR⟩:∃m,ah.length≤m∧Cl m (fin vT)∧lV m (aB.take m)∧m≤aB.length∧R (fin vT) (aB.take m):=by
  rcases ZB with ⟨m,hm, -,h⟩|⟨-,h⟩
  · rw [LB] at h
    exact ⟨m,hm,h⟩
  · rw [LB] at h
    have hl:aB.take aB.length=aB:=List.take_length
    refine ⟨aB.length, ?_, ?_, ?_,Nat.le_refl _,by rw [hl];exact h⟩
    · rw [←hs'.mem.len]
      have:=hγ.length_le
      rw [←hlen,List.take_length] at this
      omega
    · rw [←hs'.mem.len];exact Ch.1.cl
    · rw [hl]
      intro s cs JK
      have hlt:s<γ'.length:=by rw [hs'.mem.len];exact (List.getElem?_eq_some_iff.1 JK).1
      obtain ⟨us',ty', -,aek,Dj⟩:=hs'.mem.obj s _ cs JK (List.getElem?_eq_getElem hlt)
      intro a ha
      obtain ⟨i,hi,rfl⟩:=List.getElem_of_mem ha
      rw [←hs'.mem.len]
      exact (Dj i _ (List.getElem?_eq_getElem hi)).1.cl
 have hm0:ah.length≤m:=hm
 have hlen':=hs'.mem.len
 have hpre:γ <+: γ'.take m:=by
  rw [←hlen,List.take_length] at hγ
  obtain ⟨q,rfl⟩:=hγ
  rw [List.take_append]
  rw [List.take_of_length_le (l:=γ) (i:=m) (by omega)]
  exact List.prefix_append _ _
 have hbp:bodyPost P fn (fun en w'=>∃r v aB γ' C',en= .returned v∧R r aB∧γ <+: γ'∧SR [] 1 F γ' C' [(0,r)] aB #[v] w'∧Ext F C w C' w') x ⟨ts',[]⟩ w':=by
  have key:∃v',(results fn ts').run P w'= .ok v' w'∧∃r v aB γ' C',Ending.returned v'= .returned v∧R r aB∧γ <+: γ'∧SR [] 1 F γ' C' [(0,r)] aB #[v] w'∧Ext F C w C' w':=by
   refine ⟨v,hres,fin vT,v,aB.take m,γ'.take m,C',rfl,hRR,hpre, ?_,abQ⟩
   have hgt:∀(s b:Nat),(γ'.take m)[s]? =some b→γ'[s]? =some b∧s<m:=by
    intro s b hsb
    by_cases Cw:s<m
    · rw [List.getElem?_take_of_lt Cw] at hsb;exact ⟨hsb,Cw⟩
    · rw [List.getElem?_eq_none (by simp;omega)] at hsb;cases hsb
   have A4:∀(s:Nat) (cs:List AV),(aB.take m)[s]? =some cs→aB[s]? =some cs:=by
    intro s cs hsb
    by_cases Cw:s<m
    · rwa [List.getElem?_take_of_lt Cw] at hsb
    · rw [List.getElem?_eq_none (by simp;omega)] at hsb;cases hsb
   have hbk:∀p b,blk (γ'.take m) [(0,fin vT)] (aB.take m) #[v] w' p b→(∃t,p= .tmp 0∧blk γ' e' aB ts' w' (.tmp t) b)∨((∀t,p≠ .tmp t)∧blk γ' e' aB ts' w' p b):=by
    intro p b hp
    cases p with
    |obj s=>exact .inr ⟨by simp,(hgt s b hp).1⟩
    |cell s i=>
     obtain ⟨cs,a,b0,g1,g2,g3,g4⟩:=hp
     exact .inr ⟨by simp,cs,a,b0,A4 s cs g1,g2,(hgt s b0 g3).1,g4⟩
    |tmp t=>
     simp only [blk,get] at hp
     by_cases ht:0=t
     · subst ht
       simp only [if_true] at hp
       obtain ⟨t,ht⟩:=Ch.2.2.1 b hp
       exact .inl ⟨t,rfl,ht⟩
     · rw [if_neg ht] at hp;simp [bD] at hp
   refine ⟨⟨by simp [hlen'],fun s b cs g1 g2=> ?_,hs'.mem.nX,fun s b cs g1 g0 hsb=>hs'.mem.kF s b cs (A4 s cs g1) g0 (hgt s b hsb).1,fun s b cs us ty fr g1 hsb hh=>hs'.mem.vH s b cs us ty fr (A4 s cs g1) (hgt s b hsb).1 hh,fun s b cs T g1 hsb h0=>hs'.mem.ym s b cs T (A4 s cs g1) (hgt s b hsb).1 h0⟩,rfl,fun t=> ?_,fun p q b hp hq=> ?_,fun p b hp=> ?_,hs'.ij,fun t l k xs htl=> ?_⟩
   · obtain ⟨vs,ty,q1,q2,q3⟩:=hs'.mem.obj s b cs (A4 s cs g1) (hgt s b g2).1
     exact ⟨vs,ty,q1,q2,fun i a hi=>⟨(q3 i a hi).1.take (abR s cs g1 a (List.mem_of_getElem? hi)),(q3 i a hi).2⟩⟩
   · by_cases ht:0=t
     · subst ht
       simp only [get,if_true]
       exact ⟨Ch.1.take hrc,Ch.2.1⟩
     · simp only [get,if_neg ht]
       exact ⟨.un ..,by generalize (#[v]:Array Value).getD t undef=u;cases u<;>trivial⟩
   · rcases hbk p b hp with ⟨t,rfl,h1⟩|⟨h1,h2⟩<;>rcases hbk q b hq with ⟨u,rfl,h3⟩|⟨h3,h4⟩
     · rfl
     · exact absurd (hs'.dm _ _ b h1 h4) (fun e=>h3 t e.symm)
     · exact absurd (hs'.dm _ _ b h2 h3) (h1 u)
     · exact hs'.dm p q b h2 h4
   · rcases hbk p b hp with ⟨t,rfl,h1⟩|⟨h1,h2⟩
     · exact hs'.nf _ b h1
     · exact hs'.nf p b h2
   · by_cases ht:0=t
     · subst ht
       simp only [get,if_true] at htl
       exact absurd htl (Ch.2.2.2 l k xs)
     · simp only [get,if_neg ht] at htl;cases htl
  rcases hx with rfl|rfl
  · exact ⟨rfl,key⟩
  · exact ⟨rfl,key⟩
 exact hbp
theorem AX.up {c:av} {Q Q':Exit→Env→AH→Prop} {e:Env} {ah:AH} {n0:Nat} (h:AX P L N n0 c Q e ah) (hq:∀x e ah,Q x e ah→Q' x e ah):AX P L N n0 c Q' e ah:=fun c' bZ=>(h c' bZ).mono hq
theorem ay.enter {f:Nat} {fn:Func} {c:Code} {ac:av} {args:List AV} {R:AV→AH→Prop} (L:List Nat) (m:Nat) (hf:P.funcs[f]? =some fn) (hname:fn.name≠ "runtime.NumGoroutine") (hb:fn.body=some c)
 (hc:bN P c=some ac) (ho:qs fn.ntmps ac=true) (hN:args.length≤fn.ntmps) (hm:ah.length≤m)
 (h:lV ah.length ah→(∀a∈args,∀s o,a= .ptr s o→s<ah.length)→U P L fn.ntmps ah.length [.code ac] (LS P m fn.results.toList R) .normal (fo 0 args) ah):ay P f args ah R:=
 ay.Ov L hf hname hb hc ho hN fun h1 h2=>AX.up (fun c' bZ=>oz c' ac _ _ _ (by rw [jk c ac hc];exact bZ) (by rw [jk c ac hc];exact ho) (h h1 h2)) fun x e H hR=> .inl ⟨m,hm,hR⟩
end
end Go.Am
end
section
namespace Go.Am
open Go
variable [Tabs]
def bu (P:Program) (f N:Nat) (rs:List ResultVar) (ac:av):Prop:=
 ∃fn c,P.funcs[f]? =some fn∧fn.name≠ "runtime.NumGoroutine" ∧fn.body=some c∧bN P c=some ac∧fn.ntmps=N∧fn.results.toList=rs
theorem ay.go {P:Program} {f N:Nat} {rs:List ResultVar} {ac:av} (hF:bu P f N rs ac) {args:List AV} {ah:AH} {R:AV→AH→Prop} (L:List Nat) (m:Nat)
 (ho:qs N ac=true) (hN:args.length≤N) (hm:ah.length≤m)
 (h:lV ah.length ah→(∀a∈args,∀s o,a= .ptr s o→s<ah.length)→U P L N ah.length [.code ac] (LS P m rs R) .normal (fo 0 args) ah):ay P f args ah R:=by
 obtain ⟨fn,c,h1,h2,h3,h4,rfl,rfl⟩:=hF
 exact ay.enter L m h1 h2 h3 h4 ho hN hm h
section
variable {P:Program} {L:List Nat} {N n0:Nat} {e:Env} {ah:AH} {t:List It} {Q:Exit→Env→AH→Prop} {r:List aM} {d:Option Nat} {g:Option (Nat×Bool)}
def ZC (want:Bool):AV→Option Bool
 | .bool b=>some (b==want)
 | .bz []=>some false
 |_=>none
theorem W9 {op:fI}:gB e ⟨d,op,none⟩=some true:=rfl
theorem Xa {op:fI} {x:Nat} {want:Bool}:gB e ⟨d,op,some (x,want)⟩=ZC want (get e x):=by
 simp only [gB]
 cases get e x with
 |bz cs=>cases cs<;>rfl
 |_=>rfl
theorem Xb {want:Bool}:ZC want (.bz [])=some false:=rfl
theorem PC {b want:Bool}:ZC want (.bool b)=some (b==want):=rfl
theorem abS {x:Ar}:UG P L N n0 ⟨d, .mv x,g⟩ r t Q e ah (some true)=U P L N n0 (It.ops r::t) Q Exit.normal (aC L e d (cp L x (ev e x))) ah:=rfl
def jz (P:Program) (L:List Nat) (N n0:Nat) (e:Env) (ah:AH) (d:Option Nat) (r:List aM) (t:List It) (Q:Exit→Env→AH→Prop) (x:Ar):AV→Prop
 | .sl .own k xs=>match x with
   | .t y=>U P L N n0 (.ops r::t) Q .normal (aC L (put e y (.sl .n k xs)) d (.sl .own k xs)) ah
   | .c a=>U P L N n0 (.ops r::t) Q .normal (aC L e d (cp L (.c a) (.sl .own k xs))) ah
 |a=>U P L N n0 (.ops r::t) Q .normal (aC L e d (cp L x a)) ah
theorem ZD {x:Ar}:UG P L N n0 ⟨d, .aS x,g⟩ r t Q e ah (some true)=jz P L N n0 e ah d r t Q x (ev e x):=by
 simp only [UG,bF]
 cases h:ev e x with
 |sl tg k xs=>cases tg<;>cases x<;>rfl
 |_=>rfl
def LV (L:List Nat) (e:Env) (ah:AH) (d:Option Nat) (a b:Ar):AV→Option (Env×AH)
 | .bool t=>some (aC L e d (if t then (ev e a).sh else (ev e b).sh),ah)
 |_=>none
theorem Xc {c a b:Ar}:UG P L N n0 ⟨d, .pick c a b,g⟩ r t Q e ah (some true)=US P L N n0 r t Q (LV L e ah d a b (ev e c)):=by
 simp only [UG,bF];cases ev e c<;>rfl
theorem Td {cs:List AV}:UG P L N n0 ⟨d, .alloc cs,g⟩ r t Q e ah (some true)=U P L N n0 (.ops r::t) Q .normal (aC L e d (.ptr ah.length 0)) (ah++[cs]):=rfl
theorem ZE {x:Ar}:UG P L N n0 ⟨d, .box x,g⟩ r t Q e ah (some true)=US P L N n0 r t Q (if bQ (ev e x).cells then some (aC L e d (.ptr ah.length 0),ah++[(ev e x).cells.map AV.bP]) else none):=rfl
theorem Te {z:List AV} {ps:List (Nat×Nat×Ar)}:UG P L N n0 ⟨d, .build z ps,g⟩ r t Q e ah (some true)=US P L N n0 r t Q ((fill e z ps).map fun cs=>(aC L e d (.agg cs),ah)):=rfl
theorem ZF {k:Nat} {ps:List Ar}:UG P L N n0 ⟨d, .fS k ps,g⟩ r t Q e ah (some true)=US P L N n0 r t Q (if ps.all (fun p=>(ev e p).cells.length=k&&bQ (ev e p).cells&&fV (ev e p).cells) then some (aC L e d (.sl .ex k (ps.map fun p=>(ev e p).s0)),ah) else none):=rfl
theorem Tf {k:Nat}:UG P L N n0 ⟨d, .lZ k [],g⟩ r t Q e ah (some true)=U P L N n0 (.ops r::t) Q .normal (aC L e d (.b5 0 k 0 0)) ah:=rfl
theorem Xd {k:Nat} {z:Ar} {ps:List Ar}:UG P L N n0 ⟨d, .lZ k (z::ps),g⟩ r t Q e ah (some true)=US P L N n0 r t Q (if (z::ps).all (fun p=>(ev e p).cells.length=k&&bQ (ev e p).cells&&fV (ev e p).cells) then some (aC L e d (.cw ah.length k 0 (z::ps).length),ah++[((z::ps).map fun p=>(ev e p).cells.map AV.s1).flatten]) else none):=rfl
theorem Th {k:Nat} {p:Ar}:UG P L N n0 ⟨d, .lZ k [p],g⟩ r t Q e ah (some true)=US P L N n0 r t Q (if [p].all (fun p=>(ev e p).cells.length=k&&bQ (ev e p).cells&&fV (ev e p).cells) then some (aC L e d (.cw ah.length k 0 1),ah++[(ev e p).cells.map AV.s1]) else none):=by
 have h:([p].map fun p=>(ev e p).cells.map AV.s1).flatten=(ev e p).cells.map AV.s1:=by simp
 rw [Xd,h];rfl
theorem adV {y:Nat} {bs:List UInt8}:UG P L N n0 ⟨d, .lit y bs,g⟩ r t Q e ah (some true)=U P L N n0 (It.ops r::t) Q Exit.normal (put (aC L e d (.sl .ex 1 (bs.map b8))) y .un) ah:=rfl
def Ti (L:List Nat) (e:Env) (ah:AH) (d:Option Nat):AV→Option (Env×AH)
 | .ptr s p=>some (aC L e d (.ptr s p),ah)
 | .ep a p=>some (aC L e d (.ep a p),ah)
 |_=>none
theorem ZG {x:Ar}:UG P L N n0 ⟨d, .iI x,g⟩ r t Q e ah (some true)=US P L N n0 r t Q (Ti L e ah d (ev e x)):=by
 simp only [UG,bF];cases ev e x<;>rfl
def Tj (L:List Nat) (e:Env) (ah:AH) (d:Option Nat) (q:Nat):AV→Option (Env×AH)
 | .ptr s p=>some (aC L e d (.ptr s (p+q)),ah)
 | .ep a p=>some (aC L e d (.ep a (p+q)),ah)
 |_=>none
theorem ZH {x:Ar} {q:Nat}:UG P L N n0 ⟨d, .bO x q,g⟩ r t Q e ah (some true)=US P L N n0 r t Q (Tj L e ah d q (ev e x)):=by
 simp only [UG,bF];cases ev e x<;>rfl
theorem adG {x:Ar} {q:Nat} {n:Option Nat}:UG P L N n0 ⟨d, .Cb x q n,g⟩ r t Q e ah (some true)=US P L N n0 r t Q (bF L ⟨d, .Cb x q n,none⟩ e ah):=by simp only [UG,vP L d _ g]
def Xe (L:List Nat) (d:Option Nat) (n:Option Nat) (s p:Nat) (e:Env) (ah:AH):Option (List AV)→Option (Env×AH)
 |some cs=>(kQ n s p cs).map fun a=>(aC L e d a,ah)
 |none=>none
def PD (L:List Nat) (d:Option Nat) (e:Env) (ah:AH):Option AV→Option (Env×AH)
 |some c=>if c.flat then some (aC L e d c.s1,ah) else none
 |none=>none
def G7 (L:List Nat) (d:Option Nat) (n:Option Nat) (e:Env) (ah:AH):AV→Option (Env×AH)
 | .ptr s p=>Xe L d n s p e ah (ah[s]?)
 | .ep a p=>match n with
   |some n=>if p+n≤a.cells.length∧cc ((a.cells.drop p).take n) then some (aC L e d (.agg (((a.cells.drop p).take n).map AV.s1)),ah) else none
   |none=>PD L d e ah (a.cells[p]?)
 |_=>none
theorem abT {x:Ar} {n:Option Nat}:UG P L N n0 ⟨d, .ld x n,g⟩ r t Q e ah (some true)=US P L N n0 r t Q (G7 L d n e ah (ev e x)):=by
 simp only [UG,bF]
 cases ev e x with
 |ptr s p=>simp only [G7,Xe];cases ah[s]? <;>rfl
 |ep a p=>cases n with
  |some n=>rfl
  |none=>simp only [G7,PD];cases a.cells[p]? <;>rfl
 |_=>rfl
def mM (s o:Nat):Option AV→Option AV
 |some (.sl .own k xs)=>some (.sl (.fr (.cell s o)) k xs)
 |some a=>if a.flat then some a.bP else none
 |none=>none
theorem oN {s o:Nat} {cs:List AV}:kQ none s o cs=mM s o (cs[o]?):=by
 simp only [kQ,mM]
 cases cs[o]? with
 |none=>rfl
 |some a=>cases a with
  |sl t k xs=>cases t<;>rfl
  |_=>rfl
theorem oO {n s o:Nat} {cs:List AV}:kQ (some n) s o cs=if o+n≤cs.length∧cc ((cs.drop o).take n) then some (.agg (((cs.drop o).take n).map AV.bP)) else none:=rfl
theorem adW {x:Ar} {n:Option Nat}:UG P L N n0 ⟨d, .AP x n,g⟩ r t Q e ah (some true)=US P L N n0 r t Q (bF L ⟨d, .AP x n,none⟩ e ah):=by simp only [UG,vP L d _ g]
theorem ael {a x:Ar} {n:Nat}:UG P L N n0 ⟨d, .st a x n,g⟩ r t Q e ah (some true)=US P L N n0 r t Q (bF L ⟨none, .st a x n,none⟩ e ah):=by simp only [UG,bF]
theorem ZI {op:BinOp} {x y:Ar}:UG P L N n0 ⟨d, .bin op x y,g⟩ r t Q e ah (some true)=US P L N n0 r t Q ((bl op (ev e x) (ev e y)).map fun a=>(aC L e d a,ah)):=rfl
theorem abU {neq:Bool} {x y:Ar}:UG P L N n0 ⟨d, .bq neq x y,g⟩ r t Q e ah (some true)=US P L N n0 r t Q ((Lu (ev e x) (ev e y)).map fun b=>(aC L e d (.bool (if neq then !b else b)),ah)):=rfl
theorem abV {neq:Bool} {x y:Ar}:UG P L N n0 ⟨d, .pq neq x y,g⟩ r t Q e ah (some true)=US P L N n0 r t Q ((Lv (ev e x) (ev e y)).map fun b=>(aC L e d (.bool (if neq then !b else b)),ah)):=rfl
def YH (L:List Nat) (e:Env) (ah:AH) (d:Option Nat) (ks:List Pk) (neq:Bool):AV→AV→Option (Env×AH)
 | .agg zq, .agg bs=>(cr ks zq bs).map fun b=>(aC L e d (.bool (if neq then !b else b)),ah)
 |_,_=>none
theorem ZJ {ks:List Pk} {neq:Bool} {x y:Ar}:UG P L N n0 ⟨d, .seq ks neq x y,g⟩ r t Q e ah (some true)=US P L N n0 r t Q (YH L e ah d ks neq (ev e x) (ev e y)):=by
 simp only [UG,bF];cases ev e x<;>cases ev e y<;>rfl
theorem abW {op:UnOp} {x:Ar}:UG P L N n0 ⟨d, .un op x,g⟩ r t Q e ah (some true)=US P L N n0 r t Q ((Lx op (ev e x)).map fun a=>(aC L e d a,ah)):=rfl
def Ox (L:List Nat) (e:Env) (ah:AH) (d:Option Nat) (p n:Nat) (cs:List AV):Option (Env×AH):=
 if p+n≤cs.length then (bytesOf ((cs.drop p).take n)).map fun l=>(aC L e d (.str l),ah) else none
def Tk (L:List Nat) (e:Env) (ah:AH) (d:Option Nat) (p n:Nat):Option (List AV)→Option (Env×AH)
 |some cs=>Ox L e ah d p n cs
 |none=>none
def DK (L:List Nat) (e:Env) (ah:AH) (d:Option Nat) (h:Cv):AV→Option (Env×AH)
 | .cw s k p n=>match h with
   | .bs=>if k=1 then Tk L e ah d p n (ah[s]?) else none
   |h=>(fF h (.cw s k p n)).map fun a=>(aC L e d a,ah)
 |a=>(fF h a).map fun a=>(aC L e d a,ah)
theorem ZK {h:Cv} {x:Ar}:UG P L N n0 ⟨d, .iJ h x,g⟩ r t Q e ah (some true)=US P L N n0 r t Q (DK L e ah d h (ev e x)):=by
 simp only [UG,bF]
 congr 1
 cases ev e x with
 |cw s k p n=>
  cases h with
  |bs=>
   simp only [DK]
   split
   · cases ah[s]? <;>rfl
   · rfl
  |_=>rfl
 |_=>cases h<;>rfl
theorem Xf {x:Ar}:UG P L N n0 ⟨d, .Je x,g⟩ r t Q e ah (some true)=US P L N n0 r t Q ((fF .bs (ev e x)).map fun a=>(aC L e d a,ah)):=rfl
def Tl (L:List Nat) (e:Env) (ah:AH) (d:Option Nat):AV→Option (Env×AH)
 | .str l=>some (aC L e d (.cw ah.length 1 0 l.length),ah++[l.map b8])
 |_=>none
theorem Xg {x:Ar}:UG P L N n0 ⟨d, .sH x,g⟩ r t Q e ah (some true)=US P L N n0 r t Q (Tl L e ah d (ev e x)):=by
 simp only [UG,bF];cases ev e x<;>rfl
theorem abX {neq:Bool} {x y:Ar}:UG P L N n0 ⟨d, .iq neq x y,g⟩ r t Q e ah (some true)=US P L N n0 r t Q ((Lw (ev e x) (ev e y)).map fun b=>(aC L e d (.bool (if neq then !b else b)),ah)):=rfl
theorem abY {mx:Bool} {x y:Ar}:UG P L N n0 ⟨d, .mm mx x y,g⟩ r t Q e ah (some true)=US P L N n0 r t Q ((Jf mx (ev e x) (ev e y)).map fun a=>(aC L e d a,ah)):=rfl
theorem ZL {f:Nat} {cs:List Ar}:UG P L N n0 ⟨d, .Sg f cs,g⟩ r t Q e ah (some true)=U P L N n0 (It.ops r::t) Q Exit.normal (aC L e d (.fn f (cs.map (ev e)))) ah:=rfl
def uI:AV→Option Nat
 | .int _ i=>if 0≤i then some i.toNat else none
 |_=>none
theorem adX {dflt:Nat}:lU e dflt none=some dflt:=rfl
theorem Tm {dflt:Nat} {x:Ar}:lU e dflt (some x)=uI (ev e x):=by
 simp only [lU];cases ev e x<;>rfl
def Oy (L:List Nat) (e:Env) (ah:AH) (d:Option Nat) (l:List UInt8):Option Nat→Option Nat→Option (Env×AH)
 |some i,some j=>if i≤j∧j≤l.length then some (aC L e d (.str ((l.take j).drop i)),ah) else none
 |_,_=>none
def Oz (L:List Nat) (e:Env) (ah:AH) (d:Option Nat) (lo hi:Option Ar):AV→Option (Env×AH)
 | .str l=>Oy L e ah d l (lU e 0 lo) (lU e l.length hi)
 |_=>none
theorem ZM {x:Ar} {lo hi:Option Ar}:UG P L N n0 ⟨d, .xd x lo hi,g⟩ r t Q e ah (some true)=US P L N n0 r t Q (Oz L e ah d lo hi (ev e x)):=by
 simp only [UG,bF]
 cases ev e x with
 |str l=>simp only [Oz,Oy];cases lU e 0 lo<;>cases lU e l.length hi<;>rfl
 |_=>rfl
def OA (L:List Nat) (e:Env) (ah:AH) (d:Option Nat) (k k':Nat) (xs:List AV):Option Nat→Option Nat→Option (Env×AH)
 |some i,some j=>if k'=k∧i≤j∧j≤xs.length then some (aC L e d (.sl .n k ((xs.take j).drop i)),ah) else none
 |_,_=>none
def OB (L:List Nat) (e:Env) (ah:AH) (d:Option Nat) (k:Nat) (lo hi:Option Ar):AV→Option (Env×AH)
 | .sl _ k' xs=>OA L e ah d k k' xs (lU e 0 lo) (lU e xs.length hi)
 |_=>none
theorem ZN {k:Nat} {x:Ar} {lo hi:Option Ar}:UG P L N n0 ⟨d, .slc k x lo hi none,g⟩ r t Q e ah (some true)=US P L N n0 r t Q (OB L e ah d k lo hi (ev e x)):=by
 simp only [UG,bF]
 cases ev e x with
 |sl t k' xs=>simp only [OB,OA];cases lU e 0 lo<;>cases lU e xs.length hi<;>rfl
 |_=>rfl
def G8 (L:List Nat) (e:Env) (ah:AH) (d:Option Nat) (k k':Nat) (xs:List AV):Option Nat→Option Nat→Option Nat→Option (Env×AH)
 |some i,some j,some m=>if k'=k∧i≤j∧j=m∧m≤xs.length then some (aC L e d (.sl .ex k ((xs.take j).drop i)),ah) else none
 |_,_,_=>none
def G9 (L:List Nat) (e:Env) (ah:AH) (d:Option Nat) (k:Nat) (lo:Option Ar) (hi m:Ar):AV→Option (Env×AH)
 | .sl _ k' xs=>G8 L e ah d k k' xs (lU e 0 lo) (lU e xs.length (some hi)) (lU e 0 (some m))
 |_=>none
theorem Xh {k:Nat} {x:Ar} {lo:Option Ar} {hi m:Ar}:UG P L N n0 ⟨d, .slc k x lo (some hi) (some m),g⟩ r t Q e ah (some true)=US P L N n0 r t Q (G9 L e ah d k lo hi m (ev e x)):=by
 simp only [UG,bF]
 cases ev e x with
 |sl t k' xs=>
  simp only [G9,G8]
  cases lU e 0 lo with
  |none=>rfl
  |some i=>
   cases lU e xs.length (some hi) with
   |none=>rfl
   |some j=>
    simp only [Option.isNone_some,Bool.false_eq_true,if_false]
    cases lU e 0 (some m)<;>rfl
 |_=>rfl
def OC (L:List Nat) (e:Env) (ah:AH) (d:Option Nat) (k k':Nat):Option AV→Option (Env×AH)
 |some a=>if k'=k then some (aC L e d (.ep a 0),ah) else none
 |none=>none
def sM (L:List Nat) (e:Env) (ah:AH) (d:Option Nat) (k:Nat):AV→AV→Option (Env×AH)
 | .sl _ k' xs, .int _ i=>if 0≤i then OC L e ah d k k' (xs[i.toNat]?) else none
 | .cw s k' p n, .int _ i=>if 0≤i∧i<n∧k'=k then some (aC L e d (.ptr s (p+i.toNat*k)),ah) else none
 | .b5 s k' n _, .int _ i=>if 0≤i∧i<n∧k'=k then some (aC L e d (.ptr s (i.toNat*k)),ah) else none
 |_,_=>none
def JL (L:List Nat) (e:Env) (ah:AH) (d:Option Nat) (k m:Nat):AV→AV→Option (Env×AH)
 | .ptr s p, .int _ i=>if 0≤i∧i<m then some (aC L e d (.ptr s (p+i.toNat*k)),ah) else none
 | .ep a p, .int _ i=>if 0≤i∧i<m then some (aC L e d (.ep a (p+i.toNat*k)),ah) else none
 |_,_=>none
theorem ZO {k m:Nat} {x i:Ar}:UG P L N n0 ⟨d, .Sh k m x i,g⟩ r t Q e ah (some true)=US P L N n0 r t Q (JL L e ah d k m (ev e x) (ev e i)):=by
 simp only [UG,bF]
 cases ev e x with
 |ptr s p=>cases ev e i<;>rfl
 |ep a p=>cases ev e i<;>rfl
 |_=>cases ev e i<;>rfl
def OD (L:List Nat) (e:Env) (ah:AH) (d:Option Nat) (u k:Nat) (xs:List AV):AV→Option (Env×AH)
 | .sl .own k2 zs=>if k2=k then some (aC L (put e u (.sl .n k2 zs)) d (.sl .own k xs),ah) else none
 |_=>none
def JM (L:List Nat) (e:Env) (ah:AH) (d:Option Nat) (k:Nat):AV→Option (Env×AH)
 | .sl .ex k' []=>if k'=k then some (aC L e d (.b5 0 k 0 0),ah) else none
 | .b5 s k' n c=>some (aC L e d (.b5 s k' n c),ah)
 | .sl (.fr (.tmp u)) k' xs=>OD L e ah d u k' xs (get e u)
 |_=>none
theorem ZP {k:Nat} {x:Ar}:UG P L N n0 ⟨d, .xe k x,g⟩ r t Q e ah (some true)=US P L N n0 r t Q (JM L e ah d k (ev e x)):=by
 simp only [UG,bF]
 cases ev e x with
 |sl t k' xs=>cases t<;>cases xs<;>rfl
 |_=>rfl
theorem ZQ {k:Nat} {x i:Ar}:UG P L N n0 ⟨d, .mK k x i,g⟩ r t Q e ah (some true)=US P L N n0 r t Q (sM L e ah d k (ev e x) (ev e i)):=by
 simp only [UG,bF]
 cases ev e x with
 |sl t k' xs=>cases ev e i with
  |int ki n=>simp only [sM,OC];cases xs[n.toNat]? <;>rfl
  |_=>rfl
 |cw s k' p n=>cases ev e i<;>rfl
 |b5 s k' n c=>cases ev e i<;>rfl
 |_=>cases ev e i<;>rfl
def Tn (L:List Nat) (e:Env) (ah:AH) (d:Option Nat):Option UInt8→Option (Env×AH)
 |some c=>some (aC L e d (b8 c),ah)
 |none=>none
def JN (L:List Nat) (e:Env) (ah:AH) (d:Option Nat):AV→AV→Option (Env×AH)
 | .str l, .int _ i=>if 0≤i then Tn L e ah d (l[i.toNat]?) else none
 |_,_=>none
theorem ZR {x i:Ar}:UG P L N n0 ⟨d, .ixs x i,g⟩ r t Q e ah (some true)=US P L N n0 r t Q (JN L e ah d (ev e x) (ev e i)):=by
 simp only [UG,bF]
 cases ev e x with
 |str l=>cases ev e i with
  |int ki n=>simp only [JN,Tn];cases l[n.toNat]? <;>rfl
  |_=>rfl
 |_=>cases ev e i<;>rfl
theorem adH {l:List UInt8} {i j:Nat}:Oy L e ah d l (some i) (some j)=if i≤j∧j≤l.length then some (aC L e d (.str ((l.take j).drop i)),ah) else none:=rfl
theorem adI {k k' i j:Nat} {xs:List AV}:OA L e ah d k k' xs (some i) (some j)=if k'=k∧i≤j∧j≤xs.length then some (aC L e d (.sl .n k ((xs.take j).drop i)),ah) else none:=rfl
theorem abZ {k k' i j m:Nat} {xs:List AV}:G8 L e ah d k k' xs (some i) (some j) (some m)=if k'=k∧i≤j∧j=m∧m≤xs.length then some (aC L e d (.sl .ex k ((xs.take j).drop i)),ah) else none:=rfl
theorem adJ {k k':Nat} {a:AV}:OC L e ah d k k' (some a)=if k'=k then some (aC L e d (.ep a 0),ah) else none:=rfl
theorem adK {c:UInt8}:Tn L e ah d (some c)=some (aC L e d (b8 c),ah):=rfl
theorem ZS {n:Option Nat} {s p:Nat} {cs:List AV}:Xe L d n s p e ah (some cs)=(kQ n s p cs).map fun a=>(aC L e d a,ah):=rfl
theorem ZT {c:AV}:PD L d e ah (some c)=if c.flat then some (aC L e d c.s1,ah) else none:=rfl
theorem adL {α:Type} {c:Prop} [Decidable c] {x:Option α} (h:c):(if c then x else none)=x:=by rw [if_pos h]
theorem ab0 {α:Type} {c:Prop} [Decidable c] {x:Option α} (h:¬c):(if c then none else x)=x:=by rw [if_neg h]
theorem adY {x:Ar} {i:Nat}:UG P L N n0 ⟨d, .ext x i,g⟩ r t Q e ah (some true)=US P L N n0 r t Q (bF L ⟨d, .ext x i,none⟩ e ah):=by simp only [UG,vP L d _ g]
theorem adZ {x:Ar}:UG P L N n0 ⟨d, .len x,g⟩ r t Q e ah (some true)=US P L N n0 r t Q (bF L ⟨d, .len x,none⟩ e ah):=by simp only [UG,vP L d _ g]
theorem adM {x:Ar}:UG P L N n0 ⟨d, .lens x,g⟩ r t Q e ah (some true)=US P L N n0 r t Q (bF L ⟨d, .lens x,none⟩ e ah):=by simp only [UG,vP L d _ g]
def Tp (L:List Nat) (e:Env) (ah:AH) (d:Option Nat) (k b:Nat) (x:Ar):AV→Option (Env×AH)
 | .sl _ k' ys=>if k'=k then xO L e ah d k b x ys else none
 |_=>none
theorem ZU {k b:Nat} {x y:Ar}:UG P L N n0 ⟨d, .app k b x y,g⟩ r t Q e ah (some true)=US P L N n0 r t Q (Tp L e ah d k b x (ev e y)):=by
 simp only [UG,bF];cases ev e y<;>rfl
def Tq (L:List Nat) (e:Env) (ah:AH) (d:Option Nat) (b:Nat) (x:Ar):AV→Option (Env×AH)
 | .str l=>xO L e ah d 1 b x (l.map b8)
 |_=>none
theorem Xi {b:Nat} {x y:Ar}:UG P L N n0 ⟨d, .apps b x y,g⟩ r t Q e ah (some true)=US P L N n0 r t Q (Tq L e ah d b x (ev e y)):=by
 simp only [UG,bF];cases ev e y<;>rfl
theorem Xj {f:Ar} {zq:List Ar}:UG P L N n0 ⟨d, .call f zq,g⟩ r t Q e ah (some true)=UF P L N n0 zq d r t Q e ah (ev e f):=rfl
theorem ab1 {o:aM} {b:Bool}:UG P L N n0 o r t Q e ah (some b)=if b then (UG P L N n0 o r t Q e ah (some true)) else U P L N n0 (.ops r::t) Q .normal (oL e o.d) ah:=by
 cases b<;>rfl
theorem abo {o:aM} {b:Bool} (h1:b=true→UG P L N n0 o r t Q e ah (some true)) (h2:b=false→U P L N n0 (.ops r::t) Q .normal (oL e o.d) ah):UG P L N n0 o r t Q e ah (some b):=by
 cases b
 · exact h2 rfl
 · exact h1 rfl
end
end Go.Am
namespace Go.Am
open Go
variable [Tabs]
theorem lV.set {n:Nat} {ah:AH} (h:lV n ah) {s:Nat} {cs:List AV} (hc:∀a∈cs,Cl n a):lV n (ah.set s cs):=by
 intro t ds ht a ha
 rw [List.getElem?_set] at ht
 split at ht
 · split at ht
   · injection ht with ht;subst ht;exact hc a ha
   · cases ht
 · exact h t ds ht a ha
theorem LS.old {P:Program} {n:Nat} {rs:List ResultVar} {R:AV→AH→Prop} {x:Exit} {e:Env} {ah:AH} {vs:List AV} (hx:x= .normal∨x= .ret) (hr:gD P e ah rs=some vs)
 (hc:Cl n (fin vs)) (hh:lV n ah) (hn:ah.length=n) (h:R (fin vs) ah):LS P n rs R x e ah:=by
 refine ⟨hx, ?_⟩
 rw [hr]
 have:ah.take n=ah:=List.take_of_length_le (by omega)
 simp only [this]
 exact ⟨hc,hh,by omega,h⟩
theorem w64 {n:Int} (h1: -9223372036854775808≤n) (h2:n≤9223372036854775807):IntKind.wrap .i64 n=n:=by
 simp only [IntKind.wrap,IntKind.bits,IntKind.signed,Bool.true_and,decide_eq_true_eq,Int.reducePow,Nat.reduceSub,ge_iff_le]
 split<;>omega
theorem w8 {n:Int} (h1:0≤n) (h2:n≤255):IntKind.wrap .u8 n=n:=by
 simp only [IntKind.wrap,IntKind.bits,IntKind.signed,Bool.false_and,if_false,Bool.false_eq_true]
 omega
theorem YI {j:Nat}:((j:Int)+1).toNat=j+1:=by omega
theorem ad0 {P:Program} {L:List Nat} {N n0:Nat} {t:List It} {Q:Exit→Env→AH→Prop} {r:List aM} {c:Prop} [Decidable c] {x:Option (Env×AH)} (h:c):
 US P L N n0 r t Q (if c then x else none)=US P L N n0 r t Q x:=by rw [if_pos h]
theorem map_if {α β:Type} {f:α→β} {c:Prop} [Decidable c] {x:Option α} (h:c):Option.map f (if c then x else none)=Option.map f x:=by rw [if_pos h]
theorem JO {L:List Nat} {d:Option Nat} {k b:Nat} {x y:Ar} {e:Env} {ah:AH} {K K':Env→AH→Prop} (h:oC L d k b x y e ah K) (hk:∀e ah,K e ah→K' e ah):oC L d k b x y e ah K':=by
 unfold oC at h ⊢
 split at h
 · obtain ⟨h1,h2,h3,h4,h5,h6⟩:=h
   refine ⟨h1,h2,h3,h4,h5, ?_⟩
   rcases h6 with ⟨g1,g2,g3⟩|⟨cs,g1,g2,g3,g4,g5,g6,g7⟩
   · exact .inl ⟨g1,g2,fun c hc=>hk _ _ (g3 c hc)⟩
   · exact .inr ⟨cs,g1,g2,g3,g4,g5,fun h=>hk _ _ (g6 h),fun h c hc=>hk _ _ (g7 h c hc)⟩
 · exact h
theorem PF {L:List Nat} {d:Option Nat} {n:Bool} {x:Ar} {e:Env} {ah:AH} {K K':Env→AH→Prop} (h:Dp L d n x e ah K) (hk:∀e ah,K e ah→K' e ah):Dp L d n x e ah K':=by
 unfold Dp at h ⊢
 split at h
 · exact ⟨fun h0 b=>hk _ _ (h.1 h0 b),fun h0=>hk _ _ (h.2 h0)⟩
 · exact h
theorem LW {P:Program} {L:List Nat}:∀(l:List aM) {K K':Env→AH→Prop} {e:Env} {ah:AH},eI P L l e ah K→(∀e ah,K e ah→K' e ah)→eI P L l e ah K':=by
 intro l
 induction l with
 |nil=>intro K K' e ah h hk;exact hk _ _ h
 |cons o r ih=>
  intro K K' e ah h hk
  simp only [eI] at h ⊢
  split at h
  · rename_i hg
    obtain ⟨d,op,g⟩:=o
    cases op with
    |call f zq=>
     simp only [zI] at h ⊢
     split at h
     · exact ⟨h.1,h.2.mono fun v aB h=>ih h hk⟩
     · exact h
    |kP k b x y=>
     have h':oC L d k b x y e ah (fun e ah=>eI P L r e ah K):=h
     exact JO h' fun e ah h=>ih h hk
    |nq n x=>
     have h':Dp L d n x e ah (fun e ah=>eI P L r e ah K):=h
     exact PF h' fun e ah h=>ih h hk
    |_=>
     simp only [zI] at h ⊢
     split at h
     · exact ih h hk
     · exact h
  · exact ih h hk
  · exact h
theorem JP {P:Program} {L:List Nat} {N n0:Nat}:∀(c:av) {Q Q':Exit→Env→AH→Prop} {e:Env} {ah:AH},jM P L N n0 c Q e ah→(∀x e ah,Q x e ah→Q' x e ah)→jM P L N n0 c Q' e ah:=by
 intro c
 induction c with
 |skip=>intro Q Q' e ah h hq;exact hq _ _ _ h
 |ret=>intro Q Q' e ah h hq;exact hq _ _ _ h
 |exit i=>intro Q Q' e ah h hq;exact hq _ _ _ h
 |rg ops=>intro Q Q' e ah h hq;exact LW ops h fun e ah h=>hq _ _ _ h
 |seq a b DI DJ=>
  intro Q Q' e ah h hq
  refine DI h fun x e ah h=> ?_
  cases x with
  |normal=>exact DJ h hq
  |_=>exact hq _ _ _ h
 |cond c a b DI DJ=>
  intro Q Q' e ah h hq
  simp only [jM] at h ⊢
  split at h
  · split at h
    · rename_i h1;rw [if_pos h1];exact DI h hq
    · rename_i h1;rw [if_neg h1];exact DJ h hq
  · exact h.elim
 |blk i c ih=>
  intro Q Q' e ah h hq
  refine ih h fun x e ah h=> ?_
  cases x with
  |exit j=>
   simp only at h ⊢
   split at h
   · rename_i h1;rw [if_pos h1];exact hq _ _ _ h
   · rename_i h1;rw [if_neg h1];exact hq _ _ _ h
  |_=>exact hq _ _ _ h
 |loop c ih=>
  intro Q Q' e ah h hq
  exact fun c' bZ=>(h c' bZ).mono hq
 |sem c ih=>
  intro Q Q' e ah h hq
  exact fun c' bZ=>(h c' bZ).mono hq
theorem Xk {P:Program} {L:List Nat} {N n0:Nat} {c:av} {Q Q':Exit→Env→AH→Prop} {e:Env} {ah:AH} (h:U P L N n0 [.code c] Q .normal e ah) (hq:∀x e ah,Q x e ah→Q' x e ah):U P L N n0 [.code c] Q' .normal e ah:=
 JP c h hq
theorem Tr {e e2:Env} (h:∀p∈e2,p.2= .un∨Am.get e p.1=p.2∨∃t k xs,Am.get e p.1= .sl t k xs∧p.2= .sl .n k xs):∀t,Wk (Am.get e t) (Am.get e2 t):=by
 intro t
 have key:∀e2:Env,Am.get e2 t= .un∨∃p∈e2,p.1=t∧Am.get e2 t=p.2:=by
  intro e2
  induction e2 with
  |nil=>exact .inl rfl
  |cons p r ih=>
   obtain ⟨i,a⟩:=p
   simp only [Am.get]
   split
   · rename_i h;exact .inr ⟨(i,a),by simp,h,rfl⟩
   · rcases ih with h|⟨p,hp,h1,h2⟩
     · exact .inl h
     · exact .inr ⟨p,List.mem_cons_of_mem _ hp,h1,h2⟩
 rcases key e2 with h0|⟨p,hp,rfl,h2⟩
 · rw [h0];exact .un _
 · rw [h2]
   rcases h p hp with h3|h3|⟨tg,k,xs,h3,h4⟩
   · rw [h3];exact .un _
   · rw [h3];exact .same _
   · rw [h3,h4];exact .n ..
def A5 (e e2:Env):Prop:=∀p∈e2,p.2= .un∨Am.get e p.1=p.2∨∃t k xs,Am.get e p.1= .sl t k xs∧p.2= .sl .n k xs
theorem PG {P:Program} {L:List Nat} {N n0:Nat} {e:Env} {ah:AH} {t:List It} {Q:Exit→Env→AH→Prop} {c:av} (J:Nat→Env→AH→Prop) (k0:Nat) (e0:Env) (ho:qs N c=true)
 (hw:∀p∈e0,p.2= .un∨Am.get e p.1=p.2∨∃t k xs,Am.get e p.1= .sl t k xs∧p.2= .sl .n k xs) (h0:J k0 e0 ah)
 (round:∀k e ah,J k e ah→U P L N n0 [.code c] (fun x e' aB=>match x with
  | .normal=>∃k' e2,k'<k∧(∀p∈e2,p.2= .un∨Am.get e' p.1=p.2∨∃t k xs,Am.get e' p.1= .sl t k xs∧p.2= .sl .n k xs)∧J k' e2 aB
  |x=>U P L N n0 t Q x e' aB) .normal e ah):
 UX P L N n0 (.loop c) t Q e ah:=by
 intro c'
 induction c' with
 |loop c0 _=>
  intro bZ
  simp only [bN,Option.map_eq_some_iff] at bZ
  obtain ⟨a,ha,he⟩:=bZ
  injection he with he
  subst he
  refine AW.loop (fun k e ah=>∃e1,(∀t,Wk (Am.get e t) (Am.get e1 t))∧J k e1 ah) (k0:=k0) ?_ ⟨e0,Tr hw,h0⟩
  rintro k e ah ⟨e1,hw1,hJ⟩
  refine AW.weak hw1 (oz c0 a _ e1 ah (by rw [jk c0 a ha];exact ha) (by rw [jk c0 a ha];exact ho) ?_)
  have:=round k e1 ah hJ
  refine Xk this fun x e' aB h=> ?_
  cases x with
  |normal=>obtain ⟨k',e2,h1,h2,h3⟩:=h;exact ⟨k',h1,e2,Tr h2,h3⟩
  |_=>exact h
 |scope c0 ih=>exact fun bZ=>AW.scope (ih bZ)
 |region id ops draw=>intro bZ;simp only [bN] at bZ;repeat' (split at bZ)<;>simp at bZ
 |block i c0=>intro bZ;simp only [bN,Option.map_eq_some_iff] at bZ;obtain ⟨a, -,h⟩:=bZ;cases h
 |seq a b=>intro bZ;simp only [bN] at bZ;split at bZ<;>simp at bZ
 |cond a b c=>intro bZ;simp only [bN] at bZ;split at bZ<;>simp at bZ
 |_=>intro bZ;simp [bN] at bZ
theorem abp {P:Program} {L:List Nat} {N n0:Nat} {e:Env} {ah:AH} {t:List It} {Q:Exit→Env→AH→Prop} {c:av} (J:Nat→Env→AH→Prop) (k0:Nat) (e0:Env) (ho:qs N c=true)
 (hw:A5 e e0) (h0:J k0 e0 ah)
 (round:∀(K:Exit→Env→AH→Prop) k e ah,J k e ah→(∀k' e' e2 aB,k'<k→A5 e' e2→J k' e2 aB→K .normal e' aB)→(∀e' aB,U P L N n0 t Q .ret e' aB→K .ret e' aB)→
  (∀i e' aB,U P L N n0 t Q (.exit i) e' aB→K (.exit i) e' aB)→U P L N n0 [.code c] K .normal e ah):UX P L N n0 (.loop c) t Q e ah:=
 PG J k0 e0 ho hw h0 fun k e ah hJ=>round _ k e ah hJ (fun k' e' e2 aB h1 h2 h3=>⟨k',e2,h1,h2,h3⟩) (fun _ _ h=>h) (fun _ _ _ h=>h)
theorem A5.nil {e:Env}:A5 e []:=by intro p hp;cases hp
theorem A5.same {e r:Env} {i:Nat} {a:AV} (h:Am.get e i=a) (hr:A5 e r):A5 e ((i,a)::r):=by
 intro p hp
 rcases List.mem_cons.1 hp with rfl|hp
 · exact .inr (.inl h)
 · exact hr p hp
theorem A5.un {e r:Env} {i:Nat} (hr:A5 e r):A5 e ((i, .un)::r):=by
 intro p hp
 rcases List.mem_cons.1 hp with rfl|hp
 · exact .inl rfl
 · exact hr p hp
theorem A5.sl {e r:Env} {i k:Nat} {tg:Tg} {xs:List AV} (h:Am.get e i= .sl tg k xs) (hr:A5 e r):A5 e ((i, .sl .n k xs)::r):=by
 intro p hp
 rcases List.mem_cons.1 hp with rfl|hp
 · exact .inr (.inr ⟨_,_,_,h,rfl⟩)
 · exact hr p hp
theorem ay.weak {P:Program} {f:Nat} {args args':List AV} {ah:AH} {R:AV→AH→Prop} (hl:args'.length=args.length) (hw:∀(i:Nat) (a a':AV),args[i]? =some a→args'[i]? =some a'→Wk a a') (h:ay P f args' ah R):
 ay P f args ah R:=by
 refine ⟨h.1,fun F γ C w vs hs=>h.2 F γ C w vs ?_⟩
 rw [hl]
 refine hs.wk fun t=> ?_
 rw [dy,dy]
 simp only [Nat.zero_le,if_true,Nat.sub_zero]
 cases h1:args[t]? with
 |none=>
  have:args'[t]? =none:=by
   rw [List.getElem?_eq_none_iff] at h1 ⊢
   omega
  rw [this];exact .same _
 |some a=>
  have hlt:t<args'.length:=by rw [hl];exact (List.getElem?_eq_some_iff.1 h1).1
  rw [List.getElem?_eq_getElem hlt]
  exact hw t a _ h1 (List.getElem?_eq_getElem hlt)
theorem JQ:∀l:List UInt8,bytesOf (l.map b8)=some l:=by
 intro l
 induction l with
 |nil=>rfl
 |cons c r ih=>
  simp only [List.map_cons,b8,bytesOf]
  rw [ih]
  simp
theorem PI {ah:AH} {i:Nat} {x:List AV} (h:ah[i]? =some x):ah.set i x=ah:=by
 have hlt:=(List.getElem?_eq_some_iff.1 h).1
 apply List.ext_getElem?
 intro j
 rw [List.getElem?_set]
 split
 · rename_i hj;subst hj;simp only [h,ite_eq_left_iff];try exact fun h0=>absurd hlt h0
 · rfl
theorem LS.new {P:Program} {n:Nat} {rs:List ResultVar} {R:AV→AH→Prop} {x:Exit} {e:Env} {ah aB:AH} {vs:List AV} (hx:x= .normal∨x= .ret) (hr:gD P e ah rs=some vs) (ht:ah.take n=aB)
 (hc:Cl n (fin vs)) (hh:lV n aB) (hn:n≤ah.length) (h:R (fin vs) aB):LS P n rs R x e ah:=by
 refine ⟨hx, ?_⟩
 rw [hr]
 simp only [ht]
 exact ⟨hc,hh,hn,h⟩
theorem A6 {P:Program} {e:Env} {ah:AH}:gD P e ah []=some []:=rfl
theorem wV {P:Program} {e:Env} {ah:AH} {t:Nat} {rs:List ResultVar} {a:AV} {vs:List AV} (h:Am.get e t=a) (ht:a.eV=false) (hr:gD P e ah rs=some vs):gD P e ah (.tmp t::rs)=some (a::vs):=by
 subst h
 simp only [gD,ht,hr,Bool.false_eq_true,if_false]
theorem mj {P:Program} {e:Env} {ah:AH} {a:Nat} {ty:TypeId} {n:Option Nat} {rs:List ResultVar} {s o:Nat} {cs vs:List AV} {v:AV} (ht:tok P ty=true) (hn:tn P ty=n) (h:Am.get e a= .ptr s o) (hs:ah[s]? =some cs)
 (hl:kQ n s o cs=some v) (hr:gD P e ah rs=some vs):gD P e ah (.cell a ty::rs)=some (v.sh::vs):=by
 subst hn
 simp only [gD,ht,if_true,h,hs,hl,hr]
theorem ay.wkR {P:Program} {f:Nat} {args:List AV} {ah:AH} {R R':AV→AH→Prop} (h:ay P f args ah R) (hr:∀r aB,R r aB→∃r',Wk r r'∧R' r' aB):ay P f args ah R':=by
 refine ⟨h.1,fun F γ C w vs hs=>(h.2 F γ C w vs hs).mono ?_⟩
 rintro en w' ⟨r,v,aB,γ',C',rfl,h1,h2,h3,h4⟩
 obtain ⟨r',g1,g2⟩:=hr r aB h1
 refine ⟨r',v,aB,γ',C',rfl,g2,h2,h3.wk fun t=> ?_,h4⟩
 simp only [Am.get]
 split
 · exact g1
 · exact .same _
theorem Cl.up {n:Nat} {a:AV} (h:Cl n a) {m:Nat} (hm:n≤m):Cl m a:=by
 induction h with
 |ptr s o hs=>exact .ptr _ _ (by omega)
 |fn f cs _ ih=>exact .fn _ _ fun a ha=>ih a ha
 |agg cs _ ih=>exact .agg _ fun a ha=>ih a ha
 |bz cs _ ih=>exact .bz _ fun a ha=>ih a ha
 |v=>exact .v _
 |int=>exact .int ..
 |bool=>exact .bool _
 |str=>exact .str _
 |sl=>exact .sl ..
 |ep e o _ ih=>exact .ep _ _ fun a ha=>ih a ha
 |cw s k o n hs=>exact .cw _ _ _ _ (by omega)
 |oF=>exact .oF ..
 |b5 s k o n hs=>exact .b5 _ _ _ _ (by omega)
 |ef=>exact .ef
 |dc=>exact .dc _
 |cV=>exact .cV ..
 |un=>exact .un
theorem lV.up {n m:Nat} {ah:AH} (h:lV n ah) (hm:n≤m):lV m ah:=fun s cs hs a ha=>(h s cs hs a ha).up hm
theorem lV.app {n:Nat} {ah qq:AH} (h:lV n ah) (h2:lV n qq):lV n (ah++qq):=by
 intro s cs hs a ha
 rw [List.getElem?_append] at hs
 split at hs
 · exact h s cs hs a ha
 · exact h2 _ cs hs a ha
theorem lV.one {n:Nat} {cs:List AV} (h:∀a∈cs,Cl n a):lV n [cs]:=by
 intro s ds hs a ha
 rcases s with _|s
 · simp at hs;subst hs;exact h a ha
 · simp at hs
end Go.Am
end
section
namespace Go.Am
open Go
variable [Tabs]
def W1 (a a':AV):Prop:=a'=a∨∃t k xs,a= .sl t k xs∧a'= .sl .n k xs
theorem W1.w {a a':AV} (h:W1 a a'):a'=a∨(∃t k xs,a= .sl t k xs∧a'= .sl .n k xs)∨a'= .un:=h.elim .inl fun h=> .inr (.inl h)
def eR:List AV→List AV→Prop
 |[],[]=>True
 |a::r,a'::r'=>W1 a a'∧eR r r'
 |_,_=>False
theorem eR.len:∀ {cs cs':List AV},eR cs cs'→cs'.length=cs.length:=by
 intro cs
 induction cs with
 |nil=>intro cs' h;cases cs' with|nil=>rfl|cons=>exact h.elim
 |cons a r ih=>intro cs' h;cases cs' with|nil=>exact h.elim|cons a' r'=>simp [ih h.2]
theorem eR.get:∀ {cs cs':List AV},eR cs cs'→∀(i:Nat) (a a':AV),cs[i]? =some a→cs'[i]? =some a'→W1 a a':=by
 intro cs
 induction cs with
 |nil=>intro cs' _ i a a' h;simp at h
 |cons a r ih=>
  intro cs' h i b b' h1 h2
  cases cs' with
  |nil=>exact h.elim
  |cons a' r'=>
   rcases i with _|i
   · simp at h1 h2;subst h1;subst h2;exact h.1
   · exact ih h.2 i b b' (by simpa using h1) (by simpa using h2)
def W2 (a a':AV):Prop:=W1 a a'∨∃ds ds',a= .agg ds∧a'= .agg ds'∧eR ds ds'
def oa:List AV→List AV→Prop
 |[],[]=>True
 |a::r,a'::r'=>W2 a a'∧oa r r'
 |_,_=>False
theorem oa.len:∀ {cs cs':List AV},oa cs cs'→cs'.length=cs.length:=by
 intro cs
 induction cs with
 |nil=>intro cs' h;cases cs' with|nil=>rfl|cons=>exact h.elim
 |cons a r ih=>intro cs' h;cases cs' with|nil=>exact h.elim|cons a' r'=>simp [ih h.2]
theorem oa.get:∀ {cs cs':List AV},oa cs cs'→∀(i:Nat) (a a':AV),cs[i]? =some a→cs'[i]? =some a'→W2 a a':=by
 intro cs
 induction cs with
 |nil=>intro cs' _ i a a' h;simp at h
 |cons a r ih=>
  intro cs' h i b b' h1 h2
  cases cs' with
  |nil=>exact h.elim
  |cons a' r'=>
   rcases i with _|i
   · simp at h1 h2;subst h1;subst h2;exact h.1
   · exact ih h.2 i b b' (by simpa using h1) (by simpa using h2)
theorem W2.wk {a a':AV} (h:W2 a a'):Wk a a':=by
 rcases h with (rfl|⟨t,k,xs,rfl,rfl⟩)|⟨ds,ds',rfl,rfl,h⟩
 · exact .same _
 · exact .n ..
 · exact .agg _ _ h.len fun i a b h1 h2=>(h.get i a b h1 h2).w
theorem W2.tcy {a a':AV} {v:Value} (h:W2 a a') (ht:GO a v):GO a' v:=by
 rcases h with (rfl|⟨t,k,xs,rfl,rfl⟩)|⟨ds,ds',rfl,rfl,h⟩
 · exact ht
 · exact Sk ..
 · cases v with
   |agg vs=>
    intro i a' hi
    have hlt:i<ds.length:=by rw [←h.len];exact (List.getElem?_eq_some_iff.1 hi).1
    rcases h.get i _ _ (List.getElem?_eq_getElem hlt) hi with e|⟨t,k,xs,e1,rfl⟩
    · rw [e];exact ht i _ (List.getElem?_eq_getElem hlt)
    · exact GQ ..
   |_=>trivial
inductive Wx:AV→AV→Prop
 |wk (a a'):Wk a a'→(∀l k xs,a'≠ .sl (.fr l) k xs)→Wx a a'
 |own (k xs):Wx (.sl .ex k xs) (.sl .own k xs)
 |OE (cs cs'):oa cs cs'→Wx (.bz cs) (.bz cs')
def vi (cs cs':List AV):Prop:=cs'.length=cs.length∧∀(i:Nat) (a a':AV),cs[i]? =some a→cs'[i]? =some a'→Wx a a'
def fT (ah aB:AH):Prop:=aB.length=ah.length∧∀(s:Nat) (cs':List AV),aB[s]? =some cs'→∃cs,ah[s]? =some cs∧(cs'=cs∨vi cs cs')
def WS (e:Env) (ah:AH) (e1:Env) (bW:AH):Prop:=(∀t,Wx (get e t) (get e1 t))∧fT ah bW
theorem Wx.vr {C:Nat→List Value} {γ:List Nat} {a a':AV} {v:Value} (hw:Wx a a') (h:VR C γ a v):VR C γ a' v:=by
 cases hw with
 |wk _ _ hk=>exact hk.vr h
 |own=>exact h.jL _
 |OE cs cs' hc=>
  obtain ⟨vs,rfl,hs,hv⟩:=h.vE
  refine .bz _ _ _ (by rw [hc.len];exact hs) fun i a' hi=> ?_
  have hlt:i<cs.length:=by rw [←hc.len];exact (List.getElem?_eq_some_iff.1 hi).1
  exact (hc.get i _ _ (List.getElem?_eq_getElem hlt) hi).wk.vr (hv i _ (List.getElem?_eq_getElem hlt))
theorem Wx.tc {w:World} {C:Nat→List Value} {γ:List Nat} {a a':AV} {v:Value} (hw:Wx a a') (hv:VR C γ a v) (h:TC w C a v):TC w C a' v:=by
 cases hw with
 |wk _ _ hk=>exact hk.tc h
 |own k xs=>
  obtain ⟨ad,c,rfl, -⟩:=hv.eP
  exact .inl h
 |OE cs cs' hc=>
  obtain ⟨vs,rfl, -, -⟩:=hv.vE
  intro i a' hi
  have hlt:i<cs.length:=by rw [←hc.len];exact (List.getElem?_eq_some_iff.1 hi).1
  exact (hc.get i _ _ (List.getElem?_eq_getElem hlt) hi).tcy (h i _ (List.getElem?_eq_getElem hlt))
theorem Wx.bD {w:World} {C:Nat→List Value} {γ:List Nat} {a a':AV} {v:Value} {b:Nat} (hw:Wx a a') (hv:VR C γ a v) (ht:TC w C a v) (h:bD a' v=some b):Am.bD a v=some b:=by
 cases hw with
 |wk _ _ hk=>exact hk.own h
 |own k xs=>
  obtain ⟨ad,c,rfl, -⟩:=hv.eP
  have hc:c=xs.length:=ht
  subst hc
  cases ad<;>simp [Am.bD] at h
 |OE=>simp [Am.bD] at h
theorem Wx.dc {a:AV} {T:TypeId} (h:Wx a (.dc T)):a= .dc T:=by
 cases h with
 |wk _ _ hk _=>cases hk;rfl
theorem SR.wx {L N F γ C e ah ts w} (h:SR L N F γ C e ah ts w) {e':Env} {aB:AH} (hw:WS e ah e' aB):SR L N F γ C e' aB ts w:=by
 obtain ⟨he,hl,hh⟩:=hw
 have hb:∀p b,blk γ e' aB ts w p b→blk γ e ah ts w p b:=by
  intro p b hp
  cases p with
  |obj s=>exact hp
  |tmp t=>exact (he t).bD (h.env t).1 (h.env t).2 hp
  |cell s i=>
   obtain ⟨cs',a',b0,h1,h2,h3,h4⟩:=hp
   obtain ⟨cs,g1,g2⟩:=hh s cs' h1
   rcases g2 with rfl|⟨g2,g3⟩
   · exact ⟨_,a',b0,g1,h2,h3,h4⟩
   · have hlt:i<cs.length:=by rw [←g2];exact (List.getElem?_eq_some_iff.1 h2).1
     have h0:cs[i]? =some cs[i]:=List.getElem?_eq_getElem hlt
     refine ⟨cs,cs[i],b0,g1,h0,h3, ?_⟩
     obtain ⟨vs,ty,q1,q2,q3⟩:=h.mem.obj s b0 cs g1 h3
     have hc:(w.cell? ⟨b0,i,none⟩).getD undef=vs.getD i undef:=by
      rw [ck q1];simp [Array.getD_eq_getD_getElem?]
     rw [hc] at h4 ⊢
     exact (g3 i _ _ h0 h2).bD (q3 i _ h0).1 (q3 i _ h0).2 h4
 refine ⟨⟨by rw [h.mem.len,hl],fun s b cs' h1 h2=> ?_,h.mem.nX,fun s b cs' h1 hne h2=> ?_,fun s b cs' us ty fr h1 h2 h3=> ?_,fun s b cs' T h1 h2 h3=> ?_⟩,h.sz,fun t=>⟨(he t).vr (h.env t).1,(he t).tc (h.env t).1 (h.env t).2⟩,fun p q b hp hq=>h.dm p q b (hb p b hp) (hb q b hq),
  fun p b hp=>h.nf p b (hb p b hp),h.ij,fun t l k xs ht=> ?_⟩
 · obtain ⟨cs,g1,g2⟩:=hh s cs' h1
   obtain ⟨vs,ty,q1,q2,q3⟩:=h.mem.obj s b cs g1 h2
   rcases g2 with rfl|⟨g2,g3⟩
   · exact ⟨vs,ty,q1,q2,q3⟩
   · refine ⟨vs,ty,q1,by omega,fun i a' hi=> ?_⟩
     have hlt:i<cs.length:=by rw [←g2];exact (List.getElem?_eq_some_iff.1 hi).1
     have h0:cs[i]? =some cs[i]:=List.getElem?_eq_getElem hlt
     exact ⟨(g3 i _ _ h0 hi).vr (q3 i _ h0).1,(g3 i _ _ h0 hi).tc (q3 i _ h0).1 (q3 i _ h0).2⟩
 · obtain ⟨cs,g1,g2⟩:=hh s cs' h1
   refine h.mem.kF s b cs g1 ?_ h2
   rintro rfl
   rcases g2 with rfl|⟨g2, -⟩
   · exact hne rfl
   · exact hne (List.eq_nil_of_length_eq_zero g2)
 · obtain ⟨cs,g1,g2⟩:=hh s cs' h1
   have hl':cs'.length=cs.length:=by
    rcases g2 with rfl|⟨g2, -⟩
    · rfl
    · exact g2
   rw [hl']
   exact h.mem.vH s b cs us ty fr g1 h2 h3
 · obtain ⟨cs,g1,g2⟩:=hh s cs' h1
   rcases g2 with rfl|⟨g2,g3⟩
   · exact h.mem.ym s b _ T g1 h2 h3
   · have hlt:0<cs.length:=by rw [←g2];exact (List.getElem?_eq_some_iff.1 h3).1
     have h0:cs[0]? =some cs[0]:=List.getElem?_eq_getElem hlt
     exact h.mem.ym s b cs T g1 h2 (by rw [h0,(g3 0 _ _ h0 h3).dc])
 · exfalso
   have:=he t
   rw [ht] at this
   generalize get e t=a at this
   cases this with
   |wk _ _ _ hn=>exact hn l k xs rfl
theorem fT.refl (ah:AH):fT ah ah:=⟨rfl,fun s cs h=>⟨cs,h, .inl rfl⟩⟩
theorem fT.set {ah:AH} {q:Nat} {cs cs':List AV} (hq:ah[q]? =some cs) (hc:vi cs cs'):fT ah (ah.set q cs'):=by
 refine ⟨by simp,fun s ds hs=> ?_⟩
 rw [List.getElem?_set] at hs
 split at hs
 · rename_i h;subst h
   split at hs
   · injection hs with hs;subst hs;exact ⟨cs,hq, .inr hc⟩
   · cases hs
 · exact ⟨ds,hs, .inl rfl⟩
theorem Wx.un (a:AV):Wx a .un:= .wk _ _ (.un _) (by simp)
theorem Wx.n {t:Tg} {k:Nat} {xs:List AV}:Wx (.sl t k xs) (.sl .n k xs):= .wk _ _ (.n ..) (by simp)
theorem Wx.same {a:AV} (h:∀l k xs,a≠ .sl (.fr l) k xs):Wx a a:= .wk _ _ (.same _) h
theorem Wx.int {k:IntKind} {i:Int}:Wx (.int k i) (.int k i):= .same (by simp)
theorem Wx.b8 {c:UInt8}:Wx (b8 c) (b8 c):= .same (by simp [Am.b8])
theorem Wx.bool {b:Bool}:Wx (.bool b) (.bool b):= .same (by simp)
theorem Wx.str {l:List UInt8}:Wx (.str l) (.str l):= .same (by simp)
theorem Wx.ptr {s o:Nat}:Wx (.ptr s o) (.ptr s o):= .same (by simp)
theorem Wx.v {x:Value}:Wx (.v x) (.v x):= .same (by simp)
theorem Wx.fn {f:Nat} {cs:List AV}:Wx (.fn f cs) (.fn f cs):= .same (by simp)
theorem Wx.ep {a:AV} {o:Nat}:Wx (.ep a o) (.ep a o):= .same (by simp)
theorem Wx.ex {k:Nat} {xs:List AV}:Wx (.sl .ex k xs) (.sl .ex k xs):= .same (by simp)
theorem Wx.nn {k:Nat} {xs:List AV}:Wx (.sl .n k xs) (.sl .n k xs):= .same (by simp)
theorem Wx.oo {k:Nat} {xs:List AV}:Wx (.sl .own k xs) (.sl .own k xs):= .same (by simp)
theorem Wx.aem {t:TypeId}:Wx (.dc t) (.dc t):= .same (by simp)
theorem Wx.ab2 {e:TypeId} {l:List UInt8}:Wx (.cV e l) (.cV e l):= .same (by simp)
theorem Wx.aen {e:TypeId} {l m:List UInt8} (h:l=m):Wx (.cV e l) (.cV e m):=by subst h;exact .ab2
theorem Wx.agg {cs cs':List AV} (h:eR cs cs'):Wx (.agg cs) (.agg cs'):= .wk _ _ (.agg _ _ h.len fun i a b h1 h2=>(h.get i a b h1 h2).w) (by simp)
theorem Wx.bz {cs cs':List AV} (h:eR cs cs'):Wx (.bz cs) (.bz cs'):= .wk _ _ (.bz _ _ h.len fun i a b h1 h2=>(h.get i a b h1 h2).w) (by simp)
theorem Wx.ab3 {cs cs':List AV} (h:oa cs cs'):Wx (.bz cs) (.bz cs'):= .OE _ _ h
theorem oa.nil:oa [] []:=trivial
theorem oa.same {a:AV} {r r':List AV} (h:oa r r'):oa (a::r) (a::r'):=⟨.inl (.inl rfl),h⟩
theorem oa.n {t:Tg} {k:Nat} {xs:List AV} {r r':List AV} (h:oa r r'):oa (.sl t k xs::r) (.sl .n k xs::r'):=⟨.inl (.inr ⟨_,_,_,rfl,rfl⟩),h⟩
theorem oa.agg {ds ds':List AV} {r r':List AV} (hd:eR ds ds') (h:oa r r'):oa (.agg ds::r) (.agg ds'::r'):=⟨.inr ⟨_,_,rfl,rfl,hd⟩,h⟩
theorem eR.nil:eR [] []:=trivial
theorem eR.same {a:AV} {r r':List AV} (h:eR r r'):eR (a::r) (a::r'):=⟨.inl rfl,h⟩
theorem eR.n {t:Tg} {k:Nat} {xs:List AV} {r r':List AV} (h:eR r r'):eR (.sl t k xs::r) (.sl .n k xs::r'):=⟨.inr ⟨_,_,_,rfl,rfl⟩,h⟩
theorem vi.nil:vi [] []:=⟨rfl,fun i a a' h=>by simp at h⟩
theorem vi.cons {a a':AV} {r r':List AV} (h:Wx a a') (hr:vi r r'):vi (a::r) (a'::r'):=by
 refine ⟨by simp [hr.1],fun i b b' h1 h2=> ?_⟩
 rcases i with _|i
 · simp at h1 h2;subst h1;subst h2;exact h
 · exact hr.2 i b b' (by simpa using h1) (by simpa using h2)
def WE (e e1:Env):Prop:=∀p∈e1,Wx (Am.get e p.1) p.2
theorem WE.nil {e:Env}:WE e []:=by intro p hp;cases hp
theorem WE.cons {e r:Env} {i:Nat} {a:AV} (h:Wx (Am.get e i) a) (hr:WE e r):WE e ((i,a)::r):=by
 intro p hp
 rcases List.mem_cons.1 hp with rfl|hp
 · exact h
 · exact hr p hp
theorem WE.all {e e1:Env} (h:WE e e1):∀t,Wx (Am.get e t) (Am.get e1 t):=by
 intro t
 have key:∀e1:Env,Am.get e1 t= .un∨∃p∈e1,p.1=t∧Am.get e1 t=p.2:=by
  intro e1
  induction e1 with
  |nil=>exact .inl rfl
  |cons p r ih=>
   obtain ⟨i,a⟩:=p
   simp only [Am.get]
   split
   · rename_i h;exact .inr ⟨(i,a),by simp,h,rfl⟩
   · rcases ih with h|⟨p,hp,h1,h2⟩
     · exact .inl h
     · exact .inr ⟨p,List.mem_cons_of_mem _ hp,h1,h2⟩
 rcases key e1 with h0|⟨p,hp,rfl,h2⟩
 · rw [h0];exact Wx.un _
 · rw [h2];exact h p hp
section
variable {P:Program} {L:List Nat} {N n0:Nat} {e:Env} {ah:AH} {t:List It} {Q K:Exit→Env→AH→Prop} {r:List aM} {d:Option Nat}
theorem AW.He {c:Code} {e1:Env} {bW:AH} (hw:WS e ah e1 bW) (h:AW P L N n0 c Q e1 bW):AW P L N n0 c Q e ah:=
 fun F γ C ts w hs hn=>h F γ C ts w (hs.wx hw) hn
theorem AW.closed {c:Code} (h:AW P L N n0 c (fun x e ah=>Q x e ah∨∃e1 bW,WS e ah e1 bW∧Q x e1 bW) e ah):AW P L N n0 c Q e ah:=by
 intro F γ C ts w hs hn
 refine wp_mono (h F γ C ts w hs hn) ?_
 rintro x a w' ⟨hd,hg,e',aB,γ',C',h1,h2,h3,h4⟩
 rcases h1 with h1|⟨e1,bW,hw,h1⟩
 · exact ⟨hd,hg,e',aB,γ',C',h1,h2,h3,h4⟩
 · exact ⟨hd,hg,e1,bW,γ',C',h1,h2,h3.wx hw,h4⟩
theorem AX.weak {c:av} {e1:Env} {bW:AH} (he:WE e e1) (hh:fT ah bW) (h:AX P L N n0 c Q e1 bW):AX P L N n0 c Q e ah:=
 fun c' bZ=>AW.He ⟨he.all,hh⟩ (h c' bZ)
theorem AX.mono {c:av} {Q':Exit→Env→AH→Prop} (h:AX P L N n0 c Q e ah) (hq:∀x e ah,Q x e ah→Q' x e ah):AX P L N n0 c Q' e ah:=
 fun c' bZ=>(h c' bZ).mono hq
theorem AX.go {m c:av} (hm:erase m=c) (ho:qs N c=true)
 (h:∀K':Exit→Env→AH→Prop,(∀x e ah e1 bW,WE e e1→fT ah bW→K x e1 bW→K' x e ah)→U P L N n0 [.code m] K' .normal e ah):AX P L N n0 c K e ah:=by
 subst hm
 intro c' bZ
 refine AW.closed (oz c' m _ e ah bZ ho (h _ ?_))
 intro x e ah e1 bW h1 h2 h3
 exact .inr ⟨e1,bW,⟨h1.all,h2⟩,h3⟩
theorem ZV {c:av} (h:AX P L N n0 c (fun x e ah=>U P L N n0 t Q x e ah) e ah):UX P L N n0 c t Q e ah:=h
inductive St (ρ τ σ:Type) where
 |ret (r:ρ)
 |eZ (t:τ)
 |dz (s:σ)
def iter {ρ τ σ:Type} (body:σ→Option (St ρ τ σ)):Nat→σ→Option (ρ⊕τ)
 |0,_=>none
 |n+1,s=>match body s with
  |none=>none
  |some (.ret r)=>some (.inl r)
  |some (.eZ t)=>some (.inr t)
  |some (.dz s')=>iter body n s'
theorem AX.iter {ρ τ σ:Type} {body:σ→Option (St ρ τ σ)} {m c:av} (hm:erase m=c) (ho:qs N c=true) (J:σ→Env→AH→Prop) {F:Nat} {s0:σ} {o:ρ⊕τ} (hit:Am.iter body F s0=some o) (h0:J s0 e ah)
 (round:∀(K':Exit→Env→AH→Prop) s st e ah,J s e ah→body s=some st→
  (∀s',st= .dz s'→∀e' aB e1 bW,WE e' e1→fT aB bW→J s' e1 bW→K' .normal e' aB)→
  (∀t,st= .eZ t→o= .inr t)→(∀r,st= .ret r→o= .inl r)→
  (∀x e' aB e1 bW,x≠ .normal→WE e' e1→fT aB bW→K x e1 bW→K' x e' aB)→U P L N n0 [.code m] K' .normal e ah):AX P L N n0 (.loop c) K e ah:=by
 subst hm
 intro c'
 induction c' with
 |loop c0 _=>
  intro bZ
  simp only [bN,Option.map_eq_some_iff] at bZ
  obtain ⟨a,ha,he⟩:=bZ
  injection he with he
  subst he
  refine AW.loop (fun k e ah=>∃s e1 bW,WS e ah e1 bW∧J s e1 bW∧Am.iter body k s=some o∨(J s e ah∧Am.iter body k s=some o)) (k0:=F) ?_ ⟨s0,e,ah, .inr ⟨h0,hit⟩⟩
  have main:∀k s e ah,J s e ah→Am.iter body k s=some o→AW P L N n0 c0 (fun x e' aB=>match x with
   | .normal=>∃k',k'<k∧∃s e1 bW,WS e' aB e1 bW∧J s e1 bW∧Am.iter body k' s=some o∨(J s e' aB∧Am.iter body k' s=some o)|x=>K x e' aB) e ah:=by
   intro k s e ah hJ hk
   cases k with
   |zero=>simp [Am.iter] at hk
   |succ k=>
    cases hb:body s with
    |none=>simp [Am.iter,hb] at hk
    |some st=>
     simp only [Am.iter,hb] at hk
     refine AW.closed (oz c0 m _ e ah ha ho (round _ s st e ah hJ hb ?_ ?_ ?_ ?_))
     · rintro s' rfl e' aB e1 bW g1 g2 g3
       exact .inl ⟨k,Nat.lt_succ_self k,s',e1,bW, .inl ⟨⟨g1.all,g2⟩,g3,hk⟩⟩
     · rintro t rfl;simp only [Option.some.injEq] at hk;exact hk.symm
     · rintro r rfl;simp only [Option.some.injEq] at hk;exact hk.symm
     · intro x e' aB e1 bW hx g1 g2 g3
       cases x with
       |normal=>exact absurd rfl hx
       |_=>exact .inr ⟨e1,bW,⟨g1.all,g2⟩,g3⟩
  rintro k e ah ⟨s,e1,bW,⟨hw,hJ,hk⟩|⟨hJ,hk⟩⟩
  · exact AW.He hw (main k s e1 bW hJ hk)
  · exact main k s e ah hJ hk
 |scope c0 ih=>exact fun bZ=>AW.scope (ih bZ)
 |region id ops draw=>intro bZ;simp only [bN] at bZ;repeat' (split at bZ)<;>simp at bZ
 |block i c0=>intro bZ;simp only [bN,Option.map_eq_some_iff] at bZ;obtain ⟨a, -,h⟩:=bZ;cases h
 |seq a b=>intro bZ;simp only [bN] at bZ;split at bZ<;>simp at bZ
 |cond a b c=>intro bZ;simp only [bN] at bZ;split at bZ<;>simp at bZ
 |_=>intro bZ;simp [bN] at bZ
theorem ay.wkx {f:Nat} {args:List AV} {ah:AH} {R R':AV→AH→Prop} (h:ay P f args ah R) (hr:∀r aB,R r aB→∃r' DL,Wx r r'∧fT aB DL∧R' r' DL):ay P f args ah R':=by
 refine ⟨h.1,fun F γ C w vs hs=>(h.2 F γ C w vs hs).mono ?_⟩
 rintro en w' ⟨r,v,aB,γ',C',rfl,h1,h2,h3,h4⟩
 obtain ⟨r',DL,g1,g2,g3⟩:=hr r aB h1
 refine ⟨r',v,DL,γ',C',rfl,g3,h2,h3.wx ⟨fun t=> ?_,g2⟩,h4⟩
 simp only [Am.get]
 split
 · exact g1
 · exact Wx.un _
def WL:List AV→List AV→Prop
 |[],[]=>True
 |a::r,a'::r'=>Wx a a'∧WL r r'
 |_,_=>False
theorem WL.nil:WL [] []:=trivial
theorem WL.cons {a a':AV} {r r':List AV} (h:Wx a a') (hr:WL r r'):WL (a::r) (a'::r'):=⟨h,hr⟩
theorem WL.len:∀ {zq zq':List AV},WL zq zq'→zq'.length=zq.length:=by
 intro zq
 induction zq with
 |nil=>intro zq' h;cases zq' with|nil=>rfl|cons=>exact h.elim
 |cons a r ih=>intro zq' h;cases zq' with|nil=>exact h.elim|cons a' r'=>simp [ih h.2]
theorem WL.get:∀ {zq zq':List AV},WL zq zq'→∀(i:Nat) (a a':AV),zq[i]? =some a→zq'[i]? =some a'→Wx a a':=by
 intro zq
 induction zq with
 |nil=>intro zq' _ i a a' h;simp at h
 |cons a r ih=>
  intro zq' h i b b' h1 h2
  cases zq' with
  |nil=>exact h.elim
  |cons a' r'=>
   rcases i with _|i
   · simp at h1 h2;subst h1;subst h2;exact h.1
   · exact ih h.2 i b b' (by simpa using h1) (by simpa using h2)
theorem ay.He {f:Nat} {args args':List AV} {ah bW:AH} {R:AV→AH→Prop} (hw:WL args args') (hh:fT ah bW) (h:ay P f args' bW R):ay P f args ah R:=by
 refine ⟨h.1,fun F γ C w vs hs=>h.2 F γ C w vs ?_⟩
 rw [hw.len]
 refine hs.wx ⟨fun t=> ?_,hh⟩
 rw [dy,dy]
 simp only [Nat.zero_le,if_true,Nat.sub_zero]
 cases h1:args[t]? with
 |none=>
  have:args'[t]? =none:=by
   rw [List.getElem?_eq_none_iff] at h1 ⊢
   rw [hw.len];exact h1
  rw [this];exact Wx.un _
 |some a=>
  have hlt:t<args'.length:=by rw [hw.len];exact (List.getElem?_eq_some_iff.1 h1).1
  rw [List.getElem?_eq_getElem hlt]
  exact hw.get t a _ h1 (List.getElem?_eq_getElem hlt)
theorem YJ {f:Nat} {zq zq':List AV} {bW:AH} {R:AV→AH→Prop} (h:ay P f zq' bW R) (hw:WL zq zq') (hh:fT ah bW) (hk:∀v aB,R v aB→U P L N n0 (.ops r::t) Q .normal (aC L (vQ e) d v.df) aB):
 UK P L N n0 f zq d r t Q e ah:=(h.He hw hh).mono hk
def vU (P:Program) (ah:AH) (rs:List ResultVar) (R:AV→AH→Prop) (e':Env) (H:AH):Prop:=
 ∃vs r' aB,gD P e' H rs=some vs∧Wx (fin vs) r'∧R r' aB∧
  ((Cl ah.length (fin vs)∧lV ah.length (H.take ah.length)∧ah.length≤H.length∧fT (H.take ah.length) aB)∨fT H aB)
theorem ay.ZW {f:Nat} {rs:List ResultVar} {ac m:av} (hF:bu P f N rs ac) (hm:erase m=ac) {args:List AV} {R:AV→AH→Prop} (L:List Nat)
 (ho:qs N ac=true) (hN:args.length≤N)
 (h:lV ah.length ah→∀K:Exit→Env→AH→Prop,(∀x e' H,x= .normal∨x= .ret→vU P ah rs R e' H→K x e' H)→
  AX P L N ah.length ac K (fo 0 args) ah):ay P f args ah R:=by
 refine ay.wkx (R:=fun r aB=>∃r' DL,Wx r r'∧fT aB DL∧R r' DL) ?_ (fun r aB h=>h)
 obtain ⟨fn,c,h1,h2,h3,h4,rfl,rfl⟩:=hF
 refine ay.Ov L h1 h2 h3 h4 ho hN ?_
 intro hcl hargs
 refine h hcl _ ?_
 rintro x e' H hx ⟨vs,r',aB,g1,g2,g3,⟨g4,g5,g6,g7⟩|g4⟩
 · refine .inl ⟨ah.length,Nat.le_refl _,hx, ?_⟩
   rw [g1]
   exact ⟨g4,g5,g6,r',aB,g2,g7,g3⟩
 · refine .inr ⟨hx, ?_⟩
   rw [g1]
   exact ⟨r',aB,g2,g4,g3⟩
end
end Go.Am
end
section
namespace Go.Am
open Go
variable [Tabs]
def idx {α:Type} (l:List α) (i:Int):Option α:=if 0≤i then l[i.toNat]? else none
def sub {α:Type} (l:List α) (i j:Int):Option (List α):=if 0≤i∧i≤j∧j≤l.length then some ((l.take j.toNat).drop i.toNat) else none
def cF {α:Type} (b:Nat) (xs ys:List α):Option (List α):=if (xs.length+ys.length)*b≤140737488355328∧xs.length+ys.length≤4611686018427387904 then some (xs++ys) else none
def cat (l m:List UInt8):Option (List UInt8):=if l.length+m.length≤9223372036854775807 then some (l++m) else none
def ml {α:Type} (f:α→AV) (xs:List α):List AV:=xs.map f
def dv (k:IntKind) (i j:Int):Option Int:=if j=0 then none else some (k.wrap (i.tdiv j))
def rm (k:IntKind) (i j:Int):Option Int:=if j=0 then none else some (i.tmod j)
def shl (k:IntKind) (i j:Int):Int:=k.wrap (i*2 ^ (min j.toNat k.bits))
def shr (k:IntKind) (i j:Int):Int:=i.fdiv (2 ^ (min j.toNat k.bits))
def Gn (k:IntKind) (i j:Int):Int:=k.wrap (BitVec.ofInt k.bits i &&& BitVec.ofInt k.bits j).toNat
def ZX (k:IntKind) (i j:Int):Int:=k.wrap (BitVec.ofInt k.bits i ||| BitVec.ofInt k.bits j).toNat
def Ts (k:IntKind) (i j:Int):Int:=k.wrap (BitVec.ofInt k.bits i ^^^ BitVec.ofInt k.bits j).toNat
def gx (k:IntKind) (i:Int):AV:= .int k i
theorem ak {α β:Type} {o:Option α} {f:α→Option β} {r:β} (h:o.bind f=some r):∃x,o=some x∧f x=some r:=Option.bind_eq_some_iff.1 h
theorem ifb {β:Type} {B:Bool} {x y:Option β} {r:β} (h:(if B=true then x else y)=some r):(B=true∧x=some r)∨(B=false∧y=some r):=by
 cases B
 · exact .inr ⟨rfl,h⟩
 · exact .inl ⟨rfl,h⟩
theorem DM {β:Type} {p:Prop} [Decidable p] {x:Option β} {r:β} (h:(if p then x else none)=some r):p∧x=some r:=by
 split at h
 · exact ⟨by assumption,h⟩
 · cases h
theorem OG {α:Type} (f:α→AV) (l:List α) (i:Int):idx (ml f l) i=(idx l i).map f:=by
 unfold idx ml;split<;>simp
theorem Hf {α:Type} (f:α→AV) (l:List α) (i j:Int):sub (ml f l) i j=(sub l i j).map (ml f):=by
 unfold sub ml;simp only [List.length_map];split<;>simp [List.map_take,List.map_drop,ml]
theorem wW {α:Type} (f:α→AV) (l:List α):(ml f l).length=l.length:=by simp [ml]
theorem eS {α:Type} {f:α→AV} {b:Nat} {xs ys zs:List α} (h:cF b xs ys=some zs):cF b (ml f xs) (ml f ys)=some (ml f zs):=by
 unfold cF at h ⊢
 simp only [wW]
 obtain ⟨hc,h⟩:=DM h
 rw [if_pos hc]
 injection h with h
 subst h
 simp [ml]
theorem Ci (l:List UInt8):bytesOf (ml b8 l)=some l:=JQ l
section
variable {P:Program} {L:List Nat} {N n0:Nat} {e:Env} {ah:AH} {t:List It} {Q:Exit→Env→AH→Prop} {r:List aM} {d:Option Nat} {g:Option (Nat×Bool)}
theorem ZY {y:Nat} {bs:List UInt8}:UG P L N n0 ⟨d, .lit y bs,g⟩ r t Q e ah (some true)=U P L N n0 (It.ops r::t) Q Exit.normal (put (aC L e d (.sl .ex 1 (ml b8 bs))) y .un) ah:=rfl
theorem OH {l:List UInt8} {k:IntKind} {i:Int}:JN L e ah d (.str l) (.int k i)=(idx l i).map fun c=>(aC L e d (b8 c),ah):=by
 simp only [JN,idx]
 split
 · cases l[i.toNat]? <;>rfl
 · rfl
theorem OI {tg:Tg} {k:Nat} {xs:List AV} {ki:IntKind} {i:Int}:sM L e ah d k (.sl tg k xs) (.int ki i)=(idx xs i).map fun a=>(aC L e d (.ep a 0),ah):=by
 simp only [sM,idx]
 split
 · cases xs[i.toNat]? <;>simp [OC]
 · rfl
def bI (e:Env) (dflt:Int):Option Ar→AV
 |none=> .int .i64 dflt
 |some x=>ev e x
def OJ (L:List Nat) (e:Env) (ah:AH) (d:Option Nat) (l:List UInt8):AV→AV→Option (Env×AH)
 | .int _ i, .int _ j=>(sub l i j).map fun m=>(aC L e d (.str m),ah)
 |_,_=>none
theorem Hg {n:Nat} {x:Option Ar}:lU e n x=uI (bI e n x):=by
 cases x with
 |none=>simp [lU,bI,uI]
 |some x=>simp only [Tm,bI]
theorem DN {x:Option Ar}:lU e 0 x=uI (bI e 0 x):=Hg (n:=0)
theorem abr {k:IntKind} {i:Int}:uI (.int k i)=if 0≤i then some i.toNat else none:=rfl
theorem DO {α:Type} (l:List α) (i j:Int):sub l i j=if 0≤i then if 0≤j then if i.toNat≤j.toNat∧j.toNat≤l.length then some ((l.take j.toNat).drop i.toNat) else none else none else none:=by
 unfold sub
 by_cases h1:0≤i
 · by_cases h2:0≤j
   · simp only [if_pos h1,if_pos h2]
     have:(0≤i∧i≤j∧j≤(l.length:Int))↔(i.toNat≤j.toNat∧j.toNat≤l.length):=by omega
     simp only [this]
   · rw [if_neg (by omega)];simp [h2]
 · rw [if_neg (by omega)];simp [h1]
theorem Xl {l:List UInt8} {lo hi:Option Ar}:Oz L e ah d lo hi (.str l)=OJ L e ah d l (bI e 0 lo) (bI e l.length hi):=by
 simp only [Oz,DN,Hg]
 generalize bI e 0 lo=a
 generalize bI e l.length hi=b
 cases a with
 |int k i=>
  cases b with
  |int k' j=>
   simp only [uI,OJ,DO]
   by_cases h1:0≤i<;>by_cases h2:0≤j<;>simp only [h1,h2,if_true,if_false,Oy,Option.map_none]
   split<;>rfl
  |_=>simp only [uI,OJ];split<;>rfl
 |_=>cases b<;>rfl
def OK (L:List Nat) (e:Env) (ah:AH) (d:Option Nat) (k:Nat) (xs:List AV):AV→AV→Option (Env×AH)
 | .int _ i, .int _ j=>(sub xs i j).map fun ys=>(aC L e d (.sl .n k ys),ah)
 |_,_=>none
theorem Xm {tg:Tg} {k:Nat} {xs:List AV} {lo hi:Option Ar}:OB L e ah d k lo hi (.sl tg k xs)=OK L e ah d k xs (bI e 0 lo) (bI e xs.length hi):=by
 simp only [OB,DN,Hg]
 generalize bI e 0 lo=a
 generalize bI e xs.length hi=b
 cases a with
 |int k i=>
  cases b with
  |int k' j=>
   simp only [uI,OK,DO]
   by_cases h1:0≤i<;>by_cases h2:0≤j<;>simp only [h1,h2,if_true,if_false,OA,Option.map_none,true_and]
   split<;>rfl
  |_=>simp only [uI,OK];split<;>rfl
 |_=>cases b<;>rfl
def Cj {α:Type} (l:List α) (i j m:Int):Option (List α):=if j=m then sub l i j else none
theorem JR {α:Type} (f:α→AV) (l:List α) (i j m:Int):Cj (ml f l) i j m=(Cj l i j m).map (ml f):=by
 unfold Cj;split
 · exact Hf ..
 · rfl
def DP (L:List Nat) (e:Env) (ah:AH) (d:Option Nat) (k:Nat) (xs:List AV):AV→AV→AV→Option (Env×AH)
 | .int _ i, .int _ j, .int _ m=>(Cj xs i j m).map fun ys=>(aC L e d (.sl .ex k ys),ah)
 |_,_,_=>none
theorem Tt {tg:Tg} {k:Nat} {xs:List AV} {lo:Option Ar} {hi m:Ar}:G9 L e ah d k lo hi m (.sl tg k xs)=DP L e ah d k xs (bI e 0 lo) (ev e hi) (ev e m):=by
 simp only [G9,DN,Tm]
 generalize bI e 0 lo=a
 generalize ev e hi=b
 generalize ev e m=c
 cases a with
 |int k i=>
  cases b with
  |int k' j=>
   cases c with
   |int k'' l=>
    simp only [uI,DP,Cj,DO]
    by_cases h1:0≤i<;>by_cases h2:0≤j<;>by_cases h3:0≤l<;>by_cases h4:j=l<;>simp only [h1,h2,h3,h4,if_true,if_false,G8,Option.map_none,true_and]
    all_goals first
     |rfl
     |(exfalso;omega)
     |(subst h4;split<;>rename_i q<;>split<;>rename_i q2<;>first|rfl|(exfalso;omega))
     |(split<;>first|rfl|(exfalso;omega))
   |_=>simp only [uI,DP];repeat' split
       all_goals first|rfl|skip
  |_=>simp only [uI,DP];repeat' split
      all_goals first|rfl|skip
 |_=>cases b<;>cases c<;>rfl
theorem Xn {tg:Tg} {k b:Nat} {x:Ar} {ys:List AV}:Tp L e ah d k b x (.sl tg k ys)=xO L e ah d k b x ys:=by simp [Tp]
theorem Tu {b:Nat} {x:Ar} {l:List UInt8}:Tq L e ah d b x (.str l)=xO L e ah d 1 b x (ml b8 l):=rfl
def rO (L:List Nat) (e:Env) (ah:AH) (d:Option Nat) (k:Nat) (x:Ar) (xs zs:List AV):Tg→Option (Env×AH)
 | .ex=>some (aC L e d (.sl .own k zs),ah)
 | .own=>match x with
   | .t x=>some (aC L (put e x (.sl .n k xs)) d (.sl .own k zs),ah)
   |_=>none
 | .fr (.tmp t)=>match get e t with
   | .sl .own k' us=>if k'=k then some (aC L (put e t (.sl .n k' us)) d (.sl .own k zs),ah) else none
   |_=>none
 | .fr (.cell s q)=>match ah[s]? with
   |some cs=>match cs[q]? with
    |some (.sl .own k' us)=>if k'=k then (over cs q [.sl .n k' us]).map fun cs=>(aC L e d (.sl .own k zs),ah.set s cs) else none
    |_=>none
   |none=>none
 | .n=>none
def DQ (L:List Nat) (e:Env) (ah:AH) (d:Option Nat) (k:Nat) (x:Ar) (xs:List AV) (tg:Tg):Option (List AV)→Option (Env×AH)
 |some zs=>rO L e ah d k x xs zs tg
 |none=>none
theorem Tv {L:List Nat} {e:Env} {ah:AH} {d:Option Nat} {k:Nat} {x:Ar} {xs zs:List AV} {tg:Tg}:DQ L e ah d k x xs tg (some zs)=rO L e ah d k x xs zs tg:=rfl
def Hh (L:List Nat) (e:Env) (ah:AH) (d:Option Nat) (k b:Nat) (x:Ar) (ys:List AV):AV→Option (Env×AH)
 | .sl tg k' xs=>if k'=k then DQ L e ah d k x xs tg (cF b xs ys) else none
 |_=>none
theorem Xo {k b:Nat} {x:Ar} {ys:List AV}:xO L e ah d k b x ys=Hh L e ah d k b x ys (ev e x):=by
 simp only [xO]
 cases ev e x with
 |sl tg k' xs=>
  simp only [Hh,cF]
  by_cases h1:k'=k
  · subst h1
    simp only [true_and,if_true]
    by_cases h2:(xs.length+ys.length)*b≤140737488355328∧xs.length+ys.length≤4611686018427387904
    · simp only [if_pos h2,DQ]
      cases tg with
      |fr l=>cases l with
       |tmp u=>
        simp only [rO]
        cases get e u with
        |sl Xp k2 zs=>cases Xp<;>rfl
        |_=>rfl
       |cell s q=>
        simp only [rO]
        cases ah[s]? with
        |none=>rfl
        |some cs=>
         simp only []
         cases cs[q]? with
         |none=>rfl
         |some a=>cases a with
          |sl Xp k2 zs=>cases Xp<;>rfl
          |_=>rfl
      |own=>cases x<;>rfl
      |_=>rfl
    · simp only [if_neg h2,DQ]
  · simp [h1]
 |_=>rfl
end
theorem Tw {k:IntKind} {i j:Int}:bl .add (.int k i) (.int k j)=some (.int k (k.wrap (i+j))):=by simp [bl,cH]
theorem Tx {k:IntKind} {i j:Int}:bl .sub (.int k i) (.int k j)=some (.int k (k.wrap (i - j))):=by simp [bl,cH]
theorem ZZ {k:IntKind} {i j:Int}:bl .mul (.int k i) (.int k j)=some (.int k (k.wrap (i*j))):=by simp [bl,cH]
theorem Z0 {k:IntKind} {i j:Int}:bl .quo (.int k i) (.int k j)=(dv k i j).map (.int k):=by simp [bl,cH,dv];split<;>rfl
theorem Ty {k:IntKind} {i j:Int}:bl .rem (.int k i) (.int k j)=(rm k i j).map (.int k):=by simp [bl,cH,rm];split<;>rfl
theorem Tz {k:IntKind} {i j:Int}:bl .and (.int k i) (.int k j)=some (.int k (Gn k i j)):=by simp [bl,cH,Gn]
theorem YK {k:IntKind} {i j:Int}:bl .or (.int k i) (.int k j)=some (.int k (ZX k i j)):=by simp [bl,cH,ZX]
theorem TA {k:IntKind} {i j:Int}:bl .xor (.int k i) (.int k j)=some (.int k (Ts k i j)):=by simp [bl,cH,Ts]
theorem ad1 {k k':IntKind} {i j:Int}:bl .shl (.int k i) (.int k' j)=if j<0 then none else some (.int k (shl k i j)):=by simp [bl,shl]
theorem ad3 {k k':IntKind} {i j:Int}:bl .shr (.int k i) (.int k' j)=if j<0 then none else some (.int k (shr k i j)):=by simp [bl,shr]
theorem TB {k:IntKind} {i j:Int}:bl .eql (.int k i) (.int k j)=some (.bool (decide (i=j))):=by simp [bl,cH]
theorem TD {k:IntKind} {i j:Int}:bl .neq (.int k i) (.int k j)=some (.bool (!decide (i=j))):=by simp [bl,cH]
theorem TE {k:IntKind} {i j:Int}:bl .lss (.int k i) (.int k j)=some (.bool (decide (i<j))):=by simp [bl,cH]
theorem TF {k:IntKind} {i j:Int}:bl .leq (.int k i) (.int k j)=some (.bool (decide (i≤j))):=by simp [bl,cH]
theorem TG {k:IntKind} {i j:Int}:bl .gtr (.int k i) (.int k j)=some (.bool (decide (j<i))):=by simp [bl,cH]
theorem TH {k:IntKind} {i j:Int}:bl .geq (.int k i) (.int k j)=some (.bool (decide (j≤i))):=by simp [bl,cH]
theorem Xq {k k':IntKind} {i:Int}:bl .shr (.int k i) (.int k' 1)=some (.int k (shr k i 1)):=by simp [bl,shr]
theorem Xr {k k':IntKind} {i:Int}:bl .shl (.int k i) (.int k' 1)=some (.int k (shl k i 1)):=by simp [bl,shl]
theorem Xs {k k':IntKind} {i:Int}:bl .shr (.int k i) (.int k' 2)=some (.int k (shr k i 2)):=by simp [bl,shr]
theorem Xt {k k':IntKind} {i:Int}:bl .shl (.int k i) (.int k' 2)=some (.int k (shl k i 2)):=by simp [bl,shl]
theorem Xu {k k':IntKind} {i:Int}:bl .shr (.int k i) (.int k' 3)=some (.int k (shr k i 3)):=by simp [bl,shr]
theorem Xv {k k':IntKind} {i:Int}:bl .shl (.int k i) (.int k' 3)=some (.int k (shl k i 3)):=by simp [bl,shl]
theorem Xw {k k':IntKind} {i:Int}:bl .shr (.int k i) (.int k' 4)=some (.int k (shr k i 4)):=by simp [bl,shr]
theorem Xx {k k':IntKind} {i:Int}:bl .shl (.int k i) (.int k' 4)=some (.int k (shl k i 4)):=by simp [bl,shl]
theorem Xy {k k':IntKind} {i:Int}:bl .shr (.int k i) (.int k' 5)=some (.int k (shr k i 5)):=by simp [bl,shr]
theorem Xz {k k':IntKind} {i:Int}:bl .shl (.int k i) (.int k' 5)=some (.int k (shl k i 5)):=by simp [bl,shl]
theorem XA {k k':IntKind} {i:Int}:bl .shr (.int k i) (.int k' 6)=some (.int k (shr k i 6)):=by simp [bl,shr]
theorem XB {k k':IntKind} {i:Int}:bl .shl (.int k i) (.int k' 6)=some (.int k (shl k i 6)):=by simp [bl,shl]
theorem XC {k k':IntKind} {i:Int}:bl .shr (.int k i) (.int k' 7)=some (.int k (shr k i 7)):=by simp [bl,shr]
theorem XD {k k':IntKind} {i:Int}:bl .shl (.int k i) (.int k' 7)=some (.int k (shl k i 7)):=by simp [bl,shl]
theorem XE {k k':IntKind} {i:Int}:bl .shr (.int k i) (.int k' 8)=some (.int k (shr k i 8)):=by simp [bl,shr]
theorem XF {k k':IntKind} {i:Int}:bl .shl (.int k i) (.int k' 8)=some (.int k (shl k i 8)):=by simp [bl,shl]
theorem TI {k k':IntKind} {i:Int}:bl .shr (.int k i) (.int k' 16)=some (.int k (shr k i 16)):=by simp [bl,shr]
theorem TJ {k k':IntKind} {i:Int}:bl .shl (.int k i) (.int k' 16)=some (.int k (shl k i 16)):=by simp [bl,shl]
theorem TK {k k':IntKind} {i:Int}:bl .shr (.int k i) (.int k' 24)=some (.int k (shr k i 24)):=by simp [bl,shr]
theorem TL {k k':IntKind} {i:Int}:bl .shl (.int k i) (.int k' 24)=some (.int k (shl k i 24)):=by simp [bl,shl]
theorem Z1 {l m:List UInt8}:bl .add (.str l) (.str m)=(cat l m).map .str:=by simp only [bl,cat];split<;>rfl
theorem Z2 {l m:List UInt8}:bl .eql (.str l) (.str m)=some (.bool (decide (l=m))):=rfl
theorem Z3 {l m:List UInt8}:bl .neq (.str l) (.str m)=some (.bool (!decide (l=m))):=rfl
theorem TM (n:Int):IntKind.wrap .u8 n=((UInt8.ofInt n).toNat:Int):=by
 have:(UInt8.ofInt n).toNat=(n % 256).toNat:=by
  rw [UInt8.ofInt]
  simp
  omega
 rw [this]
 simp only [IntKind.wrap,IntKind.bits,IntKind.signed,Bool.false_and,if_false,Bool.false_eq_true]
 omega
theorem XG (a b:UInt8):IntKind.wrap .u8 ((a.toNat:Int)+b.toNat)=((a+b).toNat:Int):=by
 have h1:=a.toNat_lt
 have h2:=b.toNat_lt
 simp only [IntKind.wrap,IntKind.bits,IntKind.signed,Bool.false_and,if_false,Bool.false_eq_true,UInt8.toNat_add]
 omega
theorem XH (a b:UInt8):IntKind.wrap .u8 ((a.toNat:Int) - b.toNat)=((a - b).toNat:Int):=by
 have h1:=a.toNat_lt
 have h2:=b.toNat_lt
 simp only [IntKind.wrap,IntKind.bits,IntKind.signed,Bool.false_and,if_false,Bool.false_eq_true,UInt8.toNat_sub]
 omega
theorem Hi (a:UInt8):IntKind.wrap .u8 (a.toNat:Int)=(a.toNat:Int):=by
 have h1:=a.toNat_lt
 simp only [IntKind.wrap,IntKind.bits,IntKind.signed,Bool.false_and,if_false,Bool.false_eq_true]
 omega
theorem ofInt8 (a:UInt8):BitVec.ofInt 8 (a.toNat:Int)=a.toBitVec:=by
 apply BitVec.eq_of_toNat_eq;simp
theorem Z4 {a b:UInt8}:bl .add (b8 a) (b8 b)=some (b8 (a+b)):=by simp only [b8];rw [Tw,XG]
theorem Z5 {a b:UInt8}:bl .sub (b8 a) (b8 b)=some (b8 (a - b)):=by simp only [b8];rw [Tx,XH]
theorem Z6 {a b:UInt8}:bl .and (b8 a) (b8 b)=some (b8 (a &&& b)):=by
 simp only [b8];rw [Tz,Gn]
 have:((BitVec.ofInt IntKind.u8.bits (a.toNat:Int) &&& BitVec.ofInt IntKind.u8.bits (b.toNat:Int)).toNat:Int)=((a &&& b).toNat:Int):=by
  simp only [IntKind.bits,ofInt8];rfl
 rw [this,Hi]
theorem ab4 {a b:UInt8}:bl .or (b8 a) (b8 b)=some (b8 (a ||| b)):=by
 simp only [b8];rw [YK,ZX]
 have:((BitVec.ofInt IntKind.u8.bits (a.toNat:Int) ||| BitVec.ofInt IntKind.u8.bits (b.toNat:Int)).toNat:Int)=((a ||| b).toNat:Int):=by
  simp only [IntKind.bits,ofInt8];rfl
 rw [this,Hi]
theorem Z7 {a b:UInt8}:bl .xor (b8 a) (b8 b)=some (b8 (a ^^^ b)):=by
 simp only [b8];rw [TA,Ts]
 have:((BitVec.ofInt IntKind.u8.bits (a.toNat:Int) ^^^ BitVec.ofInt IntKind.u8.bits (b.toNat:Int)).toNat:Int)=((a ^^^ b).toNat:Int):=by
  simp only [IntKind.bits,ofInt8];rfl
 rw [this,Hi]
theorem Z8 {a b:UInt8}:bl .rem (b8 a) (b8 b)=if b=0 then none else some (b8 (a % b)):=by
 simp only [b8];rw [Ty,rm]
 by_cases h:b=0
 · subst h;simp
 · have h2:¬(b.toNat:Int)=0:=by
    intro h0;apply h;apply UInt8.toNat_inj.1;simp;omega
   rw [if_neg h,if_neg h2]
   simp only [Option.map_some,UInt8.toNat_mod]
   rw [Int.tmod_eq_emod_of_nonneg (by omega)]
   simp
theorem Z9 {a b:UInt8}:bl .eql (b8 a) (b8 b)=some (.bool (decide (a=b))):=by
 simp only [b8];rw [TB];simp [←UInt8.toNat_inj,Int.ofNat_inj]
theorem aaa {a b:UInt8}:bl .neq (b8 a) (b8 b)=some (.bool (!decide (a=b))):=by
 simp only [b8];rw [TD];simp [←UInt8.toNat_inj,Int.ofNat_inj]
theorem aab {a b:UInt8}:bl .lss (b8 a) (b8 b)=some (.bool (decide (a<b))):=by
 simp only [b8];rw [TE];simp [UInt8.lt_iff_toNat_lt]
theorem aac {a b:UInt8}:bl .leq (b8 a) (b8 b)=some (.bool (decide (a≤b))):=by
 simp only [b8];rw [TF];simp [UInt8.le_iff_toNat_le]
theorem aad {a b:UInt8}:bl .gtr (b8 a) (b8 b)=some (.bool (decide (b<a))):=by
 simp only [b8];rw [TG];simp [UInt8.lt_iff_toNat_lt]
theorem aae {a b:UInt8}:bl .geq (b8 a) (b8 b)=some (.bool (decide (b≤a))):=by
 simp only [b8];rw [TH];simp [UInt8.le_iff_toNat_le]
theorem ab5 {k:IntKind} {c:UInt8}:fF (.int k) (b8 c)=some (.int k (k.wrap c.toNat)):=rfl
theorem ab6 {k:IntKind} {i:Int}:fF (.int .u8) (.int k i)=some (b8 (UInt8.ofInt i)):=by simp only [fF,b8,TM]
theorem ab7 {c:UInt8}:fF (.int .u8) (b8 c)=some (b8 c):=by simp only [fF,b8,Hi]
theorem ab8 {k':IntKind} {i:Int}:fF (.int .i8) (.int k' i)=some (.int .i8 (IntKind.wrap .i8 i)):=rfl
theorem aaf {k':IntKind} {i:Int}:fF (.int .i16) (.int k' i)=some (.int .i16 (IntKind.wrap .i16 i)):=rfl
theorem aag {k':IntKind} {i:Int}:fF (.int .i32) (.int k' i)=some (.int .i32 (IntKind.wrap .i32 i)):=rfl
theorem aah {k':IntKind} {i:Int}:fF (.int .i64) (.int k' i)=some (.int .i64 (IntKind.wrap .i64 i)):=rfl
theorem aai {k':IntKind} {i:Int}:fF (.int .u16) (.int k' i)=some (.int .u16 (IntKind.wrap .u16 i)):=rfl
theorem aaj {k':IntKind} {i:Int}:fF (.int .u32) (.int k' i)=some (.int .u32 (IntKind.wrap .u32 i)):=rfl
theorem aak {k':IntKind} {i:Int}:fF (.int .u64) (.int k' i)=some (.int .u64 (IntKind.wrap .u64 i)):=rfl
theorem ab9 {l:List UInt8}:fF .same (.str l)=some (.str l):=rfl
theorem acd {l:List UInt8}:fF .sb (.str l)=some (.sl .own 1 (ml b8 l)):=rfl
theorem ace {tg:Tg} {xs:List AV}:fF .bs (.sl tg 1 xs)=(bytesOf xs).map .str:=rfl
theorem aal {k:IntKind} {i:Int}:Lx .neg (.int k i)=some (.int k (k.wrap (0 - i))):=rfl
theorem aam {b:Bool}:Lx .not (.bool b)=some (.bool !b):=rfl
def acf (k:IntKind) (i:Int):Int:=k.wrap (BitVec.ofInt k.bits (if k.signed then -1 else k.max) ^^^ BitVec.ofInt k.bits i).toNat
theorem aan {k:IntKind} {i:Int}:Lx .xor (.int k i)=some (.int k (acf k i)):=rfl
theorem Hj:bytesOf []=some []:=rfl
theorem LX {c:UInt8} {r:List AV}:bytesOf (b8 c::r)=(bytesOf r).map (c:: ·):=by
 simp [b8,bytesOf]
theorem Q_i {ks:List Pk} {k:IntKind} {i j:Int} {zq bs:List AV}:cr (.i::ks) (.int k i::zq) (.int k j::bs)=(cr ks zq bs).map (decide (i=j)&& ·):=by simp [cr]
theorem Q_s {ks:List Pk} {l m:List UInt8} {zq bs:List AV}:cr (.s::ks) (.str l::zq) (.str m::bs)=(cr ks zq bs).map (decide (l=m)&& ·):=rfl
theorem Q_b {ks:List Pk} {x y:Bool} {zq bs:List AV}:cr (.b::ks) (.bool x::zq) (.bool y::bs)=(cr ks zq bs).map ((x==y)&& ·):=rfl
theorem Q_n:cr [] [] []=some true:=rfl
theorem acg {x y:Bool}:Lu (.bool x) (.bool y)=some (x==y):=rfl
theorem ach {s o:Nat}:Lv (.ptr s o) (.v (.pointer none))=some false:=rfl
theorem aci {s o:Nat}:Lv (.v (.pointer none)) (.ptr s o)=some false:=rfl
theorem acj:Lv (.v (.pointer none)) (.v (.pointer none))=some true:=rfl
section
variable {P:Program} {L:List Nat} {N n0:Nat} {e:Env} {ah:AH} {t:List It} {Q:Exit→Env→AH→Prop} {r:List aM} {d:Option Nat}
theorem vV {c:UInt8}:(b8 c).bP=b8 c:=rfl
theorem YL {c:UInt8}:(b8 c).sh=b8 c:=rfl
theorem aeo {c:UInt8}:(b8 c).s1=b8 c:=rfl
theorem aep {c:UInt8}:(b8 c).s0=b8 c:=rfl
theorem YM {c:UInt8}:(b8 c).df=b8 c:=rfl
theorem ad4 {c:UInt8}:(b8 c).iL=b8 c:=rfl
theorem ad5 {c:UInt8}:(b8 c).qo=b8 c:=rfl
theorem adN {c:UInt8} {l:Loc}:(b8 c).eH l=b8 c:=rfl
theorem ad6 {c:UInt8}:(b8 c).bT=false:=rfl
theorem wX {c:UInt8}:(b8 c).flat=true:=rfl
theorem ad7 {c:UInt8}:(b8 c).ig=true:=rfl
theorem aeq {c:UInt8}:(b8 c).np=true:=rfl
theorem ack {c:UInt8}:(b8 c).cells=[b8 c]:=rfl
theorem ad8 {c:UInt8}:(b8 c).eV=false:=rfl
theorem aer {c:UInt8} {x:Ar}:cp L x (b8 c)=b8 c:=rfl
theorem ad9 {c:UInt8} {x:Ar}:jz P L N n0 e ah d r t Q x (b8 c)=U P L N n0 (.ops r::t) Q .normal (aC L e d (b8 c)) ah:=rfl
theorem OL {n:Nat} {c:UInt8}:Cl n (b8 c):= .int ..
theorem aao {l:List UInt8} {c:UInt8}:JN L e ah d (.str l) (b8 c)=(idx l c.toNat).map fun c=>(aC L e d (b8 c),ah):=OH
theorem aap {tg:Tg} {k:Nat} {xs:List AV} {c:UInt8}:sM L e ah d k (.sl tg k xs) (b8 c)=(idx xs c.toNat).map fun a=>(aC L e d (.ep a 0),ah):=OI
theorem aea {s o:Nat} {c:UInt8}:mM s o (some (b8 c))=some (b8 c):=rfl
theorem aaq {c:UInt8}:PD L d e ah (some (b8 c))=some (aC L e d (b8 c),ah):=rfl
end
theorem h_eq {H:AH} {q:Nat} {c:List AV} (h:q<H.length):(H.set q c)[q]? =some c:=List.getElem?_set_self h
theorem YN {H:AH} {s q:Nat} {c:List AV} (h:s≠q):(H.set s c)[q]? =H[q]? :=List.getElem?_set_ne h
theorem TN {H T:AH} {q:Nat} (h:q<H.length):(H++T)[q]? =H[q]? :=List.getElem?_append_left h
theorem aar {H:AH} {c:List AV}:(H++[c])[H.length]? =some c:=by simp
theorem OM {H:AH} {q:Nat} {c:List AV} (h:q=H.length):(H++[c])[q]? =some c:=by subst h;simp
theorem aY {H:AH} {q:Nat} {c:List AV} (h:H[q]? =some c):q<H.length:=(List.getElem?_eq_some_iff.1 h).1
theorem xQ {H:AH} {q:Nat} {c:List AV}:(H.set q c).length=H.length:=List.length_set
theorem xR {H:AH} {c:List AV}:(H++[c]).length=H.length+1:=by simp
structure Fr (ah:AH) (n0:Nat) (S:List Nat) (H:AH):Prop where
 le:n0≤H.length
 eq:∀j,j<n0→j∉S→H[j]? =ah[j]?
theorem Fr.refl (ah:AH) (S:List Nat):Fr ah ah.length S ah:=⟨Nat.le_refl _,fun _ _ _=>rfl⟩
theorem Fr.set {ah H:AH} {n0 s:Nat} {S:List Nat} {c:List AV} (h:Fr ah n0 S H) (hs:s∈S∨n0≤s):Fr ah n0 S (H.set s c):=by
 refine ⟨by simpa using h.le,fun j hj DR=> ?_⟩
 rw [List.getElem?_set_ne,h.eq j hj DR]
 rintro rfl
 rcases hs with hs|hs
 · exact DR hs
 · omega
theorem Fr.app {ah H T:AH} {n0:Nat} {S:List Nat} (h:Fr ah n0 S H):Fr ah n0 S (H++T):=by
 have:=h.le
 exact ⟨by simp;omega,fun j hj DR=>by rw [List.getElem?_append_left (by omega),h.eq j hj DR]⟩
theorem Fr.YO {ah H:AH} (h:Fr ah ah.length [] H):H.take ah.length=ah:=by
 apply List.ext_getElem?
 intro j
 by_cases hj:j<ah.length
 · rw [List.getElem?_take_of_lt hj,h.eq j hj (by simp)]
 · rw [List.getElem?_eq_none (by simp;omega),List.getElem?_eq_none (by omega)]
theorem Fr.YP {ah H:AH} {s:Nat} {c:List AV} (h:Fr ah ah.length [s] H) (hs:H[s]? =some c) (hl:s<ah.length):H.take ah.length=ah.set s c:=by
 apply List.ext_getElem?
 intro j
 by_cases hj:j<ah.length
 · rw [List.getElem?_take_of_lt hj]
   by_cases he:j=s
   · subst he;rw [hs,List.getElem?_set_self hl]
   · rw [List.getElem?_set_ne (Ne.symm he),h.eq j hj (by simpa using he)]
 · rw [List.getElem?_eq_none (by simp;omega),List.getElem?_eq_none (by simp;omega)]
theorem Fr.YQ {ah H:AH} {s s2:Nat} {c c2:List AV} (h:Fr ah ah.length [s,s2] H) (hs:H[s]? =some c) (hs2:H[s2]? =some c2) (hl:s<ah.length) (Cu:s2<ah.length) (hne:s≠s2):H.take ah.length=(ah.set s c).set s2 c2:=by
 apply List.ext_getElem?
 intro j
 by_cases hj:j<ah.length
 · rw [List.getElem?_take_of_lt hj]
   by_cases he:j=s2
   · subst he;rw [hs2,List.getElem?_set_self (by simpa using Cu)]
   · rw [List.getElem?_set_ne (Ne.symm he)]
     by_cases he1:j=s
     · subst he1;rw [hs,List.getElem?_set_self hl]
     · rw [List.getElem?_set_ne (Ne.symm he1),h.eq j hj (by simp;exact ⟨he1,he⟩)]
 · rw [List.getElem?_eq_none (by simp;omega),List.getElem?_eq_none (by simp;omega)]
end Go.Am
end
section
namespace Go.Am
open Go
variable [Tabs]
def ec:Bool→AV
 |true=> .ef
 |false=> .v .nilIface
def OO (L:List Nat) (e:Env) (ah:AH) (d:Option Nat):AV→Option (Env×AH)
 | .sl _ _ xs=>some (aC L e d (.int .i64 xs.length),ah)
 | .cw _ _ _ n=>some (aC L e d (.int .i64 n),ah)
 | .b5 _ _ n _=>some (aC L e d (.int .i64 n),ah)
 |_=>none
def TP (L:List Nat) (e:Env) (ah:AH) (d:Option Nat):AV→Option (Env×AH)
 | .str l=>some (aC L e d (.int .i64 l.length),ah)
 |_=>none
def TQ (L:List Nat) (e:Env) (ah:AH) (d:Option Nat):Option AV→Option (Env×AH)
 |some a=>some (aC L e d a.sh,ah)
 |none=>none
def TR (L:List Nat) (e:Env) (ah:AH) (d:Option Nat) (i:Nat):AV→Option (Env×AH)
 | .bz cs=>TQ L e ah d (cs[i]?)
 |_=>none
def LY (L:List Nat) (e:Env) (ah:AH) (d:Option Nat):Option AV→Option (Env×AH)
 |some a=>some (aC L e d a.bP,ah)
 |none=>none
def Hl (L:List Nat) (e:Env) (ah:AH) (d:Option Nat) (q:Nat):Option Nat→AV→Option (Env×AH)
 |some n, .agg cs=>if q+n≤cs.length then some (aC L e d (.agg (((cs.drop q).take n).map AV.bP)),ah) else none
 |none, .agg cs=>LY L e ah d (cs[q]?)
 |_,_=>none
def TS (L:List Nat) (e:Env) (ah:AH) (d:Option Nat) (n:Option Nat):AV→Option (Env×AH)
 | .ep a p=>G7 L d n e ah (.ep a p)
 |_=>none
theorem TT {z:Value}:AV.bP (.v z)=(.v z:AV):=rfl
theorem LZ {k:IntKind} {i:Int}:AV.bP (.int k i)=(.int k i:AV):=rfl
theorem JS {b:Bool}:AV.bP (.bool b)=(.bool b:AV):=rfl
theorem L0 {l:List UInt8}:AV.bP (.str l)=(.str l:AV):=rfl
theorem L1 {s o:Nat}:AV.bP (.ptr s o)=(.ptr s o:AV):=rfl
theorem PJ {a:AV} {o:Nat}:AV.bP (.ep a o)=(.ep a o:AV):=rfl
theorem PK {f:Nat} {cs:List AV}:AV.bP (.fn f cs)=(.fn f cs:AV):=rfl
theorem PL:AV.bP (.un)=(.un:AV):=rfl
theorem PM {c:UInt8}:AV.bP (b8 c)=(b8 c:AV):=rfl
theorem PN {k:Nat} {xs:List AV}:AV.bP (.sl .n k xs)=(.sl .n k xs:AV):=rfl
theorem L2 {k:Nat} {xs:List AV}:AV.bP (.sl .ex k xs)=(.sl .ex k xs:AV):=rfl
theorem JT {k:Nat} {xs:List AV}:AV.bP (.sl .own k xs)=(.sl .n k xs:AV):=rfl
theorem L3 {l:Loc} {k:Nat} {xs:List AV}:AV.bP (.sl (.fr l) k xs)=(.sl .n k xs:AV):=rfl
theorem L4 {cs:List AV}:AV.bP (.agg cs)=(.agg cs:AV):=rfl
theorem L5 {cs:List AV}:AV.bP (.bz cs)=(.bz cs:AV):=rfl
theorem L6 {q0 k0 o0 m0:Nat}:AV.bP (.cw q0 k0 o0 m0)=(.cw q0 k0 o0 m0:AV):=rfl
theorem L7 {q0 k0 m0 c0:Nat}:AV.bP (.b5 q0 k0 m0 c0)=(.b5 q0 k0 m0 c0:AV):=rfl
theorem L8:AV.bP (.ef)=(.ef:AV):=rfl
theorem PO {eb:Bool}:AV.bP (ec eb)=(ec eb:AV):=by cases eb<;>rfl
theorem XI {z:Value}:AV.sh (.v z)=(.v z:AV):=rfl
theorem PR {k:IntKind} {i:Int}:AV.sh (.int k i)=(.int k i:AV):=rfl
theorem L9 {b:Bool}:AV.sh (.bool b)=(.bool b:AV):=rfl
theorem PS {l:List UInt8}:AV.sh (.str l)=(.str l:AV):=rfl
theorem PT {s o:Nat}:AV.sh (.ptr s o)=(.ptr s o:AV):=rfl
theorem TU {a:AV} {o:Nat}:AV.sh (.ep a o)=(.ep a o:AV):=rfl
theorem TV {f:Nat} {cs:List AV}:AV.sh (.fn f cs)=(.fn f cs:AV):=rfl
theorem TW:AV.sh (.un)=(.un:AV):=rfl
theorem TX {c:UInt8}:AV.sh (b8 c)=(b8 c:AV):=rfl
theorem TY {k:Nat} {xs:List AV}:AV.sh (.sl .n k xs)=(.sl .n k xs:AV):=rfl
theorem PU {k:Nat} {xs:List AV}:AV.sh (.sl .ex k xs)=(.sl .ex k xs:AV):=rfl
theorem Ma {k:Nat} {xs:List AV}:AV.sh (.sl .own k xs)=(.sl .n k xs:AV):=rfl
theorem PV {l:Loc} {k:Nat} {xs:List AV}:AV.sh (.sl (.fr l) k xs)=(.sl .n k xs:AV):=rfl
theorem PW {cs:List AV}:AV.sh (.agg cs)=(.agg (cs.map AV.bP):AV):=rfl
theorem PX {cs:List AV}:AV.sh (.bz cs)=(.bz (cs.map AV.bP):AV):=rfl
theorem PY {q0 k0 o0 m0:Nat}:AV.sh (.cw q0 k0 o0 m0)=(.cw q0 k0 o0 m0:AV):=rfl
theorem PZ {q0 k0 m0 c0:Nat}:AV.sh (.b5 q0 k0 m0 c0)=(.b5 q0 k0 m0 c0:AV):=rfl
theorem P0:AV.sh (.ef)=(.ef:AV):=rfl
theorem TZ {eb:Bool}:AV.sh (ec eb)=(ec eb:AV):=by cases eb<;>rfl
theorem XJ {z:Value}:AV.s1 (.v z)=(.v z:AV):=rfl
theorem P1 {k:IntKind} {i:Int}:AV.s1 (.int k i)=(.int k i:AV):=rfl
theorem Mb {b:Bool}:AV.s1 (.bool b)=(.bool b:AV):=rfl
theorem P2 {l:List UInt8}:AV.s1 (.str l)=(.str l:AV):=rfl
theorem P3 {s o:Nat}:AV.s1 (.ptr s o)=(.ptr s o:AV):=rfl
theorem T0 {a:AV} {o:Nat}:AV.s1 (.ep a o)=(.ep a o:AV):=rfl
theorem T3 {f:Nat} {cs:List AV}:AV.s1 (.fn f cs)=(.fn f cs:AV):=rfl
theorem T4:AV.s1 (.un)=(.un:AV):=rfl
theorem T5 {c:UInt8}:AV.s1 (b8 c)=(b8 c:AV):=rfl
theorem T6 {k:Nat} {xs:List AV}:AV.s1 (.sl .n k xs)=(.sl .n k xs:AV):=rfl
theorem P4 {k:Nat} {xs:List AV}:AV.s1 (.sl .ex k xs)=(.sl .n k xs:AV):=rfl
theorem Mc {k:Nat} {xs:List AV}:AV.s1 (.sl .own k xs)=(.sl .n k xs:AV):=rfl
theorem P5 {l:Loc} {k:Nat} {xs:List AV}:AV.s1 (.sl (.fr l) k xs)=(.sl .n k xs:AV):=rfl
theorem P6 {cs:List AV}:AV.s1 (.agg cs)=(.agg cs:AV):=rfl
theorem P7 {cs:List AV}:AV.s1 (.bz cs)=(.bz cs:AV):=rfl
theorem P8 {q0 k0 o0 m0:Nat}:AV.s1 (.cw q0 k0 o0 m0)=(.cw q0 k0 o0 m0:AV):=rfl
theorem P9 {q0 k0 m0 c0:Nat}:AV.s1 (.b5 q0 k0 m0 c0)=(.b5 q0 k0 m0 c0:AV):=rfl
theorem Qa:AV.s1 (.ef)=(.ef:AV):=rfl
theorem T7 {eb:Bool}:AV.s1 (ec eb)=(ec eb:AV):=by cases eb<;>rfl
theorem XK {z:Value}:AV.s0 (.v z)=(.v z:AV):=rfl
theorem Qb {k:IntKind} {i:Int}:AV.s0 (.int k i)=(.int k i:AV):=rfl
theorem Md {b:Bool}:AV.s0 (.bool b)=(.bool b:AV):=rfl
theorem Qc {l:List UInt8}:AV.s0 (.str l)=(.str l:AV):=rfl
theorem Qd {s o:Nat}:AV.s0 (.ptr s o)=(.ptr s o:AV):=rfl
theorem T8 {a:AV} {o:Nat}:AV.s0 (.ep a o)=(.ep a o:AV):=rfl
theorem T9 {f:Nat} {cs:List AV}:AV.s0 (.fn f cs)=(.fn f cs:AV):=rfl
theorem Ua:AV.s0 (.un)=(.un:AV):=rfl
theorem Ub {c:UInt8}:AV.s0 (b8 c)=(b8 c:AV):=rfl
theorem Uc {k:Nat} {xs:List AV}:AV.s0 (.sl .n k xs)=(.sl .n k xs:AV):=rfl
theorem Qe {k:Nat} {xs:List AV}:AV.s0 (.sl .ex k xs)=(.sl .n k xs:AV):=rfl
theorem Me {k:Nat} {xs:List AV}:AV.s0 (.sl .own k xs)=(.sl .n k xs:AV):=rfl
theorem Qf {l:Loc} {k:Nat} {xs:List AV}:AV.s0 (.sl (.fr l) k xs)=(.sl .n k xs:AV):=rfl
theorem Qg {cs:List AV}:AV.s0 (.agg cs)=(.agg (cs.map AV.s1):AV):=rfl
theorem Qh {cs:List AV}:AV.s0 (.bz cs)=(.bz cs:AV):=rfl
theorem Qi {q0 k0 o0 m0:Nat}:AV.s0 (.cw q0 k0 o0 m0)=(.cw q0 k0 o0 m0:AV):=rfl
theorem Qj {q0 k0 m0 c0:Nat}:AV.s0 (.b5 q0 k0 m0 c0)=(.b5 q0 k0 m0 c0:AV):=rfl
theorem Qk:AV.s0 (.ef)=(.ef:AV):=rfl
theorem Ud {eb:Bool}:AV.s0 (ec eb)=(ec eb:AV):=by cases eb<;>rfl
theorem XL {z:Value}:AV.df (.v z)=(.v z:AV):=rfl
theorem Ql {k:IntKind} {i:Int}:AV.df (.int k i)=(.int k i:AV):=rfl
theorem Mf {b:Bool}:AV.df (.bool b)=(.bool b:AV):=rfl
theorem Qm {l:List UInt8}:AV.df (.str l)=(.str l:AV):=rfl
theorem Qn {s o:Nat}:AV.df (.ptr s o)=(.ptr s o:AV):=rfl
theorem Ue {a:AV} {o:Nat}:AV.df (.ep a o)=(.ep a o:AV):=rfl
theorem Uf {f:Nat} {cs:List AV}:AV.df (.fn f cs)=(.fn f cs:AV):=rfl
theorem Ug:AV.df (.un)=(.un:AV):=rfl
theorem Uh {c:UInt8}:AV.df (b8 c)=(b8 c:AV):=rfl
theorem Ui {k:Nat} {xs:List AV}:AV.df (.sl .n k xs)=(.sl .n k xs:AV):=rfl
theorem Qo {k:Nat} {xs:List AV}:AV.df (.sl .ex k xs)=(.sl .ex k xs:AV):=rfl
theorem Mg {k:Nat} {xs:List AV}:AV.df (.sl .own k xs)=(.sl .own k xs:AV):=rfl
theorem Qp {l:Loc} {k:Nat} {xs:List AV}:AV.df (.sl (.fr l) k xs)=(.sl .n k xs:AV):=rfl
theorem Qq {cs:List AV}:AV.df (.agg cs)=(.agg cs:AV):=rfl
theorem Qr {cs:List AV}:AV.df (.bz cs)=(.bz cs:AV):=rfl
theorem Qs {q0 k0 o0 m0:Nat}:AV.df (.cw q0 k0 o0 m0)=(.cw q0 k0 o0 m0:AV):=rfl
theorem Qt {q0 k0 m0 c0:Nat}:AV.df (.b5 q0 k0 m0 c0)=(.b5 q0 k0 m0 c0:AV):=rfl
theorem Qu:AV.df (.ef)=(.ef:AV):=rfl
theorem Uj {eb:Bool}:AV.df (ec eb)=(ec eb:AV):=by cases eb<;>rfl
theorem Mh {z:Value}:AV.bT (.v z)=false:=rfl
theorem Ho {k:IntKind} {i:Int}:AV.bT (.int k i)=false:=rfl
theorem Fg {b:Bool}:AV.bT (.bool b)=false:=rfl
theorem Hp {l:List UInt8}:AV.bT (.str l)=false:=rfl
theorem Hq {s o:Nat}:AV.bT (.ptr s o)=false:=rfl
theorem JU {a:AV} {o:Nat}:AV.bT (.ep a o)=false:=rfl
theorem JV {f:Nat} {cs:List AV}:AV.bT (.fn f cs)=false:=rfl
theorem JW:AV.bT (.un)=false:=rfl
theorem JX {c:UInt8}:AV.bT (b8 c)=false:=rfl
theorem JY {k:Nat} {xs:List AV}:AV.bT (.sl .n k xs)=false:=rfl
theorem Hr {k:Nat} {xs:List AV}:AV.bT (.sl .ex k xs)=false:=rfl
theorem Fh {k:Nat} {xs:List AV}:AV.bT (.sl .own k xs)=true:=rfl
theorem Hs {l:Loc} {k:Nat} {xs:List AV}:AV.bT (.sl (.fr l) k xs)=false:=rfl
theorem Ht {cs:List AV}:AV.bT (.agg cs)=false:=rfl
theorem Hu {cs:List AV}:AV.bT (.bz cs)=false:=rfl
theorem Hv {q0 k0 o0 m0:Nat}:AV.bT (.cw q0 k0 o0 m0)=false:=rfl
theorem Hw {q0 k0 m0 c0:Nat}:AV.bT (.b5 q0 k0 m0 c0)=false:=rfl
theorem Hx:AV.bT (.ef)=false:=rfl
theorem JZ {eb:Bool}:AV.bT (ec eb)=false:=by cases eb<;>rfl
theorem Uk {z:Value}:AV.qo (.v z)=(.v z:AV):=rfl
theorem Mi {k:IntKind} {i:Int}:AV.qo (.int k i)=(.int k i:AV):=rfl
theorem J0 {b:Bool}:AV.qo (.bool b)=(.bool b:AV):=rfl
theorem Mj {l:List UInt8}:AV.qo (.str l)=(.str l:AV):=rfl
theorem Mk {s o:Nat}:AV.qo (.ptr s o)=(.ptr s o:AV):=rfl
theorem Qv {a:AV} {o:Nat}:AV.qo (.ep a o)=(.ep a o:AV):=rfl
theorem Qw {f:Nat} {cs:List AV}:AV.qo (.fn f cs)=(.fn f cs:AV):=rfl
theorem Qx:AV.qo (.un)=(.un:AV):=rfl
theorem Qy {c:UInt8}:AV.qo (b8 c)=(b8 c:AV):=rfl
theorem Qz {k:Nat} {xs:List AV}:AV.qo (.sl .n k xs)=(.sl .n k xs:AV):=rfl
theorem Ml {k:Nat} {xs:List AV}:AV.qo (.sl .ex k xs)=(.sl .ex k xs:AV):=rfl
theorem J1 {k:Nat} {xs:List AV}:AV.qo (.sl .own k xs)=(.sl .n k xs:AV):=rfl
theorem Mm {l:Loc} {k:Nat} {xs:List AV}:AV.qo (.sl (.fr l) k xs)=(.sl (.fr l) k xs:AV):=rfl
theorem Mn {cs:List AV}:AV.qo (.agg cs)=(.agg cs:AV):=rfl
theorem Mo {cs:List AV}:AV.qo (.bz cs)=(.bz cs:AV):=rfl
theorem Mp {q0 k0 o0 m0:Nat}:AV.qo (.cw q0 k0 o0 m0)=(.cw q0 k0 o0 m0:AV):=rfl
theorem Mq {q0 k0 m0 c0:Nat}:AV.qo (.b5 q0 k0 m0 c0)=(.b5 q0 k0 m0 c0:AV):=rfl
theorem Mr:AV.qo (.ef)=(.ef:AV):=rfl
theorem QA {eb:Bool}:AV.qo (ec eb)=(ec eb:AV):=by cases eb<;>rfl
theorem QB {z:Value} {l0:Loc}:AV.eH l0 (.v z)=(.v z:AV):=rfl
theorem J2 {k:IntKind} {i:Int} {l0:Loc}:AV.eH l0 (.int k i)=(.int k i:AV):=rfl
theorem Hy {b:Bool} {l0:Loc}:AV.eH l0 (.bool b)=(.bool b:AV):=rfl
theorem J3 {l:List UInt8} {l0:Loc}:AV.eH l0 (.str l)=(.str l:AV):=rfl
theorem J4 {s o:Nat} {l0:Loc}:AV.eH l0 (.ptr s o)=(.ptr s o:AV):=rfl
theorem Ms {a:AV} {o:Nat} {l0:Loc}:AV.eH l0 (.ep a o)=(.ep a o:AV):=rfl
theorem Mt {f:Nat} {cs:List AV} {l0:Loc}:AV.eH l0 (.fn f cs)=(.fn f cs:AV):=rfl
theorem Mu {l0:Loc}:AV.eH l0 (.un)=(.un:AV):=rfl
theorem Mv {c:UInt8} {l0:Loc}:AV.eH l0 (b8 c)=(b8 c:AV):=rfl
theorem Mw {k:Nat} {xs:List AV} {l0:Loc}:AV.eH l0 (.sl .n k xs)=(.sl .n k xs:AV):=rfl
theorem J5 {k:Nat} {xs:List AV} {l0:Loc}:AV.eH l0 (.sl .ex k xs)=(.sl .ex k xs:AV):=rfl
theorem Hz {k:Nat} {xs:List AV} {l0:Loc}:AV.eH l0 (.sl .own k xs)=(.sl .own k xs:AV):=rfl
theorem J6 {l:Loc} {k:Nat} {xs:List AV} {l0:Loc}:AV.eH l0 (.sl (.fr l) k xs)=if l=l0 then .sl .n k xs else .sl (.fr l) k xs:=rfl
theorem J7 {cs:List AV} {l0:Loc}:AV.eH l0 (.agg cs)=(.agg cs:AV):=rfl
theorem J8 {cs:List AV} {l0:Loc}:AV.eH l0 (.bz cs)=(.bz cs:AV):=rfl
theorem J9 {q0 k0 o0 m0:Nat} {l0:Loc}:AV.eH l0 (.cw q0 k0 o0 m0)=(.cw q0 k0 o0 m0:AV):=rfl
theorem Ka {q0 k0 m0 c0:Nat} {l0:Loc}:AV.eH l0 (.b5 q0 k0 m0 c0)=(.b5 q0 k0 m0 c0:AV):=rfl
theorem Kb {l0:Loc}:AV.eH l0 (.ef)=(.ef:AV):=rfl
theorem Mx {eb:Bool} {l0:Loc}:AV.eH l0 (ec eb)=(ec eb:AV):=by cases eb<;>rfl
theorem Ul {z:Value}:AV.iL (.v z)=(.v z:AV):=rfl
theorem My {k:IntKind} {i:Int}:AV.iL (.int k i)=(.int k i:AV):=rfl
theorem Kc {b:Bool}:AV.iL (.bool b)=(.bool b:AV):=rfl
theorem Mz {l:List UInt8}:AV.iL (.str l)=(.str l:AV):=rfl
theorem MA {s o:Nat}:AV.iL (.ptr s o)=(.ptr s o:AV):=rfl
theorem QC {a:AV} {o:Nat}:AV.iL (.ep a o)=(.ep a o:AV):=rfl
theorem QD {f:Nat} {cs:List AV}:AV.iL (.fn f cs)=(.fn f cs:AV):=rfl
theorem QE:AV.iL (.un)=(.un:AV):=rfl
theorem QF {c:UInt8}:AV.iL (b8 c)=(b8 c:AV):=rfl
theorem QG {k:Nat} {xs:List AV}:AV.iL (.sl .n k xs)=(.sl .n k xs:AV):=rfl
theorem MB {k:Nat} {xs:List AV}:AV.iL (.sl .ex k xs)=(.sl .ex k xs:AV):=rfl
theorem Kd {k:Nat} {xs:List AV}:AV.iL (.sl .own k xs)=(.sl .own k xs:AV):=rfl
theorem MC {cs:List AV}:AV.iL (.agg cs)=(.agg cs:AV):=rfl
theorem MD {cs:List AV}:AV.iL (.bz cs)=(.bz cs:AV):=rfl
theorem ME {q0 k0 o0 m0:Nat}:AV.iL (.cw q0 k0 o0 m0)=(.cw q0 k0 o0 m0:AV):=rfl
theorem MF {q0 k0 m0 c0:Nat}:AV.iL (.b5 q0 k0 m0 c0)=(.b5 q0 k0 m0 c0:AV):=rfl
theorem MG:AV.iL (.ef)=(.ef:AV):=rfl
theorem QH {eb:Bool}:AV.iL (ec eb)=(ec eb:AV):=by cases eb<;>rfl
theorem Um {a b k:Nat} {xs:List AV}:AV.iL (.sl (.fr (.cell a b)) k xs)= .sl .n k xs:=rfl
theorem Un {a k:Nat} {xs:List AV}:AV.iL (.sl (.fr (.tmp a)) k xs)= .sl (.fr (.tmp a)) k xs:=rfl
theorem MH {z:Value}:AV.cells (.v z)=[.v z]:=rfl
theorem HA {k:IntKind} {i:Int}:AV.cells (.int k i)=[.int k i]:=rfl
theorem Fi {b:Bool}:AV.cells (.bool b)=[.bool b]:=rfl
theorem HB {l:List UInt8}:AV.cells (.str l)=[.str l]:=rfl
theorem HC {s o:Nat}:AV.cells (.ptr s o)=[.ptr s o]:=rfl
theorem Ke {a:AV} {o:Nat}:AV.cells (.ep a o)=[.ep a o]:=rfl
theorem Kf {f:Nat} {cs:List AV}:AV.cells (.fn f cs)=[.fn f cs]:=rfl
theorem Kg:AV.cells (.un)=[.un]:=rfl
theorem Kh {c:UInt8}:AV.cells (b8 c)=[b8 c]:=rfl
theorem Ki {k:Nat} {xs:List AV}:AV.cells (.sl .n k xs)=[.sl .n k xs]:=rfl
theorem HD {k:Nat} {xs:List AV}:AV.cells (.sl .ex k xs)=[.sl .ex k xs]:=rfl
theorem Fj {k:Nat} {xs:List AV}:AV.cells (.sl .own k xs)=[.sl .own k xs]:=rfl
theorem HF {l:Loc} {k:Nat} {xs:List AV}:AV.cells (.sl (.fr l) k xs)=[.sl (.fr l) k xs]:=rfl
theorem HG {cs:List AV}:AV.cells (.agg cs)=cs:=rfl
theorem HH {cs:List AV}:AV.cells (.bz cs)=[.bz cs]:=rfl
theorem HI {q0 k0 o0 m0:Nat}:AV.cells (.cw q0 k0 o0 m0)=[.cw q0 k0 o0 m0]:=rfl
theorem HJ {q0 k0 m0 c0:Nat}:AV.cells (.b5 q0 k0 m0 c0)=[.b5 q0 k0 m0 c0]:=rfl
theorem HK:AV.cells (.ef)=[.ef]:=rfl
theorem Kj {eb:Bool}:AV.cells (ec eb)=[ec eb]:=by cases eb<;>rfl
theorem Uo {z:Value}:AV.ig (.v z)=true:=rfl
theorem MI {k:IntKind} {i:Int}:AV.ig (.int k i)=true:=rfl
theorem Kk {b:Bool}:AV.ig (.bool b)=true:=rfl
theorem MJ {l:List UInt8}:AV.ig (.str l)=true:=rfl
theorem MK {s o:Nat}:AV.ig (.ptr s o)=true:=rfl
theorem QI {a:AV} {o:Nat}:AV.ig (.ep a o)=true:=rfl
theorem QJ {f:Nat} {cs:List AV}:AV.ig (.fn f cs)=true:=rfl
theorem QK:AV.ig (.un)=false:=rfl
theorem QL {c:UInt8}:AV.ig (b8 c)=true:=rfl
theorem QM {k:Nat} {xs:List AV}:AV.ig (.sl .n k xs)=true:=rfl
theorem ML {k:Nat} {xs:List AV}:AV.ig (.sl .ex k xs)=true:=rfl
theorem Kl {k:Nat} {xs:List AV}:AV.ig (.sl .own k xs)=true:=rfl
theorem MM {l:Loc} {k:Nat} {xs:List AV}:AV.ig (.sl (.fr l) k xs)=true:=rfl
theorem MN {cs:List AV}:AV.ig (.agg cs)=false:=rfl
theorem MO {cs:List AV}:AV.ig (.bz cs)=false:=rfl
theorem MP {q0 k0 o0 m0:Nat}:AV.ig (.cw q0 k0 o0 m0)=true:=rfl
theorem MQ {q0 k0 m0 c0:Nat}:AV.ig (.b5 q0 k0 m0 c0)=true:=rfl
theorem MR:AV.ig (.ef)=true:=rfl
theorem QN {eb:Bool}:AV.ig (ec eb)=true:=by cases eb<;>rfl
theorem QO {z:Value}:AV.flat (.v z)=true:=rfl
theorem Km {k:IntKind} {i:Int}:AV.flat (.int k i)=true:=rfl
theorem HL {b:Bool}:AV.flat (.bool b)=true:=rfl
theorem Kn {l:List UInt8}:AV.flat (.str l)=true:=rfl
theorem Ko {s o:Nat}:AV.flat (.ptr s o)=true:=rfl
theorem MS {a:AV} {o:Nat}:AV.flat (.ep a o)=true:=rfl
theorem MT {f:Nat} {cs:List AV}:AV.flat (.fn f cs)=true:=rfl
theorem MU:AV.flat (.un)=true:=rfl
theorem MV {c:UInt8}:AV.flat (b8 c)=true:=rfl
theorem MW {k:Nat} {xs:List AV}:AV.flat (.sl .n k xs)=true:=rfl
theorem Kp {k:Nat} {xs:List AV}:AV.flat (.sl .ex k xs)=true:=rfl
theorem HM {k:Nat} {xs:List AV}:AV.flat (.sl .own k xs)=true:=rfl
theorem Kq {l:Loc} {k:Nat} {xs:List AV}:AV.flat (.sl (.fr l) k xs)=true:=rfl
theorem Kr {cs:List AV}:AV.flat (.agg cs)=false:=rfl
theorem Ks {cs:List AV}:AV.flat (.bz cs)=false:=rfl
theorem Kt {q0 k0 o0 m0:Nat}:AV.flat (.cw q0 k0 o0 m0)=true:=rfl
theorem Ku {q0 k0 m0 c0:Nat}:AV.flat (.b5 q0 k0 m0 c0)=true:=rfl
theorem Kv:AV.flat (.ef)=true:=rfl
theorem MX {eb:Bool}:AV.flat (ec eb)=true:=by cases eb<;>rfl
theorem XM {z:Value}:AV.np (.v z)=true:=rfl
theorem QS {k:IntKind} {i:Int}:AV.np (.int k i)=true:=rfl
theorem MY {b:Bool}:AV.np (.bool b)=true:=rfl
theorem QT {l:List UInt8}:AV.np (.str l)=true:=rfl
theorem QU {s o:Nat}:AV.np (.ptr s o)=false:=rfl
theorem Up {a:AV} {o:Nat}:AV.np (.ep a o)=false:=rfl
theorem Uq {f:Nat} {cs:List AV}:AV.np (.fn f cs)=cs.isEmpty:=rfl
theorem Ur:AV.np (.un)=true:=rfl
theorem Us {c:UInt8}:AV.np (b8 c)=true:=rfl
theorem Ut {k:Nat} {xs:List AV}:AV.np (.sl .n k xs)=true:=rfl
theorem QV {k:Nat} {xs:List AV}:AV.np (.sl .ex k xs)=true:=rfl
theorem MZ {k:Nat} {xs:List AV}:AV.np (.sl .own k xs)=true:=rfl
theorem QW {l:Loc} {k:Nat} {xs:List AV}:AV.np (.sl (.fr l) k xs)=true:=rfl
theorem QX {cs:List AV}:AV.np (.agg cs)=false:=rfl
theorem QY {cs:List AV}:AV.np (.bz cs)=false:=rfl
theorem QZ {q0 k0 o0 m0:Nat}:AV.np (.cw q0 k0 o0 m0)=false:=rfl
theorem Q0 {q0 k0 m0 c0:Nat}:AV.np (.b5 q0 k0 m0 c0)=false:=rfl
theorem Q1:AV.np (.ef)=true:=rfl
theorem Uu {eb:Bool}:AV.np (ec eb)=true:=by cases eb<;>rfl
theorem M0 {z:Value}:AV.eV (.v z)=false:=rfl
theorem HN {k:IntKind} {i:Int}:AV.eV (.int k i)=false:=rfl
theorem Fk {b:Bool}:AV.eV (.bool b)=false:=rfl
theorem HO {l:List UInt8}:AV.eV (.str l)=false:=rfl
theorem HP {s o:Nat}:AV.eV (.ptr s o)=false:=rfl
theorem Kw {a:AV} {o:Nat}:AV.eV (.ep a o)=false:=rfl
theorem Kx {f:Nat} {cs:List AV}:AV.eV (.fn f cs)=false:=rfl
theorem Ky:AV.eV (.un)=false:=rfl
theorem Kz {c:UInt8}:AV.eV (b8 c)=false:=rfl
theorem KB {k:Nat} {xs:List AV}:AV.eV (.sl .n k xs)=false:=rfl
theorem HQ {k:Nat} {xs:List AV}:AV.eV (.sl .ex k xs)=false:=rfl
theorem Fl {k:Nat} {xs:List AV}:AV.eV (.sl .own k xs)=false:=rfl
theorem HR {l:Loc} {k:Nat} {xs:List AV}:AV.eV (.sl (.fr l) k xs)=false:=rfl
theorem HS {cs:List AV}:AV.eV (.agg cs)=false:=rfl
theorem HT {cs:List AV}:AV.eV (.bz cs)=true:=rfl
theorem HU {q0 k0 o0 m0:Nat}:AV.eV (.cw q0 k0 o0 m0)=false:=rfl
theorem HV {q0 k0 m0 c0:Nat}:AV.eV (.b5 q0 k0 m0 c0)=false:=rfl
theorem HW:AV.eV (.ef)=false:=rfl
theorem KC {eb:Bool}:AV.eV (ec eb)=false:=by cases eb<;>rfl
theorem XN {L:List Nat} {x:Ar} {z:Value}:cp L x (.v z)= .v z:=rfl
theorem Q2 {L:List Nat} {x:Ar} {k:IntKind} {i:Int}:cp L x (.int k i)= .int k i:=rfl
theorem M1 {L:List Nat} {x:Ar} {b:Bool}:cp L x (.bool b)= .bool b:=rfl
theorem Q3 {L:List Nat} {x:Ar} {l:List UInt8}:cp L x (.str l)= .str l:=rfl
theorem Q4 {L:List Nat} {x:Ar} {s o:Nat}:cp L x (.ptr s o)= .ptr s o:=rfl
theorem Uv {L:List Nat} {x:Ar} {a:AV} {o:Nat}:cp L x (.ep a o)= .ep a o:=rfl
theorem Uw {L:List Nat} {x:Ar} {f:Nat} {cs:List AV}:cp L x (.fn f cs)= .fn f cs:=rfl
theorem Ux {L:List Nat} {x:Ar}:cp L x (.un)= .un:=rfl
theorem Uy {L:List Nat} {x:Ar} {c:UInt8}:cp L x (b8 c)=b8 c:=rfl
theorem Uz {L:List Nat} {x:Ar} {k:Nat} {xs:List AV}:cp L x (.sl .n k xs)= .sl .n k xs:=rfl
theorem Q5 {L:List Nat} {x:Ar} {k:Nat} {xs:List AV}:cp L x (.sl .ex k xs)= .sl .ex k xs:=rfl
theorem Q6 {L:List Nat} {x:Ar} {l:Loc} {k:Nat} {xs:List AV}:cp L x (.sl (.fr l) k xs)= .sl (.fr l) k xs:=rfl
theorem Q7 {L:List Nat} {x:Ar} {cs:List AV}:cp L x (.agg cs)= .agg (cs.map AV.bP):=rfl
theorem Q8 {L:List Nat} {x:Ar} {cs:List AV}:cp L x (.bz cs)= .bz (cs.map AV.bP):=rfl
theorem Q9 {L:List Nat} {x:Ar} {q0 k0 o0 m0:Nat}:cp L x (.cw q0 k0 o0 m0)= .cw q0 k0 o0 m0:=rfl
theorem Ra {L:List Nat} {x:Ar} {q0 k0 m0 c0:Nat}:cp L x (.b5 q0 k0 m0 c0)= .b5 q0 k0 m0 c0:=rfl
theorem Rb {L:List Nat} {x:Ar}:cp L x (.ef)= .ef:=rfl
theorem UA {L:List Nat} {x:Ar} {eb:Bool}:cp L x (ec eb)=ec eb:=by cases eb<;>rfl
theorem UB {L:List Nat} {u k:Nat} {xs:List AV}:cp L (.t u) (.sl .own k xs)=if L.contains u then .sl (.fr (.tmp u)) k xs else .sl .n k xs:=rfl
theorem UD {L:List Nat} {a:AV} {k:Nat} {xs:List AV}:cp L (.c a) (.sl .own k xs)= .sl .n k xs:=rfl
theorem UE {P:Program} {L:List Nat} {N n0:Nat} {e:Env} {ah:AH} {t:List It} {Q:Exit→Env→AH→Prop} {r:List aM} {d:Option Nat} {x:Ar} {z:Value}:jz P L N n0 e ah d r t Q x (.v z)=U P L N n0 (.ops r::t) Q .normal (aC L e d (cp L x (.v z))) ah:=rfl
theorem M3 {P:Program} {L:List Nat} {N n0:Nat} {e:Env} {ah:AH} {t:List It} {Q:Exit→Env→AH→Prop} {r:List aM} {d:Option Nat} {x:Ar} {k:IntKind} {i:Int}:jz P L N n0 e ah d r t Q x (.int k i)=U P L N n0 (.ops r::t) Q .normal (aC L e d (cp L x (.int k i))) ah:=rfl
theorem KD {P:Program} {L:List Nat} {N n0:Nat} {e:Env} {ah:AH} {t:List It} {Q:Exit→Env→AH→Prop} {r:List aM} {d:Option Nat} {x:Ar} {b:Bool}:jz P L N n0 e ah d r t Q x (.bool b)=U P L N n0 (.ops r::t) Q .normal (aC L e d (cp L x (.bool b))) ah:=rfl
theorem M4 {P:Program} {L:List Nat} {N n0:Nat} {e:Env} {ah:AH} {t:List It} {Q:Exit→Env→AH→Prop} {r:List aM} {d:Option Nat} {x:Ar} {l:List UInt8}:jz P L N n0 e ah d r t Q x (.str l)=U P L N n0 (.ops r::t) Q .normal (aC L e d (cp L x (.str l))) ah:=rfl
theorem M5 {P:Program} {L:List Nat} {N n0:Nat} {e:Env} {ah:AH} {t:List It} {Q:Exit→Env→AH→Prop} {r:List aM} {d:Option Nat} {x:Ar} {s o:Nat}:jz P L N n0 e ah d r t Q x (.ptr s o)=U P L N n0 (.ops r::t) Q .normal (aC L e d (cp L x (.ptr s o))) ah:=rfl
theorem Rc {P:Program} {L:List Nat} {N n0:Nat} {e:Env} {ah:AH} {t:List It} {Q:Exit→Env→AH→Prop} {r:List aM} {d:Option Nat} {x:Ar} {a:AV} {o:Nat}:jz P L N n0 e ah d r t Q x (.ep a o)=U P L N n0 (.ops r::t) Q .normal (aC L e d (cp L x (.ep a o))) ah:=rfl
theorem Rd {P:Program} {L:List Nat} {N n0:Nat} {e:Env} {ah:AH} {t:List It} {Q:Exit→Env→AH→Prop} {r:List aM} {d:Option Nat} {x:Ar} {f:Nat} {cs:List AV}:jz P L N n0 e ah d r t Q x (.fn f cs)=U P L N n0 (.ops r::t) Q .normal (aC L e d (cp L x (.fn f cs))) ah:=rfl
theorem Re {P:Program} {L:List Nat} {N n0:Nat} {e:Env} {ah:AH} {t:List It} {Q:Exit→Env→AH→Prop} {r:List aM} {d:Option Nat} {x:Ar}:jz P L N n0 e ah d r t Q x (.un)=U P L N n0 (.ops r::t) Q .normal (aC L e d (cp L x (.un))) ah:=rfl
theorem Rf {P:Program} {L:List Nat} {N n0:Nat} {e:Env} {ah:AH} {t:List It} {Q:Exit→Env→AH→Prop} {r:List aM} {d:Option Nat} {x:Ar} {c:UInt8}:jz P L N n0 e ah d r t Q x (b8 c)=U P L N n0 (.ops r::t) Q .normal (aC L e d (cp L x (b8 c))) ah:=rfl
theorem Rg {P:Program} {L:List Nat} {N n0:Nat} {e:Env} {ah:AH} {t:List It} {Q:Exit→Env→AH→Prop} {r:List aM} {d:Option Nat} {x:Ar} {k:Nat} {xs:List AV}:jz P L N n0 e ah d r t Q x (.sl .n k xs)=U P L N n0 (.ops r::t) Q .normal (aC L e d (cp L x (.sl .n k xs))) ah:=rfl
theorem M6 {P:Program} {L:List Nat} {N n0:Nat} {e:Env} {ah:AH} {t:List It} {Q:Exit→Env→AH→Prop} {r:List aM} {d:Option Nat} {x:Ar} {k:Nat} {xs:List AV}:jz P L N n0 e ah d r t Q x (.sl .ex k xs)=U P L N n0 (.ops r::t) Q .normal (aC L e d (cp L x (.sl .ex k xs))) ah:=rfl
theorem M7 {P:Program} {L:List Nat} {N n0:Nat} {e:Env} {ah:AH} {t:List It} {Q:Exit→Env→AH→Prop} {r:List aM} {d:Option Nat} {x:Ar} {l:Loc} {k:Nat} {xs:List AV}:jz P L N n0 e ah d r t Q x (.sl (.fr l) k xs)=U P L N n0 (.ops r::t) Q .normal (aC L e d (cp L x (.sl (.fr l) k xs))) ah:=rfl
theorem M8 {P:Program} {L:List Nat} {N n0:Nat} {e:Env} {ah:AH} {t:List It} {Q:Exit→Env→AH→Prop} {r:List aM} {d:Option Nat} {x:Ar} {cs:List AV}:jz P L N n0 e ah d r t Q x (.agg cs)=U P L N n0 (.ops r::t) Q .normal (aC L e d (cp L x (.agg cs))) ah:=rfl
theorem M9 {P:Program} {L:List Nat} {N n0:Nat} {e:Env} {ah:AH} {t:List It} {Q:Exit→Env→AH→Prop} {r:List aM} {d:Option Nat} {x:Ar} {cs:List AV}:jz P L N n0 e ah d r t Q x (.bz cs)=U P L N n0 (.ops r::t) Q .normal (aC L e d (cp L x (.bz cs))) ah:=rfl
theorem Na {P:Program} {L:List Nat} {N n0:Nat} {e:Env} {ah:AH} {t:List It} {Q:Exit→Env→AH→Prop} {r:List aM} {d:Option Nat} {x:Ar} {q0 k0 o0 m0:Nat}:jz P L N n0 e ah d r t Q x (.cw q0 k0 o0 m0)=U P L N n0 (.ops r::t) Q .normal (aC L e d (cp L x (.cw q0 k0 o0 m0))) ah:=rfl
theorem Nb {P:Program} {L:List Nat} {N n0:Nat} {e:Env} {ah:AH} {t:List It} {Q:Exit→Env→AH→Prop} {r:List aM} {d:Option Nat} {x:Ar} {q0 k0 m0 c0:Nat}:jz P L N n0 e ah d r t Q x (.b5 q0 k0 m0 c0)=U P L N n0 (.ops r::t) Q .normal (aC L e d (cp L x (.b5 q0 k0 m0 c0))) ah:=rfl
theorem Nc {P:Program} {L:List Nat} {N n0:Nat} {e:Env} {ah:AH} {t:List It} {Q:Exit→Env→AH→Prop} {r:List aM} {d:Option Nat} {x:Ar}:jz P L N n0 e ah d r t Q x (.ef)=U P L N n0 (.ops r::t) Q .normal (aC L e d (cp L x (.ef))) ah:=rfl
theorem Rh {P:Program} {L:List Nat} {N n0:Nat} {e:Env} {ah:AH} {t:List It} {Q:Exit→Env→AH→Prop} {r:List aM} {d:Option Nat} {x:Ar} {eb:Bool}:jz P L N n0 e ah d r t Q x (ec eb)=U P L N n0 (.ops r::t) Q .normal (aC L e d (cp L x (ec eb))) ah:=by cases eb<;>rfl
theorem Ri {P:Program} {L:List Nat} {N n0:Nat} {e:Env} {ah:AH} {t:List It} {Q:Exit→Env→AH→Prop} {r:List aM} {d:Option Nat} {y k:Nat} {xs:List AV}:jz P L N n0 e ah d r t Q (.t y) (.sl .own k xs)=U P L N n0 (.ops r::t) Q .normal (aC L (put e y (.sl .n k xs)) d (.sl .own k xs)) ah:=rfl
theorem Rj {P:Program} {L:List Nat} {N n0:Nat} {e:Env} {ah:AH} {t:List It} {Q:Exit→Env→AH→Prop} {r:List aM} {d:Option Nat} {a:AV} {k:Nat} {xs:List AV}:jz P L N n0 e ah d r t Q (.c a) (.sl .own k xs)=U P L N n0 (.ops r::t) Q .normal (aC L e d (cp L (.c a) (.sl .own k xs))) ah:=rfl
theorem Rk {L:List Nat} {e:Env} {ah:AH} {d:Option Nat} {a b:Ar}:LV L e ah d a b (.bool true)=some (aC L e d (ev e a).sh,ah):=rfl
theorem Rl {L:List Nat} {e:Env} {ah:AH} {d:Option Nat} {a b:Ar}:LV L e ah d a b (.bool false)=some (aC L e d (ev e b).sh,ah):=rfl
theorem Nd {L:List Nat} {e:Env} {ah:AH} {d:Option Nat} {s o:Nat}:Ti L e ah d (.ptr s o)=some (aC L e d (.ptr s o),ah):=rfl
theorem Rm {L:List Nat} {e:Env} {ah:AH} {d:Option Nat} {a:AV} {o:Nat}:Ti L e ah d (.ep a o)=some (aC L e d (.ep a o),ah):=rfl
theorem Nf {L:List Nat} {e:Env} {ah:AH} {d:Option Nat} {q s o:Nat}:Tj L e ah d q (.ptr s o)=some (aC L e d (.ptr s (o+q)),ah):=rfl
theorem Rn {L:List Nat} {e:Env} {ah:AH} {d:Option Nat} {q o:Nat} {a:AV}:Tj L e ah d q (.ep a o)=some (aC L e d (.ep a (o+q)),ah):=rfl
theorem Ro {L:List Nat} {e:Env} {ah:AH} {d:Option Nat} {n:Option Nat} {s o:Nat}:G7 L d n e ah (.ptr s o)=Xe L d n s o e ah (ah[s]?):=rfl
theorem UH {L:List Nat} {e:Env} {ah:AH} {d:Option Nat} {o:Nat} {a:AV}:G7 L d none e ah (.ep a o)=PD L d e ah (a.cells[o]?):=rfl
theorem UI {L:List Nat} {e:Env} {ah:AH} {d:Option Nat} {n o:Nat} {a:AV}:G7 L d (some n) e ah (.ep a o)=if o+n≤a.cells.length∧cc ((a.cells.drop o).take n) then some (aC L e d (.agg (((a.cells.drop o).take n).map AV.s1)),ah) else none:=rfl
theorem UJ {s1 o1:Nat} {z:Value}:mM s1 o1 (some (.v z))=some (AV.bP (.v z)):=rfl
theorem Ng {s1 o1:Nat} {k:IntKind} {i:Int}:mM s1 o1 (some (.int k i))=some (AV.bP (.int k i)):=rfl
theorem KE {s1 o1:Nat} {b:Bool}:mM s1 o1 (some (.bool b))=some (AV.bP (.bool b)):=rfl
theorem Nh {s1 o1:Nat} {l:List UInt8}:mM s1 o1 (some (.str l))=some (AV.bP (.str l)):=rfl
theorem Ni {s1 o1:Nat} {s o:Nat}:mM s1 o1 (some (.ptr s o))=some (AV.bP (.ptr s o)):=rfl
theorem Rp {s1 o1:Nat} {a:AV} {o:Nat}:mM s1 o1 (some (.ep a o))=some (AV.bP (.ep a o)):=rfl
theorem Rq {s1 o1:Nat} {f:Nat} {cs:List AV}:mM s1 o1 (some (.fn f cs))=some (AV.bP (.fn f cs)):=rfl
theorem Rr {s1 o1:Nat}:mM s1 o1 (some (.un))=some (AV.bP (.un)):=rfl
theorem Rs {s1 o1:Nat} {c:UInt8}:mM s1 o1 (some (b8 c))=some (AV.bP (b8 c)):=rfl
theorem Rt {s1 o1:Nat} {k:Nat} {xs:List AV}:mM s1 o1 (some (.sl .n k xs))=some (AV.bP (.sl .n k xs)):=rfl
theorem Nj {s1 o1:Nat} {k:Nat} {xs:List AV}:mM s1 o1 (some (.sl .ex k xs))=some (AV.bP (.sl .ex k xs)):=rfl
theorem Nk {s o k:Nat} {xs:List AV}:mM s o (some (.sl .own k xs))=some (.sl (.fr (.cell s o)) k xs):=rfl
theorem Nl {s1 o1:Nat} {l:Loc} {k:Nat} {xs:List AV}:mM s1 o1 (some (.sl (.fr l) k xs))=some (AV.bP (.sl (.fr l) k xs)):=rfl
theorem Nn {s1 o1:Nat} {q0 k0 o0 m0:Nat}:mM s1 o1 (some (.cw q0 k0 o0 m0))=some (AV.bP (.cw q0 k0 o0 m0)):=rfl
theorem Np {s1 o1:Nat} {q0 k0 m0 c0:Nat}:mM s1 o1 (some (.b5 q0 k0 m0 c0))=some (AV.bP (.b5 q0 k0 m0 c0)):=rfl
theorem Nq {s1 o1:Nat}:mM s1 o1 (some (.ef))=some (AV.bP (.ef)):=rfl
theorem Ru {s1 o1:Nat} {eb:Bool}:mM s1 o1 (some (ec eb))=some (AV.bP (ec eb)):=by cases eb<;>rfl
theorem XO {L:List Nat} {e:Env} {ah:AH} {d:Option Nat} {ks:List Pk} {neq:Bool} {zq bs:List AV}:YH L e ah d ks neq (.agg zq) (.agg bs)=(cr ks zq bs).map fun b=>(aC L e d (.bool (if neq then !b else b)),ah):=rfl
theorem XP {L:List Nat} {e:Env} {ah:AH} {d:Option Nat} {l:List UInt8} {k k2:IntKind} {i j:Int}:OJ L e ah d l (.int k i) (.int k2 j)=(sub l i j).map fun m=>(aC L e d (.str m),ah):=rfl
theorem XQ {L:List Nat} {e:Env} {ah:AH} {d:Option Nat} {q:Nat} {xs:List AV} {k k2:IntKind} {i j:Int}:OK L e ah d q xs (.int k i) (.int k2 j)=(sub xs i j).map fun ys=>(aC L e d (.sl .n q ys),ah):=rfl
theorem UL {L:List Nat} {e:Env} {ah:AH} {d:Option Nat} {q:Nat} {xs:List AV} {k k2 k3:IntKind} {i j m:Int}:DP L e ah d q xs (.int k i) (.int k2 j) (.int k3 m)=(Cj xs i j m).map fun ys=>(aC L e d (.sl .ex q ys),ah):=rfl
theorem UM {L:List Nat} {e:Env} {ah:AH} {d:Option Nat} {k b:Nat} {x:Ar} {ys xs:List AV} {tg:Tg}:Hh L e ah d k b x ys (.sl tg k xs)=DQ L e ah d k x xs tg (cF b xs ys):=by simp [Hh]
theorem UN {L:List Nat} {e:Env} {ah:AH} {d:Option Nat} {k:Nat} {x:Ar} {xs zs:List AV}:rO L e ah d k x xs zs .ex=some (aC L e d (.sl .own k zs),ah):=rfl
theorem Rv {L:List Nat} {e:Env} {ah:AH} {d:Option Nat} {k y:Nat} {xs zs:List AV}:rO L e ah d k (.t y) xs zs .own=some (aC L (put e y (.sl .n k xs)) d (.sl .own k zs),ah):=rfl
def aTt (L:List Nat) (e:Env) (ah:AH) (d:Option Nat) (k u:Nat) (zs:List AV):AV→Option (Env×AH)
 | .sl .own k' us=>if k'=k then some (aC L (put e u (.sl .n k' us)) d (.sl .own k zs),ah) else none
 |_=>none
def XR (L:List Nat) (e:Env) (ah:AH) (d:Option Nat) (k s q:Nat) (zs cs:List AV):Option AV→Option (Env×AH)
 |some (.sl .own k' us)=>if k'=k then (over cs q [.sl .n k' us]).map fun cs=>(aC L e d (.sl .own k zs),ah.set s cs) else none
 |_=>none
def aTh (L:List Nat) (e:Env) (ah:AH) (d:Option Nat) (k s q:Nat) (zs:List AV):Option (List AV)→Option (Env×AH)
 |some cs=>XR L e ah d k s q zs cs (cs[q]?)
 |none=>none
theorem XS {L:List Nat} {e:Env} {ah:AH} {d:Option Nat} {k u:Nat} {x:Ar} {xs zs:List AV}:rO L e ah d k x xs zs (.fr (.tmp u))=aTt L e ah d k u zs (Am.get e u):=by simp only [rO];cases Am.get e u with|sl tg k2 us=>cases tg<;>rfl|_=>rfl
theorem XT {L:List Nat} {e:Env} {ah:AH} {d:Option Nat} {k s q:Nat} {x:Ar} {xs zs:List AV}:rO L e ah d k x xs zs (.fr (.cell s q))=aTh L e ah d k s q zs (ah[s]?):=by simp only [rO];cases ah[s]? with|none=>rfl|some cs=>simp only [aTh];cases cs[q]? with|none=>rfl|some a=>cases a with|sl tg k2 us=>cases tg<;>rfl|_=>rfl
theorem aas {L:List Nat} {e:Env} {ah:AH} {d:Option Nat} {k u:Nat} {zs us:List AV}:aTt L e ah d k u zs (.sl .own k us)=some (aC L (put e u (.sl .n k us)) d (.sl .own k zs),ah):=by simp [aTt]
theorem aat {L:List Nat} {e:Env} {ah:AH} {d:Option Nat} {k s q:Nat} {zs cs:List AV}:aTh L e ah d k s q zs (some cs)=XR L e ah d k s q zs cs (cs[q]?):=rfl
theorem aau {L:List Nat} {e:Env} {ah:AH} {d:Option Nat} {k s q:Nat} {zs cs us:List AV}:XR L e ah d k s q zs cs (some (.sl .own k us))=(over cs q [.sl .n k us]).map fun cs=>(aC L e d (.sl .own k zs),ah.set s cs):=by simp [XR]
theorem aav:cc []=true:=rfl
theorem aaw {a:AV} {r:List AV}:cc (a::r)=(a.flat&&cc r):=rfl
theorem aax:bQ []=true:=rfl
theorem acm {a:AV} {r:List AV}:bQ (a::r)=(a.ig&&bQ r):=rfl
theorem aay:fV []=true:=rfl
theorem acn {a:AV} {r:List AV}:fV (a::r)=(a.np&&fV r):=rfl
theorem aco {t:Nat}:Am.get [] t= .un:=rfl
theorem acp {i t:Nat} {a:AV} {r:Env}:Am.get ((i,a)::r) t=if i=t then a else Am.get r t:=rfl
theorem acq {d:Nat} {a:AV}:put [] d a=[(d,a)]:=rfl
theorem acr {i d:Nat} {a b:AV} {r:Env}:put ((i,b)::r) d a=if i=d then (d,a)::r else if d<i then (d,a)::(i,b)::r else (i,b)::put r d a:=rfl
theorem acs {L:List Nat}:keep L []=[]:=rfl
theorem acu {L:List Nat} {i:Nat} {a:AV} {r:Env}:keep L ((i,a)::r)=if L.contains i then (i,a)::keep L r else keep L r:=rfl
theorem acv {l:Loc}:ku l []=[]:=rfl
theorem acw {l:Loc} {i:Nat} {a:AV} {r:Env}:ku l ((i,a)::r)=(i,a.eH l)::ku l r:=rfl
theorem acy:vQ []=[]:=rfl
theorem acz {i:Nat} {a:AV} {r:Env}:vQ ((i,a)::r)=(i,a.iL)::vQ r:=rfl
theorem acA {e:Env}:oL e none=e:=rfl
theorem acB {e:Env} {d:Nat}:oL e (some d)=put e d (.bz []):=rfl
theorem acC {L:List Nat} {e:Env} {a:AV}:aC L e none a=e:=rfl
theorem acD {L:List Nat} {e:Env} {d:Nat} {a:AV}:aC L e (some d) a=if L.contains d then (if a.bT then put (ku (.tmp d) e) d a else put e d a.df) else put e d a:=rfl
theorem acE {i:Nat}:fo i []=[]:=rfl
theorem acF {i:Nat} {a:AV} {r:List AV}:fo i (a::r)=(i,a)::fo (i+1) r:=rfl
theorem acG {k:IntKind} {i:Int}:gx k i= .int k i:=rfl
theorem acH {a b:Nat}:(Loc.tmp a=Loc.tmp b)=(a=b):=by simp
theorem acI {a b c d:Nat}:(Loc.cell a b=Loc.cell c d)=(a=c∧b=d):=by simp
theorem aaz {a c d:Nat}:(Loc.tmp a=Loc.cell c d)=False:=by simp
theorem aaA {a c d:Nat}:(Loc.cell c d=Loc.tmp a)=False:=by simp
def tT (e:Env) (ah:AH) (s p n:Nat) (x:Ar) (cs:List AV):AV→Option (Env×AH)
 | .sl .own k xs=>match x with
   | .t y=>if n=1 then (over cs p [.sl .own k xs]).map fun cs=>(ku (.cell s p) (put e y (.sl .n k xs)),ah.set s cs) else none
   | .c a=>if (AV.sl .own k xs).cells.length=n∧bQ (AV.sl .own k xs).cells then (over cs p ((AV.sl .own k xs).cells.map AV.bP)).map fun cs=>(e,ah.set s cs) else none
 |w=>if w.cells.length=n∧bQ w.cells then (over cs p (w.cells.map AV.bP)).map fun cs=>(e,ah.set s cs) else none
def XU (e:Env) (ah:AH) (s p n:Nat) (x:Ar):Option (List AV)→Option (Env×AH)
 |some cs=>tT e ah s p n x cs (ev e x)
 |none=>none
def stK (e:Env) (ah:AH) (n:Nat) (x:Ar):AV→Option (Env×AH)
 | .ptr s p=>XU e ah s p n x (ah[s]?)
 |_=>none
theorem YR {P:Program} {L:List Nat} {N n0:Nat} {e:Env} {ah:AH} {t:List It} {Q:Exit→Env→AH→Prop} {r:List aM} {d:Option Nat} {a x:Ar} {n:Nat} {g:Option (Nat×Bool)}:UG P L N n0 ⟨d, .st a x n,g⟩ r t Q e ah (some true)=US P L N n0 r t Q (stK e ah n x (ev e a)):=by
 simp only [UG,bF]
 congr 1
 cases ev e a with
 |ptr s p=>
  simp only [stK]
  cases ah[s]? with
  |none=>rfl
  |some cs=>
   simp only [XU]
   cases ev e x with
   |sl tg k xs=>cases tg<;>cases x<;>rfl
   |_=>rfl
 |_=>rfl
theorem aaB {e:Env} {ah:AH} {s p n:Nat} {x:Ar}:stK e ah n x (.ptr s p)=XU e ah s p n x (ah[s]?):=rfl
theorem aaC {e:Env} {ah:AH} {s p n:Nat} {x:Ar} {cs:List AV}:XU e ah s p n x (some cs)=tT e ah s p n x cs (ev e x):=rfl
theorem Rx {e:Env} {ah:AH} {s p n y k:Nat} {cs xs:List AV}:tT e ah s p n (.t y) cs (.sl .own k xs)=if n=1 then (over cs p [.sl .own k xs]).map fun cs=>(ku (.cell s p) (put e y (.sl .n k xs)),ah.set s cs) else none:=rfl
theorem UO {e:Env} {ah:AH} {s p n:Nat} {x:Ar} {cs:List AV} {z:Value}:tT e ah s p n x cs (.v z)=if (AV.cells (.v z)).length=n∧bQ (AV.cells (.v z)) then (over cs p ((AV.cells (.v z)).map AV.bP)).map fun cs=>(e,ah.set s cs) else none:=rfl
theorem Nr {e:Env} {ah:AH} {s p n:Nat} {x:Ar} {cs:List AV} {k:IntKind} {i:Int}:tT e ah s p n x cs (.int k i)=if (AV.cells (.int k i)).length=n∧bQ (AV.cells (.int k i)) then (over cs p ((AV.cells (.int k i)).map AV.bP)).map fun cs=>(e,ah.set s cs) else none:=rfl
theorem KF {e:Env} {ah:AH} {s p n:Nat} {x:Ar} {cs:List AV} {b:Bool}:tT e ah s p n x cs (.bool b)=if (AV.cells (.bool b)).length=n∧bQ (AV.cells (.bool b)) then (over cs p ((AV.cells (.bool b)).map AV.bP)).map fun cs=>(e,ah.set s cs) else none:=rfl
theorem Ns {e:Env} {ah:AH} {s p n:Nat} {x:Ar} {cs:List AV} {l:List UInt8}:tT e ah s p n x cs (.str l)=if (AV.cells (.str l)).length=n∧bQ (AV.cells (.str l)) then (over cs p ((AV.cells (.str l)).map AV.bP)).map fun cs=>(e,ah.set s cs) else none:=rfl
theorem Nt {e:Env} {ah:AH} {s p n:Nat} {x:Ar} {cs:List AV} {s0 o:Nat}:tT e ah s p n x cs (.ptr s0 o)=if (AV.cells (.ptr s0 o)).length=n∧bQ (AV.cells (.ptr s0 o)) then (over cs p ((AV.cells (.ptr s0 o)).map AV.bP)).map fun cs=>(e,ah.set s cs) else none:=rfl
theorem Ry {e:Env} {ah:AH} {s p n:Nat} {x:Ar} {cs:List AV} {a:AV} {o:Nat}:tT e ah s p n x cs (.ep a o)=if (AV.cells (.ep a o)).length=n∧bQ (AV.cells (.ep a o)) then (over cs p ((AV.cells (.ep a o)).map AV.bP)).map fun cs=>(e,ah.set s cs) else none:=rfl
theorem Rz {e:Env} {ah:AH} {s p n:Nat} {x:Ar} {cs:List AV} {f:Nat} {ds:List AV}:tT e ah s p n x cs (.fn f ds)=if (AV.cells (.fn f ds)).length=n∧bQ (AV.cells (.fn f ds)) then (over cs p ((AV.cells (.fn f ds)).map AV.bP)).map fun cs=>(e,ah.set s cs) else none:=rfl
theorem RA {e:Env} {ah:AH} {s p n:Nat} {x:Ar} {cs:List AV} {c:UInt8}:tT e ah s p n x cs (b8 c)=if (AV.cells (b8 c)).length=n∧bQ (AV.cells (b8 c)) then (over cs p ((AV.cells (b8 c)).map AV.bP)).map fun cs=>(e,ah.set s cs) else none:=rfl
theorem RB {e:Env} {ah:AH} {s p n:Nat} {x:Ar} {cs:List AV} {k:Nat} {xs:List AV}:tT e ah s p n x cs (.sl .n k xs)=if (AV.cells (.sl .n k xs)).length=n∧bQ (AV.cells (.sl .n k xs)) then (over cs p ((AV.cells (.sl .n k xs)).map AV.bP)).map fun cs=>(e,ah.set s cs) else none:=rfl
theorem Nu {e:Env} {ah:AH} {s p n:Nat} {x:Ar} {cs:List AV} {k:Nat} {xs:List AV}:tT e ah s p n x cs (.sl .ex k xs)=if (AV.cells (.sl .ex k xs)).length=n∧bQ (AV.cells (.sl .ex k xs)) then (over cs p ((AV.cells (.sl .ex k xs)).map AV.bP)).map fun cs=>(e,ah.set s cs) else none:=rfl
theorem Nv {e:Env} {ah:AH} {s p n:Nat} {x:Ar} {cs:List AV} {l:Loc} {k:Nat} {xs:List AV}:tT e ah s p n x cs (.sl (.fr l) k xs)=if (AV.cells (.sl (.fr l) k xs)).length=n∧bQ (AV.cells (.sl (.fr l) k xs)) then (over cs p ((AV.cells (.sl (.fr l) k xs)).map AV.bP)).map fun cs=>(e,ah.set s cs) else none:=rfl
theorem Nw {e:Env} {ah:AH} {s p n:Nat} {x:Ar} {cs:List AV} {ds:List AV}:tT e ah s p n x cs (.agg ds)=if (AV.cells (.agg ds)).length=n∧bQ (AV.cells (.agg ds)) then (over cs p ((AV.cells (.agg ds)).map AV.bP)).map fun cs=>(e,ah.set s cs) else none:=rfl
theorem Nx {e:Env} {ah:AH} {s p n:Nat} {x:Ar} {cs:List AV} {q0 k0 o0 m0:Nat}:tT e ah s p n x cs (.cw q0 k0 o0 m0)=if (AV.cells (.cw q0 k0 o0 m0)).length=n∧bQ (AV.cells (.cw q0 k0 o0 m0)) then (over cs p ((AV.cells (.cw q0 k0 o0 m0)).map AV.bP)).map fun cs=>(e,ah.set s cs) else none:=rfl
theorem Ny {e:Env} {ah:AH} {s p n:Nat} {x:Ar} {cs:List AV} {q0 k0 m0 c0:Nat}:tT e ah s p n x cs (.b5 q0 k0 m0 c0)=if (AV.cells (.b5 q0 k0 m0 c0)).length=n∧bQ (AV.cells (.b5 q0 k0 m0 c0)) then (over cs p ((AV.cells (.b5 q0 k0 m0 c0)).map AV.bP)).map fun cs=>(e,ah.set s cs) else none:=rfl
theorem Nz {e:Env} {ah:AH} {s p n:Nat} {x:Ar} {cs:List AV}:tT e ah s p n x cs (.ef)=if (AV.cells (.ef)).length=n∧bQ (AV.cells (.ef)) then (over cs p ((AV.cells (.ef)).map AV.bP)).map fun cs=>(e,ah.set s cs) else none:=rfl
theorem RC {e:Env} {ah:AH} {s p n:Nat} {x:Ar} {cs:List AV} {eb:Bool}:tT e ah s p n x cs (ec eb)=if (AV.cells (ec eb)).length=n∧bQ (AV.cells (ec eb)) then (over cs p ((AV.cells (ec eb)).map AV.bP)).map fun cs=>(e,ah.set s cs) else none:=by cases eb<;>rfl
theorem XV {c0:AV} {cs ws:List AV} {o:Nat}:over (c0::cs) o ws=if o+ws.length≤(c0::cs).length then some ((c0::cs).take o++ws++(c0::cs).drop (o+ws.length)) else none:=rfl
theorem acJ {e:Env} {cs:List AV}:fill e cs []=some cs:=rfl
def UP (e:Env) (r:List (Nat×Nat×Ar)):Option (List AV)→Option (List AV)
 |some cs=>fill e cs r
 |none=>none
theorem acK {e:Env} {cs:List AV} {o n:Nat} {x:Ar} {r:List (Nat×Nat×Ar)}:fill e cs ((o,n,x)::r)=if (ev e x).cells.length=n∧bQ (ev e x).cells then UP e r (over cs o ((ev e x).cells.map AV.bP)) else none:=by
 simp only [fill]
 split
 · cases over cs o ((ev e x).cells.map AV.bP)<;>rfl
 · rfl
theorem acL {e:Env} {cs:List AV} {r:List (Nat×Nat×Ar)}:UP e r (some cs)=fill e cs r:=rfl
theorem UQ {P:Program} {L:List Nat} {N n0:Nat} {e:Env} {ah:AH} {t:List It} {Q:Exit→Env→AH→Prop} {r:List aM} {d:Option Nat} {x:Ar} {g:Option (Nat×Bool)}:UG P L N n0 ⟨d, .len x,g⟩ r t Q e ah (some true)=US P L N n0 r t Q (OO L e ah d (ev e x)):=by simp only [UG,bF];cases ev e x<;>rfl
theorem XW {L:List Nat} {e:Env} {ah:AH} {d:Option Nat} {tg:Tg} {k:Nat} {xs:List AV}:OO L e ah d (.sl tg k xs)=some (aC L e d (.int .i64 xs.length),ah):=rfl
theorem OP {P:Program} {L:List Nat} {N n0:Nat} {e:Env} {ah:AH} {t:List It} {Q:Exit→Env→AH→Prop} {r:List aM} {d:Option Nat} {x:Ar} {g:Option (Nat×Bool)}:UG P L N n0 ⟨d, .lens x,g⟩ r t Q e ah (some true)=US P L N n0 r t Q (TP L e ah d (ev e x)):=by simp only [UG,bF];cases ev e x<;>rfl
theorem UR {L:List Nat} {e:Env} {ah:AH} {d:Option Nat} {l:List UInt8}:TP L e ah d (.str l)=some (aC L e d (.int .i64 l.length),ah):=rfl
theorem UT {P:Program} {L:List Nat} {N n0:Nat} {e:Env} {ah:AH} {t:List It} {Q:Exit→Env→AH→Prop} {r:List aM} {d:Option Nat} {x:Ar} {i:Nat} {g:Option (Nat×Bool)}:UG P L N n0 ⟨d, .ext x i,g⟩ r t Q e ah (some true)=US P L N n0 r t Q (TR L e ah d i (ev e x)):=by simp only [UG,bF];cases ev e x with|bz cs=>simp only [TR];cases cs[i]? <;>rfl|_=>rfl
theorem XX {L:List Nat} {e:Env} {ah:AH} {d:Option Nat} {i:Nat} {cs:List AV}:TR L e ah d i (.bz cs)=TQ L e ah d (cs[i]?):=rfl
theorem XY {L:List Nat} {e:Env} {ah:AH} {d:Option Nat} {a:AV}:TQ L e ah d (some a)=some (aC L e d a.sh,ah):=rfl
theorem OQ {P:Program} {L:List Nat} {N n0:Nat} {e:Env} {ah:AH} {t:List It} {Q:Exit→Env→AH→Prop} {r:List aM} {d:Option Nat} {x:Ar} {q:Nat} {n:Option Nat} {g:Option (Nat×Bool)}:UG P L N n0 ⟨d, .Cb x q n,g⟩ r t Q e ah (some true)=US P L N n0 r t Q (Hl L e ah d q n (ev e x)):=by
 simp only [UG,bF]
 cases ev e x with
 |agg cs=>
  cases n with
  |some n=>rfl
  |none=>simp only [Hl];cases cs[q]? <;>rfl
 |_=>cases n<;>rfl
theorem aaD {L:List Nat} {e:Env} {ah:AH} {d:Option Nat} {q:Nat} {cs:List AV}:Hl L e ah d q none (.agg cs)=LY L e ah d (cs[q]?):=rfl
theorem aaE {L:List Nat} {e:Env} {ah:AH} {d:Option Nat} {a:AV}:LY L e ah d (some a)=some (aC L e d a.bP,ah):=rfl
theorem aaF {L:List Nat} {e:Env} {ah:AH} {d:Option Nat} {q n:Nat} {cs:List AV}:Hl L e ah d q (some n) (.agg cs)=if q+n≤cs.length then some (aC L e d (.agg (((cs.drop q).take n).map AV.bP)),ah) else none:=rfl
theorem UU {P:Program} {L:List Nat} {N n0:Nat} {e:Env} {ah:AH} {t:List It} {Q:Exit→Env→AH→Prop} {r:List aM} {d:Option Nat} {x:Ar} {n:Option Nat} {g:Option (Nat×Bool)}:UG P L N n0 ⟨d, .AP x n,g⟩ r t Q e ah (some true)=US P L N n0 r t Q (TS L e ah d n (ev e x)):=by
 simp only [UG,bF]
 cases ev e x with
 |ep a p=>
  cases n with
  |some n=>rfl
  |none=>simp only [TS,G7,PD];cases a.cells[p]? <;>rfl
 |_=>cases n<;>rfl
theorem aaG {L:List Nat} {e:Env} {ah:AH} {d:Option Nat} {n:Option Nat} {a:AV} {p:Nat}:TS L e ah d n (.ep a p)=G7 L d n e ah (.ep a p):=rfl
def WA0:=And.intro @TT<|And.intro @LZ<|And.intro @JS<|And.intro @L0<|And.intro @L1<|And.intro @PJ<|And.intro @PK<|And.intro @PL<|And.intro @PM<|And.intro @PN<|And.intro @L2<|And.intro @JT<|And.intro @L3<|And.intro @L4<|And.intro @L5<|And.intro @L6<|And.intro @L7<|And.intro @L8<|And.intro @PO<|And.intro @XI<|And.intro @PR<|And.intro @L9<|And.intro @PS<|And.intro @PT<|And.intro @TU<|And.intro @TV<|And.intro @TW<|And.intro @TX<|And.intro @TY<|And.intro @PU<|And.intro @Ma<|And.intro @PV<|And.intro @PW<|And.intro @PX<|And.intro @PY<|And.intro @PZ<|And.intro @P0<|And.intro @TZ<|And.intro @XJ<|And.intro @P1<|And.intro @Mb<|And.intro @P2<|And.intro @P3<|And.intro @T0<|And.intro @T3<|And.intro @T4<|And.intro @T5<|And.intro @T6<|And.intro @P4<|And.intro @Mc<|And.intro @P5<|And.intro @P6<|And.intro @P7<|And.intro @P8<|And.intro @P9<|And.intro @Qa<|And.intro @T7<|And.intro @XK<|And.intro @Qb<|@Md
def WA1:=And.intro @Qc<|And.intro @Qd<|And.intro @T8<|And.intro @T9<|And.intro @Ua<|And.intro @Ub<|And.intro @Uc<|And.intro @Qe<|And.intro @Me<|And.intro @Qf<|And.intro @Qg<|And.intro @Qh<|And.intro @Qi<|And.intro @Qj<|And.intro @Qk<|And.intro @Ud<|And.intro @XL<|And.intro @Ql<|And.intro @Mf<|And.intro @Qm<|And.intro @Qn<|And.intro @Ue<|And.intro @Uf<|And.intro @Ug<|And.intro @Uh<|And.intro @Ui<|And.intro @Qo<|And.intro @Mg<|And.intro @Qp<|And.intro @Qq<|And.intro @Qr<|And.intro @Qs<|And.intro @Qt<|And.intro @Qu<|And.intro @Uj<|And.intro @Mh<|And.intro @Ho<|And.intro @Fg<|And.intro @Hp<|And.intro @Hq<|And.intro @JU<|And.intro @JV<|And.intro @JW<|And.intro @JX<|And.intro @JY<|And.intro @Hr<|And.intro @Fh<|And.intro @Hs<|And.intro @Ht<|And.intro @Hu<|And.intro @Hv<|And.intro @Hw<|And.intro @Hx<|And.intro @JZ<|And.intro @Uk<|And.intro @Mi<|And.intro @J0<|And.intro @Mj<|And.intro @Mk<|@Qv
def WA2:=And.intro @Qw<|And.intro @Qx<|And.intro @Qy<|And.intro @Qz<|And.intro @Ml<|And.intro @J1<|And.intro @Mm<|And.intro @Mn<|And.intro @Mo<|And.intro @Mp<|And.intro @Mq<|And.intro @Mr<|And.intro @QA<|And.intro @QB<|And.intro @J2<|And.intro @Hy<|And.intro @J3<|And.intro @J4<|And.intro @Ms<|And.intro @Mt<|And.intro @Mu<|And.intro @Mv<|And.intro @Mw<|And.intro @J5<|And.intro @Hz<|And.intro @J6<|And.intro @J7<|And.intro @J8<|And.intro @J9<|And.intro @Ka<|And.intro @Kb<|And.intro @Mx<|And.intro @Ul<|And.intro @My<|And.intro @Kc<|And.intro @Mz<|And.intro @MA<|And.intro @QC<|And.intro @QD<|And.intro @QE<|And.intro @QF<|And.intro @QG<|And.intro @MB<|And.intro @Kd<|And.intro @MC<|And.intro @MD<|And.intro @ME<|And.intro @MF<|And.intro @MG<|And.intro @QH<|And.intro @Um<|And.intro @Un<|And.intro @MH<|And.intro @HA<|And.intro @Fi<|And.intro @HB<|And.intro @HC<|And.intro @Ke<|And.intro @Kf<|@Kg
def WA3:=And.intro @Kh<|And.intro @Ki<|And.intro @HD<|And.intro @Fj<|And.intro @HF<|And.intro @HG<|And.intro @HH<|And.intro @HI<|And.intro @HJ<|And.intro @HK<|And.intro @Kj<|And.intro @Uo<|And.intro @MI<|And.intro @Kk<|And.intro @MJ<|And.intro @MK<|And.intro @QI<|And.intro @QJ<|And.intro @QK<|And.intro @QL<|And.intro @QM<|And.intro @ML<|And.intro @Kl<|And.intro @MM<|And.intro @MN<|And.intro @MO<|And.intro @MP<|And.intro @MQ<|And.intro @MR<|And.intro @QN<|And.intro @QO<|And.intro @Km<|And.intro @HL<|And.intro @Kn<|And.intro @Ko<|And.intro @MS<|And.intro @MT<|And.intro @MU<|And.intro @MV<|And.intro @MW<|And.intro @Kp<|And.intro @HM<|And.intro @Kq<|And.intro @Kr<|And.intro @Ks<|And.intro @Kt<|And.intro @Ku<|And.intro @Kv<|And.intro @MX<|And.intro @XM<|And.intro @QS<|And.intro @MY<|And.intro @QT<|And.intro @QU<|And.intro @Up<|And.intro @Uq<|And.intro @Ur<|And.intro @Us<|And.intro @Ut<|@QV
def WA4:=And.intro @MZ<|And.intro @QW<|And.intro @QX<|And.intro @QY<|And.intro @QZ<|And.intro @Q0<|And.intro @Q1<|And.intro @Uu<|And.intro @M0<|And.intro @HN<|And.intro @Fk<|And.intro @HO<|And.intro @HP<|And.intro @Kw<|And.intro @Kx<|And.intro @Ky<|And.intro @Kz<|And.intro @KB<|And.intro @HQ<|And.intro @Fl<|And.intro @HR<|And.intro @HS<|And.intro @HT<|And.intro @HU<|And.intro @HV<|And.intro @HW<|And.intro @KC<|And.intro @XN<|And.intro @Q2<|And.intro @M1<|And.intro @Q3<|And.intro @Q4<|And.intro @Uv<|And.intro @Uw<|And.intro @Ux<|And.intro @Uy<|And.intro @Uz<|And.intro @Q5<|And.intro @Q6<|And.intro @Q7<|And.intro @Q8<|And.intro @Q9<|And.intro @Ra<|And.intro @Rb<|And.intro @UA<|And.intro @UB<|And.intro @UD<|And.intro @UE<|And.intro @M3<|And.intro @KD<|And.intro @M4<|And.intro @M5<|And.intro @Rc<|And.intro @Rd<|And.intro @Re<|And.intro @Rf<|And.intro @Rg<|And.intro @M6<|And.intro @M7<|@M8
def WA5:=And.intro @M9<|And.intro @Na<|And.intro @Nb<|And.intro @Nc<|And.intro @Rh<|And.intro @Ri<|And.intro @Rj<|And.intro @Rk<|And.intro @Rl<|And.intro @Nd<|And.intro @Rm<|And.intro @Nf<|And.intro @Rn<|And.intro @Ro<|And.intro @UH<|And.intro @UI<|And.intro @UJ<|And.intro @Ng<|And.intro @KE<|And.intro @Nh<|And.intro @Ni<|And.intro @Rp<|And.intro @Rq<|And.intro @Rr<|And.intro @Rs<|And.intro @Rt<|And.intro @Nj<|And.intro @Nk<|And.intro @Nl<|And.intro @Nn<|And.intro @Np<|And.intro @Nq<|And.intro @Ru<|And.intro @XO<|And.intro @XP<|And.intro @XQ<|And.intro @UL<|And.intro @UM<|And.intro @UN<|And.intro @Rv<|And.intro @XS<|And.intro @XT<|And.intro @aas<|And.intro @aat<|And.intro @aau<|And.intro @aav<|And.intro @aaw<|And.intro @aax<|And.intro @acm<|And.intro @aay<|And.intro @acn<|And.intro @aco<|And.intro @acp<|And.intro @acq<|And.intro @acr<|And.intro @acs<|And.intro @acu<|And.intro @acv<|And.intro @acw<|@acy
def WA6:=And.intro @acz<|And.intro @acA<|And.intro @acB<|And.intro @acC<|And.intro @acD<|And.intro @acE<|And.intro @acF<|And.intro @acG<|And.intro @acH<|And.intro @acI<|And.intro @aaz<|And.intro @aaA<|And.intro @YR<|And.intro @aaB<|And.intro @aaC<|And.intro @Rx<|And.intro @UO<|And.intro @Nr<|And.intro @KF<|And.intro @Ns<|And.intro @Nt<|And.intro @Ry<|And.intro @Rz<|And.intro @RA<|And.intro @RB<|And.intro @Nu<|And.intro @Nv<|And.intro @Nw<|And.intro @Nx<|And.intro @Ny<|And.intro @Nz<|And.intro @RC<|And.intro @XV<|And.intro @acJ<|And.intro @acK<|And.intro @acL<|And.intro @UQ<|And.intro @XW<|And.intro @OP<|And.intro @UR<|And.intro @UT<|And.intro @XX<|And.intro @XY<|And.intro @OQ<|And.intro @aaD<|And.intro @aaE<|And.intro @aaF<|And.intro @UU<|@aaG
end Go.Am
end
section
namespace Go.Am
open Go
variable [Tabs]
def Cy (n:Nat) (i:Int):Option Nat:=if 0≤i∧i<n then some i.toNat else none
def YS {α:Type} (xs:List α) (j:Nat) (c:α):Option (List α):=if j<xs.length then some (xs.set j c) else none
section
variable {P:Program} {L:List Nat} {e:Env} {ah:AH} {d:Option Nat}
theorem XZ {xs:List UInt8} {j:Nat} {c:UInt8}:over (ml b8 xs) j [b8 c]=(YS xs j c).map (ml b8):=by
 unfold over YS ml
 simp only [List.length_map,List.length_cons,List.length_nil]
 by_cases h:j<xs.length
 · rw [if_pos (by omega),if_pos h]
   simp only [Option.map_some,Option.some.injEq,List.map_set]
   rw [List.set_eq_take_append_cons_drop,if_pos (by simpa using h)]
   simp
 · rw [if_neg (by omega),if_neg h];rfl
theorem aaH {xs:List UInt8} {j:Nat}:(ml b8 xs)[j]? =(xs[j]?).map b8:=by simp [ml]
theorem acM {s n:Nat} {ki:IntKind} {i:Int}:sM L e ah d 1 (.cw s 1 0 n) (.int ki i)=(Cy n i).map fun j=>(aC L e d (.ptr s j),ah):=by
 simp only [sM,Cy,and_true]
 split<;>simp
theorem aaI {s k o n:Nat}:OO L e ah d (.cw s k o n)=some (aC L e d (.int .i64 n),ah):=rfl
theorem UW {h:Cv} {l:List UInt8}:DK L e ah d h (.str l)=(fF h (.str l)).map fun a=>(aC L e d a,ah):=rfl
theorem UY {h:Cv} {k:IntKind} {i:Int}:DK L e ah d h (.int k i)=(fF h (.int k i)).map fun a=>(aC L e d a,ah):=rfl
theorem X0 {h:Cv} {c:UInt8}:DK L e ah d h (b8 c)=(fF h (b8 c)).map fun a=>(aC L e d a,ah):=rfl
theorem X1 {h:Cv} {t:Tg} {k:Nat} {xs:List AV}:DK L e ah d h (.sl t k xs)=(fF h (.sl t k xs)).map fun a=>(aC L e d a,ah):=rfl
theorem UZ {s n:Nat}:DK L e ah d .bs (.cw s 1 0 n)=Tk L e ah d 0 n (ah[s]?):=rfl
theorem M_s {p n:Nat} {cs:List AV}:Tk L e ah d p n (some cs)=Ox L e ah d p n cs:=rfl
theorem M_t {n:Nat} {xs:List UInt8}:Ox L e ah d 0 n (ml b8 xs)=(sub xs 0 (n:Int)).map fun l=>(aC L e d (.str l),ah):=by
 unfold Ox sub
 have hb:bytesOf (((ml b8 xs).drop 0).take n)=some (xs.take n):=by
  have:((ml b8 xs).drop 0).take n=(ml b8 (xs.take n)):=by simp [ml,List.map_take]
  rw [this];exact Ci _
 rw [hb]
 by_cases h:n≤xs.length
 · rw [if_pos (by simp [ml];exact h),if_pos (by omega)];simp
 · rw [if_neg (by simp [ml];omega),if_neg (by omega)];rfl
theorem M_o {l:List UInt8}:Tl L e ah d (.str l)=some (aC L e d (.cw ah.length 1 0 l.length),ah++[ml b8 l]):=rfl
theorem aaJ:Lw .ef (.v .nilIface)=some false:=rfl
theorem aaK:Lw (.v .nilIface) (.v .nilIface)=some true:=rfl
theorem aaL {b:Bool}:Lw (ec b) (.v .nilIface)=some (!b):=by cases b<;>rfl
theorem aaM {k:IntKind} {i j:Int}:Jf true (.int k i) (.int k j)=some (.int k (max i j)):=by simp [Jf]
theorem aaN {k:IntKind} {i j:Int}:Jf false (.int k i) (.int k j)=some (.int k (min i j)):=by simp [Jf]
end
def WM:=And.intro @XZ<|And.intro @aaH<|And.intro @acM<|And.intro @aaI<|And.intro @UW<|And.intro @UY<|And.intro @X0<|And.intro @X1<|And.intro @UZ<|And.intro @M_s<|And.intro @M_t<|And.intro @M_o<|And.intro @aaJ<|And.intro @aaK<|And.intro @aaL<|And.intro @Bool.not_not<|And.intro @aaM<|And.intro @aaN<|And.intro @Xf<|And.intro @Xg<|And.intro @abX @abY
theorem Wx.cw {s k o n:Nat}:Wx (.cw s k o n) (.cw s k o n):= .same (by simp)
theorem Wx.ef:Wx .ef .ef:= .same (by simp)
theorem Wx.epE {a b:AV} {o:Nat} (h:a=b):Wx (.ep a o) (.ep b o):=by subst h;exact Wx.ep
theorem Wx.err {b:Bool}:Wx (ec b) (ec b):= .same (by cases b<;>simp [ec])
end Go.Am
end
