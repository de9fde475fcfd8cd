/- The law HeadReceived returns true at every input whose tables read as laid; each argument reads behind the call as it did; the tied card. -/
import Derived.Test.YtfnnmecilcnloaaGreatDoorM4
import Derived.Test.YtfnnmecilcnloaaGreatDoorCards
import Derived.Test.YtfnnmecilcnloaaGreatDoorTie
import Derived.SevenTiedAt
set_option linter.unusedSimpArgs false
set_option linter.unusedVariables false
set_option linter.unusedSectionVars false
set_option linter.defProp false
section
namespace Go.Proofs.YtfnnmecilcnloaaGreatDoor
open Go.ChangeShapes Go.WideShapes Go.ChangeAt Go.RowKit Go.Am Go.Proofs.bX
abbrev vQ (x:aE):AV:= .agg [(.str x.aD),(.str x.domain)]
theorem W9 {H:Type} {enc:TypeId×Value→H} {W:World} {sp:Nat→Bool} {held:Bool}:Am.Op enc Tryz.prog W sp held 23 vQ:=by
 refine Ji (fs:= #[⟨"Local",9,0,false, "", "",0⟩,⟨"Domain",9,1,false, "", "",16⟩]) (by kernel_rfl) fun cs hl hf=> ?_
 have hl:cs.length=2:=hl.trans (by kernel_rfl)
 obtain ⟨n0,y0,h0⟩:=hf 0 _ rfl
 obtain ⟨x0,c0⟩:=((vP (by kernel_rfl)):Am.Op enc Tryz.prog W sp held 9 AV.str) _ _ _ h0
 have c0:CR W (AV.str x0).cells ((cs.drop 0).take (Tryz.prog.cellsOf 9)):=c0
 rw [show Tryz.prog.cellsOf 9=1 by kernel_rfl] at c0
 obtain ⟨n1,y1,h1⟩:=hf 1 _ rfl
 obtain ⟨x1,c1⟩:=((vP (by kernel_rfl)):Am.Op enc Tryz.prog W sp held 9 AV.str) _ _ _ h1
 have c1:CR W (AV.str x1).cells ((cs.drop 1).take (Tryz.prog.cellsOf 9)):=c1
 rw [show Tryz.prog.cellsOf 9=1 by kernel_rfl] at c1
 refine ⟨aE.mk x0 x1, ?_⟩
 have key:=(c0.append c1)
 have hcs:(cs.drop 0).take 1++((cs.drop 1).take 1)=cs:=by
  rw [List.take_of_length_le (i:=1) (l:=cs.drop 1) (by simp;omega)]
  rw [show cs.drop 1=cs.drop (0+1) from rfl,seg]
  rfl
 have key:CR W _ ((cs.drop 0).take 1++((cs.drop 1).take 1)):=key
 rw [hcs] at key
 exact key
set_option maxRecDepth 100000 in
theorem rP (os:Os) (started:os.Started) (H:Type) (enc:TypeId×Value→H):
 ReturnsInHanded {} Tryz.checked os 3 .any (fun w args=>(Rows.headReceivedSpec.pre enc Tryz.prog Tryz.f3 [] false w args∧laidMetH Tryz.prog pK w)∧sizedMet enc Tryz.prog Tryz.f3 (OpenSpec.ofChange Rows.headReceivedSpec) false w args) (Rows.headReceivedSpec.post enc Tryz.prog Tryz.f3 false true false false):=by
 refine xl (C:=Tryz.checked) (X:=fun w _=>laidMetH Tryz.prog pK w) (fun _ _ _ hh h=>h.of_heap hh) W7.own started (by kernel_rfl) Tryz.func3
  (ChangeSpec.witness_shaped (enc:=enc) (C:=Tryz.checked) (os:=os) (X:=fun w _=>laidMetH Tryz.prog pK w) false (uj os) #[.string ⟨#[]⟩, .string ⟨#[]⟩, .string ⟨#[]⟩, .int .i64 0, .agg #[.string ⟨#[]⟩, .string ⟨#[]⟩], .slice none 0 0] 8 rfl (D5 os _) (by kernel_rfl) (by kernel_rfl) (by kernel_rfl) (Nd os _)) ?_
 intro W base args ds gs before Xa hW hS hL
 have hval:∀(j:Nat) t v,Tryz.f3.params[j]? =some t→args[j]? =some v→Value.okWide Tryz.prog W .any base t v:=Xa
 have hW':=hW
 obtain ⟨p,q,hA0,hV,rfl,hfz,hnd⟩:=hW
 have hA:DataW.TrodAll enc Tryz.prog W 0 (fun _=>true) true Tryz.f3.params.toList args.toList ds p:=hA0
 have hA1:=hA
 rw [Tryz.params3] at hA hval
 obtain ⟨vs,hvs⟩:∃vs,vs=args.toList:=⟨_,rfl⟩
 rw [←hvs] at hA
 obtain ⟨v0,vs0,d0,ds0,p0,q0,e0,rfl,rfl,h0,hA⟩:=trodAll_cons hA
 obtain ⟨v1,vs1,d1,ds1,p1,q1,e1,rfl,rfl,h1,hA⟩:=trodAll_cons hA
 obtain ⟨v2,vs2,d2,XK,p2,q2,e2,rfl,rfl,h2,hA⟩:=trodAll_cons hA
 obtain ⟨v3,vs3,d3,ds3,p3,q3,e3,rfl,rfl,h3,hA⟩:=trodAll_cons hA
 obtain ⟨v4,vs4,d4,ds4,p4,q4,e4,rfl,rfl,h4,hA⟩:=trodAll_cons hA
 obtain ⟨v5,vs5,d5,ds5,p5,q5,e5,rfl,rfl,h5,hA⟩:=trodAll_cons hA
 obtain ⟨e6,rfl,rfl⟩:=trodAll_nil hA
 have hargs:args= #[v0,v1,v2,v3,v4,v5]:=by
  apply Array.ext';rw [←hvs,e0,e1,e2,e3,e4,e5,e6]
 subst hargs
 obtain ⟨rfl,rfl⟩:=trodVars_none hV
 obtain ⟨x0,a0⟩:=Op.arg1 (f:=AV.str) (vP (by kernel_rfl)) (fun _=>rfl) (fun cs=>uh (by kernel_rfl) cs) (hval 0 9 v0 rfl rfl) h0
 obtain ⟨x1,a1⟩:=Op.arg1 (f:=AV.str) (vP (by kernel_rfl)) (fun _=>rfl) (fun cs=>uh (by kernel_rfl) cs) (hval 1 9 v1 rfl rfl) h1
 obtain ⟨x2,a2⟩:=Op.arg1 (f:=AV.str) (vP (by kernel_rfl)) (fun _=>rfl) (fun cs=>uh (by kernel_rfl) cs) (hval 2 9 v2 rfl rfl) h2
 obtain ⟨x3,a3⟩:=Op.arg1 (f:=(xx .i64)) (TI (by kernel_rfl)) (fun _=>rfl) (fun cs=>Jj (k:= .i64) (by kernel_rfl) cs) (hval 3 3 v3 rfl rfl) h3
 obtain ⟨x4,a4⟩:=Op.aai (f:=vQ) (fs:= #[⟨"Local",9,0,false, "", "",0⟩,⟨"Domain",9,1,false, "", "",16⟩]) W9 (by kernel_rfl) (fun _=>rfl) (hval 4 23 v4 rfl rfl) h4
 obtain ⟨x5,a5⟩:=Op.arg1 (f:=(fun xs=>AV.sl .n 1 (ml b8 xs))) (W6 (e:=5) (k:=1) (f:=b8) (by kernel_rfl) (by kernel_rfl) (by decide) (W5 (by kernel_rfl)) (fun _=>rfl)) (fun _=>rfl) (fun cs=>Nc (e:=5) (by kernel_rfl) cs) (hval 5 24 v5 rfl rfl) h5
 have hlt:∀x∈p0++(p1++(p2++(p3++(p4++(p5++([])))))),x.block<W.heap.size:=fun x hx=>hW'.lt x (by simpa using hx)
 obtain ⟨F,hF⟩:=vO x0 x1 x2 x3 x4 x5
 refine ((p8 (H0:=[]) hF).row (vs:= #[v0,v1,v2,v3,v4,v5]) (Jk hS hL) rfl ?_).mono ?_
 · intro i x hi
   rcases i with _|_|_|_|_|_|i
   · simp at hi;subst hi;exact ⟨a0,TC.enc (by rfl) _,rfl⟩
   · simp at hi;subst hi;exact ⟨a1,TC.enc (by rfl) _,rfl⟩
   · simp at hi;subst hi;exact ⟨a2,TC.enc (by rfl) _,rfl⟩
   · simp at hi;subst hi;exact ⟨a3,TC.enc (by rfl) _,rfl⟩
   · simp at hi;subst hi;exact ⟨a4,TC.enc (by rfl) _,rfl⟩
   · simp at hi;subst hi;exact ⟨a5,TC.enc (by rfl) _,rfl⟩
   · simp at hi
 · rintro e W' ⟨r,v,ax,γ',C',rfl,⟨rfl,rfl⟩,hv,hb⟩
   have hv:=hv.eS
   subst hv
   refine ⟨_,rfl,_,_,_,[],p0++(p1++(p2++(p3++(p4++(p5++([])))))),[],hW', ?_, ?_, ?_,hb.frame _,fun h=>by cases h⟩
   · exact trodAll_mk1 (shut_bool (by kernel_rfl) true)
   · exact AA W7.laidOut hb (of_decide_eq_true (by kernel_rfl)) hA1 hlt
   · exact rfl
theorem sL:Rows.HeadReceivedSaid:=
 OpenClaim.holds_of_wide 3 Tryz.f3 rfl rfl rfl rfl rfl rfl rfl ⟨rfl,rfl,rfl,rfl,rfl⟩ rfl rfl rfl rfl rfl (by kernel_rfl) Tryz.func3 (by kernel_rfl)
  (of_decide_eq_true (by kernel_rfl)) (by unfold Func.isWrapper;first|(rw [if_pos (by decide+kernel)];kernel_rfl)|(rw [if_neg (by decide+kernel)];exact ⟨rfl,rfl⟩))
  (fun os started H enc _=>rP os started H enc)
theorem headReceived_tied:Rows.HeadReceivedCardSaid:=
 Claim7.holds_tied_plain_at .later [] [.data, .data, .data, .data, .sentinel, .sentinel, .pinned] true Rows.headReceivedCard.stood.harness true
  sL (fun _ h=>by cases h) (by kernel_rfl) (fun _ h=>by cases h) headReceived_row_tie rfl ⟨rfl,rfl⟩ (by kernel_rfl) rfl
  (fun f fn hf hfn=>by
   obtain rfl:f=3:=Option.some.inj ((show Tryz.prog.funcNamed Rows.headReceivedRow.func=some 3 by kernel_rfl).symm.trans hf) |>.symm
   obtain rfl:fn=Tryz.f3:=(Option.some.inj (Tryz.func3.symm.trans hfn)).symm
   exact ⟨by kernel_rfl,fun j t ht=>by
    rw [Tryz.params3] at ht
    have hm:t∈[9,9,9,3,23,24]:=by have:=Array.mem_of_getElem? ht;simpa using this
    have hall:([9,9,9,3,23,24].all fun u=> !Tryz.prog.wantsStandIn u)=true:=by kernel_rfl
    exact (show Tryz.prog.wantsStandIn t=false by simpa using List.all_eq_true.1 hall t hm)⟩)
  (by kernel_rfl)
end Go.Proofs.YtfnnmecilcnloaaGreatDoor
end
