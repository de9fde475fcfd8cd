/- The law AddrBack returns true at every input whose tables read as laid; each argument reads behind the call as it did; the tied card. -/
import Derived.Test.YtfnnmecilcnloaaDoorAP10
import Derived.Test.YtfnnmecilcnloaaDoorRA1
import Derived.Test.YtfnnmecilcnloaaDoorCards
import Derived.Test.YtfnnmecilcnloaaDoorTie
import Derived.Test.YtfnnmecilcnloaaDoorRows
import Derived.ProofKit
import Derived.SevenTiedAt
set_option linter.unusedSimpArgs false
set_option linter.unusedVariables false
set_option linter.unusedSectionVars false
set_option linter.defProp false
namespace Go.Proofs.YtfnnmecilcnloaaDoor
open Go.ChangeShapes Go.WideShapes Go.ChangeAt Go.RowKit Go.Am Go.Proofs.AddrS

def encAddressV (x : AddressV) : AV := .agg [(.str x.local0), (.str x.domain)]

theorem op_52 {H : Type} {enc : TypeId × Value → H} {W : World} {sp : Nat → Bool} {held : Bool} : Am.Op enc Tryd.prog W sp held 52 encAddressV := by
  refine Op_struct (fs := #[⟨"Local", 9, 0, false, "", "", 0⟩, ⟨"Domain", 9, 1, false, "", "", 16⟩]) (by kernel_rfl) fun cs hl hf => ?_
  have hl : cs.length = 2 := hl.trans (by kernel_rfl)
  obtain ⟨n0, y0, h0⟩ := hf 0 _ rfl
  obtain ⟨x0, c0⟩ := ((Op_str (by kernel_rfl)) : Am.Op enc Tryd.prog W sp held 9 AV.str) _ _ _ h0
  have c0 : CR W (AV.str x0).cells ((cs.drop 0).take (Tryd.prog.cellsOf 9)) := c0
  rw [show Tryd.prog.cellsOf 9 = 1 by kernel_rfl] at c0
  obtain ⟨n1, y1, h1⟩ := hf 1 _ rfl
  obtain ⟨x1, c1⟩ := ((Op_str (by kernel_rfl)) : Am.Op enc Tryd.prog W sp held 9 AV.str) _ _ _ h1
  have c1 : CR W (AV.str x1).cells ((cs.drop 1).take (Tryd.prog.cellsOf 9)) := c1
  rw [show Tryd.prog.cellsOf 9 = 1 by kernel_rfl] at c1
  refine ⟨AddressV.mk x0 x1, ?_⟩
  have key := (c0.append c1)
  have hcs : (cs.drop 0).take 1 ++ ((cs.drop 1).take 1) = cs := by
    rw [List.take_of_length_le (i := 1) (l := cs.drop 1) (by simp; omega)]
    rw [show cs.drop 1 = cs.drop (0 + 1) from rfl, seg]
    rfl
  have key : CR W _ ((cs.drop 0).take 1 ++ ((cs.drop 1).take 1)) := key
  rw [hcs] at key
  exact key

set_option maxRecDepth 100000 in
theorem addrBack_lifted (os : Os) (started : os.Started) (H : Type) (enc : TypeId × Value → H) :
    ReturnsInHanded {} Tryd.checked os 8 .any (fun w args => (Rows.addrBackSpec.pre enc Tryd.prog Tryd.f8 [] false w args ∧ laidMetH Tryd.prog seatLaid w) ∧ sizedMet enc Tryd.prog Tryd.f8 (OpenSpec.ofChange Rows.addrBackSpec) false w args) (Rows.addrBackSpec.post enc Tryd.prog Tryd.f8 false true false false) := by
  refine wrap_and_shaped (C := Tryd.checked) (X := fun w _ => laidMetH Tryd.prog seatLaid w) (fun _ _ _ hh h => h.of_heap hh) Own.own started (by kernel_rfl) Tryd.func8
    (ChangeSpec.witness_shaped (enc := enc) (C := Tryd.checked) (os := os) (X := fun w _ => laidMetH Tryd.prog seatLaid w) false (seatWorld os) #[.agg #[.string ⟨#[]⟩, .string ⟨#[]⟩], .string ⟨#[]⟩, .slice none 0 0] 8 rfl (seat_shaped os _) (by kernel_rfl) (by kernel_rfl) (by kernel_rfl) (seat_met os _)) ?_
  intro W base args ds gs before hval0 hW hS hL
  have hval : ∀ (j : Nat) t v, Tryd.f8.params[j]? = some t → args[j]? = some v → Value.okWide Tryd.prog W .any base t v := hval0
  have hW' := hW
  obtain ⟨p, q, hA0, hV, rfl, hfz, hnd⟩ := hW
  have hA : DataW.TrodAll enc Tryd.prog W 0 (fun _ => true) true Tryd.f8.params.toList args.toList ds p := hA0
  have hA1 := hA
  rw [Tryd.params8] at hA hval
  obtain ⟨vs, hvs⟩ : ∃ vs, vs = args.toList := ⟨_, rfl⟩
  rw [← hvs] at hA
  obtain ⟨v0, vs0, d0, ds0, p0, q0, e0, rfl, rfl, h0, hA⟩ := trodAll_cons hA
  obtain ⟨v1, vs1, d1, ds1, p1, q1, e1, rfl, rfl, h1, hA⟩ := trodAll_cons hA
  obtain ⟨v2, vs2, d2, ds2, p2, q2, e2, rfl, rfl, h2, hA⟩ := trodAll_cons hA
  obtain ⟨e3, rfl, rfl⟩ := trodAll_nil hA
  have hargs : args = #[v0, v1, v2] := by
    apply Array.ext'; rw [← hvs, e0, e1, e2, e3]
  subst hargs
  obtain ⟨rfl, rfl⟩ := trodVars_none hV
  obtain ⟨x0, a0⟩ := Op.argS (f := encAddressV) (fs := #[⟨"Local", 9, 0, false, "", "", 0⟩, ⟨"Domain", 9, 1, false, "", "", 16⟩]) op_52 (by kernel_rfl) (fun _ => rfl) (hval 0 52 v0 rfl rfl) h0
  obtain ⟨x1, a1⟩ := Op.arg1 (f := AV.str) (Op_str (by kernel_rfl)) (fun _ => rfl) (fun cs => noAgg_str (by kernel_rfl) cs) (hval 1 9 v1 rfl rfl) h1
  obtain ⟨x2, a2⟩ := Op.arg1 (f := (fun xs => AV.sl .n 1 (ml AV.str xs))) (Op_sl (e := 9) (k := 1) (f := AV.str) (by kernel_rfl) (by kernel_rfl) (by decide) (Op_str (by kernel_rfl)) (fun _ => rfl)) (fun _ => rfl) (fun cs => noAgg_sl (e := 9) (by kernel_rfl) cs) (hval 2 62 v2 rfl rfl) h2
  have hlt : ∀ x ∈ p0 ++ (p1 ++ (p2 ++ ([]))), x.block < W.heap.size := fun x hx => hW'.lt x (by simpa using hx)
  obtain ⟨F, hF⟩ := back_ok x0 x1 x2
  refine ((law14_AddrBack_ok (H0 := []) hF).row (vs := #[v0, v1, v2]) (seat_tabs hS hL) rfl ?_).mono ?_
  · intro i x hi
    rcases i with _ | _ | _ | i
    · simp at hi; subst hi; exact ⟨a0, TC.enc (by rfl) _, rfl⟩
    · simp at hi; subst hi; exact ⟨a1, TC.enc (by rfl) _, rfl⟩
    · simp at hi; subst hi; exact ⟨a2, TC.enc (by rfl) _, rfl⟩
    · simp at hi
  · rintro e W' ⟨r, v, ah', γ', C', rfl, ⟨rfl, rfl⟩, hv, hb⟩
    have hv := hv.bool_inv
    subst hv
    refine ⟨_, rfl, _, _, _, [], p0 ++ (p1 ++ (p2 ++ ([]))), [], hW', ?_, ?_, ?_, hb.frame _, fun h => by cases h⟩
    · exact trodAll_mk1 (shut_bool (by kernel_rfl) true)
    · exact trodAll_below Own.laidOut hb (of_decide_eq_true (by kernel_rfl)) hA1 hlt
    · exact rfl

theorem addrBack_holds : Rows.AddrBackSaid :=
  OpenClaim.holds_of_wide 8 Tryd.f8 rfl rfl rfl rfl rfl rfl rfl ⟨rfl, rfl, rfl, rfl, rfl⟩ rfl rfl rfl rfl rfl (by kernel_rfl) Tryd.func8 (by kernel_rfl)
    (of_decide_eq_true (by kernel_rfl)) (by unfold Func.isWrapper; first | (rw [if_pos (by decide +kernel)]; kernel_rfl) | (rw [if_neg (by decide +kernel)]; exact ⟨rfl, rfl⟩))
    (fun os started H enc _ => addrBack_lifted os started H enc)
theorem addrBack_tied : Rows.AddrBackCardSaid :=
  Claim7.holds_tied_plain_at .later [] [.data, .data, .data, .data, .sentinel, .sentinel, .pinned] true Rows.addrBackCard.stood.harness true
    addrBack_holds (fun _ h => by cases h) (by kernel_rfl) (fun _ h => by cases h) addrBack_row_tie rfl ⟨rfl, rfl⟩ (by kernel_rfl) rfl
    (fun f fn hf hfn => by
      obtain rfl : f = 8 := Option.some.inj ((show Tryd.prog.funcNamed Rows.addrBackRow.func = some 8 by kernel_rfl).symm.trans hf) |>.symm
      obtain rfl : fn = Tryd.f8 := (Option.some.inj (Tryd.func8.symm.trans hfn)).symm
      exact ⟨by kernel_rfl, fun j t ht => by
        rw [Tryd.params8] at ht
        have hm : t ∈ [52, 9, 62] := by have := Array.mem_of_getElem? ht; simpa using this
        have hall : ([52, 9, 62].all fun u => !Tryd.prog.wantsStandIn u) = true := by kernel_rfl
        exact (show Tryd.prog.wantsStandIn t = false by simpa using List.all_eq_true.1 hall t hm)⟩)
    (by kernel_rfl)
end Go.Proofs.YtfnnmecilcnloaaDoor
