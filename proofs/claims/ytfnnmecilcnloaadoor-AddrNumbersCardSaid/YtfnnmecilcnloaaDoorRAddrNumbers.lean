/- The law AddrNumbers returns true at every input whose tables read as laid; each argument reads behind the call as it did; the tied card. -/
import Derived.Test.YtfnnmecilcnloaaDoorAP4
import Derived.Test.YtfnnmecilcnloaaDoorRA1
import Derived.Test.YtfnnmecilcnloaaDoorCards
import Derived.Test.YtfnnmecilcnloaaDoorTie
import Derived.Test.YtfnnmecilcnloaaDoorRows
import Derived.ProofKit
import Derived.SevenTiedAt
set_option linter.unusedSimpArgs false
set_option linter.unusedVariables false
set_option linter.unusedSectionVars false
set_option linter.defProp false
namespace Go.Proofs.YtfnnmecilcnloaaDoor
open Go.ChangeShapes Go.WideShapes Go.ChangeAt Go.RowKit Go.Am Go.Proofs.AddrS



set_option maxRecDepth 100000 in
theorem addrNumbers_lifted (os : Os) (started : os.Started) (H : Type) (enc : TypeId × Value → H) :
    ReturnsInHanded {} Tryd.checked os 10 .any (fun w args => (Rows.addrNumbersSpec.pre enc Tryd.prog Tryd.f10 [] false w args ∧ laidMetH Tryd.prog seatLaid w) ∧ sizedMet enc Tryd.prog Tryd.f10 (OpenSpec.ofChange Rows.addrNumbersSpec) false w args) (Rows.addrNumbersSpec.post enc Tryd.prog Tryd.f10 false true false false) := by
  refine wrap_and_shaped (C := Tryd.checked) (X := fun w _ => laidMetH Tryd.prog seatLaid w) (fun _ _ _ hh h => h.of_heap hh) Own.own started (by kernel_rfl) Tryd.func10
    (ChangeSpec.witness_shaped (enc := enc) (C := Tryd.checked) (os := os) (X := fun w _ => laidMetH Tryd.prog seatLaid w) false (seatWorld os) #[.int .u16 0, .int .u8 0, .int .u8 0, .int .u8 0, .bool false] 8 rfl (seat_shaped os _) (by kernel_rfl) (by kernel_rfl) (by kernel_rfl) (seat_met os _)) ?_
  intro W base args ds gs before hval0 hW hS hL
  have hval : ∀ (j : Nat) t v, Tryd.f10.params[j]? = some t → args[j]? = some v → Value.okWide Tryd.prog W .any base t v := hval0
  have hW' := hW
  obtain ⟨p, q, hA0, hV, rfl, hfz, hnd⟩ := hW
  have hA : DataW.TrodAll enc Tryd.prog W 0 (fun _ => true) true Tryd.f10.params.toList args.toList ds p := hA0
  have hA1 := hA
  rw [Tryd.params10] at hA hval
  obtain ⟨vs, hvs⟩ : ∃ vs, vs = args.toList := ⟨_, rfl⟩
  rw [← hvs] at hA
  obtain ⟨v0, vs0, d0, ds0, p0, q0, e0, rfl, rfl, h0, hA⟩ := trodAll_cons hA
  obtain ⟨v1, vs1, d1, ds1, p1, q1, e1, rfl, rfl, h1, hA⟩ := trodAll_cons hA
  obtain ⟨v2, vs2, d2, ds2, p2, q2, e2, rfl, rfl, h2, hA⟩ := trodAll_cons hA
  obtain ⟨v3, vs3, d3, ds3, p3, q3, e3, rfl, rfl, h3, hA⟩ := trodAll_cons hA
  obtain ⟨v4, vs4, d4, ds4, p4, q4, e4, rfl, rfl, h4, hA⟩ := trodAll_cons hA
  obtain ⟨e5, rfl, rfl⟩ := trodAll_nil hA
  have hargs : args = #[v0, v1, v2, v3, v4] := by
    apply Array.ext'; rw [← hvs, e0, e1, e2, e3, e4, e5]
  subst hargs
  obtain ⟨rfl, rfl⟩ := trodVars_none hV
  obtain ⟨x0, a0⟩ := Op.arg1 (f := (iint .u16)) (Op_int (by kernel_rfl)) (fun _ => rfl) (fun cs => noAgg_int (k := .u16) (by kernel_rfl) cs) (hval 0 67 v0 rfl rfl) h0
  obtain ⟨x1, a1⟩ := Op.arg1 (f := b8) (Op_u8 (by kernel_rfl)) (fun _ => rfl) (fun cs => noAgg_int (k := .u8) (by kernel_rfl) cs) (hval 1 5 v1 rfl rfl) h1
  obtain ⟨x2, a2⟩ := Op.arg1 (f := b8) (Op_u8 (by kernel_rfl)) (fun _ => rfl) (fun cs => noAgg_int (k := .u8) (by kernel_rfl) cs) (hval 2 5 v2 rfl rfl) h2
  obtain ⟨x3, a3⟩ := Op.arg1 (f := b8) (Op_u8 (by kernel_rfl)) (fun _ => rfl) (fun cs => noAgg_int (k := .u8) (by kernel_rfl) cs) (hval 3 5 v3 rfl rfl) h3
  obtain ⟨x4, a4⟩ := Op.arg1 (f := AV.bool) (Op_bool (by kernel_rfl)) (fun _ => rfl) (fun cs => noAgg_bool (by kernel_rfl) cs) (hval 4 4 v4 rfl rfl) h4
  have hlt : ∀ x ∈ p0 ++ (p1 ++ (p2 ++ (p3 ++ (p4 ++ ([]))))), x.block < W.heap.size := fun x hx => hW'.lt x (by simpa using hx)
  have b0 := int_has (k := .u16) (by kernel_rfl) a0 (hval 0 67 v0 rfl rfl)
  obtain ⟨F, hF⟩ := numbers_law x0 x1 x2 x3 x4 b0
  refine ((law14_AddrNumbers_ok (H0 := []) hF).row (vs := #[v0, v1, v2, v3, v4]) (seat_tabs hS hL) rfl ?_).mono ?_
  · intro i x hi
    rcases i with _ | _ | _ | _ | _ | i
    · simp at hi; subst hi; exact ⟨a0, TC.enc (by rfl) _, rfl⟩
    · simp at hi; subst hi; exact ⟨a1, TC.enc (by rfl) _, rfl⟩
    · simp at hi; subst hi; exact ⟨a2, TC.enc (by rfl) _, rfl⟩
    · simp at hi; subst hi; exact ⟨a3, TC.enc (by rfl) _, rfl⟩
    · simp at hi; subst hi; exact ⟨a4, TC.enc (by rfl) _, rfl⟩
    · simp at hi
  · rintro e W' ⟨r, v, ah', γ', C', rfl, ⟨rfl, rfl⟩, hv, hb⟩
    have hv := hv.bool_inv
    subst hv
    refine ⟨_, rfl, _, _, _, [], p0 ++ (p1 ++ (p2 ++ (p3 ++ (p4 ++ ([]))))), [], hW', ?_, ?_, ?_, hb.frame _, fun h => by cases h⟩
    · exact trodAll_mk1 (shut_bool (by kernel_rfl) true)
    · exact trodAll_below Own.laidOut hb (of_decide_eq_true (by kernel_rfl)) hA1 hlt
    · exact rfl

theorem addrNumbers_holds : Rows.AddrNumbersSaid :=
  OpenClaim.holds_of_wide 10 Tryd.f10 rfl rfl rfl rfl rfl rfl rfl ⟨rfl, rfl, rfl, rfl, rfl⟩ rfl rfl rfl rfl rfl (by kernel_rfl) Tryd.func10 (by kernel_rfl)
    (of_decide_eq_true (by kernel_rfl)) (by unfold Func.isWrapper; first | (rw [if_pos (by decide +kernel)]; kernel_rfl) | (rw [if_neg (by decide +kernel)]; exact ⟨rfl, rfl⟩))
    (fun os started H enc _ => addrNumbers_lifted os started H enc)
theorem addrNumbers_tied : Rows.AddrNumbersCardSaid :=
  Claim7.holds_tied_plain_at .later [] [.data, .data, .data, .data, .sentinel, .sentinel, .pinned] true Rows.addrNumbersCard.stood.harness true
    addrNumbers_holds (fun _ h => by cases h) (by kernel_rfl) (fun _ h => by cases h) addrNumbers_row_tie rfl ⟨rfl, rfl⟩ (by kernel_rfl) rfl
    (fun f fn hf hfn => by
      obtain rfl : f = 10 := Option.some.inj ((show Tryd.prog.funcNamed Rows.addrNumbersRow.func = some 10 by kernel_rfl).symm.trans hf) |>.symm
      obtain rfl : fn = Tryd.f10 := (Option.some.inj (Tryd.func10.symm.trans hfn)).symm
      exact ⟨by kernel_rfl, fun j t ht => by
        rw [Tryd.params10] at ht
        have hm : t ∈ [67, 5, 5, 5, 4] := by have := Array.mem_of_getElem? ht; simpa using this
        have hall : ([67, 5, 5, 5, 4].all fun u => !Tryd.prog.wantsStandIn u) = true := by kernel_rfl
        exact (show Tryd.prog.wantsStandIn t = false by simpa using List.all_eq_true.1 hall t hm)⟩)
    (by kernel_rfl)
end Go.Proofs.YtfnnmecilcnloaaDoor
