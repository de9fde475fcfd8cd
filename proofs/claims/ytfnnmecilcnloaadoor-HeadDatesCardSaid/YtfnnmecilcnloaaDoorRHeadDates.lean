/- The law HeadDates returns true at every input whose tables read as laid; each argument reads behind the call as it did; the tied card. -/
import Derived.Test.YtfnnmecilcnloaaDoorHP5
import Derived.Test.YtfnnmecilcnloaaDoorRH1
import Derived.Test.YtfnnmecilcnloaaDoorCards
import Derived.Test.YtfnnmecilcnloaaDoorTie
import Derived.Test.YtfnnmecilcnloaaDoorRows
import Derived.ProofKit
import Derived.SevenTiedAt
set_option linter.unusedSimpArgs false
set_option linter.unusedVariables false
set_option linter.unusedSectionVars false
set_option linter.defProp false
namespace Go.Proofs.YtfnnmecilcnloaaDoor
open Go.ChangeShapes Go.WideShapes Go.ChangeAt Go.RowKit Go.Am Go.Proofs.HeadS




set_option maxRecDepth 100000 in
theorem headDates_lifted (os : Os) (started : os.Started) (H : Type) (enc : TypeId × Value → H) :
    ReturnsInHanded {} Tryd.checked os 3 .any (fun w args => (Rows.headDatesSpec.pre enc Tryd.prog Tryd.f3 [] false w args ∧ laidMetH Tryd.prog seatLaid w) ∧ sizedMet enc Tryd.prog Tryd.f3 (OpenSpec.ofChange Rows.headDatesSpec) false w args) (Rows.headDatesSpec.post enc Tryd.prog Tryd.f3 false true false false) := by
  refine wrap_and_shaped (C := Tryd.checked) (X := fun w _ => laidMetH Tryd.prog seatLaid w) (fun _ _ _ hh h => h.of_heap hh) Own.own started (by kernel_rfl) Tryd.func3
    (ChangeSpec.witness_shaped (enc := enc) (C := Tryd.checked) (os := os) (X := fun w _ => laidMetH Tryd.prog seatLaid w) false (seatWorld os) #[.int .i64 0, .int .i64 0] 8 rfl (seat_shaped os _) (by kernel_rfl) (by kernel_rfl) (by kernel_rfl) (seat_met os _)) ?_
  intro W base args ds gs before hval0 hW hS hL
  have hval : ∀ (j : Nat) t v, Tryd.f3.params[j]? = some t → args[j]? = some v → Value.okWide Tryd.prog W .any base t v := hval0
  have hW' := hW
  obtain ⟨p, q, hA0, hV, rfl, hfz, hnd⟩ := hW
  have hA : DataW.TrodAll enc Tryd.prog W 0 (fun _ => true) true Tryd.f3.params.toList args.toList ds p := hA0
  have hA1 := hA
  rw [Tryd.params3] at hA hval
  obtain ⟨vs, hvs⟩ : ∃ vs, vs = args.toList := ⟨_, rfl⟩
  rw [← hvs] at hA
  obtain ⟨v0, vs0, d0, ds0, p0, q0, e0, rfl, rfl, h0, hA⟩ := trodAll_cons hA
  obtain ⟨v1, vs1, d1, ds1, p1, q1, e1, rfl, rfl, h1, hA⟩ := trodAll_cons hA
  obtain ⟨e2, rfl, rfl⟩ := trodAll_nil hA
  have hargs : args = #[v0, v1] := by
    apply Array.ext'; rw [← hvs, e0, e1, e2]
  subst hargs
  obtain ⟨rfl, rfl⟩ := trodVars_none hV
  obtain ⟨x0, a0⟩ := Op.arg1 (f := (iint .i64)) (Op_int (by kernel_rfl)) (fun _ => rfl) (fun cs => noAgg_int (k := .i64) (by kernel_rfl) cs) (hval 0 3 v0 rfl rfl) h0
  obtain ⟨x1, a1⟩ := Op.arg1 (f := (iint .i64)) (Op_int (by kernel_rfl)) (fun _ => rfl) (fun cs => noAgg_int (k := .i64) (by kernel_rfl) cs) (hval 1 3 v1 rfl rfl) h1
  have hlt : ∀ x ∈ p0 ++ (p1 ++ ([])), x.block < W.heap.size := fun x hx => hW'.lt x (by simpa using hx)
  obtain ⟨F, hF⟩ := headDates_law x0 x1
  refine ((law18_HeadDates_ok (H0 := []) hF).row (vs := #[v0, v1]) (seat_tabs hS hL) rfl ?_).mono ?_
  · intro i x hi
    rcases i with _ | _ | i
    · simp at hi; subst hi; exact ⟨a0, TC.enc (by rfl) _, rfl⟩
    · simp at hi; subst hi; exact ⟨a1, TC.enc (by rfl) _, rfl⟩
    · simp at hi
  · rintro e W' ⟨r, v, ah', γ', C', rfl, ⟨rfl, rfl⟩, hv, hb⟩
    have hv := hv.bool_inv
    subst hv
    refine ⟨_, rfl, _, _, _, [], p0 ++ (p1 ++ ([])), [], hW', ?_, ?_, ?_, hb.frame _, fun h => by cases h⟩
    · exact trodAll_mk1 (shut_bool (by kernel_rfl) true)
    · exact trodAll_below Own.laidOut hb (of_decide_eq_true (by kernel_rfl)) hA1 hlt
    · exact rfl

theorem headDates_holds : Rows.HeadDatesSaid :=
  OpenClaim.holds_of_wide 3 Tryd.f3 rfl rfl rfl rfl rfl rfl rfl ⟨rfl, rfl, rfl, rfl, rfl⟩ rfl rfl rfl rfl rfl (by kernel_rfl) Tryd.func3 (by kernel_rfl)
    (of_decide_eq_true (by kernel_rfl)) (by unfold Func.isWrapper; first | (rw [if_pos (by decide +kernel)]; kernel_rfl) | (rw [if_neg (by decide +kernel)]; exact ⟨rfl, rfl⟩))
    (fun os started H enc _ => headDates_lifted os started H enc)
theorem headDates_tied : Rows.HeadDatesCardSaid :=
  Claim7.holds_tied_plain_at .later [] [.data, .data, .data] true Rows.headDatesCard.stood.harness true
    headDates_holds (fun _ h => by cases h) (by kernel_rfl) (fun _ h => by cases h) headDates_row_tie rfl ⟨rfl, rfl⟩ (by kernel_rfl) rfl
    (fun f fn hf hfn => by
      obtain rfl : f = 3 := Option.some.inj ((show Tryd.prog.funcNamed Rows.headDatesRow.func = some 3 by kernel_rfl).symm.trans hf) |>.symm
      obtain rfl : fn = Tryd.f3 := (Option.some.inj (Tryd.func3.symm.trans hfn)).symm
      exact ⟨by kernel_rfl, fun j t ht => by
        rw [Tryd.params3] at ht
        have hm : t ∈ [3, 3] := by have := Array.mem_of_getElem? ht; simpa using this
        have hall : ([3, 3].all fun u => !Tryd.prog.wantsStandIn u) = true := by kernel_rfl
        exact (show Tryd.prog.wantsStandIn t = false by simpa using List.all_eq_true.1 hall t hm)⟩)
    (by kernel_rfl)
end Go.Proofs.YtfnnmecilcnloaaDoor
