/- The law LineBack returns true at every input, and each argument reads behind the call as it did. No condition. -/
import Derived.Test.YtndhkepeecpilaaP13b
import Derived.Test.YtndhkepeecpilaaAmOpen2
import Derived.Test.YtndhkepeecpilaaRows
import Derived.ProofKit
set_option linter.unusedSimpArgs false
set_option linter.unusedVariables false
set_option linter.unusedSectionVars false
set_option linter.defProp false
namespace Go.Proofs.Ytndhkepeecpilaa
open Go.ChangeShapes Go.WideShapes Go.ChangeAt Go.RowKit Go.Am Go.Proofs.LineS

theorem Own.own : ownKnob Try.prog.godebug = none := by kernel_rfl
theorem Own.laidOut : laidOutB Try.prog = true := by kernel_rfl



set_option maxRecDepth 100000 in
theorem lineBack_lifted (os : Os) (started : os.Started) (H : Type) (enc : TypeId × Value → H) :
    ReturnsInHanded {} Try.checked os 4 .any (Rows.lineBackSpec.pre6 enc Try.prog Try.f4 Rows.lineBackRow.domain false) (Rows.lineBackSpec.post enc Try.prog Try.f4 false true false false) := by
  refine returnsInHanded_of_change (C := Try.checked) Own.own started (by kernel_rfl) Try.func4
    (ChangeSpec.witness6 (enc := enc) (C := Try.checked) false ⟨#[], #[.int .i64 0, .slice none 0 0], []⟩ 8 (by kernel_rfl) (by kernel_rfl) (by kernel_rfl) (by kernel_rfl)) ?_
  intro W base args ds gs before hval0 hW hcnd _
  have hval : ∀ (j : Nat) t v, Try.f4.params[j]? = some t → args[j]? = some v → Value.okWide Try.prog W .any base t v := hval0
  have hW' := hW
  obtain ⟨p, q, hA0, hV, rfl, hfz, hnd⟩ := hW
  have hA : DataW.TrodAll enc Try.prog W 0 (fun _ => true) true Try.f4.params.toList args.toList ds p := hA0
  have hA1 := hA
  rw [Try.params4] at hA hval
  obtain ⟨vs, hvs⟩ : ∃ vs, vs = args.toList := ⟨_, rfl⟩
  rw [← hvs] at hA
  obtain ⟨v0, vs0, d0, ds0, p0, q0, e0, rfl, rfl, h0, hA⟩ := trodAll_cons hA
  obtain ⟨v1, vs1, d1, ds1, p1, q1, e1, rfl, rfl, h1, hA⟩ := trodAll_cons hA
  obtain ⟨e2, rfl, rfl⟩ := trodAll_nil hA
  have hargs : args = #[v0, v1] := by
    apply Array.ext'; rw [← hvs, e0, e1, e2]
  subst hargs
  obtain ⟨rfl, rfl⟩ := trodVars_none hV
  obtain ⟨x0, a0⟩ := Op.arg1 (f := (iint .i64)) (Op_int (by kernel_rfl)) (fun _ => rfl) (fun cs => noAgg_int (k := .i64) (by kernel_rfl) cs) (hval 0 3 v0 rfl rfl) h0
  obtain ⟨x1, a1⟩ := Op.arg1 (f := (fun xs => AV.sl .n 1 (ml AV.str xs))) (Op_sl (e := 9) (k := 1) (f := AV.str) (by kernel_rfl) (by kernel_rfl) (by decide) (Op_str (by kernel_rfl)) (fun _ => rfl)) (fun _ => rfl) (fun cs => noAgg_sl (e := 9) (by kernel_rfl) cs) (hval 1 36 v1 rfl rfl) h1
  have hlt : ∀ x ∈ p0 ++ (p1 ++ ([])), x.block < W.heap.size := fun x hx => hW'.lt x (by simpa using hx)
  obtain ⟨F, hF⟩ := back_law x0 x1
  refine ((law13_LineBack_ok (H0 := []) hF).row (vs := #[v0, v1]) rfl ?_).mono ?_
  · intro i x hi
    rcases i with _ | _ | i
    · simp at hi; subst hi; exact ⟨a0, by first | (simp [TC]; done) | (revert a0; intro h; cases h <;> first | trivial | (simp [TC]; done) | (intro i a hi; exact TCx_flat a (by intro k xs e; subst e; revert hi; simp) _)), rfl⟩
    · simp at hi; subst hi; exact ⟨a1, by first | (simp [TC]; done) | (revert a1; intro h; cases h <;> first | trivial | (simp [TC]; done) | (intro i a hi; exact TCx_flat a (by intro k xs e; subst e; revert hi; simp) _)), rfl⟩
    · simp at hi
  · rintro e W' ⟨r, v, ah', γ', C', rfl, ⟨rfl, rfl⟩, hv, hb⟩
    have hv := hv.bool_inv
    subst hv
    refine ⟨_, rfl, _, _, _, [], p0 ++ (p1 ++ ([])), [], hW', ?_, ?_, ?_, hb.frame _, fun h => by cases h⟩
    · exact trodAll_mk1 (shut_bool (by kernel_rfl) true)
    · exact trodAll_below Own.laidOut hb (of_decide_eq_true (by kernel_rfl)) hA1 hlt
    · exact rfl

theorem lineBack_holds : Rows.LineBackSaid :=
  OpenClaim.holds_of_wide 4 Try.f4 rfl rfl rfl rfl rfl rfl rfl ⟨rfl, rfl, rfl, rfl, rfl⟩ rfl rfl rfl rfl rfl (by kernel_rfl) Try.func4 (by kernel_rfl)
    (of_decide_eq_true (by kernel_rfl)) (by unfold Func.isWrapper; first | (rw [if_pos (by decide +kernel)]; kernel_rfl) | (rw [if_neg (by decide +kernel)]; exact ⟨rfl, rfl⟩))
    (fun os started H enc _ => lineBack_lifted os started H enc)
end Go.Proofs.Ytndhkepeecpilaa
