/- The law LineStreams returns true at every input, and each argument reads behind the call as it did. No condition. -/
import Derived.Test.YtndhkepeecpilaaP13d
import Derived.Test.YtndhkepeecpilaaAmOpen2
import Derived.Test.YtndhkepeecpilaaRows
import Derived.ProofKit
set_option linter.unusedSimpArgs false
set_option linter.unusedVariables false
set_option linter.unusedSectionVars false
set_option linter.defProp false
namespace Go.Proofs.Ytndhkepeecpilaa
open Go.ChangeShapes Go.WideShapes Go.ChangeAt Go.RowKit Go.Am Go.Proofs.LineS

theorem Own.own : ownKnob Try.prog.godebug = none := by kernel_rfl
theorem Own.laidOut : laidOutB Try.prog = true := by kernel_rfl

theorem op_44 {H : Type} {enc : TypeId × Value → H} {W : World} {sp : Nat → Bool} {held : Bool} : Am.Op enc Try.prog W sp held 44 encPieceV := by
  refine Op_struct (fs := #[⟨"Kind", 3, 0, false, "", "", 0⟩, ⟨"N", 3, 1, false, "", "", 8⟩, ⟨"B", 22, 2, false, "", "", 16⟩]) (by kernel_rfl) fun cs hl hf => ?_
  have hl : cs.length = 3 := hl.trans (by kernel_rfl)
  obtain ⟨n0, y0, h0⟩ := hf 0 _ rfl
  obtain ⟨x0, c0⟩ := ((Op_int (by kernel_rfl)) : Am.Op enc Try.prog W sp held 3 (iint .i64)) _ _ _ h0
  have c0 : CR W ((iint .i64) x0).cells ((cs.drop 0).take (Try.prog.cellsOf 3)) := c0
  rw [show Try.prog.cellsOf 3 = 1 by kernel_rfl] at c0
  obtain ⟨n1, y1, h1⟩ := hf 1 _ rfl
  obtain ⟨x1, c1⟩ := ((Op_int (by kernel_rfl)) : Am.Op enc Try.prog W sp held 3 (iint .i64)) _ _ _ h1
  have c1 : CR W ((iint .i64) x1).cells ((cs.drop 1).take (Try.prog.cellsOf 3)) := c1
  rw [show Try.prog.cellsOf 3 = 1 by kernel_rfl] at c1
  obtain ⟨n2, y2, h2⟩ := hf 2 _ rfl
  obtain ⟨x2, c2⟩ := ((Op_sl (e := 5) (k := 1) (f := b8) (by kernel_rfl) (by kernel_rfl) (by decide) (Op_u8 (by kernel_rfl)) (fun _ => rfl)) : Am.Op enc Try.prog W sp held 22 (fun xs => AV.sl .n 1 (ml b8 xs))) _ _ _ h2
  have c2 : CR W ((fun xs => AV.sl .n 1 (ml b8 xs)) x2).cells ((cs.drop 2).take (Try.prog.cellsOf 22)) := c2
  rw [show Try.prog.cellsOf 22 = 1 by kernel_rfl] at c2
  refine ⟨PieceV.mk x0 x1 x2, ?_⟩
  have key := (c0.append (c1.append c2))
  have hcs : (cs.drop 0).take 1 ++ ((cs.drop 1).take 1 ++ ((cs.drop 2).take 1)) = cs := by
    rw [List.take_of_length_le (i := 1) (l := cs.drop 2) (by simp; omega)]
    rw [show cs.drop 2 = cs.drop (1 + 1) from rfl, seg]
    rw [show cs.drop 1 = cs.drop (0 + 1) from rfl, seg]
    rfl
  have key : CR W _ ((cs.drop 0).take 1 ++ ((cs.drop 1).take 1 ++ ((cs.drop 2).take 1))) := key
  rw [hcs] at key
  exact key

set_option maxRecDepth 100000 in
theorem lineStreams_lifted (os : Os) (started : os.Started) (H : Type) (enc : TypeId × Value → H) :
    ReturnsInHanded {} Try.checked os 5 .any (Rows.lineStreamsSpec.pre6 enc Try.prog Try.f5 Rows.lineStreamsRow.domain false) (Rows.lineStreamsSpec.post enc Try.prog Try.f5 false true false false) := by
  refine returnsInHanded_of_change (C := Try.checked) Own.own started (by kernel_rfl) Try.func5
    (ChangeSpec.witness6 (enc := enc) (C := Try.checked) false ⟨#[], #[.int .i64 0, .slice none 0 0], []⟩ 8 (by kernel_rfl) (by kernel_rfl) (by kernel_rfl) (by kernel_rfl)) ?_
  intro W base args ds gs before hval0 hW hcnd _
  have hval : ∀ (j : Nat) t v, Try.f5.params[j]? = some t → args[j]? = some v → Value.okWide Try.prog W .any base t v := hval0
  have hW' := hW
  obtain ⟨p, q, hA0, hV, rfl, hfz, hnd⟩ := hW
  have hA : DataW.TrodAll enc Try.prog W 0 (fun _ => true) true Try.f5.params.toList args.toList ds p := hA0
  have hA1 := hA
  rw [Try.params5] at hA hval
  obtain ⟨vs, hvs⟩ : ∃ vs, vs = args.toList := ⟨_, rfl⟩
  rw [← hvs] at hA
  obtain ⟨v0, vs0, d0, ds0, p0, q0, e0, rfl, rfl, h0, hA⟩ := trodAll_cons hA
  obtain ⟨v1, vs1, d1, ds1, p1, q1, e1, rfl, rfl, h1, hA⟩ := trodAll_cons hA
  obtain ⟨e2, rfl, rfl⟩ := trodAll_nil hA
  have hargs : args = #[v0, v1] := by
    apply Array.ext'; rw [← hvs, e0, e1, e2]
  subst hargs
  obtain ⟨rfl, rfl⟩ := trodVars_none hV
  obtain ⟨x0, a0⟩ := Op.arg1 (f := (iint .i64)) (Op_int (by kernel_rfl)) (fun _ => rfl) (fun cs => noAgg_int (k := .i64) (by kernel_rfl) cs) (hval 0 3 v0 rfl rfl) h0
  obtain ⟨x1, a1⟩ := Op.arg1 (f := (fun xs => AV.sl .n 3 (ml encPieceV xs))) (Op_sl (e := 44) (k := 3) (f := encPieceV) (by kernel_rfl) (by kernel_rfl) (by decide) op_44 (fun _ => rfl)) (fun _ => rfl) (fun cs => noAgg_sl (e := 44) (by kernel_rfl) cs) (hval 1 38 v1 rfl rfl) h1
  have hlt : ∀ x ∈ p0 ++ (p1 ++ ([])), x.block < W.heap.size := fun x hx => hW'.lt x (by simpa using hx)
  obtain ⟨F, hF⟩ := streams_law x0 x1
  refine ((law13_LineStreams_ok (H0 := []) hF).row (vs := #[v0, v1]) rfl ?_).mono ?_
  · intro i x hi
    rcases i with _ | _ | i
    · simp at hi; subst hi; exact ⟨a0, by first | (simp [TC]; done) | (revert a0; intro h; cases h <;> first | trivial | (simp [TC]; done) | (intro i a hi; exact TCx_flat a (by intro k xs e; subst e; revert hi; simp) _)), rfl⟩
    · simp at hi; subst hi; exact ⟨a1, by first | (simp [TC]; done) | (revert a1; intro h; cases h <;> first | trivial | (simp [TC]; done) | (intro i a hi; exact TCx_flat a (by intro k xs e; subst e; revert hi; simp) _)), rfl⟩
    · simp at hi
  · rintro e W' ⟨r, v, ah', γ', C', rfl, ⟨rfl, rfl⟩, hv, hb⟩
    have hv := hv.bool_inv
    subst hv
    refine ⟨_, rfl, _, _, _, [], p0 ++ (p1 ++ ([])), [], hW', ?_, ?_, ?_, hb.frame _, fun h => by cases h⟩
    · exact trodAll_mk1 (shut_bool (by kernel_rfl) true)
    · exact trodAll_below Own.laidOut hb (of_decide_eq_true (by kernel_rfl)) hA1 hlt
    · exact rfl

theorem lineStreams_holds : Rows.LineStreamsSaid :=
  OpenClaim.holds_of_wide 5 Try.f5 rfl rfl rfl rfl rfl rfl rfl ⟨rfl, rfl, rfl, rfl, rfl⟩ rfl rfl rfl rfl rfl (by kernel_rfl) Try.func5 (by kernel_rfl)
    (of_decide_eq_true (by kernel_rfl)) (by unfold Func.isWrapper; first | (rw [if_pos (by decide +kernel)]; kernel_rfl) | (rw [if_neg (by decide +kernel)]; exact ⟨rfl, rfl⟩))
    (fun os started H enc _ => lineStreams_lifted os started H enc)
end Go.Proofs.Ytndhkepeecpilaa
