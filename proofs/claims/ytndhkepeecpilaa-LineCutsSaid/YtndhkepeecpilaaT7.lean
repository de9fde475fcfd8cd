/- Bytes cut anywhere tell the same lines as in one piece, and what is held is less than the bound: the law LineCuts returns true at every input, and each argument reads as it did. No condition. -/
import Derived.Test.YtndhkepeecpilaaT6
set_option linter.unusedSimpArgs false
set_option linter.unusedVariables false
set_option linter.unusedSectionVars false
namespace Go.Proofs.Ytndhkepeecpilaa
open Go.ChangeShapes Go.WideShapes Go.ChangeAt Go.RowKit Go.Am Go.Proofs.Line

theorem open_i64 {H : Type} {enc : TypeId × Value → H} {P : Program} {W : World} {sp : Nat → Bool} {held : Bool} {e : TypeId} (he : P.underlying e = some (.int .i64)) : ∀ n V y, DataW.trod enc P W 0 sp held n e [V] = some y →
    V.oneCell' = true ∧ ∃ x : Int, VR (C0 W) [] (I x) V := by
  intro n V y h
  cases n with
  | zero => simp [DataW.trod] at h
  | succ n =>
    cases V <;> simp [DataW.trod, he] at h
    rename_i k z
    obtain ⟨⟨rfl, hw⟩, -⟩ := h
    exact ⟨rfl, z, .int ..⟩

set_option maxRecDepth 100000 in
theorem lineCuts_lifted (os : Os) (started : os.Started) (H : Type) (enc : TypeId × Value → H) :
    ReturnsInHanded {} Try.checked os 3 .any (Rows.lineCutsSpec.pre6 enc Try.prog Try.f3 Rows.lineCutsRow.domain false) (Rows.lineCutsSpec.post enc Try.prog Try.f3 false true false false) := by
  refine returnsInHanded_of_change (C := Try.checked) Try.own started (by kernel_rfl) Try.func3
    (ChangeSpec.witness6 (enc := enc) (C := Try.checked) false ⟨#[], #[.int .i64 0, .slice none 0 0, .slice none 0 0], []⟩ 8 (by kernel_rfl) (by kernel_rfl) (by kernel_rfl) (by kernel_rfl)) ?_
  intro W base args ds gs before hval0 hW hcnd _
  have hval : ∀ (j : Nat) t v, Try.f3.params[j]? = some t → args[j]? = some v → Value.okWide Try.prog W .any base t v := hval0
  have hW' := hW
  obtain ⟨p, q, hA0, hV, rfl, hfz, hnd⟩ := hW
  have hA : DataW.TrodAll enc Try.prog W 0 (fun _ => true) true Try.f3.params.toList args.toList ds p := hA0
  rw [Try.params3] at hA hval
  obtain ⟨v0, v1, v2, d0, d1, d2, p0, p1, p2, rfl, rfl, rfl, h0, h1, h2⟩ := trodAll_three hA
  obtain ⟨rfl, rfl⟩ := trodVars_none hV
  obtain ⟨a, rfl, rfl, rfl, wa⟩ := open_int Try.underlying3 (hval 0 3 v0 rfl rfl) h0
  obtain ⟨bs, hbs⟩ := open1 b8 (t := 22) (e := 5) (by kernel_rfl) (by kernel_rfl) (hval 1 22 v1 rfl rfl) h1 (fun _ => rfl) (open_u8 (by kernel_rfl))
  obtain ⟨cs, hcs⟩ := open1 I (t := 23) (e := 3) (by kernel_rfl) (by kernel_rfl) (hval 2 23 v2 rfl rfl) h2 (fun _ => rfl) (open_i64 (by kernel_rfl))
  have hlt : ∀ x ∈ ([] ++ p1 ++ p2) ++ [], x.block < W.heap.size := fun x hx => by simpa using hW'.lt x hx
  refine ((cuts_ok (m := a) (b := bs) (cuts := cs) []).row (vs := #[.int .i64 a, v1, v2]) rfl ?_).mono ?_
  · intro i x hi
    rcases i with _ | _ | _ | i
    · simp at hi; subst hi; exact ⟨.int .., trivial, rfl⟩
    · simp at hi; subst hi; exact ⟨hbs, by simp [TC], rfl⟩
    · simp at hi; subst hi; exact ⟨hcs, by simp [TC], rfl⟩
    · simp at hi
  · rintro e W' ⟨r, v, ah', γ', C', rfl, ⟨rfl, rfl⟩, hv, hb⟩
    have hv := hv.bool_inv
    subst hv
    refine ⟨_, rfl, _, _, _, [], [] ++ (p1 ++ p2), [], hW', ?_, ?_, ?_, hb.frame _, fun h => by cases h⟩
    · exact trodAll_mk1 (shut_bool (by kernel_rfl) true)
    · exact trodAll_mk3 (shut_int Try.underlying3 wa) (Below.trod Try.laidOut (by kernel_rfl) (of_decide_eq_true (by kernel_rfl)) h1 hb (fun x hx => hlt x (by simp [hx]))) (Below.trod Try.laidOut (by kernel_rfl) (of_decide_eq_true (by kernel_rfl)) h2 hb (fun x hx => hlt x (by simp [hx])))
    · exact rfl

theorem lineCuts_holds : Rows.LineCutsSaid :=
  OpenClaim.holds_of_wide 3 Try.f3 rfl rfl rfl rfl rfl rfl rfl ⟨rfl, rfl, rfl, rfl, rfl⟩ rfl rfl rfl rfl rfl (by kernel_rfl) Try.func3 (by kernel_rfl)
    (of_decide_eq_true (by kernel_rfl)) (by unfold Func.isWrapper; first | (rw [if_pos (by decide +kernel)]; kernel_rfl) | (rw [if_neg (by decide +kernel)]; exact ⟨rfl, rfl⟩))
    (fun os started H enc _ => lineCuts_lifted os started H enc)
end Go.Proofs.Ytndhkepeecpilaa
