import Derived.Test.YtfnnmecilcnloaaDoorAmEval
import Derived.Below
set_option linter.unusedSimpArgs false
set_option linter.unusedVariables false
set_option linter.unusedSectionVars false
set_option linter.defProp false
namespace Go.Am
open Go Go.RowKit
variable [Tabs]

/-- what lies in rows when a call begins -/
def C0 (W : World) (b : Nat) : List Value := match W.heap[b]? with
  | some (.cells cs _ _) => cs.toList
  | _ => []

/-- **A CALL FROM OUTSIDE**: from what its arguments are; behind it all that stood is as it was. -/
theorem ACalls.row {P : Program} {f : Nat} {args : List AV} {R : AV → AH → Prop} (h : ACalls P f args [] R) {W : World} {vs : Array Value} (htab : ∀ e ∈ Tabs.l, ∃ cs ty fr, W.heap[e.1]? = some (.cells cs ty fr) ∧ e.2 cs) (hl : vs.size = args.length)
    (hv : ∀ (i : Nat) (a : AV), args[i]? = some a → VR (C0 W) [] a (vs.getD i undef) ∧ TC W (C0 W) a (vs.getD i undef) ∧ a.plain = true) :
    Calls P f vs W fun e w' => ∃ r v ah' γ' C', e = .returned v ∧ R r ah' ∧ VR C' γ' r v ∧ Below W.heap.size W w' := by
  have hg : ∀ t, get (argE 0 args) t = (args[t]?).getD .un := fun t => by rw [get_argE]; simp
  have hno : ∀ p b, ¬ blk [] (argE 0 args) [] vs W p b := by
    intro p b hp
    cases p with
    | obj s => simp [blk] at hp
    | cell s i => obtain ⟨cs, a, b0, h1, -⟩ := hp; simp at h1
    | tmp t =>
      simp only [blk, hg] at hp
      cases ht : args[t]? with
      | none => rw [ht] at hp; simp [ownB] at hp
      | some a => rw [ht] at hp; simp only [Option.getD_some] at hp; rw [ownB_not _ (plain_own (hv t a ht).2.2)] at hp; cases hp
  have hs : SR [] args.length (fun b => b < W.heap.size) [] (C0 W) (argE 0 args) [] vs W := by
    refine ⟨⟨rfl, fun s b cs hs => by simp at hs, fun b hne => ?_, fun s b cs hs => by simp at hs, fun s b cs us ty fr hs => by simp at hs⟩, hl, fun t => ?_, fun p q b hp => absurd hp (hno p b), fun p b hp => absurd hp (hno p b), ⟨fun b hb => hb, fun e he => ?_⟩, fun t l k xs ht => ?_⟩
    · unfold C0 at hne ⊢
      split at hne
      · rename_i cs ty fr hb
        rw [hb]
        exact ⟨cs, ty, fr, rfl, List.prefix_refl _⟩
      · exact absurd rfl hne
    · rw [hg]
      cases ht : args[t]? with
      | none => exact ⟨.un .., by cases vs.getD t undef <;> trivial⟩
      | some a => exact ⟨(hv t a ht).1, (hv t a ht).2.1⟩
    · obtain ⟨cs0, ty, fr, h2, h5⟩ := htab e he
      have h4 : e.1 < W.heap.size := by
        rcases Nat.lt_or_ge e.1 W.heap.size with h3 | h3
        · exact h3
        · rw [Array.getElem?_eq_none h3] at h2; cases h2
      exact ⟨h4, cs0, ty, fr, h2, h5⟩
    · rw [hg] at ht
      cases hq : args[t]? with
      | none => rw [hq] at ht; simp at ht
      | some a => rw [hq] at ht; exact absurd ht (plain_fr (hv t a hq).2.2 l k xs)
  refine (h.2 _ [] (C0 W) W vs hs).mono ?_
  rintro e w' ⟨r, v, ah', γ', C', rfl, hR, -, hs', hx⟩
  refine ⟨r, v, ah', γ', C', rfl, hR, ?_, hx.out.1, hx.out.2.1, hx.out.2.2, hx.size, fun k hk => (hx.keep k hk).1⟩
  have := (hs'.env 0).1
  simpa [get] using this
end Go.Am
