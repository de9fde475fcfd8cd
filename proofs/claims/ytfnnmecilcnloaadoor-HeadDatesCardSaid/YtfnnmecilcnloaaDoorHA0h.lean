import Derived.Test.YtfnnmecilcnloaaDoorHA0
import Derived.Test.YtfnnmecilcnloaaDoorAmCl
import Derived.Test.YtfnnmecilcnloaaDoorAItG
set_option linter.unusedSimpArgs false
set_option linter.unusedVariables false
set_option linter.unusedSectionVars false
set_option linter.defProp false
namespace Go.Proofs.HeadS
open Go Go.Am Go.Proofs

def chkB : Option TypeInfo → Bool
  | some i => i.bytes == 1 && i.size == 1 && (match i.zero with | some z => z.cells.size == 1 | none => false)
  | none => false
theorem byteInfo {o : Option TypeInfo} (h : chkB o = true) : ∃ i0 : TypeInfo, o = some i0 ∧ i0.bytes = 1 ∧ i0.size = 1 ∧ ∃ z, i0.zero = some z ∧ z.cells.size = 1 := by
  cases o with
  | none => cases h
  | some i =>
    simp only [chkB, Bool.and_eq_true, beq_iff_eq] at h
    obtain ⟨⟨h1, h2⟩, h3⟩ := h
    cases hz : i.zero with
    | none => rw [hz] at h3; cases h3
    | some z => rw [hz] at h3; exact ⟨i, rfl, h1, h2, z, hz, by simpa using h3⟩
def slices_Grow (n : Int) : Option (List UInt8) := if n < 0 then none else if n.toNat ≤ 140737488355328 then some [] else none
theorem slices_Grow_ok {i1 : Int} {H0 : AH} {r0 : List UInt8} (h : slices_Grow i1 = some r0) : ACalls Tryd.prog 95 [(.sl .ex 1 []), (.int .i64 i1)] H0 fun v H' => v = (.sl .own 1 (ml b8 r0)) ∧ H' = H0 := by
  unfold slices_Grow at h
  have h0 : 0 ≤ i1 := by
    rcases Int.lt_or_le i1 0 with h0 | h0
    · rw [if_pos h0] at h; cases h
    · exact h0
  rw [if_neg (by omega)] at h
  obtain ⟨h1, h⟩ := ifn h
  injection h with h
  subst h
  obtain ⟨i0, hi0, hb, hs0, z, hz0, hzs⟩ : ∃ i0 : TypeInfo, Tryd.prog.info? (Tryd.grow95_ren.t 25) = some i0 ∧ i0.bytes = 1 ∧ i0.size = 1 ∧ ∃ z, i0.zero = some z ∧ z.cells.size = 1 := byteInfo (by kernel_rfl)
  have hn : i1 = (i1.toNat : Int) := by omega
  refine grow_calls (z := z) (el := Tryd.grow95_ren.t 25) (by kernel_rfl) hzs h0 (fun base w h => ?_) (fun base w h => ?_)
  · subst h
    exact Any8.slices_Grow_room Tryd.grow95 base 0 0 0 w (by omega) (by omega) (by omega) (by omega)
  · have := Any8.slices_Grow_grow Tryd.grow95 i0 z hi0 hz0 (by omega) base 0 0 i1.toNat [] w (by omega) (by omega) (by rw [hb]; omega) (by omega) (by rw [hs0]; rfl) (fun _ => rfl) (fun a _ j v hj => by simp at hj)
    rw [← hn] at this
    change Calls Tryd.prog (Tryd.grow95_ren.f 4) _ _ _
    simpa using this

def strings_Cut (s sep : List UInt8) : Option (List UInt8 × List UInt8 × Bool) := if s.length < 4294967281 then some (Lib.cut s sep) else none
theorem strings_Cut_ok {s1 s2 : List UInt8} {H0 : AH} {r0 r1 : List UInt8} {r2 : Bool} (h : strings_Cut s1 s2 = some (r0, r1, r2)) : ACalls Tryd.prog 61 [(.str s1), (.str s2)] H0 fun v H' => v = (.tup [(.str r0), (.str r1), (.bool r2)]) ∧ H' = H0 := by
  unfold strings_Cut at h
  obtain ⟨hs, h⟩ := ifn h
  injection h with h
  refine ACalls.libV rfl (by simp) (by kernel_rfl) fun F C γ w vs hF hl hv => ?_
  obtain rfl := args2 hl (hv 0 _ rfl).str_inv (hv 1 _ rfl).str_inv
  obtain ⟨m, hm⟩ := cell_max hF
  have hsz : (⟨s1.toArray⟩ : ByteArray).size = s1.length := by simp [ByteArray.size]
  refine (Tryd.strings_Cut ⟨s1.toArray⟩ ⟨s2.toArray⟩ m w (by omega) hm).mono ?_
  rintro e w' ⟨rfl, n, rfl⟩
  have hd1 : (⟨s1.toArray⟩ : ByteArray).data.toList = s1 := by simp
  have hd2 : (⟨s2.toArray⟩ : ByteArray).data.toList = s2 := by simp
  rw [hd1, hd2, h]
  refine ⟨_, rfl, ?_, ?_, fun _ _ => rfl, Nat.le_refl _, rfl, rfl, rfl⟩
  · refine .tup _ _ _ rfl fun i a hi => ?_
    match i, hi with
    | 0, hi => injection hi with hi; subst hi; exact .str ..
    | 1, hi => injection hi with hi; subst hi; exact .str ..
    | 2, hi => injection hi with hi; subst hi; exact .bool ..
  · intro i a hi
    match i, hi with
    | 0, hi => injection hi with hi; subst hi; trivial
    | 1, hi => injection hi with hi; subst hi; trivial
    | 2, hi => injection hi with hi; subst hi; trivial
end Go.Proofs.HeadS
