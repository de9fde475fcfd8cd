import Derived.Test.YtndhkepeecpilaaT5
import Derived.Test.YtndhkepeecpilaaAmOpen
import Derived.Test.YtndhkepeecpilaaRows
import Derived.ProofKit
set_option linter.unusedSimpArgs false
set_option linter.unusedVariables false
set_option linter.unusedSectionVars false
namespace Go.Proofs.Ytndhkepeecpilaa
open Go.ChangeShapes Go.WideShapes Go.ChangeAt Go.RowKit Go.Am Go.Proofs.Line

theorem Try.own : ownKnob Try.prog.godebug = none := by kernel_rfl
theorem Try.laidOut : laidOutB Try.prog = true := by kernel_rfl

theorem open_u8 {H : Type} {enc : TypeId × Value → H} {P : Program} {W : World} {sp : Nat → Bool} {held : Bool} {e : TypeId} (he : P.underlying e = some (.int .u8)) : ∀ n V y, DataW.trod enc P W 0 sp held n e [V] = some y →
    V.oneCell' = true ∧ ∃ x : UInt8, VR (C0 W) [] (b8 x) V := by
  intro n V y h
  cases n with
  | zero => simp [DataW.trod] at h
  | succ n =>
    cases V <;> simp [DataW.trod, he] at h
    rename_i k z
    obtain ⟨⟨rfl, hw⟩, -⟩ := h
    have hz : 0 ≤ z ∧ z ≤ 255 := by
      simp [Lit.wf, IntKind.min, IntKind.max, IntKind.bits, IntKind.signed] at hw
      omega
    refine ⟨rfl, UInt8.ofNat z.toNat, ?_⟩
    have : ((UInt8.ofNat z.toNat).toNat : Int) = z := by simp [UInt8.toNat_ofNat]; omega
    simp only [b8, this]
    exact .int ..
end Go.Proofs.Ytndhkepeecpilaa
