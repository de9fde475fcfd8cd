/-
  No cell of these rows narrows 'for every input' (looked for: loops, veiled, ifaces, maps, wideKeys, modest, calm, conditions, laid).
  DERIVED. THE GIVEN ROWS OF THIS SEAT. 4 by the template 'for every input the law returns true; each argument reads behind the call as it read before'; 0 by the template 'total and deterministic' (their statements: YtndhkepeecpilaaTotals.lean).
  GIVEN WITH THE SEED: the statements are not yours to turn. If you find one false, say at which input.
  Laid BY PROGRAM, IN A SANDBOX (cutbox-rows.mjs): the forced cells as the released guide's own fill.sh prints them over the translation c067a1c229ef6040… (all of the seat's roots in one cut). By AI agents, Wed Nov 11 2026. No macro, syntax, notation, axiom, sorry.
-/
import Derived.Test.YtndhkepeecpilaaChecked
import GoSem.Claim
import GoSem.ClaimJoined
import GoSem.ClaimMapViews
import Derived.JoinedTies
import Derived.KernelRfl
namespace Go.Proofs.Ytndhkepeecpilaa
/- THE CELL 'sum', in the pinned program and in every row, IS THE sha256 OF THE DUMP (.gsa) THAT YtndhkepeecpilaaProg.lean LOADS. Nothing in Lean hashes anything: it is a label: what it is worth is what the hold of that sum in a sandbox is worth. -/
noncomputable def Try.pinned : Pinned := { name := "ytndhkepeecpilaa", sum := "c067a1c229ef6040f196fc8d398c4cf373de211fb3ce5fc3018a189eb34d3786", checked := Try.checked }
namespace Rows
def none {H : Type} : Left H := { results := [], args := [] }

/-- 'mailbaglaw13.LineCuts': WHATEVER THE INPUT: true; the input reads as it did. -/
def lineCutsSpec : ChangeSpec := { name := "lineCuts", fn := fun _ => fun
  | [d1, d2, d3] => { results := [.lit (.bool true)], args := [d1, d2, d3] }
  | _ => none }
def lineCutsRow : OpenClaim := { program := "ytndhkepeecpilaa", sum := "c067a1c229ef6040f196fc8d398c4cf373de211fb3ce5fc3018a189eb34d3786", func := "mailbag/mailbaglaw13.LineCuts", spec := "lineCuts", apart := false }
def LineCutsSaid : Prop := lineCutsRow.holds Try.pinned (OpenSpec.ofChange lineCutsSpec)

/-- ITS FALSE NEIGHBOUR: 'it returns false'. Refute it at one input. -/
def lineCutsWrong : ChangeSpec := { name := "lineCuts", fn := fun _ => fun
  | [d1, d2, d3] => { results := [.lit (.bool false)], args := [d1, d2, d3] }
  | _ => none }
def LineCutsWrongFalsely : Prop := lineCutsRow.holds Try.pinned (OpenSpec.ofChange lineCutsWrong)

/-- 'mailbaglaw13.LineBack': WHATEVER THE INPUT: true; the input reads as it did. -/
def lineBackSpec : ChangeSpec := { name := "lineBack", fn := fun _ => fun
  | [d1, d2] => { results := [.lit (.bool true)], args := [d1, d2] }
  | _ => none }
def lineBackRow : OpenClaim := { program := "ytndhkepeecpilaa", sum := "c067a1c229ef6040f196fc8d398c4cf373de211fb3ce5fc3018a189eb34d3786", func := "mailbag/mailbaglaw13.LineBack", spec := "lineBack", apart := false }
def LineBackSaid : Prop := lineBackRow.holds Try.pinned (OpenSpec.ofChange lineBackSpec)

/-- ITS FALSE NEIGHBOUR: 'it returns false'. Refute it at one input. -/
def lineBackWrong : ChangeSpec := { name := "lineBack", fn := fun _ => fun
  | [d1, d2] => { results := [.lit (.bool false)], args := [d1, d2] }
  | _ => none }
def LineBackWrongFalsely : Prop := lineBackRow.holds Try.pinned (OpenSpec.ofChange lineBackWrong)

/-- 'mailbaglaw13.LineStreams': WHATEVER THE INPUT: true; the input reads as it did. -/
def lineStreamsSpec : ChangeSpec := { name := "lineStreams", fn := fun _ => fun
  | [d1, d2] => { results := [.lit (.bool true)], args := [d1, d2] }
  | _ => none }
def lineStreamsRow : OpenClaim := { program := "ytndhkepeecpilaa", sum := "c067a1c229ef6040f196fc8d398c4cf373de211fb3ce5fc3018a189eb34d3786", func := "mailbag/mailbaglaw13.LineStreams", spec := "lineStreams", apart := false }
def LineStreamsSaid : Prop := lineStreamsRow.holds Try.pinned (OpenSpec.ofChange lineStreamsSpec)

/-- ITS FALSE NEIGHBOUR: 'it returns false'. Refute it at one input. -/
def lineStreamsWrong : ChangeSpec := { name := "lineStreams", fn := fun _ => fun
  | [d1, d2] => { results := [.lit (.bool false)], args := [d1, d2] }
  | _ => none }
def LineStreamsWrongFalsely : Prop := lineStreamsRow.holds Try.pinned (OpenSpec.ofChange lineStreamsWrong)

/-- 'mailbaglaw13.LineBounds': WHATEVER THE INPUT: true; the input reads as it did. -/
def lineBoundsSpec : ChangeSpec := { name := "lineBounds", fn := fun _ => fun
  | [d1, d2, d3] => { results := [.lit (.bool true)], args := [d1, d2, d3] }
  | _ => none }
def lineBoundsRow : OpenClaim := { program := "ytndhkepeecpilaa", sum := "c067a1c229ef6040f196fc8d398c4cf373de211fb3ce5fc3018a189eb34d3786", func := "mailbag/mailbaglaw13.LineBounds", spec := "lineBounds", apart := false }
def LineBoundsSaid : Prop := lineBoundsRow.holds Try.pinned (OpenSpec.ofChange lineBoundsSpec)

/-- ITS FALSE NEIGHBOUR: 'it returns false'. Refute it at one input. -/
def lineBoundsWrong : ChangeSpec := { name := "lineBounds", fn := fun _ => fun
  | [d1, d2, d3] => { results := [.lit (.bool false)], args := [d1, d2, d3] }
  | _ => none }
def LineBoundsWrongFalsely : Prop := lineBoundsRow.holds Try.pinned (OpenSpec.ofChange lineBoundsWrong)

/- THE SECOND FORM. 'bulk': how many values and letters a reading holds, each counted each time it is reached (what is shared counts as often as it is met; a slice's spare places count too). A statement '..UptoSaid' is the law's where the arguments, and the package variables that the reading takes, are together of bulk at most 1048576: NARROWER than '..Said'. Prove '..Said' where nothing that the law and all that it calls make is longer than what came in: it says more and counts as full. Else prove '..UptoSaid'. A law counts once. -/
mutual
def uptoBulk {H : Type} : DataW H → Nat
  | .lit (.string bytes) => bytes.length + 1
  | .lit _ => 1
  | .nil => 1
  | .ptr d => uptoBulk d + 1
  | .slice elems spare => uptoBulkAll elems + uptoBulkAll spare + 1
  | .agg parts => uptoBulkAll parts + 1
  | .iface _ d => uptoBulk d + 1
  | .map entries => uptoBulkEntries entries + 1
  | .held _ => 1
def uptoBulkAll {H : Type} : List (DataW H) → Nat
  | [] => 0
  | d :: r => uptoBulk d + uptoBulkAll r
def uptoBulkEntries {H : Type} : List (Lit × DataW H) → Nat
  | [] => 0
  | x :: r => uptoBulkEntry x + uptoBulkEntries r
def uptoBulkEntry {H : Type} : Lit × DataW H → Nat
  | (.string bytes, d) => bytes.length + uptoBulk d + 1
  | (_, d) => uptoBulk d + 1
 end
def uptoSmall : (H : Type) → List (DataW H) → Bool := fun _ ds => decide (uptoBulkAll ds ≤ 1048576)
def OpenSpec.upto (s : _root_.Go.ChangeSpec) : _root_.Go.OpenSpec := { _root_.Go.OpenSpec.ofChange s with cond := some uptoSmall }

/-- 'mailbaglaw13.LineCuts', WHERE WHAT IT READS IS OF BULK AT MOST 1048576: true; the input reads as it did. -/
def lineCutsUptoRow : OpenClaim := { program := "ytndhkepeecpilaa", sum := "c067a1c229ef6040f196fc8d398c4cf373de211fb3ce5fc3018a189eb34d3786", func := "mailbag/mailbaglaw13.LineCuts", spec := "lineCuts", apart := false, narrowed := true }
def LineCutsUptoSaid : Prop := lineCutsUptoRow.holds Try.pinned (OpenSpec.upto lineCutsSpec)

/-- 'mailbaglaw13.LineBack', WHERE WHAT IT READS IS OF BULK AT MOST 1048576: true; the input reads as it did. -/
def lineBackUptoRow : OpenClaim := { program := "ytndhkepeecpilaa", sum := "c067a1c229ef6040f196fc8d398c4cf373de211fb3ce5fc3018a189eb34d3786", func := "mailbag/mailbaglaw13.LineBack", spec := "lineBack", apart := false, narrowed := true }
def LineBackUptoSaid : Prop := lineBackUptoRow.holds Try.pinned (OpenSpec.upto lineBackSpec)

/-- 'mailbaglaw13.LineStreams', WHERE WHAT IT READS IS OF BULK AT MOST 1048576: true; the input reads as it did. -/
def lineStreamsUptoRow : OpenClaim := { program := "ytndhkepeecpilaa", sum := "c067a1c229ef6040f196fc8d398c4cf373de211fb3ce5fc3018a189eb34d3786", func := "mailbag/mailbaglaw13.LineStreams", spec := "lineStreams", apart := false, narrowed := true }
def LineStreamsUptoSaid : Prop := lineStreamsUptoRow.holds Try.pinned (OpenSpec.upto lineStreamsSpec)

/-- 'mailbaglaw13.LineBounds', WHERE WHAT IT READS IS OF BULK AT MOST 1048576: true; the input reads as it did. -/
def lineBoundsUptoRow : OpenClaim := { program := "ytndhkepeecpilaa", sum := "c067a1c229ef6040f196fc8d398c4cf373de211fb3ce5fc3018a189eb34d3786", func := "mailbag/mailbaglaw13.LineBounds", spec := "lineBounds", apart := false, narrowed := true }
def LineBoundsUptoSaid : Prop := lineBoundsUptoRow.holds Try.pinned (OpenSpec.upto lineBoundsSpec)

end Rows
end Go.Proofs.Ytndhkepeecpilaa
