/- The tables of the seat: the start that the program's own laying leaves meets the rows' condition; what the condition says of the tables that the texts read; the wrap of a row with tables and the world's shape. -/
import Derived.Test.YtfnnmecilcnloaaDoorHA0
import Derived.Test.YtfnnmecilcnloaaDoorAmOpen2
import Derived.Test.YtfnnmecilcnloaaDoorRows
import Derived.ProofKit
import Derived.LaidMore
import Derived.Lib.LaidTab
import Derived.Shelf.Vars
import Derived.HandedShaped
set_option linter.unusedSimpArgs false
set_option linter.unusedVariables false
set_option linter.unusedSectionVars false
set_option linter.defProp false
namespace Go.Proofs.YtfnnmecilcnloaaDoor
open Go.ChangeShapes Go.WideShapes Go.ChangeAt Go.RowKit Go.Am Go.Proofs.HeadS

theorem Own.own : ownKnob Tryd.prog.godebug = none := by kernel_rfl
theorem Own.laidOut : laidOutB Tryd.prog = true := by kernel_rfl
def seatLaid : List (String × DataW Unit) := [("math/bits.deBruijn32tab", Rows.laid_math_bits_deBruijn32tab), ("math/bits.deBruijn64tab", Rows.laid_math_bits_deBruijn64tab), ("internal/strconv.uint64pow10", Rows.laid_internal_strconv_uint64pow10)]
/-- the start: what the program's own laying leaves -/
noncomputable def seatWorld (os : Os) : World := World.doorLaid Tryd.prog 4000 os
set_option maxRecDepth 100000 in
theorem seat_met (os : Os) (args : Array Value) : laidMetH Tryd.prog seatLaid ((seatWorld os).forCall (fun _ _ => 0) ⟨#[], args, []⟩).memory :=
  laidMetH_of_parts3 (fuel := 8) (laidMet_of_run' 8 (by kernel_rfl) (by kernel_rfl)) (by kernel_rfl) (by kernel_rfl)
set_option maxRecDepth 100000 in
theorem seat_shaped (os : Os) (args : Array Value) : ((seatWorld os).forCall (fun _ _ => 0) ⟨#[], args, []⟩).Shaped Tryd.prog := World.shaped_of_RefB (by kernel_rfl) (by kernel_rfl)

end Go.Proofs.YtfnnmecilcnloaaDoor
