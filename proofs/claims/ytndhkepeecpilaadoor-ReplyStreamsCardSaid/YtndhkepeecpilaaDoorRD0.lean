/- The tables of the seat: the start that the program's own laying leaves meets the rows' condition; what the condition says of the table that the texts read. -/
import Derived.Test.YtndhkepeecpilaaDoorRS0
import Derived.Test.YtndhkepeecpilaaDoorAmOpen2
import Derived.Test.YtndhkepeecpilaaDoorRows
import Derived.ProofKit
import Derived.LaidMore
import Derived.Lib.LaidTab
set_option linter.unusedSimpArgs false
set_option linter.unusedVariables false
set_option linter.unusedSectionVars false
set_option linter.defProp false
namespace Go.Proofs.YtndhkepeecpilaaDoor
open Go.ChangeShapes Go.WideShapes Go.ChangeAt Go.RowKit Go.Am Go.Proofs.ReplyS

theorem Own.own : ownKnob Tryd.prog.godebug = none := by kernel_rfl
theorem Own.laidOut : laidOutB Tryd.prog = true := by kernel_rfl
def seatLaid : List (String × DataW Unit) := [("math/bits.deBruijn32tab", Rows.laid_math_bits_deBruijn32tab), ("math/bits.deBruijn64tab", Rows.laid_math_bits_deBruijn64tab), ("internal/strconv.uint64pow10", Rows.laid_internal_strconv_uint64pow10)]
set_option maxRecDepth 100000 in
theorem seat_met (os : Os) (args : Array Value) : laidMetH Tryd.prog seatLaid ((World.doorLaid Tryd.prog 4000 os).forCall (fun _ _ => 0) ⟨#[], args, []⟩).memory :=
  laidMetH_of_parts3 (fuel := 8) (laidMet_of_run' 8 (by kernel_rfl) (by kernel_rfl)) (by kernel_rfl) (by kernel_rfl)
set_option maxRecDepth 100000 in
theorem seat_shaped (os : Os) (args : Array Value) : ((World.doorLaid Tryd.prog 4000 os).forCall (fun _ _ => 0) ⟨#[], args, []⟩).Shaped Tryd.prog := World.shaped_of_RefB (by kernel_rfl) (by kernel_rfl)
theorem seat_tabs {W : World} (h : laidMetH Tryd.prog seatLaid W) : ∀ e ∈ Tabs.l, ∃ ty fr, W.heap[e.1]? = some (.cells e.2 ty fr) := by
  rw [MakeChecks.laidMetH_plain _ _ _ (by kernel_rfl)] at h
  obtain ⟨ps, ⟨g0, t0, cs0, f0, p0, q0, hg0, ht0, hv0, hd0, ⟨g1, t1, cs1, f1, p1, q1, hg1, ht1, hv1, hd1, ⟨g2, t2, cs2, f2, p2, q2, hg2, ht2, hv2, hd2, _, _⟩, _⟩, _⟩, _⟩ := h
  have hg : Tryd.prog.globalNamed "internal/strconv.uint64pow10" = some 0 := by kernel_rfl
  obtain rfl := Option.some.inj (hg.symm.trans hg2)
  obtain rfl := Option.some.inj ((show (Tryd.prog.globals[0]?).map (·.type) = some 99 by kernel_rfl).symm.trans ht2)
  have hc : cs2.toList = Lib.pow10Tab.map fun z => Value.int .u64 z := Lib.cells_of_tab (n := 20) (e := 93) (k := .u64) Tryd.underlying99 (by kernel_rfl) (by kernel_rfl) (by kernel_rfl) hd2
  intro e he
  simp only [Tabs.l, List.mem_singleton] at he
  subst he
  simp only [World.var?, hg, Option.bind_some] at hv2
  split at hv2
  · rename_i c t fr hb
    injection hv2 with hv2
    subst hv2
    refine ⟨t, fr, ?_⟩
    rw [hb, ← hc]
  · cases hv2
end Go.Proofs.YtndhkepeecpilaaDoor
