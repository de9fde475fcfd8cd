import Derived.Test.YtfnnmecilcnloaaDoorAmLib
import Derived.Test.YtfnnmecilcnloaaDoorAIt
set_option linter.unusedSimpArgs false
set_option linter.unusedVariables false
set_option linter.unusedSectionVars false
set_option linter.defProp false
namespace Go.Proofs.HeadS
open Go Go.Am Go.Proofs

instance seatTabs : Tabs := ⟨[(0, fun cs => ∃ m, cs = #[.int .i64 m]), (1, fun cs => cs = (Lib.pow10Tab.map fun z => Value.int .u64 z).toArray)] ⟩

theorem tab_cell {F : Nat → Prop} {w : World} (hF : FL F w) {g : Nat} {p : Array Value → Prop} (hm : (g, p) ∈ Tabs.l) {v : Value} (hp : ∀ cs, p cs → cs[0]? = some v ∨ True) : ∃ cs ty fr, w.heap[g]? = some (.cells cs ty fr) ∧ p cs := (hF.tab _ hm).2
theorem cell_of {w : World} {g : Nat} {v : Value} {ty : TypeId} {fr : Nat × Nat} (h : w.heap[g]? = some (.cells #[v] ty fr)) : w.cell? ⟨g, 0, none⟩ = some v := by
  simp [World.cell?, h]
theorem cell_max {F : Nat → Prop} {w : World} (hF : FL F w) : ∃ m, w.cell? ⟨0, 0, none⟩ = some (.int .i64 m) := by
  obtain ⟨-, cs, ty, fr, h, m, rfl⟩ := hF.tab (0, fun cs => ∃ m, cs = #[.int .i64 m]) (by simp [Tabs.l, seatTabs])
  exact ⟨m, cell_of h⟩
theorem args1 {γ : List Nat} {C : Nat → List Value} {vs : Array Value} {a : AV} {v : Value} (hl : vs.size = [a].length) (h : vs.getD 0 undef = v) : vs = #[v] := by
  apply Array.ext
  · simpa using hl
  · intro i h1 h2
    simp at h2; subst h2
    simpa [Array.getD_eq_getD_getElem?, Array.getElem?_eq_getElem h1] using h
theorem args2 {vs : Array Value} {a b : AV} {v u : Value} (hl : vs.size = [a, b].length) (h : vs.getD 0 undef = v) (h' : vs.getD 1 undef = u) : vs = #[v, u] := by
  apply Array.ext
  · simpa using hl
  · intro i h1 h2
    have : i = 0 ∨ i = 1 := by simp at h2; omega
    rcases this with rfl | rfl
    · simpa [Array.getD_eq_getD_getElem?, Array.getElem?_eq_getElem h1] using h
    · simpa [Array.getD_eq_getD_getElem?, Array.getElem?_eq_getElem h1] using h'

def strconv_Itoa (n : Int) : Option (List UInt8) := if -9223372036854775808 ≤ n ∧ n ≤ 9223372036854775807 then some (Lib.itoa n) else none
theorem strconv_Itoa_ok {i1 : Int} {H0 : AH} {r0 : List UInt8} (h : strconv_Itoa i1 = some r0) : ACalls Tryd.prog 91 [(.int .i64 i1)] H0 fun v H' => v = (.str r0) ∧ H' = H0 := by
  unfold strconv_Itoa at h
  obtain ⟨⟨h0, h1⟩, h⟩ := ifn h
  injection h with h
  subst h
  exact itoa_calls i1 (by kernel_rfl) (fun F w hF => tabIs_of hF (g := 1) (by simp [Tabs.l, seatTabs]) (by kernel_rfl)) (fun w ht => Tryd.strconv_Itoa i1 h0 h1 w ht)

end Go.Proofs.HeadS
