import Derived.Test.YtndhkepeecpilaaDoorAmLib
import Derived.Test.YtndhkepeecpilaaDoorRIt
set_option linter.unusedSimpArgs false
set_option linter.unusedVariables false
set_option linter.unusedSectionVars false
set_option linter.defProp false
namespace Go.Proofs.ReplyS
open Go Go.Am Go.Proofs

instance seatTabs : Tabs := ⟨[(0, (Lib.pow10Tab.map fun z => Value.int .u64 z).toArray)]⟩
def strconv_Itoa (n : Int) : Option (List UInt8) := if -9223372036854775808 ≤ n ∧ n ≤ 9223372036854775807 then some (Lib.itoa n) else none
theorem strconv_Itoa_ok {i1 : Int} {H0 : AH} {r0 : List UInt8} (h : strconv_Itoa i1 = some r0) : ACalls Tryd.prog 35 [(.int .i64 i1)] H0 fun v H' => v = (.str r0) ∧ H' = H0 := by
  unfold strconv_Itoa at h
  obtain ⟨⟨h0, h1⟩, h⟩ := ifn h
  injection h with h
  subst h
  exact itoa_calls i1 (by kernel_rfl) (fun F w hF => tabIs_of hF (g := 0) (by simp [Tabs.l, seatTabs]) (by kernel_rfl)) (fun w ht => Tryd.strconv_Itoa i1 h0 h1 w ht)
end Go.Proofs.ReplyS
