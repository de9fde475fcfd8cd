import Derived.Test.YtfnnmecilcnloaaDoorAmA
set_option linter.unusedSimpArgs false
set_option linter.unusedVariables false
set_option linter.unusedSectionVars false
set_option linter.defProp false
namespace Go.Am
open Go
variable [Tabs]
/-! ### rows that are stored to: words of plain functions, and what the walk makes of them -/
def ixm (n : Nat) (i : Int) : Option Nat := if 0 ≤ i ∧ i < n then some i.toNat else none
def setx {α : Type} (xs : List α) (j : Nat) (c : α) : Option (List α) := if j < xs.length then some (xs.set j c) else none
section
variable {P : Program} {L : List Nat} {e : Env} {ah : AH} {d : Option Nat}
theorem M_over {xs : List UInt8} {j : Nat} {c : UInt8} : over (ml b8 xs) j [b8 c] = (setx xs j c).map (ml b8) := by
  unfold over setx ml
  simp only [List.length_map, List.length_cons, List.length_nil]
  by_cases h : j < xs.length
  · rw [if_pos (by omega), if_pos h]
    simp only [Option.map_some, Option.some.injEq, List.map_set]
    rw [List.set_eq_take_append_cons_drop, if_pos (by simpa using h)]
    simp
  · rw [if_neg (by omega), if_neg h]; rfl
theorem M_get {xs : List UInt8} {j : Nat} : (ml b8 xs)[j]? = (xs[j]?).map b8 := by simp [ml]
theorem M_ix {s n : Nat} {ki : IntKind} {i : Int} : ixaK L e ah d 1 (.msl s 1 0 n) (.int ki i) = (ixm n i).map fun j => (putv L e d (.ptr s j), ah) := by
  simp only [ixaK, ixm, and_true]
  split <;> simp
theorem M_len {s k o n : Nat} : lenK L e ah d (.msl s k o n) = some (putv L e d (.int .i64 n), ah) := rfl
theorem M_k_str {h : Cv} {l : List UInt8} : cvtK L e ah d h (.str l) = (acvt h (.str l)).map fun a => (putv L e d a, ah) := rfl
theorem M_k_int {h : Cv} {k : IntKind} {i : Int} : cvtK L e ah d h (.int k i) = (acvt h (.int k i)).map fun a => (putv L e d a, ah) := rfl
theorem M_k_b8 {h : Cv} {c : UInt8} : cvtK L e ah d h (b8 c) = (acvt h (b8 c)).map fun a => (putv L e d a, ah) := rfl
theorem M_k_sl {h : Cv} {t : Tg} {k : Nat} {xs : List AV} : cvtK L e ah d h (.sl t k xs) = (acvt h (.sl t k xs)).map fun a => (putv L e d a, ah) := rfl
theorem M_k_msl {s n : Nat} : cvtK L e ah d .bs (.msl s 1 0 n) = mslS L e ah d 0 n (ah[s]?) := rfl
theorem M_s {p n : Nat} {cs : List AV} : mslS L e ah d p n (some cs) = mslT L e ah d p n cs := rfl
theorem M_t {n : Nat} {xs : List UInt8} : mslT L e ah d 0 n (ml b8 xs) = (sub xs 0 (n : Int)).map fun l => (putv L e d (.str l), ah) := by
  unfold mslT sub
  have hb : bytesOf (((ml b8 xs).drop 0).take n) = some (xs.take n) := by
    have : ((ml b8 xs).drop 0).take n = (ml b8 (xs.take n)) := by simp [ml, List.map_take]
    rw [this]; exact bytesOf_ml _
  rw [hb]
  by_cases h : n ≤ xs.length
  · rw [if_pos (by simp [ml]; exact h), if_pos (by omega)]; simp
  · rw [if_neg (by simp [ml]; omega), if_neg (by omega)]; rfl
theorem M_o {l : List UInt8} : cvtoK L e ah d (.str l) = some (putv L e d (.msl ah.length 1 0 l.length), ah ++ [ml b8 l]) := rfl
theorem M_iq1 : aiq .ifc (.v .nilIface) = some false := rfl
theorem M_iq2 : aiq (.v .nilIface) (.v .nilIface) = some true := rfl
theorem M_iq3 {b : Bool} : aiq (errv b) (.v .nilIface) = some (!b) := by cases b <;> rfl
theorem M_max {k : IntKind} {i j : Int} : amm true (.int k i) (.int k j) = some (.int k (max i j)) := by simp [amm]
theorem M_min {k : IntKind} {i j : Int} : amm false (.int k i) (.int k j) = some (.int k (min i j)) := by simp [amm]
end
def WM := And.intro @M_over <| And.intro @M_get <| And.intro @M_ix <| And.intro @M_len <| And.intro @M_k_str <| And.intro @M_k_int <| And.intro @M_k_b8 <| And.intro @M_k_sl <| And.intro @M_k_msl <| And.intro @M_s <| And.intro @M_t <| And.intro @M_o <| And.intro @M_iq1 <| And.intro @M_iq2 <| And.intro @M_iq3 <| And.intro @Bool.not_not <| And.intro @M_max <| And.intro @M_min <| And.intro @T_cvte <| And.intro @T_cvto <| And.intro @T_iq @T_mm
theorem Wx.msl {s k o n : Nat} : Wx (.msl s k o n) (.msl s k o n) := .same (by simp)
theorem Wx.ifc : Wx .ifc .ifc := .same (by simp)
theorem Wx.epE {a b : AV} {o : Nat} (h : a = b) : Wx (.ep a o) (.ep b o) := by subst h; exact Wx.ep
theorem Wx.err {b : Bool} : Wx (errv b) (errv b) := .same (by cases b <;> simp [errv])
end Go.Am
