import Derived.Test.YtfnnmecilcnloaaDoorAP0
set_option linter.unusedSimpArgs false
set_option linter.unusedVariables false
set_option linter.unusedSectionVars false
set_option linter.defProp false
set_option maxRecDepth 100000
namespace Go.Proofs.AddrS
open Go Go.Am Go.Proofs

/-! ### a domain, as the program has it -/
def labB (s : List UInt8) : Bool := s != [] && s.head? != some 45 && s.getLast? != some 45 && s.all isW
def inB (s : List UInt8) : Bool := decide (1 < s.length) && s.head? == some 91 && s.getLast? == some 93
def inner (s : List UInt8) : List UInt8 := (s.drop 1).dropLast
def shapeB (s : List UInt8) : Bool := if inB s then decide ((splitD (inner s)).length = 4) && (splitD (inner s)).all numB else (splitD s).all labB
def domB (s : List UInt8) : Bool := decide (s.length ≤ 255) && shapeB s && (splitD s).all fun p => decide (p.length ≤ 63)

theorem last_ex (c : UInt8) (r : List UInt8) : ∃ x, (c :: r).getLast? = some x := by
  cases h : (c :: r).getLast? with
  | none => simp at h
  | some x => exact ⟨x, rfl⟩
theorem idx_last {s : List UInt8} {x : UInt8} (h : s.getLast? = some x) (hl : s.length ≤ 1000000) : idx s (IntKind.wrap .i64 ((s.length : Int) - 1)) = some x := by
  have hp : 0 < s.length := by cases s with | nil => simp at h | cons => simp
  rw [wr (by omega) (by omega), show (s.length : Int) - 1 = ((s.length - 1 : Nat) : Int) by omega, idx_nat, ← List.getLast?_eq_getElem?, h]
theorem every_s {s : List UInt8} {F : Nat} (hl : s.length ≤ 1000000) (hF : s.length < F) : addr_every_s F s = some (s.all isW) := by
  unfold addr_every_s
  have hh := scan (s := s) (body := addr_every_s_l1 s) (mk := fun i => (false, (i : Int))) (p := isW) (rr := fun _ => false) (tt := ()) ?_ ?_ ?_ hF
  · cases ha : s.all isW with
    | true => have := hh.1 ha; rw [show ((0 : Nat) : Int) = 0 from rfl] at this; rw [this]; rfl
    | false => obtain ⟨j, hj⟩ := hh.2 ha; rw [show ((0 : Nat) : Int) = 0 from rfl] at hj; rw [hj]; rfl
  · intro i x hx hp
    have hi := (List.getElem?_eq_some_iff.1 hx).1
    simp only [addr_every_s_l1]
    rw [if_pos (by simpa using hi), idx_get hx, Option.bind_some, label_1, Option.bind_some, hp, wi (by omega)]; rfl
  · intro i x hx hp
    have hi := (List.getElem?_eq_some_iff.1 hx).1
    simp only [addr_every_s_l1]
    rw [if_pos (by simpa using hi), idx_get hx, Option.bind_some, label_1, Option.bind_some, hp]; rfl
  · simp [addr_every_s_l1]
theorem label_a {s : List UInt8} {F : Nat} (hl : s.length ≤ 1000000) (hF : s.length < F) : addr_label F s = some (labB s) := by
  unfold addr_label addr_label_p1 labB
  cases s with
  | nil => simp
  | cons c r =>
    obtain ⟨x, hx⟩ : ∃ x, (c :: r).getLast? = some x := last_ex c r
    rw [idx_last hx hl, every_s hl hF, hx]
    have h0 : idx (c :: r) 0 = some c := by simp [idx]
    rw [h0]
    by_cases h1 : c = 45
    · simp [h1]
    · by_cases h2 : x = 45
      · simp [h1, h2]
      · simp [h1, h2]
theorem shaped_1 {x : List UInt8} (hx : x.length ≤ 100000) : addr_shaped_1 x = some (!numB x) := by simp [addr_shaped_1, number_ok hx]
theorem shaped_2 {F : Nat} {x : List UInt8} (hx : x.length ≤ 100000) (hF : x.length < F) : addr_shaped_2 F x = some (!labB x) := by simp [addr_shaped_2, label_a (by omega : x.length ≤ 1000000) hF]
theorem contains_1 {l : List (List UInt8)} {F : Nat} (hl : l.length ≤ 1000000) (hF : l.length < F) (hx : ∀ x ∈ l, x.length ≤ 100000) : slices_ContainsFunc_s F l = some (!l.all numB) := by
  unfold slices_ContainsFunc_s slices_IndexFunc_s
  have hh := scan (s := l) (body := slices_IndexFunc_s_l1 l) (mk := fun i => (0, (i : Int))) (p := numB) (rr := fun i => (i : Int)) (tt := ()) ?_ ?_ ?_ hF
  · cases ha : l.all numB with
    | true => have := hh.1 ha; rw [show ((0 : Nat) : Int) = 0 from rfl] at this; rw [this]; rfl
    | false => obtain ⟨j, hj⟩ := hh.2 ha; rw [show ((0 : Nat) : Int) = 0 from rfl] at hj; rw [hj]; simp
  · intro i x hx' hp
    have hi := (List.getElem?_eq_some_iff.1 hx').1
    simp only [slices_IndexFunc_s_l1]
    rw [if_pos (by simpa using hi), idx_get hx', Option.bind_some, shaped_1 (hx x (List.mem_of_getElem? hx')), Option.bind_some, hp, wi (by omega)]; rfl
  · intro i x hx' hp
    have hi := (List.getElem?_eq_some_iff.1 hx').1
    simp only [slices_IndexFunc_s_l1]
    rw [if_pos (by simpa using hi), idx_get hx', Option.bind_some, shaped_1 (hx x (List.mem_of_getElem? hx')), Option.bind_some, hp]; rfl
  · simp [slices_IndexFunc_s_l1]
theorem contains_2 {l : List (List UInt8)} {F : Nat} (hl : l.length ≤ 1000000) (hF : l.length < F) (hx : ∀ x ∈ l, x.length ≤ 100000 ∧ x.length < F) : slices_ContainsFunc_sx F l = some (!l.all labB) := by
  unfold slices_ContainsFunc_sx slices_IndexFunc_sx
  have hh := scan (s := l) (body := slices_IndexFunc_sx_l1 F l) (mk := fun i => (0, (i : Int))) (p := labB) (rr := fun i => (i : Int)) (tt := ()) ?_ ?_ ?_ hF
  · cases ha : l.all labB with
    | true => have := hh.1 ha; rw [show ((0 : Nat) : Int) = 0 from rfl] at this; rw [this]; rfl
    | false => obtain ⟨j, hj⟩ := hh.2 ha; rw [show ((0 : Nat) : Int) = 0 from rfl] at hj; rw [hj]; simp
  · intro i x hx' hp
    have hi := (List.getElem?_eq_some_iff.1 hx').1
    obtain ⟨ha, hb⟩ := hx x (List.mem_of_getElem? hx')
    simp only [slices_IndexFunc_sx_l1]
    rw [if_pos (by simpa using hi), idx_get hx', Option.bind_some, shaped_2 ha hb, Option.bind_some, hp, wi (by omega)]; rfl
  · intro i x hx' hp
    have hi := (List.getElem?_eq_some_iff.1 hx').1
    obtain ⟨ha, hb⟩ := hx x (List.mem_of_getElem? hx')
    simp only [slices_IndexFunc_sx_l1]
    rw [if_pos (by simpa using hi), idx_get hx', Option.bind_some, shaped_2 ha hb, Option.bind_some, hp]; rfl
  · simp [slices_IndexFunc_sx_l1]
theorem contains_3 {l : List (List UInt8)} {F : Nat} (hl : l.length ≤ 1000000) (hF : l.length < F) : slices_ContainsFunc_sxxx F l = some (!l.all fun p => decide (p.length ≤ 63)) := by
  unfold slices_ContainsFunc_sxxx slices_IndexFunc_sxxx
  have hh := scan (s := l) (body := slices_IndexFunc_sxxx_l1 l) (mk := fun i => (0, (i : Int))) (p := fun p => decide (p.length ≤ 63)) (rr := fun i => (i : Int)) (tt := ()) ?_ ?_ ?_ hF
  · cases ha : l.all fun p => decide (p.length ≤ 63) with
    | true => have := hh.1 ha; rw [show ((0 : Nat) : Int) = 0 from rfl] at this; rw [this]; rfl
    | false => obtain ⟨j, hj⟩ := hh.2 ha; rw [show ((0 : Nat) : Int) = 0 from rfl] at hj; rw [hj]; simp
  · intro i x hx' hp
    have hi := (List.getElem?_eq_some_iff.1 hx').1
    simp only [slices_IndexFunc_sxxx_l1]
    rw [if_pos (by simpa using hi), idx_get hx', Option.bind_some, addr_Domain_1, Option.bind_some, if_neg (by simp at hp ⊢; omega), wi (by omega)]
  · intro i x hx' hp
    have hi := (List.getElem?_eq_some_iff.1 hx').1
    simp only [slices_IndexFunc_sxxx_l1]
    rw [if_pos (by simpa using hi), idx_get hx', Option.bind_some, addr_Domain_1, Option.bind_some, if_pos (by simp at hp ⊢; omega)]
  · simp [slices_IndexFunc_sxxx_l1]
theorem split_call {s : List UInt8} (h : s.length ≤ 1000000) : strings_Split s [46] = some (splitD s) := by
  unfold strings_Split; rw [if_pos (by simp; omega), split_eq]
theorem shaped_ok {s : List UInt8} {F : Nat} (hl : s.length ≤ 99000) (hF : s.length + 1 < F) : addr_shaped F s = some (shapeB s) := by
  have hp1 : addr_shaped_p1 s = some (inB s) := by
    unfold addr_shaped_p1 inB
    by_cases h1 : 1 < s.length
    · cases s with
      | nil => simp at h1
      | cons c r =>
        obtain ⟨x, hx⟩ : ∃ x, (c :: r).getLast? = some x := last_ex c r
        rw [if_pos (by simp at h1 ⊢; omega), idx_last hx (by omega), hx, show idx (c :: r) 0 = some c by simp [idx]]
        rw [decide_eq_true h1]
        by_cases h2 : c = 91
        · simp [h2]; rfl
        · simp [h2]
    · rw [if_neg (by simp; omega)]; simp [h1]
  unfold addr_shaped shapeB
  rw [hp1, Option.bind_some]
  cases hi : inB s with
  | true =>
    have h1 : 1 < s.length := by simp [inB] at hi; omega
    simp only [if_true]
    rw [wr (by omega) (by omega)]
    have hsub : sub s 1 ((s.length : Int) - 1) = some (inner s) := by
      rw [show (1 : Int) = ((1 : Nat) : Int) from rfl, show (s.length : Int) - ((1 : Nat) : Int) = ((s.length - 1 : Nat) : Int) by omega, sub_ok (by omega) (by omega)]
      congr 1
      unfold inner
      rw [List.dropLast_eq_take, List.length_drop, List.drop_take]
    have hil : (inner s).length + 2 = s.length := by simp [inner]; omega
    rw [hsub, Option.bind_some, split_call (by omega), Option.bind_some]
    unfold addr_shaped_p2
    have hn := splitD_n (inner s)
    by_cases h4 : (splitD (inner s)).length = 4
    · rw [if_pos (by simpa using by omega), contains_1 (by omega) (by omega) fun x hx => by have := splitD_len _ x hx; omega]
      simp [h4]
    · rw [if_neg (by simpa using by omega)]
      simp [h4]
  | false =>
    have hn := splitD_n s
    simp only [Bool.false_eq_true, if_false]
    rw [split_call (by omega), Option.bind_some, contains_2 (by omega) (by omega) fun x hx => by have := splitD_len _ x hx; omega]
    simp
theorem dom_a {s : List UInt8} {F : Nat} (hl : s.length ≤ 99000) (hF : s.length + 1 < F) : addr_Domain F s = some (domB s) := by
  unfold addr_Domain addr_Domain_p1 domB
  by_cases h : s.length ≤ 255
  · rw [if_pos (by simpa using by omega), shaped_ok hl hF]
    have hn := splitD_n s
    cases shapeB s with
    | true => simp only [Option.bind_some, if_true]; rw [split_call (by omega), Option.bind_some, contains_3 (by omega) (by omega)]; simp [h]
    | false => simp
  · rw [if_neg (by simpa using by omega)]; simp [h]
end Go.Proofs.AddrS
