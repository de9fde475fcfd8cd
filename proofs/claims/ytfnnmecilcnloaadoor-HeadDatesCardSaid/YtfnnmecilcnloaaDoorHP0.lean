import Derived.Test.YtfnnmecilcnloaaDoorHS1
import Derived.Test.YtfnnmecilcnloaaDoorAmP
import Derived.Lib.IndexMore
set_option linter.unusedSimpArgs false
set_option linter.unusedVariables false
set_option linter.unusedSectionVars false
set_option linter.defProp false
set_option maxRecDepth 100000
namespace Go.Proofs.HeadS
open Go Go.Am Go.Proofs

theorem u8_all {p : UInt8 → Bool} (h : (List.range 256).all (fun n => p (UInt8.ofNat n)) = true) (c : UInt8) : p c = true := by
  have := List.all_eq_true.1 h c.toNat (by simpa using c.toNat_lt)
  simpa using this
/-- a row of things, looked at one by one -/
theorem scan {α ρ τ σ : Type} {s : List α} {body : σ → Option (St ρ τ σ)} {mk : Nat → σ} {p : α → Bool} {rr : Nat → ρ} {tt : τ}
    (h1 : ∀ i x, s[i]? = some x → p x = true → body (mk i) = some (.nxt (mk (i + 1)))) (h2 : ∀ i x, s[i]? = some x → p x = false → body (mk i) = some (.ret (rr i)))
    (h3 : body (mk s.length) = some (.brk tt)) {F : Nat} (hF : s.length < F) :
    (s.all p = true → iter body F (mk 0) = some (.inr tt)) ∧ (s.all p = false → ∃ j, iter body F (mk 0) = some (.inl (rr j))) := by
  suffices h : ∀ (r : List α) (i F : Nat), s.drop i = r → i + r.length = s.length → r.length < F →
      (r.all p = true → iter body F (mk i) = some (.inr tt)) ∧ (r.all p = false → ∃ j, iter body F (mk i) = some (.inl (rr j))) from h s 0 F rfl (by simp) hF
  intro r
  induction r with
  | nil =>
    intro i F hd hl hF
    obtain ⟨G, rfl⟩ := F_succ hF
    have : i = s.length := by simpa using hl
    subst this
    exact ⟨fun _ => iter_brk h3, fun h => by simp at h⟩
  | cons x r ih =>
    intro i F hd hl hF
    obtain ⟨G, rfl⟩ := F_succ hF
    obtain ⟨hi, hx, hr⟩ := drop_cons hd
    simp only [List.length_cons] at hl hF
    cases hp : p x with
    | true =>
      rw [iter_nxt (h1 i x hx hp)]
      simp only [List.all_cons, hp, Bool.true_and]
      exact ih (i + 1) G hr (by omega) (by omega)
    | false =>
      rw [iter_ret (h2 i x hx hp)]
      simp only [List.all_cons, hp, Bool.false_and]
      exact ⟨fun h => by simp at h, fun _ => ⟨i, rfl⟩⟩
theorem wi {n : Nat} (h : n ≤ 1000000000) : IntKind.wrap .i64 ((n : Int) + 1) = ((n + 1 : Nat) : Int) := by rw [wr (by omega) (by omega)]; simp

def low (c : UInt8) : UInt8 := if (decide (65 ≤ c) && decide (c ≤ 90)) = true then c + 32 else c
def Bf (s : List UInt8) (i : Nat) : List UInt8 := (s.map low).take i ++ s.drop i
theorem Bf_get {s : List UInt8} {i : Nat} (hi : i ≤ s.length) (j : Nat) : (Bf s i)[j]? = if j < i then (s.map low)[j]? else s[j]? := by
  unfold Bf
  have hl : ((s.map low).take i).length = i := by simp; omega
  by_cases h : j < i
  · rw [if_pos h, List.getElem?_append_left (by omega), List.getElem?_take_of_lt h]
  · rw [if_neg h, List.getElem?_append_right (by omega), hl, List.getElem?_drop]
    congr 1; omega
theorem Bf_len {s : List UInt8} {i : Nat} (hi : i ≤ s.length) : (Bf s i).length = s.length := by
  unfold Bf; simp; omega
theorem Bf_set {s : List UInt8} {i : Nat} (hi : i < s.length) {c : UInt8} (hc : s[i]? = some c) : (Bf s i).set i (low c) = Bf s (i + 1) := by
  apply List.ext_getElem?
  intro j
  rw [List.getElem?_set, Bf_get (by omega), Bf_get (by omega), Bf_len (by omega)]
  by_cases h : i = j
  · subst h
    rw [if_pos rfl, if_pos hi, if_pos (by omega), List.getElem?_map, hc]; rfl
  · rw [if_neg h]
    by_cases h2 : j < i
    · rw [if_pos h2, if_pos (by omega)]
    · rw [if_neg h2, if_neg (by omega)]
theorem Bf_all (s : List UInt8) : Bf s s.length = s.map low := by
  unfold Bf; rw [List.drop_length, List.append_nil, List.take_of_length_le (by simp)]
theorem low_or (c : UInt8) (h : (decide (65 ≤ c) && decide (c ≤ 90)) = true) : c ||| 32 = low c := by
  have := u8_all (p := fun c => !(decide (65 ≤ c) && decide (c ≤ 90)) || (c ||| 32 == low c)) (by kernel_rfl) c
  rw [h] at this
  simpa using this
theorem ixm_ok {n i : Nat} (h : i < n) : ixm n (i : Int) = some i := by unfold ixm; rw [if_pos (by omega)]; simp
theorem setx_ok {xs : List UInt8} {j : Nat} {c : UInt8} (h : j < xs.length) : setx xs j c = some (xs.set j c) := by unfold setx; rw [if_pos h]
theorem low_id {s : List UInt8} {i : Nat} {c : UInt8} (hi : i < s.length) (hc : s[i]? = some c) (h : ¬ (decide (65 ≤ c) && decide (c ≤ 90)) = true) : Bf s i = Bf s (i + 1) := by
  rw [← Bf_set hi hc]
  have hl : low c = c := by unfold low; rw [if_neg h]
  rw [hl]
  apply List.ext_getElem?
  intro j
  rw [List.getElem?_set, Bf_get (by omega), Bf_len (by omega)]
  by_cases h : i = j
  · subst h; rw [if_pos rfl, if_pos hi, if_neg (by omega), hc]
  · rw [if_neg h]
theorem low_a {s : List UInt8} {F : Nat} (hs : s.length ≤ 2100) (hF : s.length < F) : addr_Lower F s = some (s.map low) := by
  have hloop : ∀ (m i G : Nat), i + m = s.length → m < G → iter (addr_Lower_l1 s) G ((i : Int), Bf s i) = some (.inr (s.map low)) := by
    intro m
    induction m with
    | zero =>
      intro i G hi hG
      obtain ⟨G, rfl⟩ := F_succ hG
      have : i = s.length := by omega
      subst this
      rw [← Bf_all s]
      exact iter_brk (by simp only [addr_Lower_l1]; rw [if_neg (by simp)])
    | succ m ih =>
      intro i G hi hG
      obtain ⟨G, rfl⟩ := F_succ (show 0 < G by omega)
      have hil : i < s.length := by omega
      have hc : s[i]? = some s[i] := List.getElem?_eq_getElem hil
      have hst : addr_Lower_l1 s ((i : Int), Bf s i) = some (.nxt (((i + 1 : Nat) : Int), Bf s (i + 1))) := by
        simp only [addr_Lower_l1]
        rw [if_pos (by simpa using hil), ixm_ok hil, Option.bind_some, Bf_get (by omega), if_neg (by omega), hc, Option.bind_some, wi (by omega)]
        by_cases h : (decide (65 ≤ s[i]) && decide (s[i] ≤ 90)) = true
        · rw [if_pos h, setx_ok (by rw [Bf_len (by omega)]; exact hil), low_or _ h, Bf_set hil hc]; rfl
        · rw [if_neg h, low_id hil hc h]
      rw [iter_nxt hst]
      exact ih (i + 1) G (by omega) (by omega)
  unfold addr_Lower
  rw [show ((0 : Int), s) = (((0 : Nat) : Int), Bf s 0) by simp [Bf], hloop s.length 0 F (by omega) hF]
  simp only [Option.bind_some]
  rw [sub_to (j := s.length) (by simp), List.take_of_length_le (by simp)]
  rfl

/-! ### cutting -/
def cg (sep : List UInt8) : List UInt8 → Option (List UInt8 × List UInt8)
  | [] => none
  | c :: r => if sep.isPrefixOf (c :: r) then some ([], (c :: r).drop sep.length) else (cg sep r).map fun p => (c :: p.1, p.2)
theorem index_cg {sep : List UInt8} (hs : sep ≠ []) : ∀ s : List UInt8, (cg sep s = none ∧ Lib.index s sep = -1) ∨ ∃ i : Nat, Lib.index s sep = (i : Int) ∧ cg sep s = some (s.take i, s.drop (i + sep.length)) := by
  intro s
  induction s with
  | nil => left; exact ⟨rfl, by unfold Lib.index; cases sep with | nil => exact absurd rfl hs | cons => rfl⟩
  | cons c r ih =>
    unfold Lib.index cg
    by_cases hp : sep.isPrefixOf (c :: r) = true
    · right; exact ⟨0, by rw [if_pos hp]; rfl, by rw [if_pos hp]; simp⟩
    · rw [if_neg hp, if_neg hp]
      rcases ih with ⟨h1, h2⟩ | ⟨i, h1, h2⟩
      · left; rw [h1, h2]; simp
      · right
        refine ⟨i + 1, ?_, ?_⟩
        · rw [h1, if_neg (by simp <;> omega)]; simp
        · rw [h2]; simp [List.take_succ_cons, Nat.add_right_comm]
theorem cut_cg {sep : List UInt8} (hs : sep ≠ []) (s : List UInt8) : Lib.cut s sep = match cg sep s with | some (a, b) => (a, b, true) | none => (s, [], false) := by
  unfold Lib.cut
  rcases index_cg hs s with ⟨h1, h2⟩ | ⟨i, h1, h2⟩
  · rw [h1, h2, if_neg (by omega)]
  · rw [h2, h1, if_pos (by omega)]; simp
theorem cut_ok {s sep : List UInt8} (hs : sep ≠ []) (hl : s.length ≤ 1000000000) : strings_Cut s sep = some (match cg sep s with | some (a, b) => (a, b, true) | none => (s, [], false)) := by
  unfold strings_Cut
  rw [if_pos (by omega), cut_cg hs]
theorem cg_eq {sep : List UInt8} : ∀ {s a b : List UInt8}, cg sep s = some (a, b) → s = a ++ sep ++ b := by
  intro s
  induction s with
  | nil => intro a b h; cases h
  | cons c r ih =>
    intro a b h
    unfold cg at h
    split at h
    · rename_i hp
      injection h with h; injection h with h1 h2; subst h1; subst h2
      obtain ⟨t, ht⟩ := List.isPrefixOf_iff_prefix.1 hp
      rw [← ht]; simp
    · rw [Option.map_eq_some_iff] at h
      obtain ⟨⟨a', b'⟩, h1, h2⟩ := h
      injection h2 with h2 h3; subst h2; subst h3
      rw [ih h1]; simp
/-- CR LF -/
abbrev nl : List UInt8 := [13, 10]
def Ends (w : List UInt8) : Prop := w = [] ∨ ∃ u, w = u ++ nl
theorem cg_ends : ∀ {w : List UInt8}, Ends w → w ≠ [] → ∃ a b, cg nl w = some (a, b) ∧ w = a ++ nl ++ b ∧ Ends b := by
  intro w
  induction w with
  | nil => intro _ h; exact absurd rfl h
  | cons c r ih =>
    intro he _
    obtain ⟨u, hu⟩ := he.resolve_left (by simp)
    unfold cg
    by_cases hp : nl.isPrefixOf (c :: r) = true
    · rw [if_pos hp]
      obtain ⟨t, ht⟩ := List.isPrefixOf_iff_prefix.1 hp
      refine ⟨[], t, by rw [← ht]; simp, by rw [← ht]; simp, ?_⟩
      rw [← ht] at hu
      rcases u with _ | ⟨x, u⟩
      · left; simpa using hu
      · rcases u with _ | ⟨y, u⟩
        · simp at hu
        · right
          simp only [List.cons_append, List.nil_append, List.cons.injEq] at hu
          exact ⟨u, hu.2.2⟩
    · rw [if_neg hp]
      cases u with
      | nil => rw [hu] at hp; exact absurd rfl hp
      | cons x u =>
        simp only [List.cons_append, List.cons.injEq] at hu
        obtain ⟨rfl, hr⟩ := hu
        obtain ⟨a, b, h1, h2, h3⟩ := ih (.inr ⟨u, hr⟩) (by rw [hr]; simp)
        exact ⟨c :: a, b, by rw [h1]; rfl, by rw [h2]; simp, h3⟩

/-! ### a whole text -/
def whole (b : List UInt8) : List UInt8 := if b = [] ∨ nl.isSuffixOf b = true then b else b ++ nl
theorem whole_ends (b : List UInt8) : Ends (whole b) := by
  unfold whole
  split
  · rename_i h
    rcases h with h | h
    · exact .inl h
    · obtain ⟨u, hu⟩ := List.isSuffixOf_iff_suffix.1 h
      exact .inr ⟨u, hu.symm⟩
  · exact .inr ⟨b, rfl⟩
theorem whole_len (b : List UInt8) : (whole b).length ≤ b.length + 2 := by unfold whole; split <;> simp
theorem suffix_iff {b : List UInt8} (h : 2 ≤ b.length) : (b.drop (b.length - 2) = nl) ↔ nl.isSuffixOf b = true := by
  rw [List.isSuffixOf_iff_suffix]
  constructor
  · intro h1; exact ⟨b.take (b.length - 2), by rw [← h1, List.take_append_drop]⟩
  · rintro ⟨u, rfl⟩; simp
theorem not_suffix {b : List UInt8} (h : b.length < 2) : nl.isSuffixOf b = false := by
  rw [Bool.eq_false_iff]
  intro h1
  obtain ⟨u, rfl⟩ := List.isSuffixOf_iff_suffix.1 h1
  simp at h; omega
theorem suff_a {b : List UInt8} (hb : b.length ≤ 20000) : bytes_HasSuffix b nl = some (nl.isSuffixOf b) := by
  unfold bytes_HasSuffix bytes_HasSuffix_p1
  by_cases h : 2 ≤ b.length
  · rw [if_pos (by simp; omega)]
    have e : IntKind.wrap .i64 ((b.length : Int) - ((nl : List UInt8).length : Int)) = ((b.length - 2 : Nat) : Int) := by rw [wr (by simp; omega) (by simp; omega)]; simp; omega
    rw [e, sub_end (by omega)]
    simp only [Option.bind_some, bytes_Equal]
    congr 1
    by_cases h2 : b.drop (b.length - 2) = nl
    · rw [(suffix_iff h).1 h2]; simpa using h2
    · have : nl.isSuffixOf b = false := by rw [Bool.eq_false_iff]; exact fun h3 => h2 ((suffix_iff h).2 h3)
      rw [this]; simpa using h2
  · rw [if_neg (by simp; omega), not_suffix (by omega)]; rfl
theorem conc1 {b : List UInt8} {G : Nat} (hb : b.length ≤ 20000) : iter (slices_Concat_l1 [b, nl]) (G + 3) (0, 0) = some (.inr ((b.length : Int) + 2)) := by
  have s1 : slices_Concat_l1 [b, nl] (0, 0) = some (.nxt ((b.length : Int), 1)) := by
    simp only [slices_Concat_l1]
    rw [if_pos (by simp), show idx [b, nl] 0 = some b by simp [idx]]
    simp only [Option.bind_some]
    rw [wr (by omega) (by omega), if_neg (by simp <;> omega)]
    simp [wr]
  have s2 : slices_Concat_l1 [b, nl] ((b.length : Int), 1) = some (.nxt ((b.length : Int) + 2, 2)) := by
    simp only [slices_Concat_l1]
    rw [if_pos (by simp), show idx [b, nl] 1 = some nl by simp [idx]]
    simp only [Option.bind_some]
    rw [wr (by simp; omega) (by simp; omega), if_neg (by simp <;> omega)]
    simp [wr]
  have s3 : slices_Concat_l1 [b, nl] ((b.length : Int) + 2, 2) = some (.brk ((b.length : Int) + 2)) := by
    simp only [slices_Concat_l1]; rw [if_neg (by simp)]
  rw [iter_nxt s1, iter_nxt s2, iter_brk s3]
theorem conc2 {b : List UInt8} {G : Nat} (hb : b.length ≤ 20000) : iter (slices_Concat_l2 [b, nl]) (G + 3) ([], 0) = some (.inr (b ++ nl)) := by
  have s1 : slices_Concat_l2 [b, nl] ([], 0) = some (.nxt (b, 1)) := by
    simp only [slices_Concat_l2]
    rw [if_pos (by simp), show idx [b, nl] 0 = some b by simp [idx]]
    simp only [Option.bind_some]
    rw [capp_ok (by simp; omega) (by omega)]
    simp [wr]
  have s2 : slices_Concat_l2 [b, nl] (b, 1) = some (.nxt (b ++ nl, 2)) := by
    simp only [slices_Concat_l2]
    rw [if_pos (by simp), show idx [b, nl] 1 = some nl by simp [idx]]
    simp only [Option.bind_some]
    rw [capp_ok (by simp; omega) (by omega)]
    simp [wr]
  have s3 : slices_Concat_l2 [b, nl] (b ++ nl, 2) = some (.brk (b ++ nl)) := by
    simp only [slices_Concat_l2]; rw [if_neg (by simp)]
  rw [iter_nxt s1, iter_nxt s2, iter_brk s3]
theorem whole_p {b : List UInt8} (hb : b.length ≤ 20000) : dot_Whole_p1 b = some (decide (b = [] ∨ nl.isSuffixOf b = true)) := by
  unfold dot_Whole_p1
  cases b with
  | nil => rfl
  | cons c r =>
    rw [if_neg (by simp <;> omega), suff_a hb]
    rw [Option.bind_some, Option.some.injEq, Bool.eq_iff_iff]
    simp
theorem grow_ok {n : Int} (h0 : 0 ≤ n) (h1 : n ≤ 1000000000) : slices_Grow n = some [] := by
  unfold slices_Grow
  rw [if_neg (by omega), if_pos (by omega)]
theorem conc_ok {b : List UInt8} {F : Nat} (h1 : iter (slices_Concat_l1 [b, nl]) F (0, 0) = some (.inr ((b.length : Int) + 2))) (h2 : iter (slices_Concat_l2 [b, nl]) F ([], 0) = some (.inr (b ++ nl)))
    (h3 : slices_Grow ((b.length : Int) + 2) = some []) : slices_Concat F [b, nl] = some (b ++ nl) := by
  unfold slices_Concat
  rw [h1]
  simp only [Option.bind_some]
  rw [h3]
  simp only [Option.bind_some]
  rw [h2]
  simp only [Option.bind_some]
theorem whole_a {b : List UInt8} {F : Nat} (hb : b.length ≤ 20000) (hF : 3 ≤ F) : dot_Whole F b = some (whole b) := by
  have hp := whole_p hb
  unfold dot_Whole whole
  rw [hp]
  simp only [Option.bind_some, decide_eq_true_eq]
  by_cases h : b = [] ∨ nl.isSuffixOf b = true
  · rw [if_pos h, if_pos h]
    unfold slices_Clone
    rw [capp_ok (by simp; omega) (by omega)]; simp
  · rw [if_neg h, if_neg h]
    obtain ⟨G, rfl⟩ : ∃ G, F = G + 3 := ⟨F - 3, by omega⟩
    rw [conc_ok (conc1 hb) (conc2 hb) (grow_ok (by omega) (by omega))]
    simp only [Option.bind_some]
end Go.Proofs.HeadS
