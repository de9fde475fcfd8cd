import Derived.Test.YtfnnmecilcnloaaDoorAP1
set_option linter.unusedSimpArgs false
set_option linter.unusedVariables false
set_option linter.unusedSectionVars false
set_option linter.defProp false
set_option maxRecDepth 100000
namespace Go.Proofs.AddrS
open Go Go.Am Go.Proofs

/-! ### the document's numbers and labels -/
def digs : List UInt8 := (List.range 10).map fun n => UInt8.ofNat (48 + n)
theorem oct_1 (n : Nat) : digs.all (fun a => decide (ref14_octet (n + 10) [a] = some (numV [a]))) = true := by kernel_rfl
theorem oct_2 (n : Nat) : digs.all (fun a => digs.all fun b => decide (ref14_octet (n + 10) [a, b] = some (numV [a, b]))) = true := by kernel_rfl
theorem oct_3 (n : Nat) : digs.all (fun a => digs.all fun b => digs.all fun c => decide (ref14_octet (n + 10) [a, b, c] = some (numV [a, b, c]))) = true := by kernel_rfl
theorem digs_mem {c : UInt8} (h : isD c = true) : c ∈ digs := by
  have := u8_all (p := fun c => !isD c || digs.contains c) (by kernel_rfl) c
  simpa [h] using this
theorem octet_ok {s : List UInt8} {F : Nat} (hF : 10 ≤ F) (hl : s.length ≤ 100000) : ref14_octet F s = some (numB s) := by
  by_cases h3 : 3 < s.length
  · have hn : numB s = false := by
      cases h : numB s with
      | false => rfl
      | true => have := (num_facts h).1; omega
    have hne : s ≠ [] := by intro h; subst h; simp at h3
    unfold ref14_octet ref14_octet_p1
    simp only [hne, decide_false, Bool.false_eq_true, if_false]
    rw [if_pos (by simp; omega), hn]; rfl
  · by_cases hd : s.all isD = true
    · obtain ⟨G, rfl⟩ : ∃ G, F = G + 10 := ⟨F - 10, by omega⟩
      rw [List.all_eq_true] at hd
      rw [numB_V]
      match s, h3, hd with
      | [], _, _ => rw [show numV [] = false by kernel_rfl]; simp [ref14_octet, ref14_octet_p1]
      | [a], _, hd => exact of_decide_eq_true (List.all_eq_true.1 (oct_1 G) a (digs_mem (hd a (by simp))))
      | [a, b], _, hd => exact of_decide_eq_true (List.all_eq_true.1 (List.all_eq_true.1 (oct_2 G) a (digs_mem (hd a (by simp)))) b (digs_mem (hd b (by simp))))
      | [a, b, c], _, hd => exact of_decide_eq_true (List.all_eq_true.1 (List.all_eq_true.1 (List.all_eq_true.1 (oct_3 G) a (digs_mem (hd a (by simp)))) b (digs_mem (hd b (by simp)))) c (digs_mem (hd c (by simp))))
      | a :: b :: c :: d :: r, h3, _ => simp at h3
    · have hn : numB s = false := by
        cases h : numB s with
        | false => rfl
        | true => exact absurd (num_facts h).2.1 hd
      rw [hn]
      have hp : ∃ b, ref14_octet_p1 s = some b := by
        unfold ref14_octet_p1
        cases s with
        | nil => simp
        | cons c r =>
          rw [show idx (c :: r) 0 = some c by simp [idx]]
          simp only [Option.bind_some]
          repeat' split
          all_goals exact ⟨_, rfl⟩
      obtain ⟨b, hb⟩ := hp
      unfold ref14_octet
      rw [hb, Option.bind_some]
      cases b with
      | true => rfl
      | false =>
        simp only [Bool.false_eq_true, if_false]
        -- the loop stops at what is no digit
        have hloop : ∀ (r : List UInt8) (i F : Nat) (n : Int), s.drop i = r → i + r.length = s.length → r.length < F → r.all isD = false → iter (ref14_octet_l1 s) F (n, (i : Int)) = some (.inl false) := by
          intro r
          induction r with
          | nil => intro i F n _ _ _ h; simp at h
          | cons x r ih =>
            intro i F n hdr hlr hF ha
            obtain ⟨G, rfl⟩ := F_succ hF
            obtain ⟨hi, hx, hr⟩ := drop_cons hdr
            simp only [List.length_cons] at hlr hF
            have hstep : ref14_octet_l1 s (n, (i : Int)) = if (!isD x) = true then some (.ret false) else some (.nxt ((IntKind.wrap .i64 ((IntKind.wrap .i64 (10 * n)) + (IntKind.wrap .i64 ((x - 48).toNat : Int)))), ((i + 1 : Nat) : Int))) := by
              simp only [ref14_octet_l1]
              rw [if_pos (by simpa using hi), idx_get hx, Option.bind_some, digit_r, Option.bind_some, wi (by omega)]
            cases hx' : isD x with
            | false => rw [hx'] at hstep; exact iter_ret (by rw [hstep]; rfl)
            | true =>
              rw [hx'] at hstep
              rw [iter_nxt (by rw [hstep]; rfl)]
              exact ih (i + 1) G _ hr (by omega) (by omega) (by simpa [hx'] using ha)
        rw [show (0, (0 : Int)) = ((0 : Int), ((0 : Nat) : Int)) from rfl, hloop s 0 F 0 rfl (by simp) (by omega) (by simpa using hd)]
        rfl

def labR (s : List UInt8) : Bool := labB s && decide (s.length ≤ 63)
theorem label_r {s : List UInt8} {F : Nat} (hl : s.length ≤ 100000) (hF : s.length < F) : ref14_label F s = some (labR s) := by
  unfold ref14_label ref14_label_p1 labR labB
  cases s with
  | nil => simp
  | cons c r =>
    obtain ⟨x, hx⟩ := last_ex c r
    rw [idx_last hx (by omega), hx, show idx (c :: r) 0 = some c by simp [idx]]
    by_cases h0 : 63 < (c :: r).length
    · rw [if_neg (by simp), if_pos (by simp at h0 ⊢; omega)]
      have : decide ((c :: r).length ≤ 63) = false := by simp at h0 ⊢; omega
      rw [this]; simp
    · have h0' : decide ((c :: r).length ≤ 63) = true := by simp at h0 ⊢; omega
      rw [if_neg (by simp), if_neg (by simp at h0 ⊢; omega), h0']
      by_cases h1 : c = 45
      · simp [h1]
      · by_cases h2 : x = 45
        · simp [h1, h2]
        · have hh := scan (s := c :: r) (body := ref14_label_l1 (c :: r)) (mk := fun i => (i : Int)) (p := isW) (rr := fun _ => false) (tt := ()) ?_ ?_ ?_ hF
          · simp only [Option.bind_some, h1, h2, decide_false, Bool.false_eq_true, if_false]
            cases ha : (c :: r).all isW with
            | true => have := hh.1 ha; rw [show ((0 : Nat) : Int) = 0 from rfl] at this; rw [this]; simp [h1, h2]
            | false => obtain ⟨j, hj⟩ := hh.2 ha; rw [show ((0 : Nat) : Int) = 0 from rfl] at hj; rw [hj]; simp [h1, h2]
          · intro i y hy hp
            have hi := (List.getElem?_eq_some_iff.1 hy).1
            simp only [ref14_label_l1, ref14_label_p2]
            rw [if_pos (by simp at hi ⊢; omega), idx_get hy, Option.bind_some, letter_r, Option.bind_some, digit_r, Option.bind_some, wi (by omega)]
            simp only [isW] at hp
            cases h1 : isL y <;> cases h2 : isD y <;> simp [h1, h2] at hp ⊢
            exact hp
          · intro i y hy hp
            have hi := (List.getElem?_eq_some_iff.1 hy).1
            simp only [ref14_label_l1, ref14_label_p2]
            rw [if_pos (by simp at hi ⊢; omega), idx_get hy, Option.bind_some, letter_r, Option.bind_some, digit_r, Option.bind_some]
            simp only [isW] at hp
            cases h1 : isL y <;> cases h2 : isD y <;> simp [h1, h2] at hp ⊢
            exact hp
          · simp [ref14_label_l1]
end Go.Proofs.AddrS
