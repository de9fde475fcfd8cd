import Derived.Test.YtfnnmecilcnloaaDoorAP2
set_option linter.unusedSimpArgs false
set_option linter.unusedVariables false
set_option linter.unusedSectionVars false
set_option linter.defProp false
set_option maxRecDepth 100000
namespace Go.Proofs.AddrS
open Go Go.Am Go.Proofs

/-! ### the document's domain -/
def chk (num : Bool) (s : List UInt8) : Bool := if num then numB s else labR s
theorem p5_ok {F : Nat} {x : UInt8} {s : List UInt8} {a i : Nat} (h : a ≤ i) (hi : i ≤ s.length) (hl : s.length ≤ 99000) (hF : s.length + 10 < F) :
    ref14_Domain_p5 F x s (a : Int) (i : Int) = some (!chk (x == 91) ((s.take i).drop a)) := by
  have hlen : ((s.take i).drop a).length ≤ s.length := by simp; omega
  unfold ref14_Domain_p5 chk
  rw [sub_ok h hi]
  by_cases hx : x = 91
  · rw [if_pos (by simpa using hx)]
    simp only [Option.bind_some]
    rw [octet_ok (by omega) (by omega)]
    simp only [Option.bind_some, hx, beq_self_eq_true, if_true]
    cases numB ((s.take i).drop a) <;> rfl
  · rw [if_neg (by simpa using hx)]
    simp only [Option.bind_some]
    rw [label_r (by omega) (by omega)]
    have : (x == 91) = false := by simpa using hx
    simp [this]
theorem dom_loop {F : Nat} {x : UInt8} {s : List UInt8} (hl : s.length ≤ 99000) (hFF : s.length + 10 < F) : ∀ (r cur : List UInt8) (a k i G : Nat), (∀ c ∈ cur, c ≠ 46) → s.drop a = cur ++ r → a + cur.length = i → i + r.length = s.length → r.length + 1 < G → k ≤ i →
    iter (ref14_Domain_l1 F s x) G ((a : Int), (k : Int), (i : Int)) = some (if (splitD (cur ++ r)).all (chk (x == 91)) then .inr ((k + (splitD (cur ++ r)).length : Nat) : Int) else .inl false) := by
  have htd : ∀ (cur r : List UInt8) (a i : Nat), s.drop a = cur ++ r → a + cur.length = i → (s.take i).drop a = cur := by
    intro cur r a i h hi
    rw [List.drop_take, h, ← hi, Nat.add_sub_cancel_left, List.take_left' rfl]
  intro r
  induction r with
  | nil =>
    intro cur a k i G hc hd ha hi hG hk
    obtain ⟨G, rfl⟩ := F_succ (show 0 < G by omega)
    obtain ⟨G, rfl⟩ := F_succ (show 0 < G by simp at hG; omega)
    have hie : i = s.length := by simpa using hi
    have hstep : ref14_Domain_l1 F s x ((a : Int), (k : Int), (i : Int)) = if (!chk (x == 91) cur) = true then some (.ret false) else some (.nxt (((i + 1 : Nat) : Int), ((k + 1 : Nat) : Int), ((i + 1 : Nat) : Int))) := by
      simp only [ref14_Domain_l1]
      rw [if_pos (by simp; omega)]
      have : ref14_Domain_p4 (i : Int) s = some false := by unfold ref14_Domain_p4; rw [if_neg (by simp; omega)]
      rw [this, Option.bind_some]
      simp only [Bool.false_eq_true, if_false]
      rw [p5_ok (by omega) (by omega) hl hFF, Option.bind_some, htd cur [] a i hd ha, wi (by omega), wi (by omega)]
    rw [List.append_nil, splitD_one hc]
    cases hx : chk (x == 91) cur with
    | false => rw [hx] at hstep; rw [iter_ret (by rw [hstep]; rfl)]; simp [hx]
    | true =>
      rw [hx] at hstep
      rw [iter_nxt (by rw [hstep]; rfl)]
      have : ref14_Domain_l1 F s x (((i + 1 : Nat) : Int), ((k + 1 : Nat) : Int), ((i + 1 : Nat) : Int)) = some (.brk ((k + 1 : Nat) : Int)) := by
        simp only [ref14_Domain_l1]
        rw [if_neg (by simp; omega)]
      rw [iter_brk this]
      simp [hx]
  | cons c r ih =>
    intro cur a k i G hc hd ha hi hG hk
    obtain ⟨G, rfl⟩ := F_succ (show 0 < G by omega)
    simp only [List.length_cons] at hi hG
    have hci : s[i]? = some c := by
      have : (s.drop a)[cur.length]? = some c := by rw [hd]; simp
      rw [List.getElem?_drop, ha] at this; exact this
    have hp4 : ref14_Domain_p4 (i : Int) s = some (!decide (c = 46)) := by unfold ref14_Domain_p4; rw [if_pos (by simp; omega), idx_get hci]; rfl
    by_cases hd46 : c = 46
    · subst hd46
      have hstep : ref14_Domain_l1 F s x ((a : Int), (k : Int), (i : Int)) = if (!chk (x == 91) cur) = true then some (.ret false) else some (.nxt (((i + 1 : Nat) : Int), ((k + 1 : Nat) : Int), ((i + 1 : Nat) : Int))) := by
        simp only [ref14_Domain_l1]
        rw [if_pos (by simp; omega), hp4, Option.bind_some]
        simp only [decide_true, Bool.not_true, Bool.false_eq_true, if_false]
        rw [p5_ok (by omega) (by omega) hl hFF, Option.bind_some, htd cur _ a i hd ha, wi (by omega), wi (by omega)]
      rw [splitD_app hc]
      cases hx : chk (x == 91) cur with
      | false => rw [hx] at hstep; rw [iter_ret (by rw [hstep]; rfl)]; simp [hx]
      | true =>
        rw [hx] at hstep
        rw [iter_nxt (by rw [hstep]; rfl)]
        have hd' : s.drop (i + 1) = r := by
          have : (s.drop a).drop (cur.length + 1) = r := by rw [hd, List.drop_append]; simp
          rw [List.drop_drop] at this
          rw [← this]; congr 1; omega
        have := ih [] (i + 1) (k + 1) (i + 1) G (by simp) (by simpa using hd') (by simp) (by omega) (by omega) (by omega)
        rw [List.nil_append] at this
        rw [this]
        simp only [List.all_cons, hx, Bool.true_and, List.length_cons]
        congr 3
        omega
    · have hstep : ref14_Domain_l1 F s x ((a : Int), (k : Int), (i : Int)) = some (.nxt ((a : Int), (k : Int), ((i + 1 : Nat) : Int))) := by
        simp only [ref14_Domain_l1]
        rw [if_pos (by simp; omega), hp4, Option.bind_some]
        simp only [hd46, decide_false, Bool.not_false, if_true]
        rw [wi (by omega)]
      rw [iter_nxt hstep]
      have := ih (cur ++ [c]) a k (i + 1) G (by intro y hy; rcases List.mem_append.1 hy with h | h; exact hc y h; simp at h; subst h; exact hd46) (by rw [hd]; simp) (by simp; omega) (by omega) (by omega) (by omega)
      rw [this]
      simp
theorem all_labR (l : List (List UInt8)) : l.all labR = (l.all labB && l.all fun p => decide (p.length ≤ 63)) := by
  induction l with
  | nil => rfl
  | cons a l ih => simp only [List.all_cons, ih, labR]; cases labB a <;> cases decide (a.length ≤ 63) <;> simp
theorem splitD_sum (s : List UInt8) : ((splitD s).map List.length).sum + (splitD s).length = s.length + 1 := by
  induction s with
  | nil => simp [splitD]
  | cons c r ih =>
    unfold splitD
    split
    · simp; omega
    · cases h : splitD r with
      | nil => exact absurd h (splitD_ne r)
      | cons a t => rw [h] at ih; simp at ih ⊢; omega
theorem four {l : List (List UInt8)} (h4 : l.length = 4) (h : ∀ p ∈ l, p.length ≤ 3) : (l.map List.length).sum ≤ 12 := by
  match l, h4 with
  | [a, b, c, d], _ =>
    have ha := h a (by simp); have hb := h b (by simp); have hc := h c (by simp); have hd := h d (by simp)
    simp; omega
theorem first_bad (r : List UInt8) : (splitD (91 :: r)).all labB = false := by
  have h1 : ∀ t : List UInt8, labB (91 :: t) = false := by
    intro t
    have : isW 91 = false := by decide
    simp [labB, this]
  simp only [splitD]
  rw [if_neg (by decide)]
  split
  · simp [h1]
  · simp [h1]
theorem dom_r {s : List UInt8} {F : Nat} (hl : s.length ≤ 99000) (hF : s.length + 10 < F) : ref14_Domain F s = some (domB s) := by
  cases s with
  | nil => simp [ref14_Domain, domB, shapeB, inB, splitD, labB]
  | cons c r =>
    unfold ref14_Domain
    by_cases h255 : 255 < (c :: r).length
    · rw [if_pos (by simp at h255 ⊢; omega)]
      have : decide ((c :: r).length ≤ 255) = false := by simp at h255 ⊢; omega
      unfold domB; rw [this]; rfl
    · have h255' : decide ((c :: r).length ≤ 255) = true := by simp at h255 ⊢; omega
      rw [if_neg (by simp at h255 ⊢; omega), show idx (c :: r) 0 = some c by simp [idx], Option.bind_some]
      obtain ⟨x, hx⟩ := last_ex c r
      by_cases hc : c = 91
      · subst hc
        unfold ref14_Domain_p3 ref14_Domain_p2
        rw [if_pos (by rfl), idx_last hx (by omega), Option.bind_some]
        by_cases hin : inB (91 :: r) = true
        · have hxx : x = 93 := by rw [inB, hx] at hin; simpa using (by simp at hin; exact hin.2)
          have h1 : 1 < (91 :: r).length := by rw [inB] at hin; simp at hin ⊢; exact hin.1
          subst hxx
          rw [if_neg (by simp)]
          have : decide ((((91 :: r).length : Nat) : Int) < 2) = false := by simp at h1 ⊢; omega
          rw [this]
          simp only [Option.bind_some, Bool.false_eq_true, if_false]
          have hsub : sub (91 :: r) 1 (IntKind.wrap .i64 ((((91 :: r).length : Nat) : Int) - 1)) = some (inner (91 :: r)) := by
            rw [wr (by omega) (by omega), show (1 : Int) = ((1 : Nat) : Int) from rfl, show (((91 :: r).length : Nat) : Int) - ((1 : Nat) : Int) = (((91 :: r).length - 1 : Nat) : Int) by omega, sub_ok (by omega) (by omega)]
            congr 1
            unfold inner
            rw [List.dropLast_eq_take, List.length_drop, List.drop_take]
          rw [hsub]
          simp only [Option.bind_some]
          have hil : (inner (91 :: r)).length ≤ (91 :: r).length := by simp [inner]; omega
          have hlp := dom_loop (F := F) (x := 91) (s := inner (91 :: r)) (by omega) (by omega) (inner (91 :: r)) [] 0 0 0 F (by simp) (by simp) (by simp) (by simp) (by omega) (Nat.le_refl _)
          simp only [List.nil_append, Int.natCast_zero, Nat.zero_add] at hlp
          rw [show ((0 : Int), (0 : Int), (0 : Int)) = (((0 : Nat) : Int), ((0 : Nat) : Int), ((0 : Nat) : Int)) from rfl]
          rw [show (((0 : Nat) : Int), ((0 : Nat) : Int), ((0 : Nat) : Int)) = ((0 : Int), (0 : Int), (0 : Int)) from rfl, hlp]
          have hchk : (splitD (inner (91 :: r))).all (chk ((91 : UInt8) == 91)) = (splitD (inner (91 :: r))).all numB := by congr 1
          rw [hchk]
          unfold domB shapeB
          rw [h255', hin]
          simp only [if_true, Bool.true_and]
          cases hall : (splitD (inner (91 :: r))).all numB with
          | false => simp
          | true =>
            by_cases h4 : (splitD (inner (91 :: r))).length = 4
            · have hsum := four h4 fun p hp => (num_facts (List.all_eq_true.1 hall p hp)).1
              have htot := splitD_sum (inner (91 :: r))
              have hlen : (91 :: r).length = (inner (91 :: r)).length + 2 := by simp [inner]; simp at h1; omega
              have : (splitD (91 :: r)).all (fun p => decide (p.length ≤ 63)) = true := by
                rw [List.all_eq_true]
                intro p hp
                have := splitD_len _ p hp
                simp only [decide_eq_true_eq]
                omega
              rw [this]
              simp [h4]
            · simp [h4]; omega
        · have hin' : inB (91 :: r) = false := by simpa using hin
          have hdf : domB (91 :: r) = false := by unfold domB shapeB; rw [hin']; simp only [Bool.false_eq_true, if_false, first_bad]; simp
          rw [hdf]
          by_cases hx93 : x = 93
          · subst hx93
            have h1 : ¬ 1 < (91 :: r).length := by intro h; rw [inB, hx, decide_eq_true h] at hin; simp at hin
            rw [if_neg (by simp), decide_eq_true (by omega)]
            rfl
          · rw [if_pos (by simpa using hx93)]; rfl
      · unfold ref14_Domain_p3
        rw [if_neg (by simpa using hc)]
        simp only [Option.bind_some]
        have hlp := dom_loop (F := F) (x := c) (s := c :: r) hl hF (c :: r) [] 0 0 0 F (by simp) (by simp) (by simp) (by simp) (by omega) (Nat.le_refl _)
        simp only [List.nil_append, Int.natCast_zero, Nat.zero_add] at hlp
        rw [hlp]
        have hcc : (c == 91) = false := by simpa using hc
        have hchk : (splitD (c :: r)).all (chk (c == 91)) = (splitD (c :: r)).all labR := by rw [hcc]; congr 1
        rw [hchk, all_labR]
        have hin : inB (c :: r) = false := by unfold inB; simp [hc]
        unfold domB shapeB
        rw [h255', hin]
        simp only [Bool.false_eq_true, if_false, Bool.true_and]
        cases (splitD (c :: r)).all labB <;> cases (splitD (c :: r)).all (fun p => decide (p.length ≤ 63)) <;> simp [hc]
end Go.Proofs.AddrS
