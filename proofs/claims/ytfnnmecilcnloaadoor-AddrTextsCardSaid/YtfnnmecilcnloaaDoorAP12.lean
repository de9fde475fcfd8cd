import Derived.Test.YtfnnmecilcnloaaDoorAP8
set_option linter.unusedSimpArgs false
set_option linter.unusedVariables false
set_option linter.unusedSectionVars false
set_option linter.defProp false
set_option maxRecDepth 100000
namespace Go.Proofs.AddrS
open Go Go.Am Go.Proofs

/-! ### the document's words, local parts, texts -/
theorem atext_all (n : Nat) : (List.range 256).all (fun m => decide (ref14_atext (n + 30) (UInt8.ofNat m) = some (isAtm (UInt8.ofNat m)))) = true := by kernel_rfl
theorem atext_r {F : Nat} (hF : 30 ≤ F) (c : UInt8) : ref14_atext F c = some (isAtm c) := by
  obtain ⟨n, rfl⟩ : ∃ n, F = n + 30 := ⟨F - 30, by omega⟩
  have := u8_all (p := fun c => decide (ref14_atext (n + 30) c = some (isAtm c))) (atext_all n) c
  simpa using this
def pr : Bool → List UInt8 → Bool
  | _, [] => true
  | p, c :: r => (if c = 46 then p && decide (r ≠ []) else isAtm c) && pr (decide (c ≠ 46)) r
theorem plain_loop {F : Nat} {s : List UInt8} (hs : s.length ≤ 90000) (hFF : 30 ≤ F) : ∀ (r : List UInt8) (i G : Nat) (p : Bool), s.drop i = r → i + r.length = s.length → r.length < G →
    (if 0 < i then ∃ x, s[i - 1]? = some x ∧ p = !decide (x = 46) else p = false) → iter (ref14_plain_l1 F s) G (i : Int) = some (if pr p r then .inr () else .inl false) := by
  intro r
  induction r with
  | nil =>
    intro i G p hd hi hG hp
    obtain ⟨G, rfl⟩ := F_succ hG
    rw [iter_brk (t := ()) (by simp only [ref14_plain_l1]; rw [if_neg (by simp at hi ⊢; omega)])]
    rfl
  | cons c r ih =>
    intro i G p hd hi hG hp
    obtain ⟨G, rfl⟩ := F_succ (show 0 < G by omega)
    obtain ⟨h1, h2, h3⟩ := drop_cons hd
    simp only [List.length_cons] at hi hG
    have hp1 : ref14_plain_p1 s (i : Int) = some (decide (c = 46) && p && decide (r ≠ [])) := by
      unfold ref14_plain_p1
      rw [idx_get h2, Option.bind_some]
      by_cases hc : c = 46
      · rw [if_pos (by simpa using hc)]
        by_cases h0 : 0 < i
        · rw [if_pos h0] at hp
          obtain ⟨x, hx, hpx⟩ := hp
          rw [if_pos (by simpa using h0), wi (by omega)]
          by_cases hr : r = []
          · rw [if_neg (by subst hr; simp at hi ⊢; omega)]; simp [hr]
          · rw [if_pos (by have : 0 < r.length := List.length_pos_iff.2 hr
                           simp; omega), wr (by omega) (by omega), show (i : Int) - 1 = ((i - 1 : Nat) : Int) by omega, idx_get hx, Option.bind_some, hpx]
            simp [hc, hr]
        · rw [if_neg h0] at hp
          rw [if_neg (by simpa using h0), hp]; simp
      · rw [if_neg (by simpa using hc)]; simp [hc]
    have hst : ref14_plain_l1 F s (i : Int) = if (if c = 46 then p && decide (r ≠ []) else isAtm c) = true then some (.nxt ((i + 1 : Nat) : Int)) else some (.ret false) := by
      simp only [ref14_plain_l1]
      rw [if_pos (by simpa using h1), hp1, Option.bind_some]
      unfold ref14_plain_p2
      rw [idx_get h2]
      simp only [Option.bind_some, atext_r hFF]
      by_cases hc : c = 46
      · have h46 : isAtm c = false := by subst hc; decide
        simp only [hc, decide_true, Bool.true_and, if_true]
        subst hc
        cases hpp : (p && decide (r ≠ [])) with
        | true => simp only [Bool.not_true, Bool.false_eq_true, if_false, Option.bind_some, if_true]; rw [wi (by omega)]
        | false => simp only [Bool.not_false, if_true, Option.bind_some, h46, Bool.false_eq_true, if_false]
      · simp only [hc, decide_false, Bool.false_and, Bool.not_false, if_true, if_false, Option.bind_some]
        cases isAtm c with
        | true => simp only [Bool.not_true, Bool.false_eq_true, if_false, if_true]; rw [wi (by omega)]
        | false => simp
    have hpr : pr p (c :: r) = ((if c = 46 then p && decide (r ≠ []) else isAtm c) && pr (decide (c ≠ 46)) r) := rfl
    rw [hpr]
    obtain ⟨q, hq⟩ : ∃ q, q = (if c = 46 then p && decide (r ≠ []) else isAtm c) := ⟨_, rfl⟩
    rw [← hq] at hst ⊢
    cases q with
    | false =>
      have hst' := hst.trans (if_neg (by decide))
      rw [iter_ret hst']
      simp
    | true =>
      have hst' := hst.trans (if_pos rfl)
      rw [iter_nxt hst', ih (i + 1) G (decide (c ≠ 46)) h3 (by omega) (by omega) (by rw [if_pos (by omega)]; exact ⟨c, by simpa using h2, by simp⟩)]
      simp
theorem pr_split : ∀ (r : List UInt8) (p : Bool), r ≠ [] → pr p r = match splitD r with | [] => false | h :: t => h.all isAtm && (p || h != []) && t.all fun q => q != [] && q.all isAtm := by
  intro r
  induction r with
  | nil => intro p h; exact absurd rfl h
  | cons c r ih =>
    intro p _
    simp only [pr, splitD]
    by_cases hc : c = 46
    · simp only [if_pos hc]
      by_cases hr : r = []
      · subst hr; simp [splitD]
      · have h2 := ih false hr
        have hd : decide (c ≠ 46) = false := by simpa using hc
        rw [hd, h2]
        cases hs : splitD r with
        | nil => exact absurd hs (splitD_ne r)
        | cons h t =>
          simp only [hr, ne_eq, not_false_eq_true, decide_true, Bool.and_true, List.all_nil, Bool.true_and, List.all_cons, Bool.false_or]
          cases p <;> cases h.all isAtm <;> cases (h != []) <;> simp
    · simp only [if_neg hc]
      have hd : decide (c ≠ 46) = true := by simpa using hc
      rw [hd]
      by_cases hr : r = []
      · subst hr; simp [splitD, pr]
      · rw [ih true hr]
        cases hs : splitD r with
        | nil => exact absurd hs (splitD_ne r)
        | cons h t =>
          simp only [List.all_cons, Bool.true_or, Bool.and_true]
          have : (c :: h != []) = true := rfl
          rw [this]
          cases isAtm c <;> cases p <;> simp
theorem plain_r {F : Nat} {s : List UInt8} (hs : s.length ≤ 80000) (hF : s.length + 30 < F) : ref14_plain F s = some (plainB s) := by
  unfold ref14_plain
  rw [show (0 : Int) = ((0 : Nat) : Int) from rfl, plain_loop (by omega) (by omega) s 0 F false rfl (by simp) (by omega) (by simp)]
  simp only [Option.bind_some]
  by_cases h : s = []
  · subst h; simp [pr, plainB, splitD]
  · rw [pr_split s false h]
    unfold plainB
    cases hsp : splitD s with
    | nil => exact absurd hsp (splitD_ne s)
    | cons a t =>
      simp only [Bool.false_or, List.all_cons]
      cases h1 : a.all isAtm <;> cases h2 : (a != []) <;> cases h3 : (t.all fun q => q != [] && q.all isAtm) <;> simp [h]
theorem vis_r (x : UInt8) : (if decide (x < 32) = true then some true else some (decide (126 < x))) = some (!isVis x) := by
  have := u8_all (p := fun x => decide ((if decide (x < 32) = true then some true else some (decide (126 < x))) = some (!isVis x))) (by kernel_rfl) x
  exact of_decide_eq_true this
theorem local_r {s : List UInt8} {F : Nat} (hF : 65 < F) : ref14_Local F s = some (locB s) := by
  unfold ref14_Local locB
  by_cases h : s = []
  · subst h; rfl
  · by_cases h2 : 64 < s.length
    · rw [if_pos (by simp; omega), decide_eq_false (by omega)]; simp
    · rw [if_neg (by simp [h]; omega), decide_eq_true (by omega)]
      have hh := scan (s := s) (F := F) (body := ref14_Local_l1 s) (mk := fun i => (i : Int)) (p := isVis) (rr := fun _ => false) (tt := ()) ?_ ?_ ?_ (by omega)
      · cases ha : s.all isVis with
        | true => have := hh.1 ha; rw [show ((0 : Nat) : Int) = 0 from rfl] at this; rw [this]; simp [h]
        | false => obtain ⟨j, hj⟩ := hh.2 ha; rw [show ((0 : Nat) : Int) = 0 from rfl] at hj; rw [hj]; simp
      · intro i x hx hp
        have hi := (List.getElem?_eq_some_iff.1 hx).1
        simp only [ref14_Local_l1, ref14_Local_p2]
        rw [if_pos (by simpa using hi), idx_get hx, Option.bind_some, vis_r, Option.bind_some, hp, wi (by omega)]; rfl
      · intro i x hx hp
        have hi := (List.getElem?_eq_some_iff.1 hx).1
        simp only [ref14_Local_l1, ref14_Local_p2]
        rw [if_pos (by simpa using hi), idx_get hx, Option.bind_some, vis_r, Option.bind_some, hp]; rfl
      · simp [ref14_Local_l1]
theorem dom_r2 {s : List UInt8} {F : Nat} (hF : 99010 < F) : ref14_Domain F s = some (domB s) := by
  by_cases h : s.length ≤ 99000
  · exact dom_r h (by omega)
  · unfold ref14_Domain domB
    rw [if_pos (by simp; omega), decide_eq_false (by omega)]
    rfl
theorem text_loop {a : AddressV} (hl : a.local0.length ≤ 80000) : ∀ (r : List UInt8) (i F : Nat) (b : List UInt8), a.local0.drop i = r → i + r.length = a.local0.length → b.length ≤ 2 * i + 2 → r.length < F →
    iter (ref14_text_l1 a) F (b, (i : Int)) = some (.inr (b ++ esc r)) := by
  intro r
  induction r with
  | nil =>
    intro i F b hd hi hb hF
    obtain ⟨G, rfl⟩ := F_succ hF
    rw [iter_brk (t := b) (by simp only [ref14_text_l1]; rw [if_neg (by simp at hi ⊢; omega)])]
    simp [esc]
  | cons c r ih =>
    intro i F b hd hi hb hF
    obtain ⟨G, rfl⟩ := F_succ (show 0 < F by omega)
    obtain ⟨h1, h2, h3⟩ := drop_cons hd
    simp only [List.length_cons] at hi hF
    have hst : ref14_text_l1 a (b, (i : Int)) = some (.nxt (b ++ (if c = 34 ∨ c = 92 then [92, c] else [c]), ((i + 1 : Nat) : Int))) := by
      simp only [ref14_text_l1, ref14_text_p2]
      rw [if_pos (by simpa using h1), idx_get h2]
      simp only [Option.bind_some]
      by_cases h34 : c = 34
      · subst h34
        simp only [decide_true, if_true, Option.bind_some, true_or]
        rw [capp_ok (by simp; omega) (by omega), Option.bind_some, capp_ok (by simp; omega) (by omega), Option.bind_some, wi (by omega)]
        simp
      · by_cases h92 : c = 92
        · subst h92
          rw [if_neg (by decide)]
          simp only [decide_true, Option.bind_some, if_true, or_true]
          rw [capp_ok (by simp; omega) (by omega), Option.bind_some, capp_ok (by simp; omega) (by omega), Option.bind_some, wi (by omega)]
          simp
        · rw [if_neg (by simpa using h34)]
          simp only [Option.bind_some]
          rw [if_neg (by simpa using h92), capp_ok (by simp; omega) (by omega), Option.bind_some, wi (by omega), if_neg (by simp [h34, h92])]
    rw [iter_nxt hst, ih (i + 1) G _ h3 (by omega) (by split <;> simp <;> omega) (by omega)]
    simp [esc]
theorem text_r {a : AddressV} {F : Nat} (hn : nullB a = false) (hl : a.local0.length ≤ 80000) (hd : a.domain.length ≤ 80000) (hF : a.local0.length + 30 < F) : ref14_text F a = some (toldB a) := by
  have he := esc_len a.local0
  unfold ref14_text toldB
  rw [nullB] at hn
  rw [hn, plain_r hl hF]
  simp only [Bool.false_eq_true, if_false, Option.bind_some]
  cases plainB a.local0 with
  | true =>
    simp only [if_true]
    rw [cat_ok (by simp; omega), Option.bind_some, cat_ok (by simp; omega), Option.bind_some, cat_ok (by simp; omega), Option.bind_some, cat_ok (by simp; omega), Option.bind_some]
    simp
  | false =>
    simp only [Bool.false_eq_true, if_false]
    rw [show (([60, 34] : List UInt8), (0 : Int)) = (([60, 34] : List UInt8), ((0 : Nat) : Int)) from rfl, text_loop hl a.local0 0 F [60, 34] (by simp) (by simp) (by simp) (by omega)]
    simp only [Option.bind_some]
    rw [capp_ok (by simp; omega) (by omega), Option.bind_some, cat_ok (by simp; omega), Option.bind_some, cat_ok (by simp; omega), Option.bind_some, cat_ok (by simp; omega), Option.bind_some]
    simp
theorem right_r {a : AddressV} {F : Nat} (hl : a.local0.length ≤ 80000) (hd : a.domain.length ≤ 80000) (hF : 99010 < F) : ref14_Right F a = some (rightB a) := by
  unfold ref14_Right ref14_Right_p2 rightB
  cases hn : nullB a with
  | true => rw [nullB] at hn; rw [hn]; rfl
  | false =>
    have hn' := hn
    rw [nullB] at hn
    rw [hn]
    simp only [Bool.false_eq_true, if_false, Bool.false_or]
    rw [local_r (by omega), Option.bind_some]
    cases hlb : locB a.local0 with
    | false => rfl
    | true =>
      simp only [if_true, Bool.true_and]
      rw [dom_r2 hF, Option.bind_some]
      cases hdb : domB a.domain with
      | false => rfl
      | true =>
        simp only [if_true, Bool.true_and]
        rw [text_r hn' hl hd (by omega)]
        simp
        omega

end Go.Proofs.AddrS
