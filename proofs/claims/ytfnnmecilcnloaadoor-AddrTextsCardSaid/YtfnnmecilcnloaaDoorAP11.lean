import Derived.Test.YtfnnmecilcnloaaDoorAP12
import Derived.Test.YtfnnmecilcnloaaDoorASAddrTexts
set_option linter.unusedSimpArgs false
set_option linter.unusedVariables false
set_option linter.unusedSectionVars false
set_option linter.defProp false
set_option maxRecDepth 100000
namespace Go.Proofs.AddrS
open Go Go.Am Go.Proofs

/-! ### the document's path -/
theorem dom_p1r {s r : List UInt8} {n : Nat} (h : At s n r) : ref14_domain_p1 (n : Int) s = some (match r with | [] => false | c :: _ => isDom c) := by
  unfold ref14_domain_p1
  cases r with
  | nil => have := h.len; rw [if_neg (by simp at this ⊢; omega)]
  | cons c r =>
    obtain ⟨h1, h2, h3⟩ := drop_cons h.dr
    rw [if_pos (by simpa using h1), idx_get h2, Option.bind_some, letter_r, Option.bind_some, digit_r]
    simp only [isDom]
    cases isL c <;> cases isD c <;> simp
    by_cases h45 : c = 45
    · simp [h45]
    · by_cases h46 : c = 46
      · simp [h46]
      · by_cases h91 : c = 91
        · simp [h91]
        · simp [h45, h46, h91]
          by_cases h93 : c = 93
          · simp [h93]
          · simp [h45, h46, h91, h93]
theorem domain_loop {s : List UInt8} : ∀ (r : List UInt8) (n G : Nat), At s n r → r.length < G → iter (ref14_domain_l1 s) G (n : Int) = some (.inr ((n + (r.takeWhile isDom).length : Nat) : Int)) := by
  intro r
  induction r with
  | nil =>
    intro n G h hG
    obtain ⟨G, rfl⟩ := F_succ hG
    rw [iter_brk (t := (n : Int)) (by simp only [ref14_domain_l1]; rw [dom_p1r h]; rfl)]
    simp
  | cons c r ih =>
    intro n G h hG
    obtain ⟨G, rfl⟩ := F_succ hG
    have := h.len; have := h.sm
    by_cases hq : isDom c = true
    · rw [iter_nxt (s' := ((n + 1 : Nat) : Int)) (by simp only [ref14_domain_l1]; rw [dom_p1r h]; simp only [hq, Option.bind_some, if_true]; rw [wi (by omega)]), ih (n + 1) G h.next (by simp at hG; omega), List.takeWhile_cons, if_pos hq]
      simp only [List.length_cons]
      congr 3
      omega
    · rw [iter_brk (t := (n : Int)) (by simp only [ref14_domain_l1]; rw [dom_p1r h]; simp only [hq, Option.bind_some]; rfl), List.takeWhile_cons, if_neg hq]
      simp
theorem domain_r {s : List UInt8} {F : Nat} (hs : s.length ≤ 90000) (hF : s.length < F) : ref14_domain F s = some (((s.takeWhile isDom).length : Nat) : Int) := by
  unfold ref14_domain
  rw [show (0 : Int) = ((0 : Nat) : Int) from rfl, domain_loop s 0 F (At.zero hs) hF]
  simp
theorem shape_p {x : List UInt8} {F : Nat} (hx : x.length ≤ 90000) (hF : x.length < F) : ((ref14_shape_p3 x).bind fun t15 => if t15 = true then some (.ret false) else ((iter (ref14_shape_l1 x) F 0).bind fun o24 => match o24 with | .inr () => some (.nxt 0) | .inl r23 => some (.ret r23))) = (some (if labB x then .nxt 0 else .ret false) : Option (St Bool Unit Int)) := by
  unfold ref14_shape_p3 labB
  cases x with
  | nil => simp
  | cons c r =>
    obtain ⟨y, hy⟩ := last_ex c r
    rw [if_neg (by simp), show idx (c :: r) 0 = some c by simp [idx], Option.bind_some, idx_last hy (by omega), hy]
    by_cases h1 : c = 45
    · simp [h1]
    · by_cases h2 : y = 45
      · simp [h1, h2]
      · have hh := scan (s := c :: r) (body := ref14_shape_l1 (c :: r)) (mk := fun i => (i : Int)) (p := isW) (rr := fun _ => false) (tt := ()) ?_ ?_ ?_ hF
        · simp only [Option.bind_some, h1, h2, decide_false, Bool.false_eq_true, if_false]
          cases ha : (c :: r).all isW with
          | true => have := hh.1 ha; rw [show ((0 : Nat) : Int) = 0 from rfl] at this; rw [this]; simp [h1, h2]
          | false => obtain ⟨j, hj⟩ := hh.2 ha; rw [show ((0 : Nat) : Int) = 0 from rfl] at hj; rw [hj]; simp [h1, h2]
        · intro i z hz hp
          have hi := (List.getElem?_eq_some_iff.1 hz).1
          simp only [ref14_shape_l1, ref14_shape_p4]
          rw [if_pos (by simp at hi ⊢; omega), idx_get hz, Option.bind_some, letter_r, Option.bind_some, digit_r, Option.bind_some, wi (by omega)]
          simp only [isW] at hp
          cases h1 : isL z <;> cases h2 : isD z <;> simp [h1, h2] at hp ⊢
          exact hp
        · intro i z hz hp
          have hi := (List.getElem?_eq_some_iff.1 hz).1
          simp only [ref14_shape_l1, ref14_shape_p4]
          rw [if_pos (by simp at hi ⊢; omega), idx_get hz, Option.bind_some, letter_r, Option.bind_some, digit_r, Option.bind_some]
          simp only [isW] at hp
          cases h1 : isL z <;> cases h2 : isD z <;> simp [h1, h2] at hp ⊢
          exact hp
        · simp [ref14_shape_l1]
theorem shape_loop {F : Nat} {s : List UInt8} (hl : s.length ≤ 80000) (hFF : s.length + 10 < F) : ∀ (r cur : List UInt8) (a i G : Nat), (∀ c ∈ cur, c ≠ 46) → s.drop a = cur ++ r → a + cur.length = i → i + r.length = s.length → r.length + 1 < G →
    iter (ref14_shape_l2 F s) G ((a : Int), (i : Int)) = some (if (splitD (cur ++ r)).all labB then .inr () else .inl false) := by
  have htd : ∀ (cur r : List UInt8) (a i : Nat), s.drop a = cur ++ r → a + cur.length = i → (s.take i).drop a = cur := by
    intro cur r a i h hi
    rw [List.drop_take, h, ← hi, Nat.add_sub_cancel_left, List.take_left' rfl]
  have piece : ∀ (cur r : List UInt8) (a i : Nat), s.drop a = cur ++ r → a + cur.length = i → i ≤ s.length → ref14_shape_p2 (i : Int) s = some false → ref14_shape_l2 F s ((a : Int), (i : Int)) = if labB cur = true then some (.nxt (((i + 1 : Nat) : Int), ((i + 1 : Nat) : Int))) else some (.ret false) := by
    intro cur r a i h hi his hp2
    have hcl : cur.length ≤ s.length := by omega
    have hsp := shape_p (x := cur) (F := F) (by omega) (by omega)
    simp only [ref14_shape_l2]
    rw [if_pos (by simp; omega), hp2, Option.bind_some]
    simp only [Bool.false_eq_true, if_false]
    rw [sub_ok (by omega) his, htd cur r a i h hi, Option.bind_some, wi (by omega)]
    cases hp3 : ref14_shape_p3 cur with
    | none => rw [hp3] at hsp; cases hsp
    | some b =>
      rw [hp3] at hsp
      simp only [Option.bind_some] at hsp ⊢
      cases b with
      | true =>
        simp only [if_true] at hsp ⊢
        cases hlb : labB cur with
        | true => rw [hlb] at hsp; simp at hsp
        | false => simp
      | false =>
        simp only [Bool.false_eq_true, if_false] at hsp ⊢
        cases hit : iter (ref14_shape_l1 cur) F 0 with
        | none => rw [hit] at hsp; cases hsp
        | some o =>
          rw [hit] at hsp
          cases o with
          | inl b =>
            cases hlb : labB cur with
            | true => rw [hlb] at hsp; simp at hsp
            | false => rw [hlb] at hsp; simp at hsp ⊢; exact hsp
          | inr u =>
            cases hlb : labB cur with
            | true => simp
            | false => rw [hlb] at hsp; simp at hsp
  intro r
  induction r with
  | nil =>
    intro cur a i G hc hd ha hi hG
    obtain ⟨G, rfl⟩ := F_succ (show 0 < G by omega)
    obtain ⟨G, rfl⟩ := F_succ (show 0 < G by simp at hG; omega)
    have hie : i = s.length := by simpa using hi
    have hst := piece cur [] a i hd ha (by omega) (by unfold ref14_shape_p2; rw [if_neg (by simp; omega)])
    rw [List.append_nil, splitD_one hc]
    cases hx : labB cur with
    | false => rw [hx] at hst; rw [iter_ret (by rw [hst]; rfl)]; simp [hx]
    | true =>
      rw [hx] at hst
      rw [iter_nxt (by rw [hst]; rfl), iter_brk (t := ()) (by simp only [ref14_shape_l2]; rw [if_neg (by simp; omega)])]
      simp [hx]
  | cons c r ih =>
    intro cur a i G hc hd ha hi hG
    obtain ⟨G, rfl⟩ := F_succ (show 0 < G by omega)
    simp only [List.length_cons] at hi hG
    have hci : s[i]? = some c := by
      have : (s.drop a)[cur.length]? = some c := by rw [hd]; simp
      rw [List.getElem?_drop, ha] at this; exact this
    have hp2 : ref14_shape_p2 (i : Int) s = some (!decide (c = 46)) := by unfold ref14_shape_p2; rw [if_pos (by simp; omega), idx_get hci]; rfl
    by_cases hd46 : c = 46
    · subst hd46
      have hst := piece cur _ a i hd ha (by omega) (by rw [hp2]; simp)
      rw [splitD_app hc]
      cases hx : labB cur with
      | false => rw [hx] at hst; rw [iter_ret (by rw [hst]; rfl)]; simp [hx]
      | true =>
        rw [hx] at hst
        rw [iter_nxt (by rw [hst]; rfl)]
        have hd' : s.drop (i + 1) = r := by
          have : (s.drop a).drop (cur.length + 1) = r := by rw [hd, List.drop_append]; simp
          rw [List.drop_drop] at this
          rw [← this]; congr 1; omega
        have := ih [] (i + 1) (i + 1) G (by simp) (by simpa using hd') (by simp) (by omega) (by omega)
        rw [List.nil_append] at this
        rw [this]
        simp [hx]
    · have hst : ref14_shape_l2 F s ((a : Int), (i : Int)) = some (.nxt ((a : Int), ((i + 1 : Nat) : Int))) := by
        simp only [ref14_shape_l2]
        rw [if_pos (by simp; omega), hp2, Option.bind_some]
        simp only [hd46, decide_false, Bool.not_false, if_true]
        rw [wi (by omega)]
      rw [iter_nxt hst]
      have := ih (cur ++ [c]) a (i + 1) G (by intro y hy; rcases List.mem_append.1 hy with h | h; exact hc y h; simp at h; subst h; exact hd46) (by rw [hd]; simp) (by simp; omega) (by omega) (by omega)
      rw [this]
      simp
theorem shape_dom {s : List UInt8} (hi : inB s = true) (h : shapeB s = true) : domB s = true := by
  have hf := in_form hi
  unfold domB
  rw [h]
  unfold shapeB at h
  rw [if_pos hi] at h
  simp only [Bool.and_eq_true, decide_eq_true_eq] at h
  have hsum := four h.1 fun p hp => (num_facts (List.all_eq_true.1 h.2 p hp)).1
  have htot := splitD_sum (inner s)
  have hlen : s.length = (inner s).length + 2 := by rw [hf]; simp [inner]
  have h63 : ((splitD s).all fun p => decide (p.length ≤ 63)) = true := by
    rw [List.all_eq_true]
    intro p hp
    have := splitD_len _ p hp
    simp only [decide_eq_true_eq]; omega
  rw [h63, decide_eq_true (by omega)]
  rfl
theorem shape_r {s : List UInt8} {F : Nat} (hl : s.length ≤ 80000) (hF : 99010 < F) : ref14_shape F s = some (shapeB s) := by
  unfold ref14_shape
  rw [dom_r2 hF, Option.bind_some]
  cases hd : domB s with
  | true =>
    simp only [domB, Bool.and_eq_true] at hd
    rw [hd.1.2]; rfl
  | false =>
    simp only [Bool.false_eq_true, if_false]
    cases s with
    | nil => simp [ref14_shape_p1, shapeB, inB, splitD, labB]
    | cons c r =>
      unfold ref14_shape_p1
      rw [if_neg (by simp), show idx (c :: r) 0 = some c by simp [idx]]
      simp only [Option.bind_some]
      by_cases hc : c = 91
      · subst hc
        simp only [decide_true, if_true]
        cases hs : shapeB (91 :: r) with
        | false => rfl
        | true =>
          by_cases hi : inB (91 :: r) = true
          · rw [shape_dom hi hs] at hd; cases hd
          · unfold shapeB at hs
            rw [if_neg hi, first_bad] at hs; cases hs
      · rw [if_neg (by simpa using hc), show ((0 : Int), (0 : Int)) = (((0 : Nat) : Int), ((0 : Nat) : Int)) from rfl, shape_loop hl (by omega) (c :: r) [] 0 0 F (by simp) (by simp) (by simp) (by simp) (by omega)]
        have hin : inB (c :: r) = false := inB_no (by simpa using hc)
        unfold shapeB
        rw [hin, List.nil_append]
        cases (splitD (c :: r)).all labB <;> rfl
end Go.Proofs.AddrS
