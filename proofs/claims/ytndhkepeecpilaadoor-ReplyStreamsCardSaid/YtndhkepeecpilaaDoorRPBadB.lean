import Derived.Test.YtndhkepeecpilaaDoorRPBad
set_option linter.unusedSimpArgs false
set_option linter.unusedVariables false
set_option linter.unusedSectionVars false
set_option linter.defProp false
namespace Go.Proofs.ReplyS
open Go Go.Am Go.Proofs

theorem few_ok {F : Nat} {r : ReplyV} (hF : 100 < F) : ∃ b, law16_Few F r = some b ∧ (b = true → r.lines.length ≤ 40 ∧ ∀ l ∈ r.lines, l.length ≤ 700) := by
  by_cases h : 40 < (r.lines.length : Int)
  · exact ⟨false, by simp [law16_Few, h], by simp⟩
  have key : ∀ (q : List (List UInt8)) (i G : Nat) (t : Bool), r.lines.drop i = q → i ≤ r.lines.length → q.length < G → ∃ o, iter (law16_Few_l1 r) G (t, (i : Int)) = some o ∧ ((o = .inl false) ∨ (o = .inr () ∧ ∀ l ∈ q, l.length ≤ 700)) := by
    intro q
    induction q with
    | nil =>
      intro i G t hd hi hG
      obtain ⟨G, rfl⟩ := F_succ hG
      have := drop_nil_ge hd
      have hn : ¬ (i : Int) < r.lines.length := by omega
      exact ⟨_, iter_brk (t := ()) (by simp [law16_Few_l1, hn]), .inr ⟨rfl, by simp⟩⟩
    | cons c q ih =>
      intro i G t hd hi hG
      obtain ⟨G, rfl⟩ := F_succ hG
      obtain ⟨g1, g2, g3⟩ := drop_cons hd
      have hlt : (i : Int) < r.lines.length := by omega
      have hw : IntKind.wrap .i64 ((i : Int) + 1) = ((i + 1 : Nat) : Int) := by rw [wr (by omega) (by omega)]; rfl
      by_cases hc : 700 < (c.length : Int)
      · exact ⟨_, iter_ret (r := false) (by simp [law16_Few_l1, hlt, idx_get g2, hc]), .inl rfl⟩
      · obtain ⟨o, ho, hp⟩ := ih (i + 1) G t g3 (by omega) (by simp at hG; omega)
        refine ⟨o, ?_, ?_⟩
        · rw [iter_nxt (s' := (t, ((i + 1 : Nat) : Int))) (by simp [law16_Few_l1, hlt, idx_get g2, hc, hw])]; exact ho
        · rcases hp with hp | ⟨hp, hq⟩
          · exact .inl hp
          · refine .inr ⟨hp, ?_⟩
            intro l hl; simp at hl; rcases hl with rfl | hl
            · omega
            · exact hq l hl
  obtain ⟨o, ho, hp⟩ := key r.lines 0 F false rfl (Nat.zero_le _) (by omega)
  rw [show ((0 : Nat) : Int) = 0 from rfl] at ho
  rcases hp with rfl | ⟨rfl, hq⟩
  · exact ⟨false, by simp [law16_Few, h, ho], by simp⟩
  · exact ⟨true, by simp [law16_Few, h, ho], fun _ => ⟨by omega, hq⟩⟩
theorem index_ok {F : Nat} {s : List (List UInt8)} (hF : 1000 < F) (hs : s.length ≤ 40) (hl : ∀ l ∈ s, l.length ≤ 700) : ∃ k, slices_IndexFunc_s F s = some k ∧ (k < 0 → ∀ l ∈ s, textOk l = true) := by
  have key : ∀ (q : List (List UInt8)) (i G : Nat) (t : Int), s.drop i = q → i ≤ s.length → q.length < G → (∀ l ∈ q, l.length ≤ 700) → ∃ o, iter (slices_IndexFunc_s_l1 F s) G (t, (i : Int)) = some o ∧ ((∃ k : Nat, o = .inl (k : Int)) ∨ (o = .inr () ∧ ∀ l ∈ q, textOk l = true)) := by
    intro q
    induction q with
    | nil =>
      intro i G t hd hi hG _
      obtain ⟨G, rfl⟩ := F_succ hG
      have := drop_nil_ge hd
      have hn : ¬ (i : Int) < s.length := by omega
      exact ⟨_, iter_brk (t := ()) (by simp [slices_IndexFunc_s_l1, hn]), .inr ⟨rfl, by simp⟩⟩
    | cons c q ih =>
      intro i G t hd hi hG hq
      obtain ⟨G, rfl⟩ := F_succ hG
      obtain ⟨g1, g2, g3⟩ := drop_cons hd
      have hlt : (i : Int) < s.length := by omega
      have hw : IntKind.wrap .i64 ((i : Int) + 1) = ((i + 1 : Nat) : Int) := by rw [wr (by omega) (by omega)]; rfl
      have hcl := hq c (by simp)
      have ht := text_eq (F := F) (s := c) (by omega) (by omega)
      by_cases hc : textOk c = true
      · obtain ⟨o, ho, hp⟩ := ih (i + 1) G t g3 (by omega) (by simp at hG; omega) (fun l hl => hq l (by simp [hl]))
        refine ⟨o, ?_, ?_⟩
        · rw [iter_nxt (s' := (t, ((i + 1 : Nat) : Int))) (by simp [slices_IndexFunc_s_l1, reply_Right_1, hlt, idx_get g2, ht, hc, hw])]; exact ho
        · rcases hp with hp | ⟨hp, hz⟩
          · exact .inl hp
          · refine .inr ⟨hp, ?_⟩
            intro l hl; simp at hl; rcases hl with rfl | hl
            · exact hc
            · exact hz l hl
      · exact ⟨_, iter_ret (r := (i : Int)) (by simp [slices_IndexFunc_s_l1, reply_Right_1, hlt, idx_get g2, ht, hc]), .inl ⟨i, rfl⟩⟩
  obtain ⟨o, ho, hp⟩ := key s 0 F 0 rfl (Nat.zero_le _) (by omega) hl
  rw [show ((0 : Nat) : Int) = 0 from rfl] at ho
  rcases hp with ⟨k, rfl⟩ | ⟨rfl, hq⟩
  · exact ⟨(k : Int), by simp [slices_IndexFunc_s, ho], by intro h; omega⟩
  · exact ⟨-1, by simp [slices_IndexFunc_s, ho], fun _ => hq⟩
theorem right_ok {F : Nat} {r : ReplyV} (hF : 1000 < F) (hs : r.lines.length ≤ 40) (hl : ∀ l ∈ r.lines, l.length ≤ 700) : ∃ b, reply_Right F r = some b ∧ (b = true → RightOk r) := by
  obtain ⟨k, hk, hp⟩ := index_ok hF hs hl
  unfold reply_Right reply_Right_p1 slices_ContainsFunc_s
  rw [hk]
  by_cases hc : 200 ≤ r.code ∧ r.code ≤ 599
  · obtain ⟨c1, c2⟩ := class_eq hc.1 hc.2
    rw [c1]
    by_cases hl1 : 1 ≤ (r.lines.length : Int)
    · by_cases hl2 : (r.lines.length : Int) ≤ 20
      · by_cases hk0 : k < 0
        · by_cases h0 : 0 < r.code.tdiv 100
          · exact ⟨true, by simp [hl1, hl2, h0]; omega, fun _ => ⟨hc.1, hc.2, by omega, by omega, hp hk0⟩⟩
          · exact ⟨false, by simp [h0], by simp⟩
        · by_cases h0 : 0 < r.code.tdiv 100
          · exact ⟨false, by simp [hl1, hl2, h0]; omega, by simp⟩
          · exact ⟨false, by simp [h0], by simp⟩
      · exact ⟨false, by simp [hl2], by simp⟩
    · exact ⟨false, by simp [hl1], by simp⟩
  · have : reply_Class r.code = some 0 := by
      unfold reply_Class
      have h : ((decide (r.code < 200)) || (decide (599 < r.code))) = true := by simp only [Bool.or_eq_true, decide_eq_true_eq]; omega
      rw [if_pos h]
    rw [this]
    exact ⟨false, by simp, by simp⟩
theorem print_eq {F : Nat} {r : ReplyV} (hF : 1000 < F) (hr : reply_Right F r = some true) (h : RightOk r) : reply_Print F r = some (txt r) := by
  obtain ⟨n, x, y, z, hn, -, -, -, -, g1, g2, e⟩ := code_dig h.h1 h.h2
  have h4 := h.h4
  have hi : strconv_Itoa r.code = some [dg x, dg y, dg z] := by
    unfold strconv_Itoa; rw [if_pos (by have := h.h1; have := h.h2; omega), e]
  have key : ∀ (q : List (List UInt8)) (i G : Nat) (out : List UInt8), r.lines.drop i = q → i ≤ r.lines.length → q.length < G → (∀ l ∈ q, l.length ≤ 480) → out.length + 1000 * q.length ≤ 1000000 →
      iter (reply_Print_l1 r) G (out, (i : Int)) = some (.inr (out ++ ptext [dg x, dg y, dg z] q)) := by
    intro q
    induction q with
    | nil =>
      intro i G out hd hi' hG _ _
      obtain ⟨G, rfl⟩ := F_succ hG
      have := drop_nil_ge hd
      have hn : ¬ (i : Int) < r.lines.length := by omega
      exact iter_brk (by simp [reply_Print_l1, hn, ptext])
    | cons c q ih =>
      intro i G out hd hi' hG hq ho
      obtain ⟨G, rfl⟩ := F_succ hG
      obtain ⟨q1, q2, q3⟩ := drop_cons hd
      have hlt : (i : Int) < r.lines.length := by omega
      have hw : IntKind.wrap .i64 ((i : Int) + 1) = ((i + 1 : Nat) : Int) := by rw [wr (by omega) (by omega)]; rfl
      have hw2 : IntKind.wrap .i64 ((r.lines.length : Int) - 1) = (r.lines.length : Int) - 1 := wr (by omega) (by omega)
      have hc := hq c (by simp)
      have hlen : (r.lines.drop (i + 1)).length = r.lines.length - (i + 1) := List.length_drop
      rw [q3] at hlen
      simp only [List.length_cons] at ho
      have step : ∀ mark : List UInt8, mark.length = 1 → reply_Print_p1 (i : Int) r = some mark → iter (reply_Print_l1 r) (G + 1) (out, (i : Int)) = some (.inr (out ++ ([dg x, dg y, dg z] ++ mark ++ c ++ [13, 10]) ++ ptext [dg x, dg y, dg z] q)) := by
        intro mark hm hp
        have c1 : cat [dg x, dg y, dg z] mark = some ([dg x, dg y, dg z] ++ mark) := cat_ok (by simp; omega)
        have c2 : cat ([dg x, dg y, dg z] ++ mark) c = some ([dg x, dg y, dg z] ++ mark ++ c) := cat_ok (by simp; omega)
        have c3 : cat ([dg x, dg y, dg z] ++ mark ++ c) [13, 10] = some ([dg x, dg y, dg z] ++ mark ++ c ++ [13, 10]) := cat_ok (by simp; omega)
        have c4 : capp 1 out ([dg x, dg y, dg z] ++ mark ++ c ++ [13, 10]) = some (out ++ ([dg x, dg y, dg z] ++ mark ++ c ++ [13, 10])) := capp_ok (by simp; omega) (by omega)
        rw [iter_nxt (s' := (out ++ ([dg x, dg y, dg z] ++ mark ++ c ++ [13, 10]), ((i + 1 : Nat) : Int))) (by simp only [reply_Print_l1, hlt, decide_true, if_true, idx_get q2, Option.bind_some, hp, hi, c1, c2, c3, c4, hw])]
        exact ih (i + 1) G _ q3 (by omega) (by simp at hG; omega) (fun l hl => hq l (by simp [hl])) (by simp; omega)
      cases q with
      | nil =>
        simp only [List.length_nil] at hlen
        have he : (i : Int) = (r.lines.length : Int) - 1 := by omega
        rw [step [32] rfl (by unfold reply_Print_p1; rw [hw2, if_pos (by simpa using he)])]
        simp [ptext]
      | cons m q =>
        simp only [List.length_cons] at hlen
        have he : ¬ (i : Int) = (r.lines.length : Int) - 1 := by omega
        rw [step [45] rfl (by unfold reply_Print_p1; rw [hw2, if_neg (by simpa using he)])]
        simp [ptext]
  have := key r.lines 0 F [] rfl (Nat.zero_le _) (by omega) (fun l hl => text_len (h.h5 l hl)) (by simp; omega)
  rw [show ((0 : Nat) : Int) = 0 from rfl, List.nil_append] at this
  unfold reply_Print
  rw [hr, Option.bind_some]
  simp only [Bool.not_true, Bool.false_eq_true, if_false, this, Option.bind_some]
  unfold txt; rw [e]
end Go.Proofs.ReplyS
