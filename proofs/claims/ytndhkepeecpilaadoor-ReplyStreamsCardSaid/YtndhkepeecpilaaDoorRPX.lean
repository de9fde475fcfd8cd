import Derived.Test.YtndhkepeecpilaaDoorRPBadB
set_option linter.unusedSimpArgs false
set_option linter.unusedVariables false
set_option linter.unusedSectionVars false
set_option linter.defProp false
namespace Go.Proofs.ReplyS
open Go Go.Am Go.Proofs

/-! ### Few, Right, Same: what they are -/
def fewB (r : ReplyV) : Bool := decide (r.lines.length ≤ 40) && r.lines.all fun l => decide (l.length ≤ 700)
def rightB (r : ReplyV) : Bool := decide (200 ≤ r.code) && decide (r.code ≤ 599) && decide (1 ≤ r.lines.length) && decide (r.lines.length ≤ 20) && r.lines.all textOk
theorem rightB_iff {r : ReplyV} : rightB r = true ↔ RightOk r := by
  unfold rightB
  simp only [Bool.and_eq_true, decide_eq_true_eq, List.all_eq_true]
  exact ⟨fun ⟨⟨⟨⟨a, b⟩, c⟩, d⟩, e⟩ => ⟨a, b, c, d, e⟩, fun ⟨a, b, c, d, e⟩ => ⟨⟨⟨⟨a, b⟩, c⟩, d⟩, e⟩⟩
theorem fewB_get {r : ReplyV} (h : fewB r = true) : r.lines.length ≤ 40 ∧ ∀ l ∈ r.lines, l.length ≤ 700 := by
  unfold fewB at h
  simp only [Bool.and_eq_true, decide_eq_true_eq, List.all_eq_true] at h
  exact h
theorem few_eq {F : Nat} {r : ReplyV} (hF : 100 < F) : law16_Few F r = some (fewB r) := by
  unfold law16_Few fewB
  by_cases h : 40 < (r.lines.length : Int)
  · have : ¬ r.lines.length ≤ 40 := by omega
    simp [h, this]
  have key : ∀ (q : List (List UInt8)) (i G : Nat) (t : Bool), r.lines.drop i = q → i ≤ r.lines.length → q.length < G →
      iter (law16_Few_l1 r) G (t, (i : Int)) = some (if (q.all fun l => decide (l.length ≤ 700)) then .inr () else .inl false) := by
    intro q
    induction q with
    | nil =>
      intro i G t hd hi hG
      obtain ⟨G, rfl⟩ := F_succ hG
      have := drop_nil_ge hd
      have hn : ¬ (i : Int) < r.lines.length := by omega
      exact iter_brk (by simp [law16_Few_l1, hn])
    | cons c q ih =>
      intro i G t hd hi hG
      obtain ⟨G, rfl⟩ := F_succ hG
      obtain ⟨g1, g2, g3⟩ := drop_cons hd
      have hlt : (i : Int) < r.lines.length := by omega
      have hw : IntKind.wrap .i64 ((i : Int) + 1) = ((i + 1 : Nat) : Int) := by rw [wr (by omega) (by omega)]; rfl
      by_cases hc : 700 < (c.length : Int)
      · have : ¬ c.length ≤ 700 := by omega
        rw [iter_ret (r := false) (by simp [law16_Few_l1, hlt, idx_get g2, hc])]
        simp [this]
      · have h7 : c.length ≤ 700 := by omega
        rw [iter_nxt (s' := (t, ((i + 1 : Nat) : Int))) (by simp [law16_Few_l1, hlt, idx_get g2, hc, hw]), ih (i + 1) G t g3 (by omega) (by simp at hG; omega)]
        simp [h7]
  have hk := key r.lines 0 F false rfl (Nat.zero_le _) (by omega)
  rw [show ((0 : Nat) : Int) = 0 from rfl] at hk
  have h40 : r.lines.length ≤ 40 := by omega
  simp only [h, decide_false, Bool.false_eq_true, if_false, hk, Option.bind_some, h40, decide_true, Bool.true_and]
  cases hb : (r.lines.all fun l => decide (l.length ≤ 700)) <;> simp
theorem rtext_eq {F : Nat} {s : List UInt8} (hb : s.length ≤ 1000000) (hF : s.length < F) : ref16_text F s = some (textOk s) := by
  have h1 : ref16_text_l1 s = reply_text_l1 s := rfl
  have := text_loop (s := s) (by omega) s 0 F rfl (Nat.zero_le _) hF
  rw [show ((0 : Nat) : Int) = 0 from rfl] at this
  unfold ref16_text textOk
  rw [h1, this]
  by_cases hl : 480 < (s.length : Int)
  · have : ¬ s.length ≤ 480 := by omega
    simp [hl, this]
  · have h2 : s.length ≤ 480 := by omega
    simp only [hl, h2, decide_false, decide_true, Bool.false_eq_true, if_false, Bool.and_true, Option.bind_some]
    by_cases h : s.all prn = true
    · simp [h]
    · simp [h]
theorem indexf_eq {F : Nat} {s : List (List UInt8)} (hF : 1000 < F) (hs : s.length ≤ 40) (hl : ∀ l ∈ s, l.length ≤ 700) : ∃ k, slices_IndexFunc_s F s = some k ∧ (k < 0 ↔ s.all textOk = true) := by
  have key : ∀ (q : List (List UInt8)) (i G : Nat) (t : Int), s.drop i = q → i ≤ s.length → q.length < G → (∀ l ∈ q, l.length ≤ 700) →
      ∃ o, iter (slices_IndexFunc_s_l1 F s) G (t, (i : Int)) = some o ∧ ((q.all textOk = false ∧ ∃ k : Nat, o = .inl (k : Int)) ∨ (q.all textOk = true ∧ o = .inr ())) := by
    intro q
    induction q with
    | nil =>
      intro i G t hd hi hG _
      obtain ⟨G, rfl⟩ := F_succ hG
      have := drop_nil_ge hd
      have hn : ¬ (i : Int) < s.length := by omega
      exact ⟨_, iter_brk (t := ()) (by simp [slices_IndexFunc_s_l1, hn]), .inr ⟨rfl, rfl⟩⟩
    | cons c q ih =>
      intro i G t hd hi hG hq
      obtain ⟨G, rfl⟩ := F_succ hG
      obtain ⟨g1, g2, g3⟩ := drop_cons hd
      have hlt : (i : Int) < s.length := by omega
      have hw : IntKind.wrap .i64 ((i : Int) + 1) = ((i + 1 : Nat) : Int) := by rw [wr (by omega) (by omega)]; rfl
      have hcl := hq c (by simp)
      have ht := text_eq (F := F) (s := c) (by omega) (by omega)
      by_cases hc : textOk c = true
      · obtain ⟨o, ho, hp⟩ := ih (i + 1) G t g3 (by omega) (by simp at hG; omega) (fun l hl => hq l (by simp [hl]))
        refine ⟨o, ?_, by simpa [hc] using hp⟩
        rw [iter_nxt (s' := (t, ((i + 1 : Nat) : Int))) (by simp [slices_IndexFunc_s_l1, reply_Right_1, hlt, idx_get g2, ht, hc, hw])]; exact ho
      · exact ⟨_, iter_ret (r := (i : Int)) (by simp [slices_IndexFunc_s_l1, reply_Right_1, hlt, idx_get g2, ht, hc]), .inl ⟨by simp [hc], i, rfl⟩⟩
  obtain ⟨o, ho, hp⟩ := key s 0 F 0 rfl (Nat.zero_le _) (by omega) hl
  rw [show ((0 : Nat) : Int) = 0 from rfl] at ho
  rcases hp with ⟨h1, k, rfl⟩ | ⟨h1, rfl⟩
  · exact ⟨(k : Int), by simp [slices_IndexFunc_s, ho], by rw [h1]; simp⟩
  · exact ⟨-1, by simp [slices_IndexFunc_s, ho], by simp [h1]⟩
theorem right_eq {F : Nat} {r : ReplyV} (hF : 1000 < F) (hf : fewB r = true) : reply_Right F r = some (rightB r) := by
  obtain ⟨hs, hl⟩ := fewB_get hf
  obtain ⟨k, hk, hp⟩ := indexf_eq hF hs hl
  unfold reply_Right reply_Right_p1 slices_ContainsFunc_s rightB
  rw [hk]
  by_cases hc : 200 ≤ r.code ∧ r.code ≤ 599
  · obtain ⟨c1, c2⟩ := class_eq hc.1 hc.2
    have h0 : 0 < r.code.tdiv 100 := by
      have h5 : r.code.tdiv 100 = r.code / 100 := Int.tdiv_eq_ediv_of_nonneg (by omega)
      omega
    rw [c1]
    by_cases hl1 : 1 ≤ r.lines.length
    · by_cases hl2 : r.lines.length ≤ 20
      · by_cases hk0 : k < 0
        · have := hp.1 hk0
          have hk1 : ¬ 0 ≤ k := by omega
          simp [h0, hc.1, hc.2, hl1, hl2, hk0, this, show (1 : Int) ≤ (r.lines.length : Int) by omega, show (r.lines.length : Int) ≤ 20 by omega, hk1]
        · have : ¬ r.lines.all textOk = true := fun q => hk0 (hp.2 q)
          have hk1 : 0 ≤ k := by omega
          simp [h0, hc.1, hc.2, hl1, hl2, this, show (1 : Int) ≤ (r.lines.length : Int) by omega, show (r.lines.length : Int) ≤ 20 by omega, hk1]
      · simp [h0, hc.1, hc.2, hl1, hl2, show (1 : Int) ≤ (r.lines.length : Int) by omega, show ¬ (r.lines.length : Int) ≤ 20 by omega]
    · simp [h0, hc.1, hc.2, hl1, show ¬ (1 : Int) ≤ (r.lines.length : Int) by omega]
  · have : reply_Class r.code = some 0 := by
      unfold reply_Class
      have h : ((decide (r.code < 200)) || (decide (599 < r.code))) = true := by simp only [Bool.or_eq_true, decide_eq_true_eq]; omega
      rw [if_pos h]
    rw [this]
    have h2 : (decide (200 ≤ r.code) && decide (r.code ≤ 599)) = false := by
      rw [Bool.and_eq_false_iff, decide_eq_false_iff_not, decide_eq_false_iff_not]; omega
    simp [h2]
theorem rright_eq {F : Nat} {r : ReplyV} (hF : 1000 < F) (hf : fewB r = true) : ref16_Right F r = some (rightB r) := by
  obtain ⟨hs, hl⟩ := fewB_get hf
  have key : ∀ (q : List (List UInt8)) (i G : Nat), r.lines.drop i = q → i ≤ r.lines.length → q.length < G → (∀ l ∈ q, l.length ≤ 700) →
      iter (ref16_Right_l1 F r) G (i : Int) = some (if q.all textOk then .inr () else .inl false) := by
    intro q
    induction q with
    | nil =>
      intro i G hd hi hG _
      obtain ⟨G, rfl⟩ := F_succ hG
      have := drop_nil_ge hd
      have hn : ¬ (i : Int) < r.lines.length := by omega
      exact iter_brk (by simp [ref16_Right_l1, hn])
    | cons c q ih =>
      intro i G hd hi hG hq
      obtain ⟨G, rfl⟩ := F_succ hG
      obtain ⟨g1, g2, g3⟩ := drop_cons hd
      have hlt : (i : Int) < r.lines.length := by omega
      have hw : IntKind.wrap .i64 ((i : Int) + 1) = ((i + 1 : Nat) : Int) := by rw [wr (by omega) (by omega)]; rfl
      have hcl := hq c (by simp)
      have ht := rtext_eq (F := F) (s := c) (by omega) (by omega)
      by_cases hc : textOk c = true
      · rw [iter_nxt (s' := ((i + 1 : Nat) : Int)) (by simp [ref16_Right_l1, hlt, idx_get g2, ht, hc, hw]), ih (i + 1) G g3 (by omega) (by simp at hG; omega) (fun l hl => hq l (by simp [hl]))]
        simp [hc]
      · rw [iter_ret (r := false) (by simp [ref16_Right_l1, hlt, idx_get g2, ht, hc])]
        simp [hc]
  have hk := key r.lines 0 F rfl (Nat.zero_le _) (by omega) hl
  rw [show ((0 : Nat) : Int) = 0 from rfl] at hk
  unfold ref16_Right rightB
  by_cases hc : 200 ≤ r.code ∧ r.code ≤ 599 ∧ 1 ≤ r.lines.length ∧ r.lines.length ≤ 20
  · obtain ⟨c1, c2, c3, c4⟩ := hc
    have e1 : ((((decide (r.code < 200)) || (decide (599 < r.code))) || (decide ((r.lines.length : Int) < 1))) || (decide (20 < (r.lines.length : Int)))) = false := by
      simp only [Bool.or_eq_false_iff, decide_eq_false_iff_not]; omega
    rw [e1]
    simp only [Bool.false_eq_true, if_false, hk, Option.bind_some, c1, c2, c3, c4, decide_true, Bool.true_and]
    cases hb : r.lines.all textOk <;> simp
  · have e1 : ((((decide (r.code < 200)) || (decide (599 < r.code))) || (decide ((r.lines.length : Int) < 1))) || (decide (20 < (r.lines.length : Int)))) = true := by
      simp only [Bool.or_eq_true, decide_eq_true_eq]; omega
    have e2 : (decide (200 ≤ r.code) && decide (r.code ≤ 599) && decide (1 ≤ r.lines.length) && decide (r.lines.length ≤ 20)) = false := by
      simp only [Bool.and_eq_false_iff, decide_eq_false_iff_not]; omega
    rw [e1, e2]; simp
theorem same_eq {F : Nat} {a b : ReplyV} (hF : 1000 < F) (ha : a.lines.length ≤ 40) : reply_Same F a b = some (decide (a = b)) := by
  have key : ∀ (p q : List (List UInt8)) (i G : Nat) (t : Bool), a.lines.drop i = p → b.lines.drop i = q → p.length = q.length → i ≤ a.lines.length → p.length < G →
      iter (slices_Equal_l1 a.lines b.lines) G (t, (i : Int)) = some (if p = q then .inr () else .inl false) := by
    intro p
    induction p with
    | nil =>
      intro q i G t hd hd2 hl hi hG
      obtain ⟨G, rfl⟩ := F_succ hG
      have := drop_nil_ge hd
      have hn : ¬ (i : Int) < a.lines.length := by omega
      cases q with
      | nil => exact iter_brk (by simp [slices_Equal_l1, hn])
      | cons => simp at hl
    | cons c p ih =>
      intro q i G t hd hd2 hl hi hG
      obtain ⟨G, rfl⟩ := F_succ hG
      cases q with
      | nil => simp at hl
      | cons d q =>
        obtain ⟨g1, g2, g3⟩ := drop_cons hd
        obtain ⟨k1, k2, k3⟩ := drop_cons hd2
        have hlt : (i : Int) < a.lines.length := by omega
        have hw : IntKind.wrap .i64 ((i : Int) + 1) = ((i + 1 : Nat) : Int) := by rw [wr (by omega) (by omega)]; rfl
        by_cases hc : c = d
        · rw [iter_nxt (s' := (t, ((i + 1 : Nat) : Int))) (by simp [slices_Equal_l1, hlt, idx_get g2, idx_get k2, hc, hw]), ih q (i + 1) G t g3 k3 (by simpa using hl) (by omega) (by simp at hG; omega)]
          simp [hc]
        · rw [iter_ret (r := false) (by simp [slices_Equal_l1, hlt, idx_get g2, idx_get k2, hc])]
          simp [hc]
  unfold reply_Same reply_Same_p1 slices_Equal
  obtain ⟨ca, la⟩ := a
  obtain ⟨cb, lb⟩ := b
  simp only at key ha ⊢
  by_cases h1 : ca = cb
  · subst h1
    by_cases h2 : la.length = lb.length
    · have hk := key la lb 0 F false rfl rfl h2 (Nat.zero_le _) (by omega)
      rw [show ((0 : Nat) : Int) = 0 from rfl] at hk
      have h3 : (la.length : Int) = (lb.length : Int) := by omega
      simp only [h3, decide_true, Bool.not_true, Bool.false_eq_true, if_false, if_true, hk, Option.bind_some]
      by_cases h : la = lb
      · simp [h]
      · simp [h]
    · have h3 : ¬ (la.length : Int) = (lb.length : Int) := by omega
      have h4 : la ≠ lb := fun e => h2 (by rw [e])
      simp [h3, h4]
  · simp [h1]
theorem rsame_eq {F : Nat} {a b : ReplyV} (hF : 1000 < F) (ha : a.lines.length ≤ 40) : ref16_Same F a b = some (decide (a = b)) := by
  have key : ∀ (p q : List (List UInt8)) (i G : Nat), a.lines.drop i = p → b.lines.drop i = q → p.length = q.length → i ≤ a.lines.length → p.length < G →
      iter (ref16_Same_l1 a b) G (i : Int) = some (if p = q then .inr () else .inl false) := by
    intro p
    induction p with
    | nil =>
      intro q i G hd hd2 hl hi hG
      obtain ⟨G, rfl⟩ := F_succ hG
      have := drop_nil_ge hd
      have hn : ¬ (i : Int) < a.lines.length := by omega
      cases q with
      | nil => exact iter_brk (by simp [ref16_Same_l1, hn])
      | cons => simp at hl
    | cons c p ih =>
      intro q i G hd hd2 hl hi hG
      obtain ⟨G, rfl⟩ := F_succ hG
      cases q with
      | nil => simp at hl
      | cons d q =>
        obtain ⟨g1, g2, g3⟩ := drop_cons hd
        obtain ⟨k1, k2, k3⟩ := drop_cons hd2
        have hlt : (i : Int) < a.lines.length := by omega
        have hw : IntKind.wrap .i64 ((i : Int) + 1) = ((i + 1 : Nat) : Int) := by rw [wr (by omega) (by omega)]; rfl
        by_cases hc : c = d
        · rw [iter_nxt (s' := ((i + 1 : Nat) : Int)) (by simp [ref16_Same_l1, hlt, idx_get g2, idx_get k2, hc, hw]), ih q (i + 1) G g3 k3 (by simpa using hl) (by omega) (by simp at hG; omega)]
          simp [hc]
        · rw [iter_ret (r := false) (by simp [ref16_Same_l1, hlt, idx_get g2, idx_get k2, hc])]
          simp [hc]
  unfold ref16_Same
  obtain ⟨ca, la⟩ := a
  obtain ⟨cb, lb⟩ := b
  simp only at key ha ⊢
  by_cases h1 : ca = cb
  · subst h1
    by_cases h2 : la.length = lb.length
    · have hk := key la lb 0 F rfl rfl h2 (Nat.zero_le _) (by omega)
      rw [show ((0 : Nat) : Int) = 0 from rfl] at hk
      have h3 : (la.length : Int) = (lb.length : Int) := by omega
      simp only [h3, decide_true, Bool.not_true, Bool.or_self, Bool.false_eq_true, if_false, hk, Option.bind_some]
      by_cases h : la = lb
      · simp [h]
      · simp [h]
    · have h3 : ¬ (la.length : Int) = (lb.length : Int) := by omega
      have h4 : la ≠ lb := fun e => h2 (by rw [e])
      simp [h3, h4]
  · simp [h1]
theorem parse_txt {F : Nat} {r : ReplyV} (hF : 100000 < F) (h : RightOk r) : reply_Parse F (txt r) = some (r, 0) := by
  have h0 := txt_len h
  have h4 := h.h4
  refine parse_one ?_
  have hf := feed_all (F := F) (b' := []) [r] [] (F - r.lines.length) (fun q hq => by simp at hq; subst hq; exact h) (by simp) (by simp; omega) hF
  simp only [List.map_cons, List.map_nil, List.flatten_cons, List.flatten_nil, List.append_nil, List.sum_cons, List.sum_nil, Nat.add_zero, List.nil_append] at hf
  rw [show F - r.lines.length + r.lines.length = F by omega] at hf
  rw [hf, show F - r.lines.length = (F - r.lines.length - 1) + 1 by omega]
  exact feed_end (by omega)
theorem print_eq' {F : Nat} {r : ReplyV} (hF : 1000 < F) (hf : fewB r = true) : reply_Print F r = some (if rightB r then txt r else []) := by
  by_cases h : rightB r = true
  · rw [if_pos h]; exact print_eq hF (by rw [right_eq hF hf, h]) (rightB_iff.1 h)
  · rw [if_neg h]
    unfold reply_Print
    rw [right_eq hF hf]
    simp [h]
end Go.Proofs.ReplyS
