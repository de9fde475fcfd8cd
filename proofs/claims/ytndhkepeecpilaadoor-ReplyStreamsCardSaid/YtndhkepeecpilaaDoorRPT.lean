import Derived.Test.YtndhkepeecpilaaDoorRPS
set_option linter.unusedSimpArgs false
set_option linter.unusedVariables false
set_option linter.unusedSectionVars false
set_option linter.defProp false
namespace Go.Proofs.ReplyS
open Go Go.Am Go.Proofs

structure Rd (p : ReaderV) : Prop where
  ok : Ok p.splitter
  most : p.splitter.most = 512
  nl : p.r.lines.length ≤ 20
  n0 : 0 ≤ p.n
  n1 : p.n ≤ 480 * (p.r.lines.length : Int)
  hb : p.bad = true → p.splitter = S0 ∧ p.n = 0
theorem one_text {l : LineV} {c : Int} {t : List UInt8} {b : Bool} (h : one l = some (c, t, b)) : t.length ≤ 480 := by
  unfold one at h
  split at h
  · cases h
  · split at h
    · split at h
      · split at h
        · simp only [Option.some.injEq, Prod.mk.injEq] at h
          rw [← h.2.1]; simp
        · split at h
          · rename_i hs
            simp only [Option.some.injEq, Prod.mk.injEq] at h
            rw [← h.2.1]; exact text_len hs.2
          · cases h
      · cases h
    · cases h
theorem rline_rd {p : ReaderV} (h : Rd p) (hs : p.splitter = S0) (l : LineV) : Rd (rline p l).1 ∧ ∀ r, (rline p l).2 = some r → r.lines.length ≤ 20 := by
  have hbad : Rd ⟨p.splitter, ⟨0, []⟩, 0, true⟩ := ⟨h.ok, h.most, by simp, by simp, by simp, fun _ => ⟨hs, rfl⟩⟩
  unfold rline
  split
  · exact ⟨hbad, by simp⟩
  · rename_i code t last ho
    have ht := one_text ho
    split
    · exact ⟨hbad, by simp⟩
    · rename_i hq
      have hl : p.r.lines.length ≠ 20 := fun e => hq (.inl e)
      have h1 := h.nl; have h2 := h.n0; have h3 := h.n1
      split
      · exact ⟨⟨h.ok, h.most, by simp, by simp, by simp, by simp⟩, fun r hr => by simp only [Option.some.injEq] at hr; subst hr; simp; omega⟩
      · exact ⟨⟨h.ok, h.most, by simp; omega, by simp; omega, by simp; omega, by simp⟩, by simp⟩
theorem rstep_rd {p : ReaderV} (h : Rd p) (c : UInt8) : Rd (rstep p c).1 ∧ ∀ r, (rstep p c).2 = some r → r.lines.length ≤ 20 := by
  unfold rstep
  cases hb : p.bad with
  | true => simp only [if_true]; exact ⟨h, by simp⟩
  | false =>
    simp only [Bool.false_eq_true, if_false]
    have hm := step_most p.splitter c
    cases hs : (step p.splitter c).2 with
    | none => exact ⟨⟨step_okS h.ok c, hm.trans h.most, h.nl, h.n0, h.n1, by simp [hb]⟩, by simp⟩
    | some l =>
      have e := step_start hs
      rw [h.most] at e
      refine rline_rd (p := { p with splitter := (step p.splitter c).1 }) ⟨step_okS h.ok c, hm.trans h.most, h.nl, h.n0, h.n1, by simp [hb]⟩ e l
theorem rfeed_rd : ∀ (b : List UInt8) (p : ReaderV), Rd p → Rd (rfeed p b).1 ∧ ∀ r ∈ (rfeed p b).2, r.lines.length ≤ 20 := by
  intro b
  induction b with
  | nil => intro p h; exact ⟨h, by simp [rfeed]⟩
  | cons c r ih =>
    intro p h
    obtain ⟨h1, h2⟩ := rstep_rd h c
    obtain ⟨h3, h4⟩ := ih _ h1
    refine ⟨h3, fun x hx => ?_⟩
    simp only [rfeed, List.mem_append, Option.mem_toList] at hx
    rcases hx with hx | hx
    · exact h2 x hx
    · exact h4 x hx
theorem rfeed_len : ∀ (b : List UInt8) (p : ReaderV), (rfeed p b).2.length ≤ b.length := by
  intro b
  induction b with
  | nil => intro p; simp [rfeed]
  | cons c r ih =>
    intro p
    have := ih (rstep p c).1
    simp only [rfeed, List.length_append, List.length_cons]
    have : (rstep p c).2.toList.length ≤ 1 := by cases (rstep p c).2 <;> simp
    omega
theorem next_text : ∀ (b : List UInt8) (s s' : SplitterV) (l : LineV) (q : List UInt8), Ok s → next s b = (s', some (l, q)) → l.text.length ≤ 65536 := by
  intro b
  induction b with
  | nil => intro s s' l q _ h; simp [next] at h
  | cons c r ih =>
    intro s s' l q hk h
    simp only [next] at h
    cases hs : (step s c).2 with
    | some l' =>
      simp only [hs, Prod.mk.injEq, Option.some.injEq] at h
      obtain ⟨-, rfl, -⟩ := h
      unfold step at hs
      split at hs
      · split at hs
        · simp only [Option.some.injEq] at hs; rw [← hs]; have := hk.2.2; have := hk.2.1; simp only; omega
        · split at hs <;> cases hs
      · split at hs <;> cases hs
    | none =>
      simp only [hs] at h
      exact ih _ _ _ _ (step_okS hk c) h
theorem rd_start : Rd ⟨S0, ⟨0, []⟩, 0, false⟩ := ⟨s0_ok, rfl, by simp, by simp, by simp, by simp⟩
theorem feedP_loop {F : Nat} : ∀ (n : Nat) (b : List UInt8) (out : List ReplyV) (t6 : List ReplyV) (t7 : Int) (p : ReaderV) (s0 : SplitterV) (G : Nat), b.length ≤ n → n < G → b.length < F → 70000 < F → Rd p → out.length + b.length ≤ 10000000 →
    ∃ o, iter (reply_Reader_Feed_l1 F) G (b, t6, t7, out, ⟨s0, p.r, p.n, p.bad⟩, p.splitter) = some o ∧ match o with
      | .inl (x, e, p') => (rfeed p b).1.bad = false ∧ x = out ++ (rfeed p b).2 ∧ e = 0 ∧ p' = (rfeed p b).1
      | .inr (x, a, s) => (rfeed p b).1.bad = true ∧ x = out ++ (rfeed p b).2 ∧ (⟨s, a.r, a.n, a.bad⟩ : ReaderV) = (rfeed p b).1 := by
  intro n
  induction n with
  | zero =>
    intro b out t6 t7 p s0 G hb hG hF hF2 h ho
    obtain rfl : b = [] := List.eq_nil_of_length_eq_zero (by omega)
    obtain ⟨G, rfl⟩ := F_succ hG
    cases hbad : p.bad with
    | true => exact ⟨_, iter_brk (t := (out, ⟨p.splitter, p.r, p.n, true⟩, p.splitter)) (by simp [reply_Reader_Feed_l1]), by simp [rfeed, hbad]; rw [← hbad]⟩
    | false =>
      have hn := next_eq h.ok (b := []) (F := F) (by simp) (by simpa using hF)
      simp only [next] at hn
      exact ⟨_, iter_ret (r := (out, 0, ⟨p.splitter, p.r, p.n, false⟩)) (by simp [reply_Reader_Feed_l1, hn]), by simp [rfeed, hbad]; rw [← hbad]⟩
  | succ n ih =>
    intro b out t6 t7 p s0 G hb hG hF hF2 h ho
    obtain ⟨G, rfl⟩ := F_succ hG
    cases hbad : p.bad with
    | true =>
      have hr := rfeed_bad b p hbad
      exact ⟨_, iter_brk (t := (out, ⟨p.splitter, p.r, p.n, true⟩, p.splitter)) (by simp [reply_Reader_Feed_l1]), by simp [hr, hbad]; rw [← hbad]⟩
    | false =>
      have hn := next_eq h.ok (b := b) (F := F) (by omega) hF
      have hr := rfeed_next b p hbad
      rcases hx : next p.splitter b with ⟨s', _ | ⟨l, q⟩⟩
      · simp only [hx] at hn hr
        exact ⟨_, iter_ret (r := (out, 0, ⟨s', p.r, p.n, false⟩)) (by simp [reply_Reader_Feed_l1, hn]), by simp [hr, hbad]⟩
      · simp only [hx] at hn hr
        have hs' := next_start b _ _ _ _ hx
        rw [h.most] at hs'
        have hq := (next_lt b _ _ _ _ hx).1
        have htx := next_text b _ _ _ _ h.ok hx
        have hp1 : Rd { p with splitter := s' } := ⟨by rw [hs']; exact s0_ok, by rw [hs']; rfl, h.nl, h.n0, h.n1, by simp [hbad]⟩
        have hrd := (rline_rd hp1 hs' l).1
        have h1 := h.nl; have h2 := h.n1
        have ht := takel_eq (F := F) (p := ⟨s', p.r, p.n, false⟩) (l := l) (by omega) (by omega) h.nl h.n0 (by simp only; omega)
        have hreset : line_Splitter_Reset s' = some s' := by rw [hs']; rfl
        have bad_case : takeP ⟨s', p.r, p.n, false⟩ l = (false, false, ⟨s', p.r, p.n, false⟩) → rline { p with splitter := s' } l = (⟨s', ⟨0, []⟩, 0, true⟩, none) →
            ∃ o, iter (reply_Reader_Feed_l1 F) (G + 1) (b, t6, t7, out, ⟨s0, p.r, p.n, false⟩, p.splitter) = some o ∧ match o with
              | .inl (x, e, p') => (rfeed p b).1.bad = false ∧ x = out ++ (rfeed p b).2 ∧ e = 0 ∧ p' = (rfeed p b).1
              | .inr (x, a, s) => (rfeed p b).1.bad = true ∧ x = out ++ (rfeed p b).2 ∧ (⟨s, a.r, a.n, a.bad⟩ : ReaderV) = (rfeed p b).1 := by
          intro e1 e2
          rw [e1] at ht
          rw [e2] at hr hrd
          obtain ⟨o, ho', hp⟩ := ih q out t6 t7 ⟨s', ⟨0, []⟩, 0, true⟩ s' G (by omega) (by omega) (by omega) hF2 hrd (by omega)
          refine ⟨o, ?_, by simpa only [hr, Option.toList_none, List.nil_append] using hp⟩
          rw [iter_nxt (s' := (q, t6, t7, out, ⟨s', ⟨0, []⟩, 0, true⟩, s')) (by simp [reply_Reader_Feed_l1, hn, ht, hreset])]
          exact ho'
        cases ho1 : one l with
        | none =>
          refine bad_case ?_ ?_
          · unfold takeP; rw [ho1]
          · unfold rline; rw [ho1]
        | some x =>
          obtain ⟨code, t, last⟩ := x
          by_cases hc : p.r.lines.length = 20 ∨ (0 < p.r.lines.length ∧ code ≠ p.r.code)
          · refine bad_case ?_ ?_
            · unfold takeP; rw [ho1]; simp only; rw [if_pos hc]
            · unfold rline; rw [ho1]; simp only; rw [if_pos hc]
          · have e1 : takeP ⟨s', p.r, p.n, false⟩ l = (last, true, ⟨s', ⟨code, p.r.lines ++ [t]⟩, p.n + t.length, false⟩) := by
              unfold takeP; rw [ho1]; simp only; rw [if_neg hc]
            rw [e1] at ht
            cases last with
            | true =>
              have e2 : rline { p with splitter := s' } l = (⟨s', ⟨0, []⟩, 0, false⟩, some ⟨code, p.r.lines ++ [t]⟩) := by
                unfold rline; rw [ho1]; simp only; rw [if_neg hc]; rfl
              rw [e2] at hr hrd
              have c1 : capp 32 out [(⟨code, p.r.lines ++ [t]⟩ : ReplyV)] = some (out ++ [⟨code, p.r.lines ++ [t]⟩]) := capp_ok (by simp; omega) (by omega)
              obtain ⟨o, ho', hp⟩ := ih q (out ++ [⟨code, p.r.lines ++ [t]⟩]) t6 t7 ⟨s', ⟨0, []⟩, 0, false⟩ s' G (by omega) (by omega) (by omega) hF2 hrd (by simp; omega)
              refine ⟨o, ?_, by simpa only [hr, Option.toList_some, List.append_assoc] using hp⟩
              rw [iter_nxt (s' := (q, t6, t7, out ++ [⟨code, p.r.lines ++ [t]⟩], ⟨s', ⟨0, []⟩, 0, false⟩, s')) (by simp [reply_Reader_Feed_l1, hn, ht, c1])]
              exact ho'
            | false =>
              have e2 : rline { p with splitter := s' } l = (⟨s', ⟨code, p.r.lines ++ [t]⟩, p.n + t.length, false⟩, none) := by
                unfold rline; rw [ho1]; simp only; rw [if_neg hc]; rfl
              rw [e2] at hr hrd
              obtain ⟨o, ho', hp⟩ := ih q out t6 t7 ⟨s', ⟨code, p.r.lines ++ [t]⟩, p.n + t.length, false⟩ s' G (by omega) (by omega) (by omega) hF2 hrd (by omega)
              refine ⟨o, ?_, by simpa only [hr, Option.toList_none, List.nil_append] using hp⟩
              rw [iter_nxt (s' := (q, t6, t7, out, ⟨s', ⟨code, p.r.lines ++ [t]⟩, p.n + t.length, false⟩, s')) (by simp [reply_Reader_Feed_l1, hn, ht])]
              exact ho'
theorem feedP_eq {F : Nat} {p : ReaderV} {b : List UInt8} (h : Rd p) (hb : b.length ≤ 1000000) (hF : b.length < F) (hF2 : 70000 < F) :
    reply_Reader_Feed F p b = some ((rfeed p b).2, if (rfeed p b).1.bad then 3 else 0, (rfeed p b).1) := by
  obtain ⟨o, ho, hp⟩ := feedP_loop (F := F) b.length b [] [] 0 p p.splitter F (Nat.le_refl _) hF hF hF2 h (by simp; omega)
  unfold reply_Reader_Feed
  have e : (⟨p.splitter, p.r, p.n, p.bad⟩ : ReaderV) = p := rfl
  rw [e] at ho
  rw [ho, Option.bind_some]
  rcases o with ⟨x, e, p'⟩ | ⟨x, a, s⟩
  · obtain ⟨h1, rfl, rfl, rfl⟩ := hp
    simp [h1]
  · obtain ⟨h1, rfl, h3⟩ := hp
    simp [h1, h3]
theorem heldP_eq {p : ReaderV} (h : Rd p) : reply_Reader_Held_s p = some (p.n + held p.splitter) ∧ 0 ≤ p.n + held p.splitter ∧ p.n + held p.splitter ≤ 16384 := by
  obtain ⟨h1, h2⟩ := held_lt h.ok
  have := h.nl; have := h.n0; have := h.n1; have := h.most
  unfold reply_Reader_Held_s
  rw [held_eq h.ok, Option.bind_some, wr (by omega) (by omega)]
  exact ⟨rfl, by omega, by omega⟩
/-- what is printed is read -/
theorem rfeed_txt {L : List ReplyV} (hL : ∀ r ∈ L, RightOk r) (h12 : L.length ≤ 12) (hlen : (L.map txt).flatten.length ≤ 99000) : rfeed ⟨S0, ⟨0, []⟩, 0, false⟩ (L.map txt).flatten = (⟨S0, ⟨0, []⟩, 0, false⟩, L) := by
  have hsum : (L.map fun r => r.lines.length).sum ≤ 20 * L.length := by
    clear h12 hlen
    induction L with
    | nil => simp
    | cons r L ih =>
      have := ih (fun q hq => hL q (by simp [hq]))
      have := (hL r (by simp)).h4
      simp only [List.map_cons, List.sum_cons, List.length_cons]; omega
  have h1 := feedP_eq (F := 2000000) rd_start (b := (L.map txt).flatten) (by omega) (by omega) (by omega)
  have hf := feed_all (F := 2000000) (b' := []) L [] (2000000 - (L.map fun r => r.lines.length).sum) hL (by simp; omega) (by simpa using hlen) (by omega)
  rw [List.append_nil, List.nil_append, show 2000000 - (L.map fun r => r.lines.length).sum + (L.map fun r => r.lines.length).sum = 2000000 by omega] at hf
  have he : 2000000 - (L.map fun r => r.lines.length).sum = (2000000 - (L.map fun r => r.lines.length).sum - 1) + 1 := by omega
  rw [he, feed_end (by omega)] at hf
  have h2 : reply_Reader_Feed 2000000 ⟨S0, ⟨0, []⟩, 0, false⟩ (L.map txt).flatten = some (L, 0, ⟨S0, ⟨0, []⟩, 0, false⟩) := by
    unfold reply_Reader_Feed
    rw [hf]; rfl
  rw [h2] at h1
  injection h1 with h1
  simp only [Prod.mk.injEq] at h1
  exact Prod.ext h1.2.2.symm h1.1.symm
end Go.Proofs.ReplyS
