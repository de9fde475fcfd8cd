import Derived.Test.YtndhkepeecpilaaP13
import Derived.Test.YtndhkepeecpilaaLSLineBack
set_option linter.unusedSimpArgs false
set_option linter.unusedVariables false
set_option linter.unusedSectionVars false
set_option linter.defProp false
namespace Go.Proofs.LineS
open Go Go.Am Go.Proofs

/-! ### LineBack -/
theorem feed_text : ∀ (t : List UInt8) (s : SplitterV), (∀ c ∈ t, c ≠ 13) → s.state ≠ 2 → Ok s → (s.long = true → (s.b.length : Int) = s.most - 2) →
    (feed s t).2 = [] ∧ (feed s t).1.b = (s.b ++ t).take (s.most - 2).toNat ∧ (feed s t).1.long = (s.long || decide (s.most - 2 < ((s.b ++ t).length : Int))) ∧ (feed s t).1.state ≠ 2 := by
  intro t
  induction t with
  | nil =>
    intro s _ h2 hk hl
    obtain ⟨h3, h4, h5⟩ := hk
    refine ⟨rfl, ?_, ?_, h2⟩
    · simp only [feed, List.append_nil]; rw [List.take_of_length_le (by omega)]
    · have : ¬ s.most - 2 < (s.b.length : Int) := by omega
      simp [feed, this]
  | cons c r ih =>
    intro s hc h2 hk hl
    have hc13 : c ≠ 13 := hc c (by simp)
    have hst : step s c = (put s c, none) := by simp [step, h2, hc13]
    simp only [feed, hst]
    obtain ⟨h3, h4, h5⟩ := hk
    have hp : (put s c).state ≠ 2 := by unfold put; split <;> simp
    have hpm := put_most s c
    by_cases hfull : (s.b.length : Int) = s.most - 2
    · have hput : put s c = ⟨s.most, s.b, 1, true⟩ := by simp [put, hfull]
      obtain ⟨g1, g2, g3, g4⟩ := ih (put s c) (fun x hx => hc x (by simp [hx])) hp (put_okS ⟨h3, h4, h5⟩ c) (by rw [hput]; intro _; exact hfull)
      refine ⟨g1, ?_, ?_, g4⟩
      · rw [g2, hput]
        simp only
        rw [List.take_append_of_le_length (by omega), List.take_append_of_le_length (by omega)]
      · rw [g3, hput]
        simp only [Bool.true_or, List.length_append, List.length_cons]
        have : s.most - 2 < ((s.b.length + (r.length + 1) : Nat) : Int) := by omega
        rw [decide_eq_true this, Bool.or_true]
    · have hput : put s c = ⟨s.most, s.b ++ [c], 1, s.long⟩ := by simp [put, hfull]
      have hlf : s.long = false := by cases hb : s.long with | false => rfl | true => exact absurd (hl hb) hfull
      obtain ⟨g1, g2, g3, g4⟩ := ih (put s c) (fun x hx => hc x (by simp [hx])) hp (put_okS ⟨h3, h4, h5⟩ c) (by rw [hput]; simp [hlf])
      refine ⟨g1, ?_, ?_, g4⟩
      · rw [g2, hput]; simp
      · rw [g3, hput]; simp
theorem feed_line {m : Int} (h1 : 2 ≤ m) (h2 : m ≤ 65536) {t : List UInt8} (ht : ∀ c ∈ t, c ≠ 13) :
    feed (start m) (t ++ [13, 10]) = (start m, [⟨t.take (m - 2).toNat, decide (m - 2 < (t.length : Int))⟩]) := by
  obtain ⟨g1, g2, g3, g4⟩ := feed_text t (start m) ht (by simp [start]) (start_ok h1 h2) (by simp [start])
  rw [feed_app, g1]
  have hm := feed_most t (start m)
  generalize feed (start m) t = x at *
  obtain ⟨s, l⟩ := x
  simp only at g1 g2 g3 g4 hm
  have hs : step s 13 = ({ s with state := 2 }, none) := by simp [step, g4]
  simp only [feed, hs]
  simp [step, start, g2, g3, hm]
  try rfl
theorem back_p1 (l : List (List UInt8)) (m : Int) : law13_LineBack_p1 l m = some (!(decide ((l.length : Int) ≤ 60 ∧ 2 ≤ m ∧ m ≤ 65536))) := by
  unfold law13_LineBack_p1 ref13_Right
  by_cases h1 : 60 < (l.length : Int)
  · have : ¬ (l.length : Int) ≤ 60 := by omega
    simp [h1, this]
  · have h1' : (l.length : Int) ≤ 60 := by omega
    simp [h1, h1']
theorem back_inner {l : List (List UInt8)} {i : Nat} {t : List UInt8} (ht : l[i]? = some t) (hl : t.length ≤ 300) (F : Nat) (hF : t.length < F) :
    ∃ o, iter (law13_LineBack_l1 l (i : Int)) F 0 = some o ∧ (o = .inl true ∨ (o = .inr () ∧ ∀ c ∈ t, c ≠ 13)) := by
  refine iter_inv (body := law13_LineBack_l1 l (i : Int)) (fun k => ∃ n : Nat, k = n ∧ n ≤ t.length ∧ ∀ c ∈ t.take n, c ≠ 13) (fun k => t.length - k.toNat) (fun o => o = .inl true ∨ (o = .inr () ∧ ∀ c ∈ t, c ≠ 13)) ?_ F 0 ⟨0, rfl, Nat.zero_le _, by simp⟩ (by simpa using hF)
  rintro _ ⟨n, rfl, hn, hc⟩
  unfold law13_LineBack_l1
  simp only [idx_get ht, Option.bind_some]
  by_cases hlt : n < t.length
  · have h : (n : Int) < t.length := by omega
    have hp : law13_LineBack_p2 l (i : Int) (n : Int) = some (decide (t[n] = 13) || decide (t[n] = 10)) := by
      unfold law13_LineBack_p2
      simp only [idx_get ht, idx_lt hlt, Option.bind_some]
      by_cases h13 : t[n] = 13 <;> simp [h13]
    simp only [h, decide_true, if_true, hp, Option.bind_some]
    by_cases hx : (decide (t[n] = 13) || decide (t[n] = 10)) = true
    · rw [if_pos hx]; exact .inl ⟨true, rfl, .inl rfl⟩
    · rw [if_neg hx]
      refine .inr (.inr ⟨((n + 1 : Nat) : Int), ?_, ⟨n + 1, rfl, by omega, ?_⟩, by omega⟩)
      · rw [wr (by omega) (by omega)]; rfl
      · intro c hcm
        rw [List.take_succ_eq_append_getElem hlt] at hcm
        rcases List.mem_append.1 hcm with h1 | h1
        · exact hc c h1
        · simp at h1; subst h1
          intro h0; simp [h0] at hx
  · have h : ¬ (n : Int) < t.length := by omega
    refine .inr (.inl ⟨(), by simp [h], .inr ⟨by first | rfl | trivial, ?_⟩⟩)
    rw [List.take_of_length_le (by omega)] at hc
    exact hc
theorem back_law (m : Int) (l : List (List UInt8)) : ∃ F, law13_LineBack F m l = some true := by
  refine ⟨(l.length + 10000) + 100, ?_⟩
  unfold law13_LineBack
  simp only [known_eq, back_p1, Option.bind_some, Bool.not_true, Bool.false_eq_true, if_false]
  by_cases hg : (l.length : Int) ≤ 60 ∧ 2 ≤ m ∧ m ≤ 65536
  case neg => simp [hg]
  simp only [hg, and_self, decide_true, Bool.not_true, Bool.false_eq_true, if_false]
  obtain ⟨hb, hm1, hm2⟩ := hg
  have hk0 : Ok (start m) := start_ok hm1 hm2
  simp only [new_eq hm1 hm2, Option.bind_some]
  obtain ⟨o, h1, h2⟩ := iter_inv (body := law13_LineBack_l2 (l.length + 10000 + 100) l m) (fun x => ∃ i : Nat, i ≤ l.length ∧ x = ((i : Int), start m)) (fun x => l.length - x.1.toNat) (fun o => o = .inl true ∨ o = .inr (start m)) (by
    rintro _ ⟨i, hi, rfl⟩
    unfold law13_LineBack_l2
    by_cases hlt : i < l.length
    · have h : (i : Int) < l.length := by omega
      have ht : l[i]? = some l[i] := List.getElem?_eq_getElem hlt
      generalize l[i] = t at ht
      simp only [h, decide_true, if_true, idx_get ht, Option.bind_some]
      by_cases h300 : 300 < (t.length : Int)
      · exact .inl ⟨true, by simp [h300], .inl rfl⟩
      · simp only [h300, decide_false, Bool.false_eq_true, if_false]
        obtain ⟨o, ho, hcase⟩ := back_inner ht (by omega) (l.length + 10000 + 100) (by omega)
        rw [ho]
        rcases hcase with rfl | ⟨rfl, hc⟩
        · exact .inl ⟨true, rfl, .inl rfl⟩
        · refine .inr (.inr ⟨(((i + 1 : Nat) : Int), start m), ?_, ⟨i + 1, by omega, rfl⟩, by simp; omega⟩)
          simp only [Option.bind_some]
          rw [cat_ok (by simp; omega)]
          simp only [Option.bind_some]
          rw [feed_eq hk0 (by simp; omega) (by simp; omega), feed_line hm1 hm2 hc]
          simp only [Option.bind_some]
          have hw : IntKind.wrap .i64 (m - 2) = m - 2 := wr (by omega) (by omega)
          have hi0 : idx [LineV.mk (t.take (m - 2).toNat) (decide (m - 2 < (t.length : Int)))] 0 = some ⟨t.take (m - 2).toNat, decide (m - 2 < (t.length : Int))⟩ := rfl
          have hp3 : law13_LineBack_p3 [LineV.mk (t.take (m - 2).toNat) (decide (m - 2 < (t.length : Int)))] l (i : Int) m = some false := by
            unfold law13_LineBack_p3
            simp [hi0, idx_get ht, hw]
          have hp4 : law13_LineBack_p4 [LineV.mk (t.take (m - 2).toNat) (decide (m - 2 < (t.length : Int)))] l (i : Int) m = some false := by
            unfold law13_LineBack_p4
            simp only [hi0, idx_get ht, hw, Option.bind_some]
            by_cases hlong : m - 2 < (t.length : Int)
            · have hs : sub t 0 (m - 2) = some (t.take (m - 2).toNat) := by
                have := sub_to (l := t) (j := (m - 2).toNat) (by omega)
                rwa [show (((m - 2).toNat : Nat) : Int) = m - 2 by omega] at this
              simp [hlong, hs]
            · have htk : t.take (m - 2).toNat = t := List.take_of_length_le (by omega)
              simp [hlong, htk]
          simp only [hp3, hp4, Option.bind_some, Bool.false_eq_true, if_false]
          rw [wr (by omega) (by omega)]
          rfl
    · have h : ¬ (i : Int) < l.length := by omega
      exact .inr (.inl ⟨start m, by simp [h], .inr rfl⟩)) (l.length + 10000 + 100) (0, start m) ⟨0, Nat.zero_le _, rfl⟩ (by simp; omega)
  rw [h1]
  rcases h2 with rfl | rfl
  · rfl
  · simp only [Option.bind_some]
    have hh : held (start m) = 0 := rfl
    simp [held_eq hk0, hh]
end Go.Proofs.LineS
