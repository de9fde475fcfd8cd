import Derived.Test.YtndhkepeecpilaaDoorRPBadB
set_option linter.unusedSimpArgs false
set_option linter.unusedVariables false
set_option linter.unusedSectionVars false
set_option linter.defProp false
namespace Go.Proofs.ReplyS
open Go Go.Am Go.Proofs

theorem bad_p2 {F : Nat} {L : List ReplyV} {i : Nat} {r : ReplyV} (hF : 1000 < F) (hi : L[i]? = some r) : ∃ t, law16_ReplyBad_p2 F L (i : Int) = some t ∧ (t = false → RightOk r ∧ reply_Right F r = some true) := by
  unfold law16_ReplyBad_p2
  rw [idx_get hi, Option.bind_some]
  obtain ⟨b, hb, hp⟩ := few_ok (F := F) (r := r) (by omega)
  rw [hb, Option.bind_some]
  cases b with
  | false => exact ⟨true, by simp, by simp⟩
  | true =>
    obtain ⟨p1, p2⟩ := hp rfl
    obtain ⟨b, hb, hq⟩ := right_ok hF p1 p2
    simp only [Bool.not_true, Bool.false_eq_true, if_false, hb, Option.bind_some]
    cases b with
    | false => exact ⟨true, by simp, by simp⟩
    | true => exact ⟨false, by simp, fun _ => ⟨hq rfl, rfl⟩⟩
theorem bad_l1 {F : Nat} {L : List ReplyV} (hF : 1000 < F) (hL : L.length ≤ 10) : ∀ (q : List ReplyV) (i G : Nat) (b : List UInt8), L.drop i = q → i ≤ L.length → q.length < G → b.length + 10000 * q.length ≤ 1000000 →
    iter (law16_ReplyBad_l1 F L) G (b, (i : Int)) = some (.inl true) ∨ (iter (law16_ReplyBad_l1 F L) G (b, (i : Int)) = some (.inr (b ++ (q.map txt).flatten)) ∧ ∀ r ∈ q, RightOk r) := by
  intro q
  induction q with
  | nil =>
    intro i G b hd hi hG _
    obtain ⟨G, rfl⟩ := F_succ hG
    have := drop_nil_ge hd
    have hn : ¬ (i : Int) < L.length := by omega
    exact .inr ⟨iter_brk (by simp [law16_ReplyBad_l1, hn]), by simp⟩
  | cons r q ih =>
    intro i G b hd hi hG hb
    obtain ⟨G, rfl⟩ := F_succ hG
    obtain ⟨g1, g2, g3⟩ := drop_cons hd
    have hlt : (i : Int) < L.length := by omega
    have hw : IntKind.wrap .i64 ((i : Int) + 1) = ((i + 1 : Nat) : Int) := by rw [wr (by omega) (by omega)]; rfl
    obtain ⟨t, ht, hp⟩ := bad_p2 (F := F) hF g2
    simp only [List.length_cons] at hb hG
    cases t with
    | true => exact .inl (iter_ret (by simp [law16_ReplyBad_l1, hlt, ht]))
    | false =>
      obtain ⟨hr, hr2⟩ := hp rfl
      have hpr := print_eq hF hr2 hr
      have hlen := txt_len hr
      have c1 : capp 1 b (txt r) = some (b ++ txt r) := capp_ok (by omega) (by omega)
      have st : iter (law16_ReplyBad_l1 F L) (G + 1) (b, (i : Int)) = iter (law16_ReplyBad_l1 F L) G (b ++ txt r, ((i + 1 : Nat) : Int)) :=
        iter_nxt (by simp [law16_ReplyBad_l1, hlt, ht, idx_get g2, hpr, c1, hw])
      rw [st]
      rcases ih (i + 1) G (b ++ txt r) g3 (by omega) (by omega) (by simp; omega) with h | ⟨h, hq⟩
      · exact .inl h
      · refine .inr ⟨by rw [h]; simp, ?_⟩
        intro x hx; simp at hx; rcases hx with rfl | hx
        · exact hr
        · exact hq x hx
theorem bad_l2 {bad : List UInt8} (hb : bad.length ≤ 300) : ∀ (q : List UInt8) (i G : Nat) (x : List UInt8), bad.drop i = q → i ≤ bad.length → q.length < G → x.length + q.length ≤ 10000 →
    ∃ w, iter (law16_ReplyBad_l2 bad) G (x, (i : Int)) = some (.inr (x ++ w)) ∧ w.length ≤ q.length ∧ ∀ k ∈ w, k ≠ 13 := by
  intro q
  induction q with
  | nil =>
    intro i G x hd hi hG _
    obtain ⟨G, rfl⟩ := F_succ hG
    have := drop_nil_ge hd
    have hn : ¬ (i : Int) < bad.length := by omega
    exact ⟨[], iter_brk (by simp [law16_ReplyBad_l2, hn]), by simp, by simp⟩
  | cons c q ih =>
    intro i G x hd hi hG hx
    obtain ⟨G, rfl⟩ := F_succ hG
    obtain ⟨g1, g2, g3⟩ := drop_cons hd
    have hlt : (i : Int) < bad.length := by omega
    have hw : IntKind.wrap .i64 ((i : Int) + 1) = ((i + 1 : Nat) : Int) := by rw [wr (by omega) (by omega)]; rfl
    simp only [List.length_cons] at hx hG
    by_cases h13 : c = 13
    · obtain ⟨w, h1, h2, h3⟩ := ih (i + 1) G x g3 (by omega) (by omega) (by omega)
      refine ⟨w, ?_, by simp; omega, h3⟩
      rw [iter_nxt (s' := (x, ((i + 1 : Nat) : Int))) (by simp [law16_ReplyBad_l2, law16_ReplyBad_p3, hlt, idx_get g2, h13, hw])]; exact h1
    · by_cases h10 : c = 10
      · obtain ⟨w, h1, h2, h3⟩ := ih (i + 1) G x g3 (by omega) (by omega) (by omega)
        refine ⟨w, ?_, by simp; omega, h3⟩
        rw [iter_nxt (s' := (x, ((i + 1 : Nat) : Int))) (by simp [law16_ReplyBad_l2, law16_ReplyBad_p3, hlt, idx_get g2, h10, hw])]; exact h1
      · obtain ⟨w, h1, h2, h3⟩ := ih (i + 1) G (x ++ [c]) g3 (by omega) (by omega) (by simp; omega)
        have c1 : capp 1 x [c] = some (x ++ [c]) := capp_ok (by simp; omega) (by omega)
        refine ⟨c :: w, ?_, by simp; omega, ?_⟩
        · rw [iter_nxt (s' := (x ++ [c], ((i + 1 : Nat) : Int))) (by simp [law16_ReplyBad_l2, law16_ReplyBad_p3, hlt, idx_get g2, h13, h10, hw, c1])]; rw [h1]; simp
        · intro k hk; simp at hk; rcases hk with rfl | hk
          · exact h13
          · exact h3 k hk
theorem same_eq {F : Nat} {r : ReplyV} (hF : 1000 < F) (hl : r.lines.length ≤ 20) : reply_Same F r r = some true := by
  have key : ∀ (q : List (List UInt8)) (i G : Nat) (t : Bool), r.lines.drop i = q → i ≤ r.lines.length → q.length < G → iter (slices_Equal_l1 r.lines r.lines) G (t, (i : Int)) = some (.inr ()) := by
    intro q
    induction q with
    | nil =>
      intro i G t hd hi hG
      obtain ⟨G, rfl⟩ := F_succ hG
      have := drop_nil_ge hd
      have hn : ¬ (i : Int) < r.lines.length := by omega
      exact iter_brk (by simp [slices_Equal_l1, hn])
    | cons c q ih =>
      intro i G t hd hi hG
      obtain ⟨G, rfl⟩ := F_succ hG
      obtain ⟨g1, g2, g3⟩ := drop_cons hd
      have hlt : (i : Int) < r.lines.length := by omega
      have hw : IntKind.wrap .i64 ((i : Int) + 1) = ((i + 1 : Nat) : Int) := by rw [wr (by omega) (by omega)]; rfl
      rw [iter_nxt (s' := (t, ((i + 1 : Nat) : Int))) (by simp [slices_Equal_l1, hlt, idx_get g2, hw])]
      exact ih (i + 1) G t g3 (by omega) (by simp at hG; omega)
  have := key r.lines 0 F false rfl (Nat.zero_le _) (by omega)
  rw [show ((0 : Nat) : Int) = 0 from rfl] at this
  simp [reply_Same, reply_Same_p1, slices_Equal, this]
theorem bad_l3 {F : Nat} {L : List ReplyV} (hF : 1000 < F) (hL : L.length ≤ 10) (hr : ∀ r ∈ L, RightOk r) : ∀ (q : List ReplyV) (i G : Nat), L.drop i = q → i ≤ L.length → q.length < G →
    iter (law16_ReplyBad_l3 F L L) G (i : Int) = some (.inr ()) := by
  intro q
  induction q with
  | nil =>
    intro i G hd hi hG
    obtain ⟨G, rfl⟩ := F_succ hG
    have := drop_nil_ge hd
    have hn : ¬ (i : Int) < L.length := by omega
    exact iter_brk (by simp [law16_ReplyBad_l3, hn])
  | cons c q ih =>
    intro i G hd hi hG
    obtain ⟨G, rfl⟩ := F_succ hG
    obtain ⟨g1, g2, g3⟩ := drop_cons hd
    have hlt : (i : Int) < L.length := by omega
    have hw : IntKind.wrap .i64 ((i : Int) + 1) = ((i + 1 : Nat) : Int) := by rw [wr (by omega) (by omega)]; rfl
    have hs := same_eq (F := F) hF (hr c (List.mem_of_getElem? g2)).h4
    rw [iter_nxt (s' := ((i + 1 : Nat) : Int)) (by simp [law16_ReplyBad_l3, hlt, idx_get g2, hs, hw])]
    exact ih (i + 1) G g3 (by omega) (by simp at hG; omega)
theorem take_x {F : Nat} {r : ReaderV} {w : List UInt8} (hF : 0 < F) : reply_Reader_take F r ⟨120 :: w, false⟩ = some (false, false, r) := by
  obtain ⟨G, rfl⟩ := F_succ hF
  unfold reply_Reader_take
  by_cases h : (((120 :: w).length : Nat) : Int) < 3
  · simp only [h, decide_true, Bool.or_true, if_true]
  · simp only [h, decide_false, Bool.or_false, Bool.false_eq_true, if_false]
    have hs := sub_end (l := 120 :: w) (i := 3) (by omega)
    rw [show (3 : Int) = ((3 : Nat) : Int) from rfl, hs, Option.bind_some]
    have hi : idx (120 :: w) 0 = some 120 := by have := idx_nat (120 :: w) 0; simpa using this
    rw [iter_ret (r := (false, false, r)) (by simp [reply_Reader_take_l1, reply_Reader_take_p2, hi])]
    rfl
theorem feed_x {F G : Nat} {out : List ReplyV} {w b' : List UInt8} (hw : w.length ≤ 400) (h13 : ∀ k ∈ w, k ≠ 13) (hb : b'.length ≤ 1000) (hF : 2000 < F) :
    iter (reply_Reader_Feed_l1 F) (G + 2) (120 :: (w ++ 13 :: 10 :: b'), [], 0, out, ⟨S0, ⟨0, []⟩, 0, false⟩, S0) = some (.inr (out, ⟨S0, ⟨0, []⟩, 0, true⟩, S0)) := by
  have hn := next_eq s0_ok (b := 120 :: (w ++ 13 :: 10 :: b')) (F := F) (by simp; omega) (by simp; omega)
  have hl1 := next_line (m := 512) (by decide) (by decide) (t := 120 :: w) (by intro k hk; simp at hk; rcases hk with rfl | hk; decide; exact h13 k hk) b'
  simp only [List.cons_append] at hl1
  rw [hl1] at hn
  have e1 : (120 :: w).take (512 - 2 : Int).toNat = 120 :: w := List.take_of_length_le (by simp; omega)
  have e2 : decide ((512 - 2 : Int) < ((120 :: w).length : Int)) = false := by simp; omega
  simp only at hn
  rw [e1, e2] at hn
  rw [iter_nxt (s' := (b', [], 0, out, ⟨S0, ⟨0, []⟩, 0, true⟩, S0)) (by simp [reply_Reader_Feed_l1, hn, take_x (F := F) (w := w) (by omega), reset_s0])]
  exact feed_bad
theorem feed_shut {F : Nat} {b : List UInt8} (hF : 0 < F) : reply_Reader_Feed F ⟨S0, ⟨0, []⟩, 0, true⟩ b = some ([], 3, ⟨S0, ⟨0, []⟩, 0, true⟩) := by
  obtain ⟨G, rfl⟩ := F_succ hF
  unfold reply_Reader_Feed
  simp only [feed_bad, Option.bind_some]
theorem sum_len : ∀ (L : List ReplyV), (∀ r ∈ L, RightOk r) → (L.map txt).flatten.length ≤ 9720 * L.length ∧ (L.map fun r => r.lines.length).sum ≤ 20 * L.length := by
  intro L
  induction L with
  | nil => intro _; simp
  | cons r L ih =>
    intro h
    obtain ⟨h1, h2⟩ := ih (fun q hq => h q (by simp [hq]))
    have := txt_len (h r (by simp))
    have := (h r (by simp)).h4
    simp only [List.map_cons, List.flatten_cons, List.length_append, List.sum_cons, List.length_cons]
    omega
theorem bad_law (L : List ReplyV) (bad more : List UInt8) : ∃ F, law16_ReplyBad F L bad more = some true := by
  obtain ⟨F, hF, hk⟩ : ∃ F, 100000 < F ∧ law16_known F = some true := ⟨200000 + 100, by omega, known_eqB 200000⟩
  refine ⟨F, ?_⟩
  unfold law16_ReplyBad
  rw [hk, Option.bind_some]
  simp only [Bool.not_true, Bool.false_eq_true, if_false]
  by_cases hr : L.length ≤ 10 ∧ bad.length ≤ 300 ∧ more.length ≤ 1000
  · have hb : (((decide (10 < (L.length : Int))) || (decide (300 < (bad.length : Int)))) || (decide (1000 < (more.length : Int)))) = false := by
      simp only [Bool.or_eq_false_iff, decide_eq_false_iff_not]; omega
    simp only [hb, Bool.false_eq_true, if_false]
    obtain ⟨hL, hbad, hmore⟩ := hr
    have q1 := bad_l1 (F := F) (by omega) hL L 0 F [] rfl (Nat.zero_le _) (by omega) (by simp; omega)
    rw [show ((0 : Nat) : Int) = 0 from rfl] at q1
    rcases q1 with q1 | ⟨q1, hok⟩
    · rw [q1]; rfl
    · rw [q1, Option.bind_some]
      dsimp only
      obtain ⟨w, q2, q3, q4⟩ := bad_l2 hbad bad 0 F [120] rfl (Nat.zero_le _) (by omega) (by simp; omega)
      rw [show ((0 : Nat) : Int) = 0 from rfl] at q2
      rw [q2, Option.bind_some, new_r]
      dsimp only
      obtain ⟨s1, s2⟩ := sum_len L hok
      have c1 : capp 1 ([] ++ (L.map txt).flatten) ([120] ++ w) = some ([] ++ (L.map txt).flatten ++ ([120] ++ w)) := capp_ok (by simp only [List.length_append, List.length_cons, List.length_nil]; omega) (by omega)
      have c2 : capp 1 ([] ++ (L.map txt).flatten ++ ([120] ++ w)) [13, 10, 50, 50, 48, 32, 108, 97, 116, 101, 13, 10] = some ([] ++ (L.map txt).flatten ++ ([120] ++ w) ++ [13, 10, 50, 50, 48, 32, 108, 97, 116, 101, 13, 10]) := capp_ok (by simp only [List.length_append, List.length_cons, List.length_nil]; omega) (by omega)
      have e : [] ++ (L.map txt).flatten ++ ([120] ++ w) ++ [13, 10, 50, 50, 48, 32, 108, 97, 116, 101, 13, 10] = (L.map txt).flatten ++ (120 :: (w ++ 13 :: 10 :: [50, 50, 48, 32, 108, 97, 116, 101, 13, 10])) := by simp
      have hfeed : reply_Reader_Feed F ⟨S0, ⟨0, []⟩, 0, false⟩ ((L.map txt).flatten ++ (120 :: (w ++ 13 :: 10 :: [50, 50, 48, 32, 108, 97, 116, 101, 13, 10]))) = some (L, 3, ⟨S0, ⟨0, []⟩, 0, true⟩) := by
        obtain ⟨G, hG⟩ : ∃ G, F = (G + 2) + (L.map fun r => r.lines.length).sum := ⟨F - (L.map fun r => r.lines.length).sum - 2, by omega⟩
        have hfa := feed_all (F := F) (b' := 120 :: (w ++ 13 :: 10 :: [50, 50, 48, 32, 108, 97, 116, 101, 13, 10])) L [] (G + 2) hok (by simp; omega) (by simp only [List.length_append, List.length_cons, List.length_nil]; omega) hF
        rw [← hG, feed_x (by omega) q4 (by simp) (by omega), List.nil_append] at hfa
        unfold reply_Reader_Feed
        simp only [hfa, Option.bind_some]
      have q5 := bad_l3 (F := F) (by omega) hL hok L 0 F rfl (Nat.zero_le _) (by omega)
      rw [show ((0 : Nat) : Int) = 0 from rfl] at q5
      rw [Option.bind_some]
      dsimp only
      rw [c1, Option.bind_some, c2, Option.bind_some, e, hfeed, Option.bind_some]
      dsimp only
      rw [feed_shut (by omega), Option.bind_some]
      dsimp only
      rw [feed_shut (by omega), Option.bind_some]
      dsimp only
      rw [if_neg (by simp; decide), q5]
      rfl
  · have hb : (((decide (10 < (L.length : Int))) || (decide (300 < (bad.length : Int)))) || (decide (1000 < (more.length : Int)))) = true := by
      simp only [Bool.or_eq_true, decide_eq_true_eq]; omega
    simp only [hb, if_true]
end Go.Proofs.ReplyS
