import Derived.Test.YtndhkepeecpilaaDoorRPT
import Derived.Test.YtndhkepeecpilaaDoorRSReplyRows
set_option linter.unusedSimpArgs false
set_option linter.unusedVariables false
set_option linter.unusedSectionVars false
set_option linter.defProp false
namespace Go.Proofs.ReplyS
open Go Go.Am Go.Proofs

abbrev P0 : ReaderV := ⟨S0, ⟨0, []⟩, 0, false⟩
theorem rfeed_all : ∀ L : List ReplyV, (∀ r ∈ L, RightOk r) → rfeed P0 (L.map txt).flatten = (P0, L) := by
  intro L
  induction L with
  | nil => intro _; rfl
  | cons r L ih =>
    intro h
    have h1 := rfeed_txt (L := [r]) (fun q hq => by simp at hq; rw [hq]; exact h r (by simp)) (by simp) (by have := txt_len (h r (by simp)); simp; omega)
    simp only [List.map_cons, List.map_nil, List.flatten_cons, List.flatten_nil, List.append_nil] at h1
    simp only [List.map_cons, List.flatten_cons, rfeed_app, h1, ih (fun q hq => h q (by simp [hq]))]
    rfl
theorem rows_p2 {F : Nat} {L : List ReplyV} {i : Nat} {r : ReplyV} (hF : 1000 < F) (hi : L[i]? = some r) : law16_ReplyRows_p2 F L (i : Int) = some (!(fewB r && rightB r)) := by
  unfold law16_ReplyRows_p2 law16_Of
  rw [idx_get hi, Option.bind_some, few_eq (by omega), Option.bind_some]
  by_cases h1 : fewB r = true
  · simp [h1, rright_eq hF h1]
  · simp [h1]
theorem rows_l1 {F : Nat} {L : List ReplyV} (hF : 1000 < F) (hL : L.length ≤ 12) : ∀ (q : List ReplyV) (i G : Nat) (b : List UInt8), L.drop i = q → i ≤ L.length → q.length < G → b.length + 9720 * q.length ≤ 116640 →
    iter (law16_ReplyRows_l1 F L) G (b, (i : Int)) = some (.inl true) ∨ (iter (law16_ReplyRows_l1 F L) G (b, (i : Int)) = some (.inr (b ++ (q.map txt).flatten)) ∧ ∀ r ∈ q, RightOk r) := by
  intro q
  induction q with
  | nil =>
    intro i G b hd hi hG _
    obtain ⟨G, rfl⟩ := F_succ hG
    have := drop_nil_ge hd
    have hn : ¬ (i : Int) < L.length := by omega
    exact .inr ⟨iter_brk (by simp [law16_ReplyRows_l1, hn]), by simp⟩
  | cons r q ih =>
    intro i G b hd hi hG hb
    obtain ⟨G, rfl⟩ := F_succ hG
    obtain ⟨g1, g2, g3⟩ := drop_cons hd
    have hlt : (i : Int) < L.length := by omega
    have hw : IntKind.wrap .i64 ((i : Int) + 1) = ((i + 1 : Nat) : Int) := by rw [wr (by omega) (by omega)]; rfl
    have ht := rows_p2 (F := F) hF g2
    simp only [List.length_cons] at hb hG
    by_cases hfr : (fewB r && rightB r) = true
    case neg => exact .inl (iter_ret (by simp [law16_ReplyRows_l1, hlt, ht, hfr]))
    simp only [Bool.and_eq_true] at hfr
    have hr := rightB_iff.1 hfr.2
    have hpr := print_eq' (F := F) (r := r) hF hfr.1
    rw [if_pos hfr.2] at hpr
    have hlen := txt_len hr
    have c1 : capp 1 b (txt r) = some (b ++ txt r) := capp_ok (by omega) (by omega)
    have st : iter (law16_ReplyRows_l1 F L) (G + 1) (b, (i : Int)) = iter (law16_ReplyRows_l1 F L) G (b ++ txt r, ((i + 1 : Nat) : Int)) :=
      iter_nxt (by simp [law16_ReplyRows_l1, hlt, ht, hfr.1, hfr.2, idx_get g2, hpr, c1, hw])
    rw [st]
    rcases ih (i + 1) G (b ++ txt r) g3 (by omega) (by omega) (by simp; omega) with h | ⟨h, hq⟩
    · exact .inl h
    · refine .inr ⟨by rw [h]; simp, ?_⟩
      intro x hx; simp at hx; rcases hx with rfl | hx
      · exact hr
      · exact hq x hx
theorem cut_ok {i : Nat} {cuts : List Int} {b : List UInt8} (hb : b.length ≤ 1000000) : ∃ n : Nat, n ≤ b.length ∧ law16_ReplyRows_p3 (i : Int) cuts b = some (n : Int) ∧ (cuts.length ≤ i → n = b.length) := by
  unfold law16_ReplyRows_p3
  by_cases h : (i : Int) < (cuts.length : Int)
  · have hi : i < cuts.length := by omega
    have hw : IntKind.wrap .i64 ((b.length : Int) + 1) = (b.length : Int) + 1 := wr (by omega) (by omega)
    simp only [h, decide_true, if_true, idx_lt hi, Option.bind_some, hw]
    have hm : ∃ x : Int, rm .i64 cuts[i] ((b.length : Int) + 1) = some x ∧ -(b.length : Int) ≤ x ∧ x ≤ b.length := by
      refine ⟨Int.tmod cuts[i] ((b.length : Int) + 1), by unfold rm; rw [if_neg (by omega)], ?_, ?_⟩
      · have := Int.lt_tmod_of_pos cuts[i] (show (0 : Int) < (b.length : Int) + 1 by omega); omega
      · have := Int.tmod_lt_of_pos cuts[i] (show (0 : Int) < (b.length : Int) + 1 by omega); omega
    obtain ⟨x, hx, h1, h2⟩ := hm
    rw [hx, Option.bind_some]
    by_cases h0 : x < 0
    · refine ⟨(-x).toNat, by omega, ?_, by omega⟩
      simp only [h0, decide_true, if_true]
      rw [wr (by omega) (by omega)]
      congr 1; omega
    · refine ⟨x.toNat, by omega, ?_, by omega⟩
      simp only [h0, decide_false, Bool.false_eq_true, if_false]
      congr 1; omega
  · exact ⟨b.length, Nat.le_refl _, by simp [h], fun _ => rfl⟩
theorem rows_l2 {F : Nat} {cuts : List Int} {L : List ReplyV} (hF : 2000000 < F) (hL : L.length ≤ 12) : ∀ (k : Nat) (b : List UInt8) (got : List ReplyV) (i : Nat) (p : ReaderV) (s0 : SplitterV) (G : Nat), Rd p → b.length ≤ 1000000 → i ≤ 1000000 → cuts.length ≤ 1000 →
    cuts.length + 1 - i ≤ k → (b ≠ [] → i ≤ cuts.length) → k < G → rfeed p b = (P0, L.drop got.length) → got = L.take got.length →
    ∃ a s, iter (law16_ReplyRows_l2 F cuts) G (b, got, (i : Int), ⟨s0, p.r, p.n, p.bad⟩, p.splitter) = some (.inr (L, a, s)) ∧ (⟨s, a.r, a.n, a.bad⟩ : ReaderV) = P0 := by
  intro k
  induction k with
  | zero =>
    intro b got i p s0 G h hb hi hc hk hbi hG hf hg
    have hb0 : b = [] := by
      by_cases hb0 : b = []
      · exact hb0
      · have := hbi hb0; omega
    subst hb0
    obtain ⟨G, rfl⟩ := F_succ hG
    simp only [rfeed, Prod.mk.injEq] at hf
    have hlen : L.length ≤ got.length := by
      have := congrArg List.length hf.2; simp at this; omega
    have hgl : got = L := by rw [hg, List.take_of_length_le hlen]
    refine ⟨⟨p.splitter, p.r, p.n, p.bad⟩, p.splitter, ?_, hf.1⟩
    rw [hgl]
    exact iter_brk (by simp [law16_ReplyRows_l2])
  | succ k ih =>
    intro b got i p s0 G h hb hi hc hk hbi hG hf hg
    obtain ⟨G, rfl⟩ := F_succ hG
    by_cases hb0 : b = []
    · subst hb0
      simp only [rfeed, Prod.mk.injEq] at hf
      have hlen : L.length ≤ got.length := by
        have := congrArg List.length hf.2; simp at this; omega
      have hgl : got = L := by rw [hg, List.take_of_length_le hlen]
      refine ⟨⟨p.splitter, p.r, p.n, p.bad⟩, p.splitter, ?_, hf.1⟩
      rw [hgl]
      exact iter_brk (by simp [law16_ReplyRows_l2])
    have hpos : 0 < (b.length : Int) := by have := List.length_pos_iff.2 hb0; omega
    obtain ⟨n, hn, hcut, hlast⟩ := cut_ok (i := i) (cuts := cuts) (b := b) hb
    have hs1 : sub b 0 (n : Int) = some (b.take n) := sub_to hn
    have hs2 : sub b (n : Int) (b.length : Int) = some (b.drop n) := sub_end hn
    have hfd := feedP_eq (F := F) (p := p) (b := b.take n) h (by simp; omega) (by simp; omega) (by omega)
    have hsplit : b = b.take n ++ b.drop n := (List.take_append_drop n b).symm
    rw [hsplit, rfeed_app] at hf
    simp only [Prod.mk.injEq] at hf
    have hnb : (rfeed p (b.take n)).1.bad = false := by
      cases hbad : (rfeed p (b.take n)).1.bad with
      | false => rfl
      | true =>
        have := rfeed_bad (b.drop n) _ hbad
        rw [this] at hf
        have h1 : (rfeed p (b.take n)).1.bad = false := by rw [show (rfeed p (b.take n)).1 = P0 from hf.1]
        rw [h1] at hbad; cases hbad
    rw [hnb] at hfd
    simp only [Bool.false_eq_true, if_false] at hfd
    have hgl : got.length ≤ 12 := by
      rw [hg]; simp; omega
    have hx : ((rfeed p (b.take n)).2).length ≤ 12 := by
      have := congrArg List.length hf.2
      simp only [List.length_append, List.length_drop] at this; omega
    have c1 : capp 32 got (rfeed p (b.take n)).2 = some (got ++ (rfeed p (b.take n)).2) := capp_ok (by omega) (by omega)
    have hw : IntKind.wrap .i64 ((i : Int) + 1) = ((i + 1 : Nat) : Int) := by rw [wr (by omega) (by omega)]; rfl
    have hrd := (rfeed_rd (b.take n) p h).1
    have e0 : (⟨p.splitter, p.r, p.n, p.bad⟩ : ReaderV) = p := rfl
    have hdrop : (rfeed p (b.take n)).2 ++ (rfeed (rfeed p (b.take n)).1 (b.drop n)).2 = L.drop got.length := hf.2
    have hle : got.length + ((rfeed p (b.take n)).2).length ≤ L.length := by
      have h1 := congrArg List.length hdrop
      simp only [List.length_append, List.length_drop] at h1
      have h2 : got.length ≤ L.length := by rw [hg]; simp; omega
      omega
    have hnew : got ++ (rfeed p (b.take n)).2 = L.take (got ++ (rfeed p (b.take n)).2).length := by
      have h1 : L = got ++ ((rfeed p (b.take n)).2 ++ (rfeed (rfeed p (b.take n)).1 (b.drop n)).2) := by
        conv => lhs; rw [← List.take_append_drop got.length L]
        rw [hdrop, ← hg]
      conv => rhs; rw [h1, ← List.append_assoc]
      rw [List.take_left']
      rfl
    have hnew2 : (rfeed (rfeed p (b.take n)).1 (b.drop n)).2 = L.drop (got ++ (rfeed p (b.take n)).2).length := by
      rw [List.length_append, ← List.drop_drop, ← hdrop, List.drop_left']
      rfl
    obtain ⟨a, s, ha, hs⟩ := ih (b.drop n) (got ++ (rfeed p (b.take n)).2) (i + 1) (rfeed p (b.take n)).1 (rfeed p (b.take n)).1.splitter G hrd (by simp; omega)
      (by have := hbi hb0; omega) hc (by omega) (fun hne => by
        have := hbi hb0
        by_cases hlt : i < cuts.length
        · omega
        · exfalso; have := hlast (by omega); exact hne (List.drop_eq_nil_of_le (by omega))) (by omega) (Prod.ext hf.1 hnew2) hnew
    refine ⟨a, s, ?_, hs⟩
    rw [iter_nxt (s' := (b.drop n, got ++ (rfeed p (b.take n)).2, ((i + 1 : Nat) : Int), (rfeed p (b.take n)).1, (rfeed p (b.take n)).1.splitter))
      (by simp [law16_ReplyRows_l2, hpos, hb0, hcut, hs1, hs2, hfd, c1, hw])]
    exact ha
theorem rows_l3 {F : Nat} {L : List ReplyV} (hF : 1000 < F) (hL : ∀ r ∈ L, r.lines.length ≤ 40) (hl : L.length ≤ 1000) : ∀ (q : List ReplyV) (i G : Nat), L.drop i = q → i ≤ L.length → q.length < G →
    iter (law16_ReplyRows_l3 F L L) G (i : Int) = some (.inr ()) := by
  intro q
  induction q with
  | nil =>
    intro i G hd hi hG
    obtain ⟨G, rfl⟩ := F_succ hG
    have := drop_nil_ge hd
    have hn : ¬ (i : Int) < L.length := by omega
    exact iter_brk (by simp [law16_ReplyRows_l3, hn])
  | cons r q ih =>
    intro i G hd hi hG
    obtain ⟨G, rfl⟩ := F_succ hG
    obtain ⟨g1, g2, g3⟩ := drop_cons hd
    have hlt : (i : Int) < L.length := by omega
    have hw : IntKind.wrap .i64 ((i : Int) + 1) = ((i + 1 : Nat) : Int) := by rw [wr (by omega) (by omega)]; rfl
    have hs := same_eq (F := F) (a := r) (b := r) hF (hL r (List.mem_of_getElem? g2))
    rw [iter_nxt (s' := ((i + 1 : Nat) : Int)) (by simp [law16_ReplyRows_l3, hlt, idx_get g2, hs, hw])]
    exact ih (i + 1) G g3 (by omega) (by simp at hG; omega)
theorem rows_law (L : List ReplyV) (cuts : List Int) : ∃ F, law16_ReplyRows F L cuts = some true := by
  refine ⟨2000001 + 100, ?_⟩
  generalize hG : 2000001 + 100 = F
  have hF : 2000000 < F := by omega
  have hk : law16_known F = some true := by rw [← hG]; exact known_eqB 2000001
  unfold law16_ReplyRows
  rw [hk, Option.bind_some]
  simp only [Bool.not_true, Bool.false_eq_true, if_false]
  by_cases hl : 12 < (L.length : Int)
  · simp [hl]
  by_cases hc : 100 < (cuts.length : Int)
  · simp [hc]
  simp only [hl, hc, decide_false, Bool.or_self, Bool.false_eq_true, if_false]
  have hL12 : L.length ≤ 12 := by omega
  rcases rows_l1 (F := F) (L := L) (by omega) hL12 L 0 F [] rfl (Nat.zero_le _) (by omega) (by simp; omega) with h | ⟨h, hR⟩
  · rw [show ((0 : Nat) : Int) = 0 from rfl] at h
    rw [h]; rfl
  · rw [show ((0 : Nat) : Int) = 0 from rfl, List.nil_append] at h
    rw [h, Option.bind_some]
    simp only [new_r, Option.bind_some]
    have hlen : ((L.map txt).flatten).length ≤ 116640 := by
      have : ∀ (Q : List ReplyV), (∀ r ∈ Q, RightOk r) → ((Q.map txt).flatten).length ≤ 9720 * Q.length := by
        intro Q
        induction Q with
        | nil => intro _; simp
        | cons r Q ih =>
          intro hq
          have := ih (fun x hx => hq x (by simp [hx]))
          have := txt_len (hq r (by simp))
          simp only [List.map_cons, List.flatten_cons, List.length_append, List.length_cons] at *; omega
      have := this L hR; omega
    have hall := rfeed_all L hR
    obtain ⟨a, s, ha, hs⟩ := rows_l2 (F := F) (cuts := cuts) (L := L) hF hL12 (cuts.length + 1) (L.map txt).flatten [] 0 P0 S0 F rd_start (by omega) (by omega) (by omega) (by omega) (fun _ => by omega) (by omega) (by simpa using hall) (by simp)
    rw [show ((0 : Nat) : Int) = 0 from rfl] at ha
    rw [ha, Option.bind_some]
    have h40 : ∀ r ∈ L, r.lines.length ≤ 40 := fun r hr => by have := (hR r hr).h4; omega
    have h3 := rows_l3 (F := F) (L := L) (by omega) h40 (by omega) L 0 F rfl (Nat.zero_le _) (by omega)
    rw [show ((0 : Nat) : Int) = 0 from rfl] at h3
    simp only [decide_true, Bool.not_true, Bool.false_eq_true, if_false, h3, Option.bind_some, hs]
    have := (heldP_eq rd_start).1
    rw [this]
    rfl
end Go.Proofs.ReplyS
