import Derived.Test.YtndhkepeecpilaaDoorRPRel
set_option linter.unusedSimpArgs false
set_option linter.unusedVariables false
set_option linter.unusedSectionVars false
set_option linter.defProp false
namespace Go.Proofs.ReplyS
open Go Go.Am Go.Proofs

theorem code_iff {a b c : UInt8} : (isD a && isD b && isD c && decide (200 ≤ code3 a b c) && decide (code3 a b c ≤ 599)) = true ↔ (50 ≤ a ∧ a ≤ 53) ∧ (48 ≤ b ∧ b ≤ 57) ∧ (48 ≤ c ∧ c ≤ 57) := by
  have hd : ∀ x : UInt8, isD x = true ↔ 48 ≤ x ∧ x ≤ 57 := by
    intro x
    unfold isD
    simp only [Bool.not_eq_true', Bool.or_eq_false_iff, decide_eq_false_iff_not, UInt8.not_lt]
  have hv : ∀ x : UInt8, 48 ≤ x → dig x = (x.toNat : Int) - 48 := by
    intro x hx
    have h3 : (x - 48).toNat = x.toNat - 48 := UInt8.toNat_sub_of_le _ _ hx
    have h1 := UInt8.le_iff_toNat_le.1 hx
    have e1 : (48 : UInt8).toNat = 48 := rfl
    unfold dig; omega
  have e1 : (48 : UInt8).toNat = 48 := rfl
  have e2 : (57 : UInt8).toNat = 57 := rfl
  have e3 : (50 : UInt8).toNat = 50 := rfl
  have e4 : (53 : UInt8).toNat = 53 := rfl
  simp only [Bool.and_eq_true, decide_eq_true_eq, hd]
  constructor
  · rintro ⟨⟨⟨⟨h1, h2⟩, h3⟩, h4⟩, h5⟩
    have q1 := hv a h1.1; have q2 := hv b h2.1; have q3 := hv c h3.1
    unfold code3 at h4 h5
    simp only [UInt8.le_iff_toNat_le] at h1 h2 h3 ⊢
    omega
  · rintro ⟨h1, h2, h3⟩
    have ha : 48 ≤ a ∧ a ≤ 57 := by simp only [UInt8.le_iff_toNat_le] at h1 ⊢; omega
    have q1 := hv a ha.1; have q2 := hv b h2.1; have q3 := hv c h3.1
    refine ⟨⟨⟨⟨ha, h2⟩, h3⟩, ?_⟩, ?_⟩
    · unfold code3; simp only [UInt8.le_iff_toNat_le] at h1 h2 h3 ha; omega
    · unfold code3; simp only [UInt8.le_iff_toNat_le] at h1 h2 h3 ha; omega
theorem rone_p1 {a b c : UInt8} {rest : List UInt8} : ref16_one_p1 ⟨a :: b :: c :: rest, false⟩ = some (!(isD a && isD b && isD c && decide (200 ≤ code3 a b c) && decide (code3 a b c ≤ 599))) := by
  have h3 : ¬ (((a :: b :: c :: rest).length : Int) < 3) := by simp; omega
  have i0 : idx (a :: b :: c :: rest) 0 = some a := by have := idx_nat (a :: b :: c :: rest) 0; simpa using this
  have i1 : idx (a :: b :: c :: rest) 1 = some b := by have := idx_nat (a :: b :: c :: rest) 1; simpa using this
  have i2 : idx (a :: b :: c :: rest) 2 = some c := by have := idx_nat (a :: b :: c :: rest) 2; simpa using this
  unfold ref16_one_p1
  simp only [h3, i0, i1, i2, decide_false, Bool.false_eq_true, if_false, Option.bind_some]
  by_cases hk : (50 ≤ a ∧ a ≤ 53) ∧ (48 ≤ b ∧ b ≤ 57) ∧ (48 ≤ c ∧ c ≤ 57)
  · rw [code_iff.2 hk]
    obtain ⟨h1, h2, h3⟩ := hk
    have n1 : ¬ a < 50 := UInt8.not_lt.2 h1.1
    have n2 : ¬ 53 < a := UInt8.not_lt.2 h1.2
    have n3 : ¬ b < 48 := UInt8.not_lt.2 h2.1
    have n4 : ¬ 57 < b := UInt8.not_lt.2 h2.2
    have n5 : ¬ c < 48 := UInt8.not_lt.2 h3.1
    have n6 : ¬ 57 < c := UInt8.not_lt.2 h3.2
    simp [n1, n2, n3, n4, n5, n6]
  · have hf : (isD a && isD b && isD c && decide (200 ≤ code3 a b c) && decide (code3 a b c ≤ 599)) = false := by
      rw [Bool.eq_false_iff]; exact fun h => hk (code_iff.1 h)
    rw [hf]
    by_cases n1 : a < 50
    · simp [n1]
    by_cases n2 : 53 < a
    · simp [n1, n2]
    by_cases n3 : b < 48
    · simp [n1, n2, n3]
    by_cases n4 : 57 < b
    · simp [n1, n2, n3, n4]
    by_cases n5 : c < 48
    · simp [n1, n2, n3, n4, n5]
    by_cases n6 : 57 < c
    · simp [n1, n2, n3, n4, n5, n6]
    exact absurd ⟨⟨UInt8.not_lt.1 n1, UInt8.not_lt.1 n2⟩, ⟨UInt8.not_lt.1 n3, UInt8.not_lt.1 n4⟩, ⟨UInt8.not_lt.1 n5, UInt8.not_lt.1 n6⟩⟩ hk
theorem rone_eq {F : Nat} {l : LineV} (hb : l.text.length ≤ 100000) (hF : l.text.length < F) :
    ref16_one F l = some (match one l with | none => (0, [], false, false) | some (c, t, last) => (c, t, last, true)) := by
  obtain ⟨text, long⟩ := l
  simp only at hb hF
  unfold one
  cases long with
  | true => simp [ref16_one, ref16_one_p1]
  | false =>
    simp only [Bool.false_eq_true, if_false]
    have short : text.length < 3 → ref16_one F ⟨text, false⟩ = some (0, [], false, false) := by
      intro h
      have : (text.length : Int) < 3 := by omega
      simp [ref16_one, ref16_one_p1, this]
    rcases text with _ | ⟨a, _ | ⟨b, _ | ⟨c, rest⟩⟩⟩
    · exact short (by simp)
    · exact short (by simp)
    · exact short (by simp)
    · have i0 : idx (a :: b :: c :: rest) 0 = some a := by have := idx_nat (a :: b :: c :: rest) 0; simpa using this
      have i1 : idx (a :: b :: c :: rest) 1 = some b := by have := idx_nat (a :: b :: c :: rest) 1; simpa using this
      have i2 : idx (a :: b :: c :: rest) 2 = some c := by have := idx_nat (a :: b :: c :: rest) 2; simpa using this
      unfold ref16_one
      simp only [rone_p1, i0, i1, i2, Option.bind_some]
      by_cases hk : (isD a && isD b && isD c && decide (200 ≤ code3 a b c) && decide (code3 a b c ≤ 599)) = true
      case neg => simp [hk]
      simp only [hk, Bool.not_true, Bool.false_eq_true, if_false, if_true]
      obtain ⟨na, ea, la⟩ := dig_nat a
      obtain ⟨nb, eb, lb⟩ := dig_nat b
      obtain ⟨nc, ec, lc⟩ := dig_nat c
      have hcode : IntKind.wrap .i64 ((IntKind.wrap .i64 ((IntKind.wrap .i64 (100 * (IntKind.wrap .i64 ((a - 48).toNat : Int)))) + (IntKind.wrap .i64 (10 * (IntKind.wrap .i64 ((b - 48).toNat : Int)))))) + (IntKind.wrap .i64 ((c - 48).toNat : Int))) = code3 a b c := by
        have da : ((a - 48).toNat : Int) = dig a := rfl
        have db : ((b - 48).toNat : Int) = dig b := rfl
        have dc : ((c - 48).toNat : Int) = dig c := rfl
        rw [da, db, dc, wr (n := dig a) (by omega) (by omega), wr (n := dig b) (by omega) (by omega), wr (n := dig c) (by omega) (by omega), wr (n := 100 * dig a) (by omega) (by omega), wr (n := 10 * dig b) (by omega) (by omega), wr (n := 100 * dig a + 10 * dig b) (by omega) (by omega), wr (by omega) (by omega)]
        rfl
      rw [hcode]
      cases rest with
      | nil => simp
      | cons s t =>
        have hl3 : ¬ (((a :: b :: c :: s :: t).length : Int) = 3) := by simp; omega
        have i3 : idx (a :: b :: c :: s :: t) 3 = some s := by have := idx_nat (a :: b :: c :: s :: t) 3; simpa using this
        have hs4 : sub (a :: b :: c :: s :: t) 4 ((a :: b :: c :: s :: t).length : Int) = some t := by
          have := sub_end (l := a :: b :: c :: s :: t) (i := 4) (by simp)
          simpa using this
        simp only [List.length_cons] at hb hF
        have ht := rtext_eq (F := F) (s := t) (by omega) (by omega)
        have hp2 : ref16_one_p2 F ⟨a :: b :: c :: s :: t, false⟩ = some (!decide ((s = 45 ∨ s = 32) ∧ textOk t = true)) := by
          unfold ref16_one_p2
          simp only [i3, hs4, Option.bind_some, ht]
          by_cases h1 : s = 32
          · subst h1; simp
          · by_cases h2 : s = 45
            · subst h2; simp
            · simp [h1, h2]
        simp only [hl3, decide_false, Bool.false_eq_true, if_false, hp2, Option.bind_some, hs4, i3]
        by_cases hq : (s = 45 ∨ s = 32) ∧ textOk t = true
        · simp only [hq, decide_true, Bool.not_true, Bool.false_eq_true, if_false, and_self, if_true]
          rcases hq.1 with rfl | rfl <;> simp
        · simp [hq]
/-! ### the two readers go together -/
structure RR (p : ReaderV) (q : ReaderVx) (k : Int) : Prop where
  bad : q.bad = p.bad
  rel : p.bad = false → Rel p.splitter q.s k
  l : p.bad = false → q.l = p.r.lines
  code : p.bad = false → p.r.lines ≠ [] → q.code = p.r.code
theorem rput_eq {F : Nat} {p : ReaderV} {q : ReaderVx} {k : Int} (h : RR p q k) (hp : Rd p) (hb : p.bad = false) (hk0 : 0 ≤ k) (hk : k ≤ 900000) (hF : 70000 < F) (c : UInt8) :
    ∃ q', ref16_Reader_Put F q c = some ((rstep p c).2.getD ⟨0, []⟩, (rstep p c).2.isSome, q') ∧ RR (rstep p c).1 q' (k + 2) := by
  have hrel := h.rel hb
  obtain ⟨s1, s2⟩ := step_rel hrel hk0 c
  have hput := putx_eq hrel hk c
  have hbad := h.bad; rw [hb] at hbad
  have hnl := hp.nl
  unfold ref16_Reader_Put
  rw [hput]
  cases hs : (stepR q.s c).2 with
  | none =>
    have e : stepR q.s c = ((stepR q.s c).1, none) := by rw [← hs]
    rw [e]
    have hst : (step p.splitter c).2 = none := by rw [s2, hs]
    have hr : rstep p c = ({ p with splitter := (step p.splitter c).1 }, none) := by simp [rstep, hb, hst]
    rw [hr]
    exact ⟨{ q with s := (stepR q.s c).1 }, by simp, ⟨by simp [hbad, hb], fun _ => s1, fun _ => h.l hb, fun _ => h.code hb⟩⟩
  | some l =>
    have e : stepR q.s c = ((stepR q.s c).1, some l) := by rw [← hs]
    rw [e]
    have hst : (step p.splitter c).2 = some l := by rw [s2, hs]
    have hr : rstep p c = rline { p with splitter := (step p.splitter c).1 } l := by simp [rstep, hb, hst]
    have htx : l.text.length ≤ 65536 := by
      have : next p.splitter [c] = ((step p.splitter c).1, some (l, [])) := by simp [next, hst]
      exact next_text _ _ _ _ _ hp.ok this
    have ho := rone_eq (F := F) (l := l) (by omega) (by omega)
    have hql := h.l hb
    rw [hr]
    simp only [Bool.not_true, hbad, Bool.or_self, Bool.false_eq_true, if_false, Option.bind_some, ho]
    unfold rline
    cases h1 : one l with
    | none =>
      simp only [Option.bind_some]
      exact ⟨_, rfl, ⟨rfl, by simp, by simp, by simp⟩⟩
    | some x =>
      obtain ⟨code, t, last⟩ := x
      simp only [Option.bind_some, Bool.not_true, Bool.false_or]
      have hcond : (((decide (0 < (q.l.length : Int))) && (!decide (code = q.code))) || (decide ((q.l.length : Int) = 20))) = decide (p.r.lines.length = 20 ∨ (0 < p.r.lines.length ∧ code ≠ p.r.code)) := by
        rw [hql]
        by_cases hz : p.r.lines = []
        · simp [hz]
        · have hcd := h.code hb hz
          have hpos : 0 < p.r.lines.length := List.length_pos_iff.2 hz
          have hpos2 : 0 < (p.r.lines.length : Int) := by omega
          rw [hcd]
          by_cases h20 : p.r.lines.length = 20
          · simp [h20]
          · have h20' : ¬ (p.r.lines.length : Int) = 20 := by omega
            simp [h20, h20', hpos]
      rw [hcond]
      by_cases hc : p.r.lines.length = 20 ∨ (0 < p.r.lines.length ∧ code ≠ p.r.code)
      · rw [if_pos hc]
        simp only [hc, decide_true, if_true]
        exact ⟨_, rfl, ⟨rfl, by simp, by simp, by simp⟩⟩
      · rw [if_neg hc]
        simp only [hc, decide_false, Bool.false_eq_true, if_false]
        have c1 : capp 16 ([] : List (List UInt8)) q.l = some q.l := by rw [capp_ok (by rw [hql]; simp; omega) (by omega)]; rfl
        have c2 : capp 16 q.l [t] = some (q.l ++ [t]) := capp_ok (by rw [hql]; simp; omega) (by omega)
        rw [c1, Option.bind_some, c2, Option.bind_some, hql]
        cases last with
        | true => exact ⟨_, rfl, ⟨by simp [hbad], fun _ => s1, fun _ => rfl, fun _ hne => absurd rfl hne⟩⟩
        | false => exact ⟨_, rfl, ⟨by simp [hbad, hb], fun _ => s1, fun _ => rfl, fun _ _ => rfl⟩⟩
theorem rfeedR_loop {F : Nat} {b : List UInt8} (hb : b.length ≤ 100000) (hF : 70000 < F) : ∀ (rest : List UInt8) (i : Nat) (p : ReaderV) (q : ReaderVx) (k : Int) (out : List ReplyV) (G : Nat), b.drop i = rest → i ≤ b.length → RR p q k → Rd p → 0 ≤ k → k + 2 * rest.length ≤ 800000 →
    rest.length < G → out.length + rest.length ≤ 1000000 → ∃ q', iter (ref16_Reader_Feed_l1 F b) G (out, (i : Int), q) = some (.inr (out ++ (rfeed p rest).2, q')) ∧ RR (rfeed p rest).1 q' (k + 2 * rest.length) := by
  intro rest
  induction rest with
  | nil =>
    intro i p q k out G hd hi h hp hk0 hk hG ho
    obtain ⟨G, rfl⟩ := F_succ hG
    have := drop_nil_ge hd
    have hn : ¬ (i : Int) < b.length := by omega
    exact ⟨q, iter_brk (by simp [ref16_Reader_Feed_l1, hn, rfeed]), by simpa [rfeed] using h⟩
  | cons c rest ih =>
    intro i p q k out G hd hi h hp hk0 hk hG ho
    obtain ⟨G, rfl⟩ := F_succ hG
    obtain ⟨g1, g2, g3⟩ := drop_cons hd
    have hlt : (i : Int) < b.length := by omega
    simp only [List.length_cons] at hk ho hG
    cases hbad : p.bad with
    | true =>
      have hq := h.bad; rw [hbad] at hq
      have hr := rfeed_bad (c :: rest) p hbad
      rw [hr]
      exact ⟨q, iter_brk (by simp [ref16_Reader_Feed_l1, hq]), ⟨by rw [hq, hbad], by simp [hbad], by simp [hbad], by simp [hbad]⟩⟩
    | false =>
      have hq := h.bad; rw [hbad] at hq
      have hw : IntKind.wrap .i64 ((i : Int) + 1) = ((i + 1 : Nat) : Int) := by rw [wr (by omega) (by omega)]; rfl
      obtain ⟨q', hput, hR⟩ := rput_eq (F := F) h hp hbad hk0 (by omega) hF c
      have hrd := (rstep_rd hp c).1
      cases hs : (rstep p c).2 with
      | none =>
        rw [hs] at hput
        obtain ⟨q2, h1, h2⟩ := ih (i + 1) _ q' (k + 2) out G g3 (by omega) hR hrd (by omega) (by omega) (by omega) (by omega)
        refine ⟨q2, ?_, ?_⟩
        · rw [iter_nxt (s' := (out, ((i + 1 : Nat) : Int), q')) (by simp [ref16_Reader_Feed_l1, hlt, hq, idx_get g2, hput, hw]), h1]
          simp [rfeed, hs]
        · simp only [rfeed, List.length_cons]
          have : k + 2 * ((rest.length + 1 : Nat) : Int) = k + 2 + 2 * rest.length := by omega
          rw [this]; exact h2
      | some r =>
        rw [hs] at hput
        have c1 : capp 32 out [r] = some (out ++ [r]) := capp_ok (by simp; omega) (by omega)
        obtain ⟨q2, h1, h2⟩ := ih (i + 1) _ q' (k + 2) (out ++ [r]) G g3 (by omega) hR hrd (by omega) (by omega) (by omega) (by simp; omega)
        refine ⟨q2, ?_, ?_⟩
        · rw [iter_nxt (s' := (out ++ [r], ((i + 1 : Nat) : Int), q')) (by simp [ref16_Reader_Feed_l1, hlt, hq, idx_get g2, hput, hw, c1]), h1]
          simp [rfeed, hs]
        · simp only [rfeed, List.length_cons]
          have : k + 2 * ((rest.length + 1 : Nat) : Int) = k + 2 + 2 * rest.length := by omega
          rw [this]; exact h2
theorem rfeedR_eq {F : Nat} {b : List UInt8} {p : ReaderV} {q : ReaderVx} {k : Int} (hb : b.length ≤ 100000) (hF : 100000 < F) (h : RR p q k) (hp : Rd p) (hk0 : 0 ≤ k) (hk : k + 2 * b.length ≤ 800000) :
    ∃ q', ref16_Reader_Feed F q b = some ((rfeed p b).2, if (rfeed p b).1.bad then 3 else 0, q') ∧ RR (rfeed p b).1 q' (k + 2 * b.length) := by
  unfold ref16_Reader_Feed
  cases hbad : p.bad with
  | true =>
    have hq := h.bad; rw [hbad] at hq
    have hr := rfeed_bad b p hbad
    rw [hr]
    exact ⟨q, by simp [hq, hbad], ⟨by rw [hq, hbad], by simp [hbad], by simp [hbad], by simp [hbad]⟩⟩
  | false =>
    have hq := h.bad; rw [hbad] at hq
    obtain ⟨q', h1, h2⟩ := rfeedR_loop (F := F) hb (by omega) b 0 p q k [] F rfl (Nat.zero_le _) h hp hk0 hk (by omega) (by simp; omega)
    rw [show ((0 : Nat) : Int) = 0 from rfl, List.nil_append] at h1
    refine ⟨q', ?_, h2⟩
    have hb2 := h2.bad
    simp only [hq, Bool.false_eq_true, if_false, h1, Option.bind_some, hb2]
    cases (rfeed p b).1.bad <;> simp
theorem same16_eq {F : Nat} {L : List ReplyV} (hF : 100000 < F) (hl : L.length ≤ 50000) (hL : ∀ r ∈ L, r.lines.length ≤ 20) : law16_same F L L = some true := by
  have key : ∀ (q : List ReplyV) (i G : Nat) (t : Bool), L.drop i = q → i ≤ L.length → q.length < G → iter (law16_same_l1 F L L) G (t, (i : Int)) = some (.inr ()) := by
    intro q
    induction q with
    | nil =>
      intro i G t hd hi hG
      obtain ⟨G, rfl⟩ := F_succ hG
      have := drop_nil_ge hd
      have hn : ¬ (i : Int) < L.length := by omega
      exact iter_brk (by simp [law16_same_l1, hn])
    | cons r q ih =>
      intro i G t hd hi hG
      obtain ⟨G, rfl⟩ := F_succ hG
      obtain ⟨g1, g2, g3⟩ := drop_cons hd
      have hlt : (i : Int) < L.length := by omega
      have hw : IntKind.wrap .i64 ((i : Int) + 1) = ((i + 1 : Nat) : Int) := by rw [wr (by omega) (by omega)]; rfl
      have hs := rsame_eq (F := F) (a := r) (b := r) (by omega) (by have := hL r (List.mem_of_getElem? g2); omega)
      rw [iter_nxt (s' := (t, ((i + 1 : Nat) : Int))) (by simp [law16_same_l1, law16_Of, hlt, idx_get g2, hs, hw])]
      exact ih (i + 1) G t g3 (by omega) (by simp at hG; omega)
  have hk := key L 0 F false rfl (Nat.zero_le _) (by omega)
  rw [show ((0 : Nat) : Int) = 0 from rfl] at hk
  unfold law16_same
  simp [hk]
theorem parse_same {F : Nat} {b : List UInt8} {q0 : ReaderVx} (hb : b.length ≤ 4096) (hF : 200000 < F) (hq0 : ref16_New = some (some q0)) (h0 : RR ⟨S0, ⟨0, []⟩, 0, false⟩ q0 0) :
    ∃ x e, reply_Parse F b = some (x, e) ∧ ref16_Parse F b = some (x, e) ∧ x.lines.length ≤ 20 := by
  have hf := feedP_eq (F := F) rd_start (b := b) (by omega) (by omega) (by omega)
  obtain ⟨q', hg, hR⟩ := rfeedR_eq (F := F) (b := b) (by omega) (by omega) h0 rd_start (by omega) (by omega)
  obtain ⟨hrd, hrl⟩ := rfeed_rd b _ rd_start
  generalize hrf : rfeed ⟨S0, ⟨0, []⟩, 0, false⟩ b = X at hf hg hR hrd hrl
  obtain ⟨p, out⟩ := X
  simp only at hf hg hR hrd hrl
  unfold reply_Parse ref16_Parse
  rw [new_r, hq0]
  simp only [Option.bind_some, hf, hg]
  unfold reply_Parse_p1 ref16_Parse_p1
  cases hbad : p.bad with
  | true => exact ⟨⟨0, []⟩, 3, by simp, by simp, by simp⟩
  | false =>
    have hrel := hR.rel hbad
    have hl := hR.l hbad
    simp only [Bool.false_eq_true, if_false, decide_true, Bool.not_true]
    rcases out with _ | ⟨r, _ | ⟨r2, out⟩⟩
    · exact ⟨⟨0, []⟩, 2, by simp, by simp, by simp⟩
    · have hi : idx [r] 0 = some r := by have := idx_nat [r] 0; simpa using this
      have he : (reply_Reader_Held_s p) = reply_Reader_Held_s p := rfl
      have hh := held_eq hrd.ok
      have key : (decide (0 < (p.r.lines.length : Int)) || decide (0 < held p.splitter)) = !((decide ((q'.l.length : Int) = 0) && decide (q'.s.n = 0)) && !q'.s.cR) := by
        rw [hl]
        obtain ⟨hok, hm, hbq, hcr, -, hn0, -, hsh, hfu, hs0, hs1, hst⟩ := hrel
        by_cases hz : p.r.lines.length = 0
        · simp only [hz, Nat.lt_irrefl, decide_false, Bool.false_or, decide_true, Bool.true_and, show ¬ (0 : Int) < ((0 : Nat) : Int) by omega, show ((0 : Nat) : Int) = 0 from rfl]
          have hm5 := hrd.most
          unfold held
          by_cases h2 : p.splitter.state = 2
          · have : 0 < (p.splitter.b.length : Int) + 1 := by omega
            simp [h2, hcr, this]
          · have hcf : q'.s.cR = false := by rw [hcr]; simp [h2]
            rw [hcf]
            simp only [h2, if_false, Bool.not_false, Bool.and_true]
            by_cases hn : q'.s.n = 0
            · have := hsh (by omega)
              have hb0 : p.splitter.b.length = 0 := by omega
              simp [hn, hb0]
            · have hpos : 0 < (p.splitter.b.length : Int) := by
                by_cases hle : q'.s.n ≤ p.splitter.most - 2
                · have := hsh hle; omega
                · have := hfu (by omega); omega
              rw [decide_eq_false hn, decide_eq_true hpos]; simp
        · have h1 : 0 < (p.r.lines.length : Int) := by omega
          have h2 : ¬ (p.r.lines.length : Int) = 0 := by omega
          rw [decide_eq_true h1, decide_eq_false h2]; simp
      have n1 : ¬ ((1 : Int) < (([r] : List ReplyV).length : Int)) := by simp
      have n2 : (([r] : List ReplyV).length : Int) = 1 := by simp
      have n3 : ¬ (([r] : List ReplyV).length : Int) = 0 := by simp
      have n4 : ¬ (1 : Int) < 1 := by omega
      have n5 : ¬ (1 : Int) = 0 := by omega
      by_cases hcase : (decide (0 < (p.r.lines.length : Int)) || decide (0 < held p.splitter)) = true
      · refine ⟨⟨0, []⟩, 3, ?_, ?_, by simp⟩
        · simp only [n1, n2, n4, decide_false, decide_true, Bool.false_eq_true, if_false, if_true, hh, Option.bind_some]
          by_cases h1 : 0 < (p.r.lines.length : Int)
          · simp only [h1, decide_true, if_true, Option.bind_some]
          · rw [decide_eq_false h1, Bool.false_or] at hcase
            simp only [h1, decide_false, Bool.false_eq_true, if_false, hcase, Option.bind_some, if_true]
        · rw [hcase] at key
          simp only [n1, n2, n4, decide_false, decide_true, Bool.false_eq_true, if_false, if_true, ref16_Reader_Empty_s, Option.bind_some, ← key]
      · have hcf : (decide (0 < (p.r.lines.length : Int)) || decide (0 < held p.splitter)) = false := by simpa using hcase
        refine ⟨r, 0, ?_, ?_, hrl r (by simp)⟩
        · simp only [Bool.or_eq_false_iff] at hcf
          simp only [n1, n2, n3, n4, n5, hcf.1, hcf.2, decide_false, decide_true, Bool.false_eq_true, if_false, if_true, hh, Option.bind_some, hi]
        · rw [hcf] at key
          simp only [n1, n2, n3, n4, n5, decide_false, decide_true, Bool.false_eq_true, if_false, if_true, ref16_Reader_Empty_s, Option.bind_some, ← key, hi]
    · have n1 : (1 : Int) < ((r :: r2 :: out).length : Int) := by simp; omega
      exact ⟨⟨0, []⟩, 3, by simp only [n1, decide_true, if_true, Option.bind_some], by simp only [n1, decide_true, if_true, Option.bind_some], by simp⟩
theorem str_cut {i : Nat} {cuts : List Int} {b : List UInt8} (hb : b.length ≤ 1000000) : ∃ n : Nat, n ≤ b.length ∧ law16_ReplyStreams_p2x (i : Int) cuts b = some (n : Int) ∧ (cuts.length ≤ i → n = b.length) := by
  unfold law16_ReplyStreams_p2x
  by_cases h : (i : Int) < (cuts.length : Int)
  · have hi : i < cuts.length := by omega
    have hw : IntKind.wrap .i64 ((b.length : Int) + 1) = (b.length : Int) + 1 := wr (by omega) (by omega)
    simp only [h, decide_true, if_true, idx_lt hi, Option.bind_some, hw]
    have hm : ∃ x : Int, rm .i64 cuts[i] ((b.length : Int) + 1) = some x ∧ -(b.length : Int) ≤ x ∧ x ≤ b.length := by
      refine ⟨Int.tmod cuts[i] ((b.length : Int) + 1), by unfold rm; rw [if_neg (by omega)], ?_, ?_⟩
      · have := Int.lt_tmod_of_pos cuts[i] (show (0 : Int) < (b.length : Int) + 1 by omega); omega
      · have := Int.tmod_lt_of_pos cuts[i] (show (0 : Int) < (b.length : Int) + 1 by omega); omega
    obtain ⟨x, hx, h1, h2⟩ := hm
    rw [hx, Option.bind_some]
    by_cases h0 : x < 0
    · refine ⟨(-x).toNat, by omega, ?_, by omega⟩
      simp only [h0, decide_true, if_true]
      rw [wr (by omega) (by omega)]
      congr 1; omega
    · refine ⟨x.toNat, by omega, ?_, by omega⟩
      simp only [h0, decide_false, Bool.false_eq_true, if_false]
      congr 1; omega
  · exact ⟨b.length, Nat.le_refl _, by simp [h], fun _ => rfl⟩
theorem str_l1 {F : Nat} {cuts : List Int} (hF : 2000000 < F) : ∀ (m : Nat) (b : List UInt8) (i : Nat) (p : ReaderV) (q : ReaderVx) (s0 : SplitterV) (k : Int) (G : Nat), Rd p → RR p q k → 0 ≤ k → k + 2 * b.length ≤ 800000 → b.length ≤ 4096 → i ≤ 1000000 → cuts.length ≤ 1000 →
    cuts.length + 1 - i ≤ m → (b ≠ [] → i ≤ cuts.length) → m < G → ∃ x, iter (law16_ReplyStreams_l1 F cuts) G (b, (i : Int), ⟨s0, p.r, p.n, p.bad⟩, p.splitter, q) = some (.inr x) := by
  intro m
  induction m with
  | zero =>
    intro b i p q s0 k G h hR hk0 hk hb hi hc hm hbi hG
    have hb0 : b = [] := by
      by_cases hb0 : b = []
      · exact hb0
      · have := hbi hb0; omega
    subst hb0
    obtain ⟨G, rfl⟩ := F_succ hG
    exact ⟨_, iter_brk (t := (⟨p.splitter, p.r, p.n, p.bad⟩, p.splitter, q)) (by simp [law16_ReplyStreams_l1])⟩
  | succ m ih =>
    intro b i p q s0 k G h hR hk0 hk hb hi hc hm hbi hG
    obtain ⟨G, rfl⟩ := F_succ hG
    by_cases hb0 : b = []
    · subst hb0
      exact ⟨_, iter_brk (t := (⟨p.splitter, p.r, p.n, p.bad⟩, p.splitter, q)) (by simp [law16_ReplyStreams_l1])⟩
    have hpos : 0 < (b.length : Int) := by have := List.length_pos_iff.2 hb0; omega
    obtain ⟨n, hn, hcut, hlast⟩ := str_cut (i := i) (cuts := cuts) (b := b) (by omega)
    have hs1 : sub b 0 (n : Int) = some (b.take n) := sub_to hn
    have hs2 : sub b (n : Int) (b.length : Int) = some (b.drop n) := sub_end hn
    have hlen : (b.take n).length = n := by simp; omega
    have hlen2 : (b.drop n).length = b.length - n := by simp
    have hfd := feedP_eq (F := F) (p := p) (b := b.take n) h (by omega) (by omega) (by omega)
    obtain ⟨q', hgd, hR'⟩ := rfeedR_eq (F := F) (b := b.take n) (by omega) (by omega) hR h hk0 (by omega)
    obtain ⟨hrd, hrl⟩ := rfeed_rd (b.take n) p h
    have hrlen := rfeed_len (b.take n) p
    have hsm := same16_eq (F := F) (L := (rfeed p (b.take n)).2) (by omega) (by omega) hrl
    obtain ⟨hh1, hh2, hh3⟩ := heldP_eq hrd
    have hw : IntKind.wrap .i64 ((i : Int) + 1) = ((i + 1 : Nat) : Int) := by rw [wr (by omega) (by omega)]; rfl
    have hp3 : law16_ReplyStreams_p3 F (rfeed p (b.take n)).2 (rfeed p (b.take n)).2 (if (rfeed p (b.take n)).1.bad then 3 else 0) (if (rfeed p (b.take n)).1.bad then 3 else 0) (rfeed p (b.take n)).1 = some false := by
      unfold law16_ReplyStreams_p3
      have a1 : ¬ (rfeed p (b.take n)).1.n + held (rfeed p (b.take n)).1.splitter < 0 := by omega
      have a2 : ¬ 16384 < (rfeed p (b.take n)).1.n + held (rfeed p (b.take n)).1.splitter := by omega
      simp [hsm, hh1, a1, a2]
    obtain ⟨x, hx⟩ := ih (b.drop n) (i + 1) (rfeed p (b.take n)).1 q' (rfeed p (b.take n)).1.splitter (k + 2 * ((b.take n).length : Int)) G hrd hR' (by omega) (by omega) (by omega) (by have := hbi hb0; omega) hc (by omega)
      (fun hne => by
        have := hbi hb0
        by_cases hlt : i < cuts.length
        · omega
        · exfalso; have := hlast (by omega); exact hne (List.drop_eq_nil_of_le (by omega))) (by omega)
    refine ⟨x, ?_⟩
    rw [iter_nxt (s' := (b.drop n, ((i + 1 : Nat) : Int), (rfeed p (b.take n)).1, (rfeed p (b.take n)).1.splitter, q'))
      (by simp only [law16_ReplyStreams_l1, hpos, decide_true, if_true, hcut, hs1, hs2, Option.bind_some, hfd, hgd, hp3, hw, Bool.false_eq_true, if_false])]
    exact hx
theorem streams_law (b : List UInt8) (cuts : List Int) : ∃ F, law16_ReplyStreams F b cuts = some true := by
  refine ⟨2000001 + 100, ?_⟩
  generalize hG : 2000001 + 100 = F
  have hF : 2000000 < F := by omega
  have hk : law16_known F = some true := by rw [← hG]; exact known_eqB 2000001
  unfold law16_ReplyStreams
  rw [hk, Option.bind_some]
  simp only [Bool.not_true, Bool.false_eq_true, if_false]
  by_cases hl : 4096 < (b.length : Int)
  · simp [hl]
  by_cases hc : 300 < (cuts.length : Int)
  · simp [hc]
  simp only [hl, hc, decide_false, Bool.or_self, Bool.false_eq_true, if_false]
  have hnew : ref16_New = some (some ⟨⟨512, [], 0, false⟩, 0, [], false⟩) := rfl
  have h0 : RR ⟨S0, ⟨0, []⟩, 0, false⟩ ⟨⟨512, [], 0, false⟩, 0, [], false⟩ 0 := by
    refine ⟨rfl, fun _ => ⟨s0_ok, rfl, rfl, rfl, rfl, by simp, by simp, by simp [start], by simp [start], by simp, by simp [start], by simp [start]⟩, fun _ => rfl, fun _ h => absurd rfl h⟩
  obtain ⟨x, hx⟩ := str_l1 (F := F) (cuts := cuts) hF (cuts.length + 1) b 0 ⟨S0, ⟨0, []⟩, 0, false⟩ _ S0 0 F rd_start h0 (by omega) (by omega) (by omega) (by omega) (by omega) (by omega) (fun _ => by omega) (by omega)
  rw [show ((0 : Nat) : Int) = 0 from rfl] at hx
  obtain ⟨y, e, hp1, hp2, hyl⟩ := parse_same (F := F) (b := b) (by omega) (by omega) hnew h0
  have hs := rsame_eq (F := F) (a := y) (b := y) (by omega) (by omega)
  obtain ⟨x1, x2, x3⟩ := x
  simp only [new_r, hnew, Option.bind_some, hx, hp1, hp2, law16_ReplyStreams_p4, law16_Of, hs, decide_true, if_true]
end Go.Proofs.ReplyS
