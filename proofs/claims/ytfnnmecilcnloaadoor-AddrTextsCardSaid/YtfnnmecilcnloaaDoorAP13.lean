import Derived.Test.YtfnnmecilcnloaaDoorAP11
set_option linter.unusedSimpArgs false
set_option linter.unusedVariables false
set_option linter.unusedSectionVars false
set_option linter.defProp false
set_option maxRecDepth 100000
namespace Go.Proofs.AddrS
open Go Go.Am Go.Proofs

theorem at_cases {s r : List UInt8} {n : Nat} (h : At s n r) : (r = [] ∧ n = s.length) ∨ (∃ c t, r = c :: t ∧ n < s.length ∧ s[n]? = some c) := by
  cases r with
  | nil => have := h.len; exact .inl ⟨rfl, by simpa using this⟩
  | cons c t => obtain ⟨h1, h2, h3⟩ := drop_cons h.dr; exact .inr ⟨c, t, rfl, h1, h2⟩
theorem wadd {a b : Nat} (h : a + b ≤ 1000000000) : IntKind.wrap .i64 ((a : Int) + (b : Int)) = ((a + b : Nat) : Int) := by rw [wr (by omega) (by omega)]; simp
theorem route_p2r {s r : List UInt8} {n : Nat} (h : At s n r) : ref14_route_p2 (n : Int) s = some (decide (nx r = 64)) := by
  unfold ref14_route_p2
  rcases at_cases h with ⟨rfl, h1⟩ | ⟨c, t, rfl, h1, h2⟩
  · rw [if_neg (by simp; omega)]; simp [nx]
  · rw [if_pos (by simpa using h1), idx_get h2]; rfl
theorem route_loop_r {s : List UInt8} {F : Nat} (hs : s.length ≤ 2100) (hFF : 99010 < F) : ∀ (k : Nat) (r : List UInt8) (i G : Nat), At s i r → r.length < k → k ≤ G →
    match rtGo k r with
    | some rest => ∃ n : Nat, iter (ref14_route_l1 F s) G (i : Int) = some (.inl (n : Int)) ∧ At s n rest
    | none => iter (ref14_route_l1 F s) G (i : Int) = some (.inl (-1)) ∨ iter (ref14_route_l1 F s) G (i : Int) = some (.inr ()) := by
  intro k
  induction k with
  | zero => intro r i G h hk; omega
  | succ k ih =>
    intro r i G h hk hG
    obtain ⟨G, rfl⟩ := F_succ (show 0 < G by omega)
    have hle := h.le
    by_cases hx : nx r = 64
    · obtain ⟨t, rfl⟩ := nx_cons hx (by decide)
      have h1 := h.next
      have hl1 := h1.len
      have htw := tw_len isDom t
      have hsk := h1.skip isDom
      simp only [rtGo]
      rw [if_pos hx]
      simp only [List.drop_succ_cons, List.drop_zero]
      have hb : ref14_route_l1 F s (i : Int) = if (!shapeB (t.takeWhile isDom)) = true then some (.ret (-1)) else
          (ref14_route_p3 (i : Int) (((t.takeWhile isDom).length : Nat) : Int) s).bind fun t15 => if t15 = true then some (.ret (IntKind.wrap .i64 ((IntKind.wrap .i64 ((IntKind.wrap .i64 ((i : Int) + 1)) + (((t.takeWhile isDom).length : Nat) : Int))) + 1)))
          else (ref14_route_p4 s (i : Int) (((t.takeWhile isDom).length : Nat) : Int)).bind fun t18 => if t18 = true then some (.ret (-1)) else some (.nxt (IntKind.wrap .i64 ((IntKind.wrap .i64 ((IntKind.wrap .i64 ((i : Int) + 1)) + (((t.takeWhile isDom).length : Nat) : Int))) + 1))) := by
        simp only [ref14_route_l1]
        rw [route_p2r h, Option.bind_some, if_pos (by simpa using hx), show IntKind.wrap .i64 ((i : Int) + 1) = ((i + 1 : Nat) : Int) from wi (by omega), sub_end h1.le, h1.dr, Option.bind_some, domain_r (by omega) (by omega), Option.bind_some, wadd (by omega), sub_while h1, Option.bind_some, shape_r (by omega) hFF, Option.bind_some]
      rw [show IntKind.wrap .i64 ((i : Int) + 1) = ((i + 1 : Nat) : Int) from wi (by omega), wadd (by omega), wi (by omega)] at hb
      unfold ref14_route_p3 ref14_route_p4 at hb
      rw [show IntKind.wrap .i64 ((i : Int) + 1) = ((i + 1 : Nat) : Int) from wi (by omega), wadd (by omega)] at hb
      unfold domainL
      cases hsh : shapeB (t.takeWhile isDom) with
      | false =>
        rw [hsh] at hb
        exact .inl (iter_ret (by rw [hb]; rfl))
      | true =>
        rw [hsh] at hb
        simp only [Bool.not_true, Bool.false_eq_true, if_false, if_true] at hb ⊢
        rcases at_cases hsk with ⟨hr2, h5⟩ | ⟨c, u, hr2, h5, h6⟩
        · rw [hr2]
          rw [if_neg (by simp; omega)] at hb
          simp only [Option.bind_some, Bool.false_eq_true, if_false] at hb
          rw [if_pos (by simp; omega)] at hb
          simp only [Option.bind_some, if_true] at hb
          rw [if_neg (by simp [nx]), if_neg (by simp [nx])]
          exact .inl (iter_ret hb)
        · rw [hr2] at hsk ⊢
          rw [if_pos (by simp; omega), idx_get h6] at hb
          simp only [Option.bind_some] at hb
          by_cases h58 : c = 58
          · subst h58
            rw [if_pos (by decide)] at hb
            rw [if_neg (show nx (58 :: u) ≠ 44 by simp [nx]), if_pos (show nx (58 :: u) = 58 from rfl)]
            exact ⟨_, iter_ret hb, hsk.next⟩
          · rw [if_neg (by simpa using h58), if_neg (by simp; omega)] at hb
            simp only [Option.bind_some] at hb
            by_cases h44 : c = 44
            · subst h44
              rw [if_neg (by decide)] at hb
              rw [if_pos (show nx (44 :: u) = 44 from rfl)]
              simp only [List.drop_succ_cons, List.drop_zero]
              have hlu := hsk.len
              have := ih u (i + 1 + (t.takeWhile isDom).length + 1) G hsk.next (by simp only [List.length_cons] at hk hlu hl1; omega) (by omega)
              rw [iter_nxt hb]
              exact this
            · rw [if_pos (by simpa using h44)] at hb
              rw [if_neg (show nx (c :: u) ≠ 44 from h44), if_neg (show nx (c :: u) ≠ 58 from h58)]
              exact .inl (iter_ret hb)
    · simp only [rtGo]
      rw [if_neg hx]
      exact .inr (iter_brk (by simp only [ref14_route_l1]; rw [route_p2r h, Option.bind_some, if_neg (by simpa using hx)]))
theorem route_r {s : List UInt8} {F : Nat} (hs : s.length ≤ 2100) (hF : 99010 < F) : match routeL s with
    | some rest => ∃ n : Nat, ref14_route F s = some (n : Int) ∧ At s n rest
    | none => ref14_route F s = some (-1) := by
  have hz := At.zero (s := s) (by omega)
  have hp1 : ref14_route_p1 s = some (!decide (nx s = 64)) := by
    unfold ref14_route_p1
    cases s with
    | nil => simp [nx]
    | cons c r => rw [if_neg (by simp), show idx (c :: r) 0 = some c by simp [idx]]; rfl
  unfold routeL ref14_route
  rw [hp1, Option.bind_some]
  by_cases hx : nx s = 64
  · rw [if_pos hx, if_neg (by simp [hx])]
    have := route_loop_r hs hF (s.length + 1) s 0 F hz (by omega) (by omega)
    rw [show (0 : Int) = ((0 : Nat) : Int) from rfl]
    cases hg : rtGo (s.length + 1) s with
    | none =>
      rw [hg] at this
      rcases this with h | h
      · simp only [hg]; rw [h]; rfl
      · simp only [hg]; rw [h]; rfl
    | some rest =>
      rw [hg] at this
      obtain ⟨n, h1, h2⟩ := this
      simp only [hg]
      exact ⟨n, by rw [h1]; rfl, h2⟩
  · rw [if_neg hx, if_pos (by simp [hx])]
    exact ⟨0, rfl, hz⟩

theorem loc_p2r {s r : List UInt8} {n : Nat} (h : At s n r) : ref14_local_p2 (n : Int) s = some (match r with | [] => false | c :: _ => !decide (c = 34)) := by
  unfold ref14_local_p2
  rcases at_cases h with ⟨rfl, h1⟩ | ⟨c, t, rfl, h1, h2⟩
  · rw [if_neg (by simp; omega)]
  · rw [if_pos (by simpa using h1), idx_get h2]; rfl
theorem loc_p4r {s r : List UInt8} {n : Nat} (h : At s n r) : ref14_local_p4 s (n : Int) = some (match r with | [] => true | c :: _ => !isVis c) := by
  unfold ref14_local_p4
  rcases at_cases h with ⟨rfl, h1⟩ | ⟨c, t, rfl, h1, h2⟩
  · rw [if_pos (by simp; omega)]
  · rw [if_neg (by simp; omega), idx_get h2, Option.bind_some]; exact vis_r c
theorem quoted_r {s : List UInt8} : ∀ (k : Nat) (r acc : List UInt8) (n F : Nat), r.length ≤ k → At s n r → acc.length ≤ n → r.length < F →
    match qL r with
    | some (b, rest) => ∃ n' : Nat, iter (ref14_local_l1 s) F (acc, (n : Int)) = some (.inr (acc ++ b, (n' : Int))) ∧ At s n' (34 :: rest)
    | none => iter (ref14_local_l1 s) F (acc, (n : Int)) = some (.inl ([], -1)) ∨ ∃ acc', iter (ref14_local_l1 s) F (acc, (n : Int)) = some (.inr (acc', (s.length : Int))) := by
  intro k
  induction k with
  | zero =>
    intro r acc n F hk h ha hF
    have hr : r = [] := List.length_eq_zero_iff.1 (by omega)
    subst hr
    obtain ⟨G, rfl⟩ := F_succ hF
    have hn : n = s.length := by have := h.len; simpa using this
    subst hn
    exact .inr ⟨acc, iter_brk (by simp only [ref14_local_l1]; rw [loc_p2r h]; rfl)⟩
  | succ k ih =>
    intro r acc n F hk h ha hF
    obtain ⟨G, rfl⟩ := F_succ (show 0 < F by omega)
    have h1 := h.le; have h2 := h.sm
    match r, hk, h, hF with
    | [], hk, h, hF =>
      have hn : n = s.length := by have := h.len; simpa using this
      subst hn
      exact .inr ⟨acc, iter_brk (by simp only [ref14_local_l1]; rw [loc_p2r h]; rfl)⟩
    | c :: r, hk, h, hF =>
      rw [qL_cons]
      obtain ⟨-, hc1, -⟩ := drop_cons h.dr
      by_cases hc : c = 34
      · subst hc
        rw [if_pos rfl]
        exact ⟨n, by rw [iter_brk (t := (acc, (n : Int))) (by simp only [ref14_local_l1]; rw [loc_p2r h]; rfl)]; simp, h⟩
      · rw [if_neg hc]
        have hp2 : ref14_local_p2 (n : Int) s = some true := by rw [loc_p2r h]; simp [hc]
        by_cases hc2 : c = 92
        · subst hc2
          rw [if_pos rfl]
          have hst : ref14_local_l1 s (acc, (n : Int)) = (ref14_local_p4 s ((n + 1 : Nat) : Int)).bind fun t15 => if t15 = true then some (.ret (([] : List UInt8), (-1))) else (idx s ((n + 1 : Nat) : Int)).bind fun x16 => (capp 1 acc ([x16] : List UInt8)).bind fun x17 => some (.nxt (x17, (IntKind.wrap .i64 (((n + 1 : Nat) : Int) + 1)))) := by
            simp only [ref14_local_l1]
            rw [hp2]
            simp only [Option.bind_some, if_true]
            rw [idx_get hc1, Option.bind_some]
            unfold ref14_local_p3
            rw [if_pos (by decide), wi (by omega), Option.bind_some]
          rw [loc_p4r h.next, Option.bind_some] at hst
          match r, hk, h, hF, hst with
          | [], hk, h, hF, hst => exact .inl (iter_ret hst)
          | d :: r', hk, h, hF, hst =>
            obtain ⟨hlt2, hd1, -⟩ := drop_cons h.next.dr
            have hst2 : ref14_local_l1 s (acc, (n : Int)) = if (!isVis d) = true then some (.ret (([] : List UInt8), (-1))) else (idx s ((n + 1 : Nat) : Int)).bind fun x16 => (capp 1 acc ([x16] : List UInt8)).bind fun x17 => some (.nxt (x17, (IntKind.wrap .i64 (((n + 1 : Nat) : Int) + 1)))) := hst
            cases hv : isVis d with
            | false => simp only [hv, Bool.false_eq_true, if_false]; exact .inl (iter_ret (hst2.trans (if_pos (by rw [hv]; rfl))))
            | true =>
              have hst' : ref14_local_l1 s (acc, (n : Int)) = some (.nxt (acc ++ [d], ((n + 2 : Nat) : Int))) := by
                rw [hst2, if_neg (by rw [hv]; decide)]
                rw [idx_get hd1, Option.bind_some, capp_ok (by simp; omega) (by omega), Option.bind_some, wi (by omega)]
              have := ih r' (acc ++ [d]) (n + 2) G (by simp at hk; omega) h.next.next (by simp; omega) (by simp at hF; omega)
              rw [iter_nxt hst']
              cases hq : qL r' with
              | none => rw [hq] at this; simp only [hv, if_true, hq, Option.map_none]; exact this
              | some x =>
                obtain ⟨b, rest⟩ := x
                rw [hq] at this
                obtain ⟨n', h3, h4⟩ := this
                simp only [hv, if_true, hq, Option.map_some]
                exact ⟨n', by rw [h3]; simp, h4⟩
        · rw [if_neg hc2]
          have hst : ref14_local_l1 s (acc, (n : Int)) = (ref14_local_p4 s (n : Int)).bind fun t15 => if t15 = true then some (.ret (([] : List UInt8), (-1))) else (idx s (n : Int)).bind fun x16 => (capp 1 acc ([x16] : List UInt8)).bind fun x17 => some (.nxt (x17, (IntKind.wrap .i64 ((n : Int) + 1)))) := by
            simp only [ref14_local_l1]
            rw [hp2]
            simp only [Option.bind_some, if_true]
            rw [idx_get hc1, Option.bind_some]
            unfold ref14_local_p3
            rw [if_neg (by simpa using hc2), Option.bind_some, idx_get hc1]
          rw [loc_p4r h, Option.bind_some] at hst
          have hlt := h.next.le
          have hst2 : ref14_local_l1 s (acc, (n : Int)) = if (!isVis c) = true then some (.ret (([] : List UInt8), (-1))) else (idx s (n : Int)).bind fun x16 => (capp 1 acc ([x16] : List UInt8)).bind fun x17 => some (.nxt (x17, (IntKind.wrap .i64 ((n : Int) + 1)))) := hst
          cases hv : isVis c with
          | false => simp only [hv, Bool.false_eq_true, if_false]; exact .inl (iter_ret (hst2.trans (if_pos (by rw [hv]; rfl))))
          | true =>
            have hst' : ref14_local_l1 s (acc, (n : Int)) = some (.nxt (acc ++ [c], ((n + 1 : Nat) : Int))) := by
              rw [hst2, if_neg (by rw [hv]; decide)]
              rw [idx_get hc1, Option.bind_some, capp_ok (by simp; omega) (by omega), Option.bind_some, wi (by omega)]
            have := ih r (acc ++ [c]) (n + 1) G (by simp at hk; omega) h.next (by simp; omega) (by simp at hF; omega)
            rw [iter_nxt hst']
            cases hq : qL r with
            | none => rw [hq] at this; simp only [hv, if_true, hq, Option.map_none]; exact this
            | some x =>
              obtain ⟨b, rest⟩ := x
              rw [hq] at this
              obtain ⟨n', h3, h4⟩ := this
              simp only [hv, if_true, hq, Option.map_some]
              exact ⟨n', by rw [h3]; simp, h4⟩
theorem loc_p6r {s r : List UInt8} {n F : Nat} (hF : 30 ≤ F) (h : At s n r) : ref14_local_p6 F (n : Int) s = some (match r with | [] => false | c :: _ => isLoc c) := by
  unfold ref14_local_p6
  rcases at_cases h with ⟨rfl, h1⟩ | ⟨c, t, rfl, h1, h2⟩
  · rw [if_neg (by simp; omega)]
  · rw [if_pos (by simpa using h1), idx_get h2, Option.bind_some, atext_r hF, Option.bind_some]
    simp only [isLoc]
    cases isAtm c <;> by_cases hc : c = 46 <;> simp [hc]
theorem words_loop {s : List UInt8} {F : Nat} (hFF : 30 ≤ F) : ∀ (r : List UInt8) (n G : Nat), At s n r → r.length < G → iter (ref14_local_l2 F s) G (n : Int) = some (.inr ((n + (r.takeWhile isLoc).length : Nat) : Int)) := by
  intro r
  induction r with
  | nil =>
    intro n G h hG
    obtain ⟨G, rfl⟩ := F_succ hG
    rw [iter_brk (t := (n : Int)) (by simp only [ref14_local_l2]; rw [loc_p6r hFF h]; rfl)]
    simp
  | cons c r ih =>
    intro n G h hG
    obtain ⟨G, rfl⟩ := F_succ hG
    have := h.len; have := h.sm
    by_cases hq : isLoc c = true
    · rw [iter_nxt (s' := ((n + 1 : Nat) : Int)) (by simp only [ref14_local_l2]; rw [loc_p6r hFF h]; simp only [hq, Option.bind_some, if_true]; rw [wi (by omega)]), ih (n + 1) G h.next (by simp at hG; omega), List.takeWhile_cons, if_pos hq]
      simp only [List.length_cons]
      congr 3
      omega
    · rw [iter_brk (t := (n : Int)) (by simp only [ref14_local_l2]; rw [loc_p6r hFF h]; simp only [hq, Option.bind_some]; rfl), List.takeWhile_cons, if_neg hq]
      simp
theorem local_rr {s : List UInt8} {F : Nat} (hs : s.length ≤ 2100) (hF : 99010 < F) : match localL s with
    | some (b, rest) => ∃ n : Nat, ref14_local F s = some (b, (n : Int)) ∧ At s n rest
    | none => ref14_local F s = some ([], -1) := by
  have hz := At.zero (s := s) (by omega)
  have hp1 : ref14_local_p1 s = some (decide (nx s = 34)) := by
    unfold ref14_local_p1
    cases s with
    | nil => simp [nx]
    | cons c r => rw [if_pos (by simp), show idx (c :: r) 0 = some c by simp [idx]]; rfl
  unfold localL ref14_local
  rw [hp1, Option.bind_some]
  by_cases hx : nx s = 34
  · obtain ⟨t, rfl⟩ := nx_cons hx (by decide)
    rw [if_pos hx, if_pos (by simpa using hx)]
    simp only [List.drop_succ_cons, List.drop_zero]
    have := quoted_r (s := 34 :: t) t.length t [] 1 F (Nat.le_refl _) hz.next (by simp) (by simp at hs; omega)
    rw [show (([] : List UInt8), (1 : Int)) = (([] : List UInt8), ((1 : Nat) : Int)) from rfl]
    cases hq : qL t with
    | none =>
      rw [hq] at this
      rcases this with h | ⟨acc', h⟩
      · simp only; rw [h]; rfl
      · simp only; rw [h]
        simp
    | some x =>
      obtain ⟨b, rest⟩ := x
      rw [hq] at this
      obtain ⟨n', h1, h2⟩ := this
      have hlt := h2.next.le
      simp only
      rw [h1]
      simp only [Option.bind_some, List.nil_append]
      by_cases hb : b = []
      · rw [if_pos hb, if_pos (by simp [hb])]
      · rw [if_neg hb, if_neg (by simp [hb]; simp at hlt; omega), wi (by omega)]
        exact ⟨n' + 1, rfl, h2.next⟩
  · rw [if_neg hx, if_neg (show ¬ (decide (nx s = 34) = true) by simpa using hx)]
    have htw := tw_len isLoc s
    rw [show (0 : Int) = ((0 : Nat) : Int) from rfl, words_loop (by omega) s 0 F hz (by omega)]
    simp only [Option.bind_some]
    rw [sub_while hz, Option.bind_some, plain_r (by omega) (by omega), Option.bind_some]
    cases hp : plainB (s.takeWhile isLoc) with
    | false => simp
    | true =>
      simp only [Bool.not_true, Bool.false_eq_true, if_false, if_true]
      exact ⟨_, rfl, hz.skip _⟩
end Go.Proofs.AddrS
