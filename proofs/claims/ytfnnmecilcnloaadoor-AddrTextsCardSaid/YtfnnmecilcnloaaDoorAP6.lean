import Derived.Test.YtfnnmecilcnloaaDoorAP5a
set_option linter.unusedSimpArgs false
set_option linter.unusedVariables false
set_option linter.unusedSectionVars false
set_option linter.defProp false
set_option maxRecDepth 100000
namespace Go.Proofs.AddrS
open Go Go.Am Go.Proofs

/-! ### the scanner, over what stands before it -/
def isDom (c : UInt8) : Bool := isL c || isD c || c == 45 || c == 46 || c == 91 || c == 93
def isVis (c : UInt8) : Bool := decide (32 ≤ c) && decide (c ≤ 126)
def isAtm (c : UInt8) : Bool := isL c || isD c || ([33, 35, 36, 37, 38, 39, 42, 43, 45, 47, 61, 63, 94, 95, 96, 123, 124, 125, 126] : List UInt8).contains c
def isLoc (c : UInt8) : Bool := c == 46 || isAtm c
theorem atom_a (c : UInt8) : addr_atom c = some (isAtm c) := by
  have := u8_all (p := fun c => decide (addr_atom c = some (isAtm c))) (by kernel_rfl) c
  simpa using this
theorem dom_p1 (c : UInt8) : addr_scanner_domain_p1 c = some (isDom c) := by
  have := u8_all (p := fun c => decide (addr_scanner_domain_p1 c = some (isDom c))) (by kernel_rfl) c
  simpa using this
theorem loc_p1 (c : UInt8) : addr_scanner_local_p1 c = some (isLoc c) := by
  have := u8_all (p := fun c => decide (addr_scanner_local_p1 c = some (isLoc c))) (by kernel_rfl) c
  simpa using this
/-- the scanner stands ahead of r -/
structure At (s : List UInt8) (n : Nat) (r : List UInt8) : Prop where
  le : n ≤ s.length
  dr : s.drop n = r
  sm : s.length ≤ 90000
def nx : List UInt8 → UInt8
  | [] => 0
  | c :: _ => c
theorem At.len {s r : List UInt8} {n : Nat} (h : At s n r) : n + r.length = s.length := by
  rw [← h.dr, List.length_drop]; have := h.le; omega
theorem At.next {s r : List UInt8} {n : Nat} {c : UInt8} (h : At s n (c :: r)) : At s (n + 1) r := by
  obtain ⟨h1, h2, h3⟩ := drop_cons h.dr
  exact ⟨h1, h3, h.sm⟩
theorem next_ok {s r : List UInt8} {n : Nat} (h : At s n r) : addr_scanner_next_s ⟨s, (n : Int), false⟩ = some (nx r) := by
  unfold addr_scanner_next_s
  cases r with
  | nil =>
    have := h.len
    rw [if_pos (by simp at this ⊢; omega)]; rfl
  | cons c r =>
    obtain ⟨h1, h2, h3⟩ := drop_cons h.dr
    rw [if_neg (by simp; omega), idx_get h2]; rfl
theorem next_bad {s : List UInt8} {n : Int} : addr_scanner_next_s ⟨s, n, true⟩ = some 0 := by simp [addr_scanner_next_s]
theorem takes_y {s r : List UInt8} {n : Nat} {c : UInt8} (h : At s n (c :: r)) : addr_scanner_takes ⟨s, (n : Int), false⟩ c = some (true, ⟨s, ((n + 1 : Nat) : Int), false⟩) := by
  have := h.len; have := h.sm
  unfold addr_scanner_takes
  rw [next_ok h, Option.bind_some]
  simp only [nx]
  rw [if_neg (by simp), wi (by omega)]
theorem takes_n {s r : List UInt8} {n : Nat} {c : UInt8} (h : At s n r) (hc : nx r ≠ c) : addr_scanner_takes ⟨s, (n : Int), false⟩ c = some (false, ⟨s, (n : Int), false⟩) := by
  unfold addr_scanner_takes
  rw [next_ok h, Option.bind_some, if_pos (by simpa using hc)]
theorem takes_bad {s : List UInt8} {n : Int} {c : UInt8} (hc : c ≠ 0) : addr_scanner_takes ⟨s, n, true⟩ c = some (false, ⟨s, n, true⟩) := by
  unfold addr_scanner_takes
  rw [next_bad, Option.bind_some, if_pos (by simpa using fun h => hc h.symm)]
theorem want_y {s r : List UInt8} {n : Nat} {c : UInt8} (h : At s n (c :: r)) : addr_scanner_want ⟨s, (n : Int), false⟩ c = some ⟨s, ((n + 1 : Nat) : Int), false⟩ := by
  unfold addr_scanner_want; simp [takes_y h]
theorem want_n {s r : List UInt8} {n : Nat} {c : UInt8} (h : At s n r) (hc : nx r ≠ c) : addr_scanner_want ⟨s, (n : Int), false⟩ c = some ⟨s, (n : Int), true⟩ := by
  unfold addr_scanner_want; simp [takes_n h hc]
theorem want_bad {s : List UInt8} {n : Int} {c : UInt8} : addr_scanner_want ⟨s, n, true⟩ c = some ⟨s, n, true⟩ := by
  unfold addr_scanner_want; simp
/-- bytes of a kind, one by one -/
theorem while_ok {q : UInt8 → Bool} {ρ : Type} {body : (UInt8 × ScannerV) → Option (St ρ ScannerV (UInt8 × ScannerV))} {s : List UInt8} (h0 : q 0 = false)
    (hb : ∀ (c : UInt8) (n : Int) (b : Bool), body (c, ⟨s, n, b⟩) = if q c = true then (addr_scanner_next_s ⟨s, IntKind.wrap .i64 (n + 1), b⟩).bind fun r9 => some (.nxt (r9, ⟨s, IntKind.wrap .i64 (n + 1), b⟩)) else some (.brk ⟨s, n, b⟩)) :
    ∀ (r : List UInt8) (n F : Nat), At s n r → r.length < F → iter body F (nx r, ⟨s, (n : Int), false⟩) = some (.inr ⟨s, ((n + (r.takeWhile q).length : Nat) : Int), false⟩) := by
  intro r
  induction r with
  | nil =>
    intro n F h hF
    obtain ⟨G, rfl⟩ := F_succ hF
    rw [iter_brk (t := ⟨s, (n : Int), false⟩) (by rw [hb, if_neg (by simp [nx, h0])])]
    simp
  | cons c r ih =>
    intro n F h hF
    obtain ⟨G, rfl⟩ := F_succ hF
    have := h.len; have := h.sm
    by_cases hq : q c = true
    · have hst : body (nx (c :: r), ⟨s, (n : Int), false⟩) = some (.nxt (nx r, ⟨s, ((n + 1 : Nat) : Int), false⟩)) := by
        rw [hb, if_pos (by simpa [nx] using hq), wi (by omega), next_ok h.next]; rfl
      rw [iter_nxt hst, ih (n + 1) G h.next (by simp at hF; omega), List.takeWhile_cons, if_pos hq]
      simp only [List.length_cons]
      congr 4
      omega
    · rw [iter_brk (t := ⟨s, (n : Int), false⟩) (by rw [hb, if_neg (by simpa [nx] using hq)]), List.takeWhile_cons, if_neg hq]
      simp
theorem tw_len (q : UInt8 → Bool) (r : List UInt8) : (r.takeWhile q).length ≤ r.length := (List.takeWhile_prefix q).length_le
theorem At.skip {s r : List UInt8} {n : Nat} (h : At s n r) (q : UInt8 → Bool) : At s (n + (r.takeWhile q).length) (r.dropWhile q) := by
  have h1 : (r.takeWhile q).length ≤ r.length := tw_len _ _
  have h2 := h.len
  refine ⟨by omega, ?_, h.sm⟩
  rw [← List.drop_drop, h.dr]
  conv => lhs; rw [← List.takeWhile_append_dropWhile (p := q) (l := r)]
  rw [List.takeWhile_append_dropWhile]
  conv => lhs; arg 2; rw [← List.takeWhile_append_dropWhile (p := q) (l := r)]
  exact List.drop_left ..
theorem sub_while {s r : List UInt8} {n : Nat} (h : At s n r) (q : UInt8 → Bool) : sub s (n : Int) ((n + (r.takeWhile q).length : Nat) : Int) = some (r.takeWhile q) := by
  have h1 := (h.skip q).le
  rw [sub_ok (by omega) h1, List.drop_take, h.dr, Nat.add_sub_cancel_left]
  congr 1
  conv => lhs; arg 2; rw [← List.takeWhile_append_dropWhile (p := q) (l := r)]
  exact List.take_left ..
theorem domain_ok {s r : List UInt8} {n F : Nat} (h : At s n r) (hF : s.length + 1 < F) :
    addr_scanner_domain F ⟨s, (n : Int), false⟩ = some (r.takeWhile isDom, ⟨s, ((n + (r.takeWhile isDom).length : Nat) : Int), !shapeB (r.takeWhile isDom)⟩) := by
  have h1 := h.len; have h2 := h.sm
  have h3 : (r.takeWhile isDom).length ≤ r.length := tw_len _ _
  unfold addr_scanner_domain
  rw [next_ok h, Option.bind_some, while_ok (q := isDom) (s := s) (by decide) (fun c n b => by simp only [addr_scanner_domain_l1, dom_p1, Option.bind_some]) r n F h (by omega)]
  simp only [Option.bind_some]
  rw [sub_while h, Option.bind_some]
  unfold addr_scanner_domain_p2
  simp only [Bool.false_eq_true, if_false]
  rw [shaped_ok (by omega) (by omega)]
  rfl
theorem domain_bad {s : List UInt8} {n F : Nat} (hn : n ≤ s.length) (hF : 0 < F) : addr_scanner_domain F ⟨s, (n : Int), true⟩ = some ([], ⟨s, (n : Int), true⟩) := by
  obtain ⟨G, rfl⟩ := F_succ hF
  unfold addr_scanner_domain
  rw [next_bad, Option.bind_some, iter_brk (t := ⟨s, (n : Int), true⟩) (by simp only [addr_scanner_domain_l1, dom_p1, Option.bind_some]; rfl)]
  simp only [Option.bind_some]
  rw [sub_ok (Nat.le_refl _) hn, Option.bind_some]
  unfold addr_scanner_domain_p2
  simp only [if_true, Option.bind_some]
  congr 2
  simp

/-! ### words, and what stands in quotes -/
def plainB (s : List UInt8) : Bool := (splitD s).all fun p => p != [] && p.all isAtm
theorem every_sx {s : List UInt8} {F : Nat} (hl : s.length ≤ 1000000) (hF : s.length < F) : addr_every_sx F s = some (s.all isAtm) := by
  unfold addr_every_sx
  have hh := scan (s := s) (body := addr_every_sx_l1 s) (mk := fun i => (false, (i : Int))) (p := isAtm) (rr := fun _ => false) (tt := ()) ?_ ?_ ?_ hF
  · cases ha : s.all isAtm with
    | true => have := hh.1 ha; rw [show ((0 : Nat) : Int) = 0 from rfl] at this; rw [this]; rfl
    | false => obtain ⟨j, hj⟩ := hh.2 ha; rw [show ((0 : Nat) : Int) = 0 from rfl] at hj; rw [hj]; rfl
  · intro i x hx hp
    have hi := (List.getElem?_eq_some_iff.1 hx).1
    simp only [addr_every_sx_l1]
    rw [if_pos (by simpa using hi), idx_get hx, Option.bind_some, atom_a, Option.bind_some, hp, wi (by omega)]; rfl
  · intro i x hx hp
    have hi := (List.getElem?_eq_some_iff.1 hx).1
    simp only [addr_every_sx_l1]
    rw [if_pos (by simpa using hi), idx_get hx, Option.bind_some, atom_a, Option.bind_some, hp]; rfl
  · simp [addr_every_sx_l1]
theorem plain_1 {x : List UInt8} {F : Nat} (hl : x.length ≤ 1000000) (hF : x.length < F) : addr_plain_1 F x = some (!(x != [] && x.all isAtm)) := by
  unfold addr_plain_1 addr_plain_1_p1
  by_cases hx : x = []
  · subst hx; rfl
  · rw [if_neg (by simpa using hx), every_sx hl hF]
    simp [hx]
theorem plain_ok {s : List UInt8} {F : Nat} (hl : s.length ≤ 90000) (hF : s.length + 1 < F) : addr_plain F s = some (plainB s) := by
  have hn := splitD_n s
  unfold addr_plain
  rw [split_call (by omega), Option.bind_some]
  unfold slices_ContainsFunc_sxx slices_IndexFunc_sxx
  have hh := scan (s := splitD s) (F := F) (body := slices_IndexFunc_sxx_l1 F (splitD s)) (mk := fun i => (0, (i : Int))) (p := fun p => p != [] && p.all isAtm) (rr := fun i => (i : Int)) (tt := ()) ?_ ?_ ?_ (by omega)
  · unfold plainB
    cases ha : (splitD s).all fun p => p != [] && p.all isAtm with
    | true => have := hh.1 ha; rw [show ((0 : Nat) : Int) = 0 from rfl] at this; rw [this]; rfl
    | false => obtain ⟨j, hj⟩ := hh.2 ha; rw [show ((0 : Nat) : Int) = 0 from rfl] at hj; rw [hj]; simp
  · intro i x hx' hp
    have hi := (List.getElem?_eq_some_iff.1 hx').1
    have hxl := splitD_len s x (List.mem_of_getElem? hx')
    simp only [slices_IndexFunc_sxx_l1]
    rw [if_pos (by simpa using hi), idx_get hx', Option.bind_some, plain_1 (by omega) (by omega), Option.bind_some, hp, wi (by omega)]; rfl
  · intro i x hx' hp
    have hi := (List.getElem?_eq_some_iff.1 hx').1
    have hxl := splitD_len s x (List.mem_of_getElem? hx')
    simp only [slices_IndexFunc_sxx_l1]
    rw [if_pos (by simpa using hi), idx_get hx', Option.bind_some, plain_1 (by omega) (by omega), Option.bind_some, hp]; rfl
  · simp [slices_IndexFunc_sxx_l1]
/-- what stands in quotes, and what behind them -/
def qL : List UInt8 → Option (List UInt8 × List UInt8)
  | [] => none
  | c :: r => if c = 34 then some ([], r)
    else if c = 92 then (match r with
      | [] => none
      | d :: r' => if isVis d then (qL r').map fun x => (d :: x.1, x.2) else none)
    else if isVis c then (qL r).map fun x => (c :: x.1, x.2) else none
theorem qL_cons (c : UInt8) (r : List UInt8) : qL (c :: r) = if c = 34 then some ([], r)
    else if c = 92 then (match r with
      | [] => none
      | d :: r' => if isVis d then (qL r').map fun x => (d :: x.1, x.2) else none)
    else if isVis c then (qL r).map fun x => (c :: x.1, x.2) else none := by
  cases r <;> rfl
theorem vis_a (c : UInt8) : addr_visible c = some (isVis c) := rfl
theorem vis0 : isVis 0 = false := by decide
theorem q_end {s r acc : List UInt8} {n : Nat} (h : At s n (34 :: r)) : addr_scanner_quoted_l1 (acc, ⟨s, (n : Int), false⟩) = some (.brk (acc, ⟨s, ((n + 1 : Nat) : Int), false⟩)) := by
  simp only [addr_scanner_quoted_l1, addr_scanner_quoted_p1, Bool.not_false, if_true]
  rw [takes_y h]
  simp
theorem q_one {s r acc : List UInt8} {n : Nat} (h : At s n r) (h1 : nx r ≠ 34) (h2 : nx r ≠ 92) (ha : acc.length ≤ 90000) : addr_scanner_quoted_l1 (acc, ⟨s, (n : Int), false⟩) =
    if isVis (nx r) = true then some (.nxt (acc ++ [nx r], ⟨s, ((n + 1 : Nat) : Int), false⟩)) else some (.brk (acc, ⟨s, (n : Int), true⟩)) := by
  have := h.le; have := h.sm
  simp only [addr_scanner_quoted_l1, addr_scanner_quoted_p1, Bool.not_false, if_true]
  rw [takes_n h h1]
  simp only [Option.bind_some, Bool.not_false, if_true]
  rw [takes_n h h2]
  simp only [Option.bind_some]
  rw [next_ok h]
  simp only [Option.bind_some, vis_a]
  cases isVis (nx r) with
  | false => simp
  | true =>
    simp only [Bool.not_true, Bool.false_eq_true, if_false, if_true]
    rw [capp_ok (by simp; omega) (by omega), Option.bind_some, wi (by omega)]
theorem q_two {s r acc : List UInt8} {n : Nat} (h : At s n (92 :: r)) (ha : acc.length ≤ 90000) : addr_scanner_quoted_l1 (acc, ⟨s, (n : Int), false⟩) =
    if isVis (nx r) = true then some (.nxt (acc ++ [nx r], ⟨s, ((n + 2 : Nat) : Int), false⟩)) else some (.brk (acc, ⟨s, ((n + 1 : Nat) : Int), true⟩)) := by
  have := h.next.le; have := h.sm
  simp only [addr_scanner_quoted_l1, addr_scanner_quoted_p1, Bool.not_false, if_true]
  rw [takes_n h (by simp [nx])]
  simp only [Option.bind_some, Bool.not_false, if_true]
  rw [takes_y h]
  simp only [Option.bind_some]
  rw [next_ok h.next]
  simp only [Option.bind_some, vis_a]
  cases isVis (nx r) with
  | false => simp
  | true =>
    simp only [Bool.not_true, Bool.false_eq_true, if_false, if_true]
    rw [capp_ok (by simp; omega) (by omega), Option.bind_some, wi (by omega)]
theorem quoted_loop {s : List UInt8} : ∀ (k : Nat) (r acc : List UInt8) (n F : Nat), r.length ≤ k → At s n r → acc.length ≤ n → r.length < F →
    match qL r with
    | some (b, rest) => ∃ n' : Nat, iter addr_scanner_quoted_l1 F (acc, ⟨s, (n : Int), false⟩) = some (.inr (acc ++ b, ⟨s, (n' : Int), false⟩)) ∧ At s n' rest
    | none => ∃ acc', ∃ n' : Nat, iter addr_scanner_quoted_l1 F (acc, ⟨s, (n : Int), false⟩) = some (.inr (acc', ⟨s, ((n' : Nat) : Int), true⟩)) ∧ n' ≤ s.length := by
  intro k
  induction k with
  | zero =>
    intro r acc n F hk h ha hF
    have hr : r = [] := List.length_eq_zero_iff.1 (by omega)
    subst hr
    obtain ⟨G, rfl⟩ := F_succ hF
    have := h.le; have := h.sm
    refine ⟨acc, n, iter_brk ?_, h.le⟩
    rw [q_one h (by decide) (by decide) (by omega), if_neg (by decide)]
  | succ k ih =>
    intro r acc n F hk h ha hF
    obtain ⟨G, rfl⟩ := F_succ (show 0 < F by omega)
    have h1 := h.le; have h2 := h.sm
    match r, hk, h, hF with
    | [], hk, h, hF => exact ⟨acc, n, iter_brk (by rw [q_one h (by decide) (by decide) (by omega), if_neg (by decide)]), h.le⟩
    | c :: r, hk, h, hF =>
      rw [qL_cons]
      by_cases hc : c = 34
      · subst hc
        rw [if_pos rfl]
        exact ⟨n + 1, by rw [iter_brk (q_end h)]; simp, h.next⟩
      · rw [if_neg hc]
        by_cases hc2 : c = 92
        · subst hc2
          rw [if_pos rfl]
          have hst := q_two (acc := acc) h (by omega)
          match r, hk, h, hF, hst with
          | [], hk, h, hF, hst => exact ⟨acc, n + 1, iter_brk (by rw [hst, if_neg (by decide)]), h.next.le⟩
          | d :: r', hk, h, hF, hst =>
            cases hv : isVis d with
            | false => simp only [hv, Bool.false_eq_true, if_false]; exact ⟨acc, n + 1, iter_brk (hst.trans (if_neg (by show ¬ isVis d = true; rw [hv]; decide))), h.next.le⟩
            | true =>
              simp only [if_true]
              have hst' := hst.trans (if_pos (show isVis (nx (d :: r')) = true from hv))
              have := ih r' (acc ++ [d]) (n + 2) G (by simp at hk; omega) h.next.next (by simp; omega) (by simp at hF; omega)
              rw [iter_nxt hst']
              cases hq : qL r' with
              | none => rw [hq] at this; simp only [nx, hv, if_true, Option.map_none]; exact this
              | some x =>
                obtain ⟨b, rest⟩ := x
                rw [hq] at this
                obtain ⟨n', h3, h4⟩ := this
                simp only [nx, hv, if_true, Option.map_some]; exact ⟨n', by rw [h3]; simp, h4⟩
        · rw [if_neg hc2]
          have hst := q_one (acc := acc) h (by simpa [nx] using hc) (by simpa [nx] using hc2) (by omega)
          cases hv : isVis c with
          | false => simp only [hv, Bool.false_eq_true, if_false]; exact ⟨acc, n, iter_brk (hst.trans (if_neg (by show ¬ isVis c = true; rw [hv]; decide))), h.le⟩
          | true =>
            simp only [if_true]
            have hst' := hst.trans (if_pos (show isVis (nx (c :: r)) = true from hv))
            have := ih r (acc ++ [c]) (n + 1) G (by simp at hk; omega) h.next (by simp; omega) (by simp at hF; omega)
            rw [iter_nxt hst']
            cases hq : qL r with
            | none => rw [hq] at this; simp only [nx, hv, if_true, Option.map_none]; exact this
            | some x =>
              obtain ⟨b, rest⟩ := x
              rw [hq] at this
              obtain ⟨n', h3, h4⟩ := this
              simp only [nx, hv, if_true, Option.map_some]; exact ⟨n', by rw [h3]; simp, h4⟩
/-- a function of the scanner's: what it takes and where it stands then, or that it is bad -/
def Out (s : List UInt8) (o : Option (List UInt8 × ScannerV)) : Option (List UInt8 × List UInt8) → Prop
  | some (b, rest) => ∃ n', o = some (b, ⟨s, ((n' : Nat) : Int), false⟩) ∧ At s n' rest
  | none => ∃ b n', o = some (b, ⟨s, ((n' : Nat) : Int), true⟩) ∧ n' ≤ s.length
def localL (r : List UInt8) : Option (List UInt8 × List UInt8) :=
  if nx r = 34 then (match qL (r.drop 1) with | some (b, rest) => if b = [] then none else some (b, rest) | none => none)
  else if plainB (r.takeWhile isLoc) then some (r.takeWhile isLoc, r.dropWhile isLoc) else none
def domainL (r : List UInt8) : Option (List UInt8 × List UInt8) := if shapeB (r.takeWhile isDom) then some (r.takeWhile isDom, r.dropWhile isDom) else none
theorem domain_out {s r : List UInt8} {n F : Nat} (h : At s n r) (hF : s.length + 1 < F) : Out s (addr_scanner_domain F ⟨s, (n : Int), false⟩) (domainL r) := by
  rw [domain_ok h hF]
  unfold domainL
  cases hs : shapeB (r.takeWhile isDom) with
  | true => exact ⟨_, rfl, h.skip _⟩
  | false => exact ⟨_, _, rfl, (h.skip isDom).le⟩
theorem local_out {s r : List UInt8} {n F : Nat} (h : At s n r) (hF : s.length + 1 < F) : Out s (addr_scanner_local F ⟨s, (n : Int), false⟩) (localL r) := by
  have h1 := h.len; have h2 := h.sm
  unfold addr_scanner_local localL
  rw [next_ok h, Option.bind_some]
  by_cases hq : nx r = 34
  · rw [if_pos (by simpa using hq), if_pos hq]
    cases r with
    | nil => simp [nx] at hq
    | cons c r =>
      simp only [nx] at hq
      subst hq
      simp only [List.drop_succ_cons, List.drop_zero]
      unfold addr_scanner_quoted
      rw [want_y h]
      simp only [Option.bind_some]
      have := quoted_loop (s := s) r.length r [] (n + 1) F (Nat.le_refl _) h.next (by simp) (by simp at h1; omega)
      cases hqr : qL r with
      | none =>
        rw [hqr] at this
        obtain ⟨acc, n', h3, h4⟩ := this
        rw [h3]
        simp only [Option.bind_some, addr_scanner_quoted_p2, if_true]
        exact ⟨_, _, rfl, h4⟩
      | some x =>
        obtain ⟨b, rest⟩ := x
        rw [hqr] at this
        obtain ⟨n', h3, h4⟩ := this
        rw [h3]
        simp only [Option.bind_some, addr_scanner_quoted_p2, Bool.false_eq_true, if_false, List.nil_append]
        by_cases hb : b = []
        · subst hb
          exact ⟨_, n', rfl, h4.le⟩
        · rw [if_neg hb]
          refine ⟨n', ?_, h4⟩
          have : decide ((b.length : Int) = 0) = false := by simpa using hb
          rw [this]
  · rw [if_neg (by simpa using hq), if_neg hq, Option.bind_some]
    have h3 := tw_len isLoc r
    rw [while_ok (q := isLoc) (s := s) (by decide) (fun c n b => by simp only [addr_scanner_local_l1, loc_p1, Option.bind_some]) r n F h (by omega)]
    simp only [Option.bind_some]
    rw [sub_while h, Option.bind_some]
    unfold addr_scanner_local_p2
    simp only [Bool.false_eq_true, if_false]
    rw [plain_ok (by omega) (by omega)]
    simp only [Option.bind_some]
    cases hs : plainB (r.takeWhile isLoc) with
    | true => exact ⟨_, rfl, h.skip _⟩
    | false => exact ⟨_, _, rfl, (h.skip isLoc).le⟩
theorem local_bad {s : List UInt8} {n F : Nat} (hn : n ≤ s.length) (hF : 0 < F) : ∃ b, addr_scanner_local F ⟨s, (n : Int), true⟩ = some (b, ⟨s, (n : Int), true⟩) := by
  obtain ⟨G, rfl⟩ := F_succ hF
  unfold addr_scanner_local
  rw [next_bad, Option.bind_some, if_neg (by decide), Option.bind_some, iter_brk (t := ⟨s, (n : Int), true⟩) (by simp only [addr_scanner_local_l1, loc_p1, Option.bind_some]; rfl)]
  simp only [Option.bind_some]
  rw [sub_ok (Nat.le_refl _) hn, Option.bind_some]
  unfold addr_scanner_local_p2
  exact ⟨_, rfl⟩
end Go.Proofs.AddrS
