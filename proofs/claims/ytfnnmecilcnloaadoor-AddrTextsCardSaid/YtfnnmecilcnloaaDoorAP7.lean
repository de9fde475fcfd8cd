import Derived.Test.YtfnnmecilcnloaaDoorAP6
set_option linter.unusedSimpArgs false
set_option linter.unusedVariables false
set_option linter.unusedSectionVars false
set_option linter.defProp false
set_option maxRecDepth 100000
namespace Go.Proofs.AddrS
open Go Go.Am Go.Proofs

/-! ### a route, a path -/
def rtGo : Nat → List UInt8 → Option (List UInt8)
  | 0, _ => none
  | k + 1, r => if nx r = 64 then (match domainL (r.drop 1) with
      | none => none
      | some (_, r2) => if nx r2 = 44 then rtGo k (r2.drop 1) else if nx r2 = 58 then some (r2.drop 1) else none) else none
def routeL (r : List UInt8) : Option (List UInt8) := if nx r = 64 then rtGo (r.length + 1) r else some r
def OutS (s : List UInt8) (o : Option ScannerV) : Option (List UInt8) → Prop
  | some rest => ∃ n' : Nat, o = some ⟨s, (n' : Int), false⟩ ∧ At s n' rest
  | none => ∃ n' : Nat, o = some ⟨s, (n' : Int), true⟩ ∧ n' ≤ s.length
theorem nx_cons {r : List UInt8} {c : UInt8} (h : nx r = c) (hc : c ≠ 0) : ∃ t, r = c :: t := by
  cases r with
  | nil => exact absurd h.symm hc
  | cons a t => exact ⟨t, by rw [← h]; rfl⟩
theorem want_out {s r : List UInt8} {n : Nat} {c : UInt8} (h : At s n r) (hc : c ≠ 0) : OutS s (addr_scanner_want ⟨s, (n : Int), false⟩ c) (if nx r = c then some (r.drop 1) else none) := by
  by_cases hn : nx r = c
  · obtain ⟨t, rfl⟩ := nx_cons hn hc
    rw [if_pos hn]
    exact ⟨n + 1, want_y h, h.next⟩
  · rw [if_neg hn]
    exact ⟨n, want_n h hn, h.le⟩
theorem domainL_len {r b t : List UInt8} (h : domainL r = some (b, t)) : t.length ≤ r.length := by
  unfold domainL at h
  split at h
  · injection h with h; injection h with _ h; subst h; exact (List.dropWhile_suffix _).length_le
  · cases h
/-- bad: one round more, and done -/
theorem route_bad {s : List UInt8} {n F : Nat} (hn : n ≤ s.length) (hF : s.length + 1 < F) : addr_scanner_route_l1 F (false, ⟨s, (n : Int), true⟩) = some (.ret ⟨s, (n : Int), true⟩) := by
  simp only [addr_scanner_route_l1, addr_scanner_route_p1]
  rw [next_bad]
  simp only [Option.bind_some]
  rw [if_neg (by decide)]
  simp only [Option.bind_some, Bool.not_false, if_true]
  rw [want_bad]
  simp only [Option.bind_some]
  rw [domain_bad hn (by omega)]
  simp only [Option.bind_some]
  rw [takes_bad (by decide)]
  simp only [Option.bind_some, Bool.not_false, if_true]
  rw [want_bad]
  rfl
theorem route_loop {s : List UInt8} {FF : Nat} (hFF : s.length + 1 < FF) : ∀ (k : Nat) (first : Bool) (r : List UInt8) (n F : Nat), At s n r → r.length < k → k ≤ F → (first = true → nx r = 64) →
    ∃ o : ScannerV ⊕ ScannerV, iter (addr_scanner_route_l1 FF) F (first, ⟨s, (n : Int), false⟩) = some o ∧ OutS s (some (match o with | .inl x => x | .inr x => x)) (rtGo k r) := by
  intro k
  induction k with
  | zero => intro first r n F h hk; omega
  | succ k ih =>
    intro first r n F h hk hF hfirst
    obtain ⟨G, rfl⟩ := F_succ (show 0 < F by omega)
    have hp1 : addr_scanner_route_p1 ⟨s, (n : Int), false⟩ first = some true := by
      unfold addr_scanner_route_p1
      rw [next_ok h, Option.bind_some]
      by_cases hx : nx r = 64
      · rw [if_pos (by simpa using hx)]
      · rw [if_neg (by simpa using hx)]
        cases first with
        | false => rfl
        | true => exact absurd (hfirst rfl) hx
    have hb : addr_scanner_route_l1 FF (first, ⟨s, (n : Int), false⟩) = (addr_scanner_want ⟨s, (n : Int), false⟩ 64).bind fun r8 => (addr_scanner_domain FF r8).bind fun x => (addr_scanner_takes x.2 44).bind fun y => if (!y.1) = true then (addr_scanner_want y.2 58).bind fun r13 => some (.ret r13) else some (.nxt (false, y.2)) := by
      simp only [addr_scanner_route_l1]
      rw [hp1]
      rfl
    simp only [rtGo]
    by_cases hx : nx r = 64
    · rw [if_pos hx]
      obtain ⟨t, rfl⟩ := nx_cons hx (by decide)
      simp only [List.drop_succ_cons, List.drop_zero]
      rw [want_y h] at hb
      simp only [Option.bind_some] at hb
      have hd := domain_out (F := FF) h.next hFF
      cases hdl : domainL t with
      | none =>
        rw [hdl] at hd
        obtain ⟨b, n', h1, h2⟩ := hd
        rw [h1] at hb
        simp only [Option.bind_some] at hb
        rw [takes_bad (by decide)] at hb
        simp only [Option.bind_some, Bool.not_false, if_true] at hb
        rw [want_bad] at hb
        exact ⟨_, iter_ret hb, n', rfl, h2⟩
      | some x =>
        obtain ⟨b, r2⟩ := x
        rw [hdl] at hd
        obtain ⟨n', h1, h2⟩ := hd
        rw [h1] at hb
        simp only [Option.bind_some] at hb
        have hlen := domainL_len hdl
        by_cases h44 : nx r2 = 44
        · obtain ⟨r3, rfl⟩ := nx_cons h44 (by decide)
          simp only [if_pos h44, List.drop_succ_cons, List.drop_zero]
          rw [takes_y h2] at hb
          simp only [Option.bind_some, Bool.not_true, Bool.false_eq_true, if_false] at hb
          rw [iter_nxt hb]
          simp only [List.length_cons] at hk hlen
          exact ih false r3 (n' + 1) G h2.next (by omega) (by omega) (fun h => by cases h)
        · simp only [if_neg h44]
          rw [takes_n h2 h44] at hb
          simp only [Option.bind_some, Bool.not_false, if_true] at hb
          have hw := want_out (c := 58) h2 (by decide)
          generalize hg : (if nx r2 = 58 then some (r2.drop 1) else none) = g at hw
          cases g with
          | none => obtain ⟨m, h3, h4⟩ := hw; rw [h3] at hb; exact ⟨_, iter_ret hb, m, rfl, h4⟩
          | some rest => obtain ⟨m, h3, h4⟩ := hw; rw [h3] at hb; exact ⟨_, iter_ret hb, m, rfl, h4⟩
    · rw [if_neg hx]
      rw [want_n h hx] at hb
      simp only [Option.bind_some] at hb
      rw [domain_bad h.le (by omega)] at hb
      simp only [Option.bind_some] at hb
      rw [takes_bad (by decide)] at hb
      simp only [Option.bind_some, Bool.not_false, if_true] at hb
      rw [want_bad] at hb
      exact ⟨_, iter_ret hb, n, rfl, h.le⟩
theorem route_out {s r : List UInt8} {n F : Nat} (h : At s n r) (hF : s.length + 1 < F) : OutS s (addr_scanner_route F ⟨s, (n : Int), false⟩) (routeL r) := by
  have := h.len
  unfold addr_scanner_route routeL
  by_cases hx : nx r = 64
  · rw [if_pos hx]
    obtain ⟨o, h1, h2⟩ := route_loop hF (r.length + 1) true r n F h (by omega) (by omega) fun _ => hx
    rw [h1]
    cases o with
    | inl x => exact h2
    | inr x => exact h2
  · rw [if_neg hx]
    obtain ⟨G, rfl⟩ := F_succ (show 0 < F by omega)
    have hb : addr_scanner_route_l1 (G + 1) (true, ⟨s, (n : Int), false⟩) = some (.brk ⟨s, (n : Int), false⟩) := by
      simp only [addr_scanner_route_l1, addr_scanner_route_p1]
      rw [next_ok h, Option.bind_some, if_neg (by simpa using hx)]
      rfl
    rw [iter_brk hb]
    exact ⟨n, rfl, h⟩
theorem route_bad0 {s : List UInt8} {n F : Nat} (hF : 0 < F) : addr_scanner_route F ⟨s, (n : Int), true⟩ = some ⟨s, (n : Int), true⟩ := by
  obtain ⟨G, rfl⟩ := F_succ hF
  unfold addr_scanner_route
  have hb : addr_scanner_route_l1 (G + 1) (true, ⟨s, (n : Int), true⟩) = some (.brk ⟨s, (n : Int), true⟩) := by
    simp only [addr_scanner_route_l1, addr_scanner_route_p1]
    rw [next_bad, Option.bind_some, if_neg (by decide)]
    rfl
  rw [iter_brk hb]
  rfl
/-- an address in brackets, behind the first bracket -/
def boxL (r : List UInt8) : Option (AddressV × List UInt8) :=
  match routeL r with
  | none => none
  | some r1 => match localL r1 with
    | none => none
    | some (l, r2) => if nx r2 = 64 then (match domainL (r2.drop 1) with
      | none => none
      | some (d, r3) => if nx r3 = 62 then some (⟨l, d⟩, r3.drop 1) else none) else none
def pathL (s : List UInt8) : Option (AddressV × List UInt8) :=
  if nx s = 60 then (if nx (s.drop 1) = 62 then some (⟨[], []⟩, s.drop 2) else boxL (s.drop 1)) else none
theorem p1_ok {s r : List UInt8} {n F : Nat} (h : At s n r) (hF : s.length + 1 < F) :
    match boxL r with
    | some (a, rest) => ∃ n' : Nat, addr_Path_p1 F false ⟨s, (n : Int), false⟩ = some (⟨s, (n' : Int), false⟩, a) ∧ At s n' rest
    | none => ∃ a, ∃ n' : Nat, addr_Path_p1 F false ⟨s, (n : Int), false⟩ = some (⟨s, (n' : Int), true⟩, a) ∧ n' ≤ s.length := by
  unfold addr_Path_p1
  simp only [Bool.not_false, if_true]
  have bad : ∀ (m : Nat) (l : List UInt8), m ≤ s.length → ∃ a, ((addr_scanner_want ⟨s, (m : Int), true⟩ 64).bind fun r11 => (addr_scanner_domain F r11).bind fun x => (addr_scanner_want x.2 62).bind fun r14 => some (r14, AddressV.mk l x.1)) = some ((⟨s, (m : Int), true⟩ : ScannerV), a) := by
    intro m l hm
    rw [want_bad, Option.bind_some, domain_bad hm (by omega), Option.bind_some]
    simp only
    rw [want_bad]
    exact ⟨_, rfl⟩
  unfold boxL
  have hr := route_out h hF
  cases hrl : routeL r with
  | none =>
    rw [hrl] at hr
    obtain ⟨n1, h1, h2⟩ := hr
    rw [h1, Option.bind_some]
    obtain ⟨b, h3⟩ := local_bad (F := F) h2 (by omega)
    rw [h3, Option.bind_some]
    obtain ⟨a, h4⟩ := bad n1 b h2
    exact ⟨a, n1, h4, h2⟩
  | some r1 =>
    rw [hrl] at hr
    obtain ⟨n1, h1, h2⟩ := hr
    rw [h1, Option.bind_some]
    have hl := local_out h2 hF
    cases hll : localL r1 with
    | none =>
      rw [hll] at hl
      obtain ⟨b, n2, h3, h4⟩ := hl
      rw [h3, Option.bind_some]
      obtain ⟨a, h5⟩ := bad n2 b h4
      simp only [hll]
      exact ⟨a, n2, h5, h4⟩
    | some x =>
      obtain ⟨l, r2⟩ := x
      rw [hll] at hl
      obtain ⟨n2, h3, h4⟩ := hl
      rw [h3, Option.bind_some]
      simp only [hll]
      by_cases h64 : nx r2 = 64
      · obtain ⟨t, rfl⟩ := nx_cons h64 (by decide)
        rw [want_y h4, Option.bind_some]
        simp only [if_pos h64, List.drop_succ_cons, List.drop_zero]
        have hd := domain_out h4.next hF
        cases hdl : domainL t with
        | none =>
          rw [hdl] at hd
          obtain ⟨b, n3, h5, h6⟩ := hd
          rw [h5, Option.bind_some]
          simp only
          rw [want_bad]
          exact ⟨_, n3, rfl, h6⟩
        | some y =>
          obtain ⟨d, r3⟩ := y
          rw [hdl] at hd
          obtain ⟨n3, h5, h6⟩ := hd
          rw [h5, Option.bind_some]
          simp only
          by_cases h62 : nx r3 = 62
          · obtain ⟨u, rfl⟩ := nx_cons h62 (by decide)
            rw [want_y h6]
            simp only [if_pos h62, List.drop_succ_cons, List.drop_zero]
            exact ⟨_, rfl, h6.next⟩
          · rw [want_n h6 h62]
            simp only [if_neg h62]
            exact ⟨_, n3, rfl, h6.le⟩
      · rw [want_n h4 h64, Option.bind_some]
        simp only [if_neg h64]
        rw [domain_bad h4.le (by omega), Option.bind_some]
        simp only
        rw [want_bad]
        exact ⟨_, n2, rfl, h4.le⟩

/-! ### an address that is right, its text -/
def esc (l : List UInt8) : List UInt8 := l.flatMap fun c => if c = 34 ∨ c = 92 then [92, c] else [c]
def toldB (a : AddressV) : List UInt8 := if plainB a.local0 then 60 :: (a.local0 ++ 64 :: (a.domain ++ [62])) else 60 :: 34 :: (esc a.local0 ++ 34 :: 64 :: (a.domain ++ [62]))
def locB (s : List UInt8) : Bool := s != [] && decide (s.length ≤ 64) && s.all isVis
def nullB (a : AddressV) : Bool := decide (a.local0 = []) && decide (a.domain = [])
def rightB (a : AddressV) : Bool := nullB a || (locB a.local0 && domB a.domain && decide ((toldB a).length ≤ 256))
theorem esc_len (l : List UInt8) : (esc l).length ≤ 2 * l.length := by
  induction l with
  | nil => simp [esc]
  | cons c l ih =>
    simp only [esc, List.flatMap_cons, List.length_append, List.length_cons] at ih ⊢
    split <;> simp only [List.length_cons, List.length_nil] <;> omega
theorem every_sxx {s : List UInt8} {F : Nat} (hl : s.length ≤ 1000000) (hF : s.length < F) : addr_every_sxx F s = some (s.all isVis) := by
  unfold addr_every_sxx
  have hh := scan (s := s) (body := addr_every_sxx_l1 s) (mk := fun i => (false, (i : Int))) (p := isVis) (rr := fun _ => false) (tt := ()) ?_ ?_ ?_ hF
  · cases ha : s.all isVis with
    | true => have := hh.1 ha; rw [show ((0 : Nat) : Int) = 0 from rfl] at this; rw [this]; rfl
    | false => obtain ⟨j, hj⟩ := hh.2 ha; rw [show ((0 : Nat) : Int) = 0 from rfl] at hj; rw [hj]; rfl
  · intro i x hx hp
    have hi := (List.getElem?_eq_some_iff.1 hx).1
    simp only [addr_every_sxx_l1]
    rw [if_pos (by simpa using hi), idx_get hx, Option.bind_some, vis_a, Option.bind_some, hp, wi (by omega)]; rfl
  · intro i x hx hp
    have hi := (List.getElem?_eq_some_iff.1 hx).1
    simp only [addr_every_sxx_l1]
    rw [if_pos (by simpa using hi), idx_get hx, Option.bind_some, vis_a, Option.bind_some, hp]; rfl
  · simp [addr_every_sxx_l1]
theorem local_a {s : List UInt8} {F : Nat} (hF : s.length < F) : addr_Local F s = some (locB s) := by
  unfold addr_Local addr_Local_p1 locB
  by_cases h : s = []
  · subst h; rfl
  · by_cases h2 : s.length ≤ 64
    · rw [if_pos (by simpa using h), if_pos (by simp; omega), every_sxx (by omega) hF]
      simp [h, h2]
    · rw [if_pos (by simpa using h), if_neg (by simp; omega)]
      simp [h2]
theorem told_loop {a : AddressV} (hl : a.local0.length ≤ 80000) : ∀ (r : List UInt8) (i F : Nat) (b : List UInt8), a.local0.drop i = r → i + r.length = a.local0.length → b.length ≤ 2 * i + 1 → r.length < F →
    iter (addr_told_l1 a) F (b, (i : Int)) = some (.inr (b ++ esc r)) := by
  intro r
  induction r with
  | nil =>
    intro i F b hd hi hb hF
    obtain ⟨G, rfl⟩ := F_succ hF
    rw [iter_brk (t := b) (by simp only [addr_told_l1]; rw [if_neg (by simp at hi ⊢; omega)])]
    simp [esc]
  | cons c r ih =>
    intro i F b hd hi hb hF
    obtain ⟨G, rfl⟩ := F_succ (show 0 < F by omega)
    obtain ⟨h1, h2, h3⟩ := drop_cons hd
    simp only [List.length_cons] at hi hF
    have hst : addr_told_l1 a (b, (i : Int)) = some (.nxt (b ++ (if c = 34 ∨ c = 92 then [92, c] else [c]), ((i + 1 : Nat) : Int))) := by
      simp only [addr_told_l1, addr_told_p1]
      rw [if_pos (by simpa using h1), idx_get h2]
      simp only [Option.bind_some]
      by_cases h34 : c = 34
      · subst h34
        simp only [decide_true, if_true, Option.bind_some, true_or]
        rw [capp_ok (by simp; omega) (by omega), Option.bind_some, capp_ok (by simp; omega) (by omega), Option.bind_some, wi (by omega)]
        simp
      · by_cases h92 : c = 92
        · subst h92
          rw [if_neg (by decide)]
          simp only [decide_true, Option.bind_some, if_true, or_true]
          rw [capp_ok (by simp; omega) (by omega), Option.bind_some, capp_ok (by simp; omega) (by omega), Option.bind_some, wi (by omega)]
          simp
        · rw [if_neg (by simpa using h34)]
          simp only [Option.bind_some]
          rw [if_neg (by simpa using h92), capp_ok (by simp; omega) (by omega), Option.bind_some, wi (by omega), if_neg (by simp [h34, h92])]
    rw [iter_nxt hst, ih (i + 1) G _ h3 (by omega) (by split <;> simp <;> omega) (by omega)]
    simp [esc]
theorem told_ok {a : AddressV} {F : Nat} (hl : a.local0.length ≤ 80000) (hd : a.domain.length ≤ 80000) (hF : a.local0.length + 1 < F) : addr_told F a = some (toldB a) := by
  have he := esc_len a.local0
  unfold addr_told toldB
  rw [plain_ok (by omega) hF, Option.bind_some]
  cases plainB a.local0 with
  | true =>
    simp only [Bool.not_true, Bool.false_eq_true, if_false, if_true]
    rw [cat_ok (by simp; omega), Option.bind_some, cat_ok (by simp; omega), Option.bind_some, cat_ok (by simp; omega), Option.bind_some, cat_ok (by simp; omega), Option.bind_some]
    simp
  | false =>
    simp only [Bool.not_false, if_true, Bool.false_eq_true, if_false]
    rw [show (([34] : List UInt8), (0 : Int)) = (([34] : List UInt8), ((0 : Nat) : Int)) from rfl, told_loop hl a.local0 0 F [34] (by simp) (by simp) (by simp) (by omega)]
    simp only [Option.bind_some]
    rw [capp_ok (by simp; omega) (by omega), Option.bind_some, cat_ok (by simp; omega), Option.bind_some, cat_ok (by simp; omega), Option.bind_some, cat_ok (by simp; omega), Option.bind_some, cat_ok (by simp; omega), Option.bind_some]
    simp
theorem right_ok {a : AddressV} {F : Nat} (hl : a.local0.length ≤ 80000) (hd : a.domain.length ≤ 80000) (hF : a.local0.length + a.domain.length + 1 < F) : addr_Right F a = some (rightB a) := by
  unfold addr_Right addr_Right_p1 addr_null rightB
  simp only [Option.bind_some]
  cases hn : nullB a with
  | true => rw [nullB] at hn; rw [hn]; rfl
  | false =>
    rw [nullB] at hn
    rw [hn]
    simp only [Bool.false_eq_true, if_false, Bool.false_or]
    rw [local_a (by omega), Option.bind_some]
    cases hlb : locB a.local0 with
    | false => rfl
    | true =>
      simp only [if_true, Bool.true_and]
      rw [dom_a (by omega) (by omega), Option.bind_some]
      cases hdb : domB a.domain with
      | false => rfl
      | true =>
        simp only [if_true, Bool.true_and]
        rw [told_ok hl hd (by omega)]
        simp
        omega
theorem null_a (a : AddressV) : addr_null a = some (nullB a) := rfl
/-- the address at a text's front -/
def pathV (s : List UInt8) : AddressV × List UInt8 × Int :=
  match pathL s with
  | none => (⟨[], []⟩, [], 3)
  | some (a, rest) => if rightB a then (a, rest, 0) else (⟨[], []⟩, [], 5)
theorem At.zero {s : List UInt8} (h : s.length ≤ 90000) : At s 0 s := ⟨Nat.zero_le _, rfl, h⟩
theorem pathL_len {s : List UInt8} {a : AddressV} {rest : List UInt8} {n : Nat} {t : List UInt8} : True := trivial
end Go.Proofs.AddrS
