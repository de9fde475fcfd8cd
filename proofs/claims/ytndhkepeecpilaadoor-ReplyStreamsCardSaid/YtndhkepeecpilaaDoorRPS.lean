import Derived.Test.YtndhkepeecpilaaDoorRPX
set_option linter.unusedSimpArgs false
set_option linter.unusedVariables false
set_option linter.unusedSectionVars false
set_option linter.defProp false
namespace Go.Proofs.ReplyS
open Go Go.Am Go.Proofs

/-! ### the reader, byte by byte -/
def isD (c : UInt8) : Bool := !(decide (c < 48) || decide (57 < c))
def dig (c : UInt8) : Int := ((c - 48).toNat : Int)
def code3 (a b c : UInt8) : Int := 100 * dig a + 10 * dig b + dig c
/-- a line: its code, its text, whether it is the last one -/
def one (l : LineV) : Option (Int × List UInt8 × Bool) :=
  if l.long then none else
  match l.text with
  | a :: b :: c :: rest =>
    if isD a && isD b && isD c && decide (200 ≤ code3 a b c) && decide (code3 a b c ≤ 599) then
      match rest with
      | [] => some (code3 a b c, [], true)
      | s :: t => if (s = 45 ∨ s = 32) ∧ textOk t = true then some (code3 a b c, t, !decide (s = 45)) else none
    else none
  | _ => none
def rline (p : ReaderV) (l : LineV) : ReaderV × Option ReplyV :=
  match one l with
  | none => (⟨p.splitter, ⟨0, []⟩, 0, true⟩, none)
  | some (code, t, last) =>
    if p.r.lines.length = 20 ∨ (0 < p.r.lines.length ∧ code ≠ p.r.code) then (⟨p.splitter, ⟨0, []⟩, 0, true⟩, none)
    else if last then (⟨p.splitter, ⟨0, []⟩, 0, false⟩, some ⟨code, p.r.lines ++ [t]⟩)
    else (⟨p.splitter, ⟨code, p.r.lines ++ [t]⟩, p.n + t.length, false⟩, none)
def rstep (p : ReaderV) (c : UInt8) : ReaderV × Option ReplyV :=
  if p.bad then (p, none) else
  match (step p.splitter c).2 with
  | none => ({ p with splitter := (step p.splitter c).1 }, none)
  | some l => rline { p with splitter := (step p.splitter c).1 } l
def rfeed : ReaderV → List UInt8 → ReaderV × List ReplyV
  | p, [] => (p, [])
  | p, c :: r => ((rfeed (rstep p c).1 r).1, (rstep p c).2.toList ++ (rfeed (rstep p c).1 r).2)
theorem rfeed_app : ∀ (a b : List UInt8) (p : ReaderV), rfeed p (a ++ b) = ((rfeed (rfeed p a).1 b).1, (rfeed p a).2 ++ (rfeed (rfeed p a).1 b).2) := by
  intro a
  induction a with
  | nil => intro b p; rfl
  | cons c r ih => intro b p; simp only [List.cons_append, rfeed, ih, List.append_assoc]
theorem rfeed_bad : ∀ (b : List UInt8) (p : ReaderV), p.bad = true → rfeed p b = (p, []) := by
  intro b
  induction b with
  | nil => intro p _; rfl
  | cons c r ih =>
    intro p h
    have hs : rstep p c = (p, none) := by simp [rstep, h]
    simp only [rfeed, hs, ih p h]; rfl
theorem step_start {s : SplitterV} {c : UInt8} {l : LineV} (h : (step s c).2 = some l) : (step s c).1 = start s.most := by
  unfold step at h ⊢
  split at h
  · split at h
    · rename_i h1 h2; rw [if_pos h1, if_pos h2]; rfl
    · split at h <;> cases h
  · split at h <;> cases h
theorem next_start : ∀ (b : List UInt8) (s s' : SplitterV) (l : LineV) (q : List UInt8), next s b = (s', some (l, q)) → s' = start s.most := by
  intro b
  induction b with
  | nil => intro s s' l q h; simp [next] at h
  | cons c r ih =>
    intro s s' l q h
    simp only [next] at h
    cases hs : (step s c).2 with
    | some l' =>
      simp only [hs, Prod.mk.injEq] at h
      rw [← h.1]; exact step_start hs
    | none =>
      simp only [hs] at h
      rw [ih _ _ _ _ h, step_most]
theorem rfeed_next : ∀ (b : List UInt8) (p : ReaderV), p.bad = false → rfeed p b = match next p.splitter b with
    | (s', none) => ({ p with splitter := s' }, [])
    | (s', some (l, q)) => ((rfeed (rline { p with splitter := s' } l).1 q).1, (rline { p with splitter := s' } l).2.toList ++ (rfeed (rline { p with splitter := s' } l).1 q).2) := by
  intro b
  induction b with
  | nil => intro p _; rfl
  | cons c r ih =>
    intro p h
    simp only [rfeed, next]
    cases hs : (step p.splitter c).2 with
    | some l =>
      have hr : rstep p c = rline { p with splitter := (step p.splitter c).1 } l := by simp [rstep, h, hs]
      rw [hr]
    | none =>
      have hr : rstep p c = ({ p with splitter := (step p.splitter c).1 }, none) := by simp [rstep, h, hs]
      rw [hr]
      simp only [Option.toList_none, List.nil_append]
      exact ih { p with splitter := (step p.splitter c).1 } h

/-! ### the program's functions are these -/
theorem dig_nat (c : UInt8) : ∃ n : Nat, dig c = n ∧ n ≤ 255 := ⟨(c - 48).toNat, rfl, by have := (c - 48).toNat_lt; omega⟩
theorem dig_le {c : UInt8} (h : isD c = true) : 0 ≤ dig c ∧ dig c ≤ 9 := by
  unfold isD at h
  simp only [Bool.not_eq_true', Bool.or_eq_false_iff, decide_eq_false_iff_not, UInt8.not_lt] at h
  have h1 := UInt8.le_iff_toNat_le.1 h.1
  have h2 := UInt8.le_iff_toNat_le.1 h.2
  have h3 : (c - 48).toNat = c.toNat - 48 := UInt8.toNat_sub_of_le _ _ h.1
  have e1 : (48 : UInt8).toNat = 48 := rfl
  have e2 : (57 : UInt8).toNat = 57 := rfl
  unfold dig; omega
theorem digl_step {l : LineV} {r : ReaderV} {i : Nat} {a : UInt8} {code : Int} (h : l.text[i]? = some a) (hi : i < 3) (h0 : 0 ≤ code) (h1 : code ≤ 1000) :
    reply_Reader_take_l1 l r (code, (i : Int)) = some (if isD a then .nxt (10 * code + dig a, ((i + 1 : Nat) : Int)) else .ret (false, false, r)) := by
  have hlt : (i : Int) < 3 := by omega
  obtain ⟨n, hn, hn2⟩ := dig_nat a
  have hd : ((a - 48).toNat : Int) = dig a := rfl
  unfold reply_Reader_take_l1 reply_Reader_take_p2 isD
  simp only [hlt, decide_true, if_true, idx_get h, Option.bind_some, hd]
  by_cases q1 : a < 48
  · simp [q1]
  · by_cases q2 : 57 < a
    · simp [q1, q2]
    · simp only [q1, q2, decide_false, Bool.false_eq_true, if_false, Option.bind_some, Bool.or_self, Bool.not_false, if_true]
      rw [wr (n := (i : Int) + 1) (by omega) (by omega), wr (n := 10 * code) (by omega) (by omega), wr (n := dig a) (by omega) (by omega), wr (by omega) (by omega)]
      rfl
theorem digl_loop {l : LineV} {r : ReaderV} {x y z : UInt8} {t : List UInt8} {F : Nat} (h : l.text = x :: y :: z :: t) :
    iter (reply_Reader_take_l1 l r) (F + 4) (0, 0) = some (if isD x && isD y && isD z then .inr (code3 x y z) else .inl (false, false, r)) := by
  have s1 := digl_step (l := l) (r := r) (i := 0) (a := x) (code := 0) (by rw [h]; rfl) (by omega) (by omega) (by omega)
  by_cases hx : isD x = true
  case neg => rw [iter_ret (r := (false, false, r)) (by simpa [hx] using s1)]; simp [hx]
  have bx := dig_le hx
  have s2 := digl_step (l := l) (r := r) (i := 1) (a := y) (code := dig x) (by rw [h]; rfl) (by omega) (by omega) (by omega)
  rw [iter_nxt (s' := (dig x, 1)) (by simpa [hx] using s1)]
  by_cases hy : isD y = true
  case neg => rw [iter_ret (r := (false, false, r)) (by simpa [hy] using s2)]; simp [hy]
  have by' := dig_le hy
  have s3 := digl_step (l := l) (r := r) (i := 2) (a := z) (code := 10 * dig x + dig y) (by rw [h]; rfl) (by omega) (by omega) (by omega)
  rw [iter_nxt (s' := (10 * dig x + dig y, 2)) (by simpa [hy] using s2)]
  by_cases hz : isD z = true
  case neg => rw [iter_ret (r := (false, false, r)) (by simpa [hz] using s3)]; simp [hz]
  rw [iter_nxt (s' := (code3 x y z, 3)) (by rw [show (2 : Int) = ((2 : Nat) : Int) from rfl, s3]; simp only [hz, if_true]; unfold code3; congr 4; omega)]
  rw [iter_brk (t := code3 x y z) (by simp [reply_Reader_take_l1])]
  simp [hx, hy, hz]
theorem class_nz {c : Int} : ∃ v, reply_Class c = some v ∧ (v = 0 ↔ ¬ (200 ≤ c ∧ c ≤ 599)) := by
  by_cases h : 200 ≤ c ∧ c ≤ 599
  · obtain ⟨h1, h2⟩ := class_eq h.1 h.2
    exact ⟨_, h1, by simp [h2, h]⟩
  · refine ⟨0, ?_, by simp [h]⟩
    unfold reply_Class
    rw [if_pos (by simp only [Bool.or_eq_true, decide_eq_true_eq]; omega)]
def takeP (p : ReaderV) (l : LineV) : Bool × Bool × ReaderV :=
  match one l with
  | none => (false, false, p)
  | some (code, t, last) => if p.r.lines.length = 20 ∨ (0 < p.r.lines.length ∧ code ≠ p.r.code) then (false, false, p) else (last, true, ⟨p.splitter, ⟨code, p.r.lines ++ [t]⟩, p.n + t.length, p.bad⟩)
theorem takel_p5 {F : Nat} {code : Int} {rest : List UInt8} {p : ReaderV} (hb : rest.length ≤ 1000000) (hF : rest.length < F) (hl : p.r.lines.length ≤ 20) :
    reply_Reader_take_p5 F code rest p = some (!(decide (200 ≤ code) && decide (code ≤ 599)) || !textOk rest || decide (p.r.lines.length = 20 ∨ (0 < p.r.lines.length ∧ code ≠ p.r.code))) := by
  obtain ⟨v, hv, hz⟩ := class_nz (c := code)
  unfold reply_Reader_take_p5
  rw [hv, Option.bind_some, text_eq hb hF, Option.bind_some]
  by_cases hc : 200 ≤ code ∧ code ≤ 599
  · have hv0 : ¬ v = 0 := fun q => (hz.1 q) hc
    simp only [hv0, decide_false, Bool.false_eq_true, if_false, hc.1, hc.2, decide_true, Bool.and_self, Bool.not_true, Bool.false_or]
    by_cases ht : textOk rest = true
    · by_cases q2 : p.r.lines.length = 20
      · simp [ht, q2]
      · have q2' : ¬ ((p.r.lines.length : Int) = 20) := by omega
        by_cases q3 : p.r.lines.length = 0
        · simp [ht, q2', q3]
        · have q4 : 0 < (p.r.lines.length : Int) := by omega
          have q5 : 0 < p.r.lines.length := by omega
          by_cases q6 : code = p.r.code
          · simp [ht, q2, q2', q4, q6]
          · simp [ht, q2, q2', q4, q5, q6]
    · simp [ht]
  · have hv0 : v = 0 := hz.2 hc
    have hd : (decide (200 ≤ code) && decide (code ≤ 599)) = false := by
      rw [Bool.and_eq_false_iff, decide_eq_false_iff_not, decide_eq_false_iff_not]; omega
    simp [hv0, hd]
theorem takel_p4 {x6 : List UInt8} {p : ReaderV} : reply_Reader_take_p4 x6 p = some (match x6 with
    | [] => .nxt ([], false)
    | s :: t => if s = 45 ∨ s = 32 then .nxt (t, decide (s = 45)) else .ret (false, false, p)) := by
  cases x6 with
  | nil => simp [reply_Reader_take_p4]
  | cons s t =>
    have hi : idx (s :: t) 0 = some s := by have := idx_nat (s :: t) 0; simpa using this
    unfold reply_Reader_take_p4 reply_Reader_take_p3
    rw [hi]
    simp only [sub_one (l := s :: t) rfl, Option.bind_some]
    by_cases h1 : s = 45
    · subst h1; simp
    · by_cases h2 : s = 32
      · subst h2; simp
      · simp [h1, h2]
theorem takel_eq {F : Nat} {p : ReaderV} {l : LineV} (hb : l.text.length ≤ 100000) (hF : l.text.length + 10 < F) (hl : p.r.lines.length ≤ 20) (hn0 : 0 ≤ p.n) (hn : p.n ≤ 100000000) :
    reply_Reader_take F p l = some (takeP p l) := by
  obtain ⟨text, long⟩ := l
  simp only at hb hF
  unfold takeP one
  cases long with
  | true => simp [reply_Reader_take]
  | false =>
    simp only [Bool.false_eq_true, if_false]
    have short : text.length < 3 → reply_Reader_take F p ⟨text, false⟩ = some (false, false, p) := by
      intro h
      have : (text.length : Int) < 3 := by omega
      simp [reply_Reader_take, this]
    rcases text with _ | ⟨x, _ | ⟨y, _ | ⟨z, rest⟩⟩⟩
    · exact short (by simp)
    · exact short (by simp)
    · exact short (by simp)
    · obtain ⟨G, rfl⟩ : ∃ G, F = G + 4 := ⟨F - 4, by omega⟩
      have hd := digl_loop (l := ⟨x :: y :: z :: rest, false⟩) (r := p) (F := G) rfl
      have h3 : ¬ (((x :: y :: z :: rest).length : Int) < 3) := by simp; omega
      have hsub : sub (x :: y :: z :: rest) 3 ((x :: y :: z :: rest).length : Int) = some rest := by
        have := sub_end (l := x :: y :: z :: rest) (i := 3) (by simp)
        simpa using this
      unfold reply_Reader_take
      simp only [h3, decide_false, Bool.or_false, Bool.false_eq_true, if_false, hsub, hd, Option.bind_some]
      by_cases hdd : (isD x && isD y && isD z) = true
      case neg =>
        have : (isD x && isD y && isD z) = false := by simpa using hdd
        simp [this]
      simp only [hdd, if_true, Bool.true_and]
      have hcl : code3 x y z ≤ 1000 ∧ 0 ≤ code3 x y z := by
        simp only [Bool.and_eq_true] at hdd
        have a1 := dig_le hdd.1.1; have a2 := dig_le hdd.1.2; have a3 := dig_le hdd.2
        unfold code3; omega
      simp only [takel_p4, Option.bind_some]
      cases rest with
      | nil =>
        simp only [takel_p5 (F := G + 4) (code := code3 x y z) (rest := []) (p := p) (by simp) (by simp) hl]
        have ht : textOk [] = true := by decide
        by_cases hc : 200 ≤ code3 x y z ∧ code3 x y z ≤ 599
        · by_cases hq : p.r.lines.length = 20 ∨ (0 < p.r.lines.length ∧ code3 x y z ≠ p.r.code)
          · simp [hc.1, hc.2, ht, hq]
          · simp only [hc.1, hc.2, ht, hq, decide_true, decide_false, Bool.and_self, Bool.not_true, Bool.or_self, Option.bind_some, Bool.false_eq_true, if_false, if_true]
            rw [capp_ok (by simp; omega) (by omega)]
            simp [wr (n := p.n) (by omega) (by omega)]
        · have hdf : (decide (200 ≤ code3 x y z) && decide (code3 x y z ≤ 599)) = false := by
            rw [Bool.and_eq_false_iff, decide_eq_false_iff_not, decide_eq_false_iff_not]; omega
          simp [hdf]
      | cons s t =>
        simp only [List.length_cons] at hb hF
        by_cases hs : s = 45 ∨ s = 32
        case neg =>
          simp [hs]
        simp only [hs, if_true, true_and, takel_p5 (F := G + 4) (code := code3 x y z) (rest := t) (p := p) (by omega) (by omega) hl]
        by_cases hc : 200 ≤ code3 x y z ∧ code3 x y z ≤ 599
        · by_cases ht : textOk t = true
          · by_cases hq : p.r.lines.length = 20 ∨ (0 < p.r.lines.length ∧ code3 x y z ≠ p.r.code)
            · simp [hc.1, hc.2, ht, hq]
            · simp only [hc.1, hc.2, ht, hq, decide_true, decide_false, Bool.and_self, Bool.not_true, Bool.or_self, Option.bind_some, Bool.false_eq_true, if_false, if_true]
              rw [capp_ok (by simp; omega) (by omega)]
              have := text_len ht
              simp [wr (n := p.n + (t.length : Int)) (by omega) (by omega)]
          · simp [hc.1, hc.2, ht]
        · have hdf : (decide (200 ≤ code3 x y z) && decide (code3 x y z ≤ 599)) = false := by
            rw [Bool.and_eq_false_iff, decide_eq_false_iff_not, decide_eq_false_iff_not]; omega
          simp [hdf]
end Go.Proofs.ReplyS
