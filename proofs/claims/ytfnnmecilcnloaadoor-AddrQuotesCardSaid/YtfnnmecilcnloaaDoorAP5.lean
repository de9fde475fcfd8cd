import Derived.Test.YtfnnmecilcnloaaDoorAP3
import Derived.Test.YtfnnmecilcnloaaDoorASAddrDomains
set_option linter.unusedSimpArgs false
set_option linter.unusedVariables false
set_option linter.unusedSectionVars false
set_option linter.defProp false
set_option maxRecDepth 100000
namespace Go.Proofs.AddrS
open Go Go.Am Go.Proofs

def isAN (c : UInt8) : Bool := isL c || isD c
def cs9 : List UInt8 := [97, 98, 99, 88, 89, 90, 48, 49, 57]
theorem an_facts (c : UInt8) : isAN c = true → c ≠ 46 ∧ c ≠ 91 ∧ c ≠ 93 ∧ c ≠ 45 ∧ isW c = true := by
  have := u8_all (p := fun c => !isAN c || (c != 46 && c != 91 && c != 93 && c != 45 && isW c)) (by kernel_rfl) c
  intro h
  rw [h] at this
  simp at this
  exact ⟨this.1.1.1.1, this.1.1.1.2, this.1.1.2, this.1.2, this.2⟩
theorem cs9_an (x : UInt8) : ∃ c, idx ([97, 98, 99, 88, 89, 90, 48, 49, 57] : List UInt8) ((x % 9).toNat : Int) = some c ∧ isAN c = true := by
  have := u8_all (p := fun x => match idx ([97, 98, 99, 88, 89, 90, 48, 49, 57] : List UInt8) ((x % 9).toNat : Int) with | some c => isAN c | none => false) (by kernel_rfl) x
  cases h : idx ([97, 98, 99, 88, 89, 90, 48, 49, 57] : List UInt8) ((x % 9).toNat : Int) with
  | none => rw [h] at this; cases this
  | some c => rw [h] at this; exact ⟨c, rfl, this⟩
/-- a label, made of any bytes -/
theorem label_loop {l : List (List UInt8)} {i : Nat} {x : List UInt8} (hx : l[i]? = some x) : ∀ (m k F : Nat) (t : List UInt8), k + m = 63 → k ≤ x.length → t.length = k → t.all isAN = true → m < F →
    ∃ t', iter (law14_AddrDomains_l1 l (i : Int)) F (t, (k : Int)) = some (.inr t') ∧ t'.all isAN = true ∧ t'.length ≤ 63 := by
  intro m
  induction m with
  | zero =>
    intro k F t hk hkl ht ha hF
    obtain ⟨G, rfl⟩ := F_succ hF
    have : law14_AddrDomains_l1 l (i : Int) (t, (k : Int)) = some (.brk t) := by
      simp only [law14_AddrDomains_l1, law14_AddrDomains_p2]
      rw [idx_get hx, Option.bind_some]
      by_cases h : k < x.length
      · rw [if_pos (by simpa using h), Option.bind_some, decide_eq_false (by omega)]; rfl
      · rw [if_neg (by simpa using h)]; rfl
    exact ⟨t, iter_brk this, ha, by omega⟩
  | succ m ih =>
    intro k F t hk hkl ht ha hF
    obtain ⟨G, rfl⟩ := F_succ (show 0 < F by omega)
    by_cases h : k < x.length
    · obtain ⟨c, hc, hcn⟩ := cs9_an x[k]
      have : law14_AddrDomains_l1 l (i : Int) (t, (k : Int)) = some (.nxt (t ++ [c], ((k + 1 : Nat) : Int))) := by
        simp only [law14_AddrDomains_l1, law14_AddrDomains_p2]
        rw [idx_get hx, Option.bind_some, if_pos (by simpa using h), Option.bind_some, decide_eq_true (by omega), if_pos rfl, Option.bind_some, idx_lt h, Option.bind_some, hc, Option.bind_some, cat_ok (by simp; omega), Option.bind_some, wi (by omega)]
      rw [iter_nxt this]
      exact ih (k + 1) G _ (by omega) (by omega) (by simp; omega) (by simp [hcn]; simpa using ha) (by omega)
    · have : law14_AddrDomains_l1 l (i : Int) (t, (k : Int)) = some (.brk t) := by
        simp only [law14_AddrDomains_l1, law14_AddrDomains_p2]
        rw [idx_get hx, Option.bind_some, if_neg (by simpa using h)]; rfl
      exact ⟨t, iter_brk this, ha, by omega⟩
def good (t : List UInt8) : Bool := t != [] && t.all isAN && decide (t.length ≤ 63)
theorem p3_good {t : List UInt8} (h : t.all isAN = true) (hl : t.length ≤ 63) : ∃ u, law14_AddrDomains_p3 t = some u ∧ good u = true := by
  unfold law14_AddrDomains_p3
  by_cases ht : t = []
  · rw [if_pos (by simpa using ht)]; exact ⟨_, rfl, by kernel_rfl⟩
  · rw [if_neg (by simpa using ht)]; exact ⟨_, rfl, by simp [good, ht, h, hl]⟩
theorem splitD_mid (a b : List UInt8) : splitD (a ++ 46 :: b) = splitD a ++ splitD b := by
  induction a with
  | nil => simp [splitD]
  | cons c a ih =>
    simp only [List.cons_append, splitD, ih]
    by_cases hc : c = 46
    · simp [hc]
    · simp only [if_neg hc]
      cases h : splitD a with
      | nil => exact absurd h (splitD_ne a)
      | cons x t => simp
theorem good46 {t : List UInt8} (h : good t = true) : ∀ c ∈ t, c ≠ 46 := by
  intro c hc
  simp only [good, Bool.and_eq_true] at h
  exact (an_facts c (List.all_eq_true.1 h.1.2 c hc)).1
/-- what the loop has made -/
def Made (s : List UInt8) (i : Nat) : Prop := (i = 0 ∧ s = []) ∨ (0 < i ∧ (splitD s).all good = true)
theorem join_loop {l : List (List UInt8)} {FF : Nat} (hF0 : 63 < FF) (hl : l.length ≤ 60) : ∀ (m i F : Nat) (s : List UInt8), i + m = l.length → Made s i → s.length ≤ 64 * i → m < F →
    ∃ s', iter (law14_AddrDomains_l2 FF l) F (s, (i : Int)) = some (.inr s') ∧ Made s' l.length ∧ s'.length ≤ 64 * l.length := by
  intro m
  induction m with
  | zero =>
    intro i F s hi hm hs hF
    obtain ⟨G, rfl⟩ := F_succ hF
    have : law14_AddrDomains_l2 FF l (s, (i : Int)) = some (.brk s) := by
      simp only [law14_AddrDomains_l2]
      rw [if_neg (by simp; omega)]
    have hil : i = l.length := by omega
    subst hil
    exact ⟨s, iter_brk this, hm, hs⟩
  | succ m ih =>
    intro i F s hi hm hs hF
    obtain ⟨G, rfl⟩ := F_succ (show 0 < F by omega)
    have hx : l[i]? = some l[i] := List.getElem?_eq_getElem (by omega)
    obtain ⟨t, ht, hta, htl⟩ := label_loop hx 63 0 FF [] (by omega) (by omega) rfl rfl hF0
    obtain ⟨u, hu, hug⟩ := p3_good hta htl
    have hul : u.length ≤ 63 := by simp [good] at hug; exact hug.2
    have key : ∃ s', law14_AddrDomains_l2 FF l (s, (i : Int)) = some (.nxt (s', ((i + 1 : Nat) : Int))) ∧ Made s' (i + 1) ∧ s'.length ≤ 64 * (i + 1) := by
      simp only [law14_AddrDomains_l2]
      rw [if_pos (by simp; omega), show (([] : List UInt8), (0 : Int)) = (([] : List UInt8), ((0 : Nat) : Int)) from rfl, ht]
      simp only [Option.bind_some]
      rw [hu]
      simp only [Option.bind_some]
      by_cases h0 : 0 < i
      · rw [if_pos (by simpa using h0), cat_ok (by simp; omega), Option.bind_some, cat_ok (by simp; omega), Option.bind_some, wi (by omega)]
        refine ⟨_, rfl, .inr ⟨by omega, ?_⟩, by simp only [List.length_append, List.length_cons, List.length_nil]; omega⟩
        rcases hm with ⟨h, -⟩ | ⟨-, h⟩
        · omega
        · rw [List.append_assoc, List.singleton_append, splitD_mid, splitD_one (good46 hug)]
          simp [h, hug]
      · rw [if_neg (by simpa using h0), cat_ok (by omega), Option.bind_some, wi (by omega)]
        refine ⟨_, rfl, .inr ⟨by omega, ?_⟩, by simp; omega⟩
        rcases hm with ⟨-, h⟩ | ⟨h, -⟩
        · subst h
          rw [List.nil_append, splitD_one (good46 hug)]
          simp [hug]
        · omega
    obtain ⟨s', h1, h2, h3⟩ := key
    rw [iter_nxt h1]
    exact ih (i + 1) G s' (by omega) h2 h3 (by omega)
theorem good_lab {t : List UInt8} (h : good t = true) : labB t = true := by
  simp only [good, Bool.and_eq_true, bne_iff_ne, ne_eq] at h
  obtain ⟨⟨h1, h2⟩, -⟩ := h
  have ha := List.all_eq_true.1 h2
  unfold labB
  simp only [Bool.and_eq_true, bne_iff_ne, ne_eq]
  refine ⟨⟨⟨h1, ?_⟩, ?_⟩, List.all_eq_true.2 fun c hc => (an_facts c (ha c hc)).2.2.2.2⟩
  · intro hh
    exact (an_facts 45 (ha 45 (List.mem_of_mem_head? hh))).2.2.2.1 rfl
  · intro hh
    exact (an_facts 45 (ha 45 (List.mem_of_getLast? hh))).2.2.2.1 rfl
theorem mem_split (s : List UInt8) : ∀ c ∈ s, c = 46 ∨ ∃ p ∈ splitD s, c ∈ p := by
  induction s with
  | nil => simp
  | cons a r ih =>
    intro c hc
    simp only [splitD]
    rcases List.mem_cons.1 hc with rfl | hc
    · by_cases h : c = 46
      · exact .inl h
      · right
        rw [if_neg h]
        cases hs : splitD r with
        | nil => exact absurd hs (splitD_ne r)
        | cons x t => exact ⟨c :: x, by simp, by simp⟩
    · rcases ih c hc with h | ⟨p, hp, hcp⟩
      · exact .inl h
      · right
        by_cases ha : a = 46
        · rw [if_pos ha]; exact ⟨p, by simp [hp], hcp⟩
        · rw [if_neg ha]
          cases hs : splitD r with
          | nil => exact absurd hs (splitD_ne r)
          | cons x t =>
            rw [hs] at hp
            rcases List.mem_cons.1 hp with rfl | hp
            · exact ⟨a :: p, by simp, by simp [hcp]⟩
            · exact ⟨p, by simp [hp], hcp⟩
theorem no_in {s : List UInt8} (h : (splitD s).all good = true) : ∀ c ∈ s, c ≠ 91 ∧ c ≠ 93 := by
  intro c hc
  rcases mem_split s c hc with rfl | ⟨p, hp, hcp⟩
  · decide
  · have := List.all_eq_true.1 h p hp
    simp only [good, Bool.and_eq_true] at this
    have := an_facts c (List.all_eq_true.1 this.1.2 c hcp)
    exact ⟨this.2.1, this.2.2.1⟩
theorem inB_no {s : List UInt8} (h : s.head? ≠ some 91) : inB s = false := by
  unfold inB
  have : (s.head? == some 91) = false := by simpa using h
  rw [this]; simp
theorem inB_no' {s : List UInt8} (h : s.getLast? ≠ some 93) : inB s = false := by
  unfold inB
  have : (s.getLast? == some 93) = false := by simpa using h
  rw [this]; simp
theorem dom_bad {s : List UInt8} (hi : inB s = false) {p : List UInt8} (hp : p ∈ splitD s) (hl : labB p = false) : domB s = false := by
  unfold domB shapeB
  rw [hi]
  have : (splitD s).all labB = false := by
    rw [List.all_eq_false]
    exact ⟨p, hp, by simp [hl]⟩
  simp [this]
theorem splitD_last (s : List UInt8) {c : UInt8} (hc : c ≠ 46) : ∃ i q, splitD (s ++ [c]) = i ++ [q ++ [c]] := by
  induction s with
  | nil => exact ⟨[], [], by simp [splitD, hc]⟩
  | cons a r ih =>
    obtain ⟨i, q, h⟩ := ih
    simp only [List.cons_append, splitD, h]
    by_cases ha : a = 46
    · exact ⟨[] :: i, q, by simp [ha]⟩
    · rw [if_neg ha]
      cases i with
      | nil => exact ⟨[], a :: q, by simp⟩
      | cons x t => exact ⟨(a :: x) :: t, q, by simp⟩
theorem domains_ok (l : List (List UInt8)) : ∃ F, law14_AddrDomains F l = some true := by
  refine ⟨9000 + 100, ?_⟩
  unfold law14_AddrDomains
  rw [known_eq, Option.bind_some]
  simp only [Bool.not_true, Bool.false_eq_true, if_false]
  by_cases hl : l.length = 0 ∨ 60 < l.length
  · rw [if_pos (by simp only [Bool.or_eq_true, decide_eq_true_eq]; omega)]
  · rw [if_neg (by simp only [Bool.or_eq_true, decide_eq_true_eq]; omega)]
    obtain ⟨s, hs, hm, hsl⟩ := join_loop (l := l) (FF := 9000 + 100) (by omega) (by omega) l.length 0 (9000 + 100) [] (by omega) (.inl ⟨rfl, rfl⟩) (by simp) (by omega)
    rw [show (([] : List UInt8), (0 : Int)) = (([] : List UInt8), ((0 : Nat) : Int)) from rfl, hs]
    simp only [Option.bind_some]
    have hg : (splitD s).all good = true := by
      rcases hm with ⟨h, -⟩ | ⟨-, h⟩
      · omega
      · exact h
    have hno := no_in hg
    have hne : s ≠ [] := by intro h; subst h; revert hg; decide
    have hsl' : s.length ≤ 3840 := by omega
    have hhead : s.head? ≠ some 91 := fun h => (hno 91 (List.mem_of_mem_head? h)).1 rfl
    have hlast : s.getLast? ≠ some 93 := fun h => (hno 93 (List.mem_of_getLast? h)).2 rfl
    have hhead' : ∀ t, (s ++ t).head? ≠ some 91 := by
      intro t
      cases s with
      | nil => exact absurd rfl hne
      | cons a r => simpa using hhead
    -- the five
    have d1 : domB s = decide (s.length ≤ 255) := by
      unfold domB shapeB
      rw [inB_no hhead]
      have h1 : (splitD s).all labB = true := List.all_eq_true.2 fun p hp => good_lab (List.all_eq_true.1 hg p hp)
      have h2 : ((splitD s).all fun p => decide (p.length ≤ 63)) = true := List.all_eq_true.2 fun p hp => by
        have := List.all_eq_true.1 hg p hp
        simp only [good, Bool.and_eq_true] at this
        exact this.2
      rw [h2]
      simp [h1]
    have d2 : domB (s ++ [46]) = false := dom_bad (inB_no (hhead' _)) (p := []) (by rw [splitD_mid]; simp [splitD]) (by decide)
    have d3 : domB ([46] ++ s) = false := dom_bad (inB_no (by simp)) (p := []) (by simp [splitD]) (by decide)
    have d4 : domB (s ++ [46, 46, 97]) = false := dom_bad (inB_no (hhead' _)) (p := []) (by rw [splitD_mid]; simp [splitD]) (by decide)
    have d5 : domB ([91] ++ s) = false := by
      have hi : inB ([91] ++ s) = false := inB_no' (by
        rw [List.getLast?_append]
        cases h : s.getLast? with
        | none => exact absurd (List.getLast?_eq_none_iff.1 h) hne
        | some x => rw [h] at hlast; simpa using hlast)
      unfold domB shapeB
      rw [hi]
      have := first_bad s
      rw [List.singleton_append]
      simp [this]
    have d6 : domB (s ++ [45]) = false := by
      obtain ⟨i, q, h⟩ := splitD_last s (c := 45) (by decide)
      exact dom_bad (inB_no (hhead' _)) (p := q ++ [45]) (by rw [h]; simp) (by simp [labB])
    unfold law14_AddrDomains_p4
    rw [dom_a (by omega) (by omega), d1]
    simp only [Option.bind_some]
    rw [if_pos (by simp; omega), cat_ok (by simp; omega), Option.bind_some, dom_a (by simp; omega) (by simp; omega), d2]
    simp only [Option.bind_some, Bool.not_false, if_true]
    rw [cat_ok (by simp; omega), Option.bind_some, dom_a (by simp; omega) (by simp; omega), d3]
    simp only [Option.bind_some, Bool.not_false, if_true]
    rw [cat_ok (by simp; omega), Option.bind_some, dom_a (by simp; omega) (by simp; omega), d4]
    simp only [Option.bind_some, Bool.not_false, if_true]
    rw [cat_ok (by simp; omega), Option.bind_some, dom_a (by simp; omega) (by simp; omega), d5]
    simp only [Option.bind_some, Bool.not_false, if_true]
    rw [cat_ok (by simp; omega), Option.bind_some, dom_a (by simp; omega) (by simp; omega), d6]
    rfl
end Go.Proofs.AddrS
