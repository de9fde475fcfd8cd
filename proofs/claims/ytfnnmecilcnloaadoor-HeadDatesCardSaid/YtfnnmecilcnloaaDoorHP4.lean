import Derived.Test.YtfnnmecilcnloaaDoorHP0
import Derived.Test.YtfnnmecilcnloaaDoorHSHeadDates
set_option linter.unusedSimpArgs false
set_option linter.unusedVariables false
set_option linter.unusedSectionVars false
set_option linter.defProp false
set_option maxRecDepth 100000
namespace Go.Proofs.HeadS
open Go Go.Am Go.Proofs

/-! ### sums of lengths -/
def S (f : Nat → Nat) : Nat → Nat → Nat
  | _, 0 => 0
  | y, k + 1 => f y + S f (y + 1) k
theorem S_one {f : Nat → Nat} : ∀ {k k2 y a b : Nat}, S f y k + a = S f y k2 + b → a < f (y + k) → b < f (y + k2) → k = k2 ∧ a = b
  | 0, 0, y, a, b, h, _, _ => by simp [S] at h; exact ⟨rfl, h⟩
  | 0, k2 + 1, y, a, b, h, ha, _ => by simp only [S] at h; simp only [Nat.add_zero] at ha; omega
  | k + 1, 0, y, a, b, h, _, hb => by simp only [S] at h; simp only [Nat.add_zero] at hb; omega
  | k + 1, k2 + 1, y, a, b, h, ha, hb => by
    simp only [S] at h
    have := S_one (f := f) (k := k) (k2 := k2) (y := y + 1) (a := a) (b := b) (by omega) (by rw [show y + 1 + k = y + (k + 1) by omega]; exact ha) (by rw [show y + 1 + k2 = y + (k2 + 1) by omega]; exact hb)
    exact ⟨by omega, this.2⟩
theorem S_add (f : Nat → Nat) : ∀ (a b y : Nat), S f y (a + b) = S f y a + S f (y + a) b
  | 0, b, y => by simp [S]
  | a + 1, b, y => by rw [Nat.add_right_comm]; simp only [S]; rw [S_add f a b (y + 1), show y + 1 + a = y + (a + 1) by omega]; omega

/-! ### years -/
def leapN (y : Nat) : Bool := decide (y % 4 = 0) && ((!decide (y % 100 = 0)) || decide (y % 400 = 0))
def ylen (y : Nat) : Nat := if leapN y then 366 else 365
theorem ylen_le (y : Nat) : 365 ≤ ylen y ∧ ylen y ≤ 366 := by unfold ylen; split <;> omega
theorem ylen_400 (y : Nat) : ylen (y + 400) = ylen y := by
  unfold ylen leapN
  rw [show (y + 400) % 4 = y % 4 by omega, show (y + 400) % 100 = y % 100 by omega, show (y + 400) % 400 = y % 400 by omega]
theorem S_400 : ∀ (k y : Nat), S ylen (y + 400) k = S ylen y k
  | 0, y => rfl
  | k + 1, y => by simp only [S]; rw [ylen_400, show y + 400 + 1 = y + 1 + 400 by omega, S_400 k (y + 1)]
theorem S_c : ∀ (c k y : Nat), S ylen (y + 400 * c) k = S ylen y k
  | 0, k, y => rfl
  | c + 1, k, y => by rw [show y + 400 * (c + 1) = (y + 400 * c) + 400 by omega, S_400, S_c c k y]
theorem S_cyc : ∀ c : Nat, S ylen 1970 (400 * c) = 146097 * c
  | 0 => rfl
  | c + 1 => by
    rw [show 400 * (c + 1) = 400 * c + 400 by omega, S_add, S_cyc c, S_c]
    have : S ylen 1970 400 = 146097 := by kernel_rfl
    omega
theorem S_mono {f : Nat → Nat} {y : Nat} {a b : Nat} (h : a ≤ b) : S f y a ≤ S f y b := by
  rw [show b = a + (b - a) by omega, S_add]; omega
theorem y_bound {d k a : Nat} (h : d = S ylen 1970 k + a) (hd : d ≤ 2932896) : k ≤ 8029 := by
  rcases Nat.lt_or_ge k 8030 with hk | hk
  · omega
  · have h1 := S_mono (f := ylen) (y := 1970) hk
    have h2 : S ylen 1970 8030 = 2932897 := by
      rw [show 8030 = 400 * 20 + 30 by rfl, S_add, S_cyc, S_c]
      have : S ylen 1970 30 = 10957 := by kernel_rfl
      omega
    omega
theorem tm (m n : Nat) : Int.tmod (m : Int) (n : Int) = ((m % n : Nat) : Int) := rfl
theorem td (m n : Nat) : Int.tdiv (m : Int) (n : Int) = ((m / n : Nat) : Int) := rfl
theorem leap_h (y : Nat) : head_leap (y : Int) = some (leapN y) := by
  unfold head_leap leapN
  rw [show Int.tmod (y : Int) 4 = ((y % 4 : Nat) : Int) from rfl, show Int.tmod (y : Int) 100 = ((y % 100 : Nat) : Int) from rfl, show Int.tmod (y : Int) 400 = ((y % 400 : Nat) : Int) from rfl]
  have : ∀ n : Nat, decide ((n : Int) = 0) = decide (n = 0) := fun n => by rw [decide_eq_decide]; omega
  simp only [this]
theorem leap_r (y : Nat) : ref18_leap (y : Int) = some (leapN y) := by
  rw [← leap_h]; rfl
theorem years {ρ : Type} {body : Int × Int → Option (St ρ (Int × Int) (Int × Int))}
    (hb : ∀ d y : Nat, d ≤ 3000000 → y ≤ 4000000 → body ((d : Int), (y : Int)) = if d < ylen y then some (.brk ((d : Int), (y : Int))) else some (.nxt (((d - ylen y : Nat) : Int), ((y + 1 : Nat) : Int)))) :
    ∀ (F d y : Nat), d < F → d ≤ 3000000 → y + d ≤ 4000000 → ∃ d' k : Nat, iter body F ((d : Int), (y : Int)) = some (.inr ((d' : Int), ((y + k : Nat) : Int))) ∧ d = S ylen y k + d' ∧ d' < ylen (y + k) := by
  intro F
  induction F with
  | zero => intro d y h; omega
  | succ F ih =>
    intro d y hF hd hy
    have h := hb d y hd (by omega)
    have hl := ylen_le y
    by_cases hc : d < ylen y
    · rw [if_pos hc] at h
      exact ⟨d, 0, iter_brk h, by simp [S], hc⟩
    · rw [if_neg hc] at h
      obtain ⟨d', k, h1, h2, h3⟩ := ih (d - ylen y) (y + 1) (by omega) (by omega) (by omega)
      refine ⟨d', k + 1, ?_, ?_, ?_⟩
      · rw [iter_nxt h, h1, show y + 1 + k = y + (k + 1) by omega]
      · simp only [S]; omega
      · rw [show y + (k + 1) = y + 1 + k by omega]; exact h3
theorem years_h (d y : Nat) (hd : d ≤ 3000000) (hy : y ≤ 4000000) : head_date_l1 ((d : Int), (y : Int)) = if d < ylen y then some (.brk ((d : Int), (y : Int))) else some (.nxt (((d - ylen y : Nat) : Int), ((y + 1 : Nat) : Int))) := by
  have hp : head_date_p1 (leapN y) = some ((ylen y : Nat) : Int) := by unfold head_date_p1 ylen; cases leapN y <;> simp [wr]
  have hl := ylen_le y
  simp only [head_date_l1]
  rw [leap_h]
  simp only [Option.bind_some]
  rw [hp]
  simp only [Option.bind_some]
  by_cases hc : d < ylen y
  · rw [if_pos (by simp; omega), if_pos hc]
  · rw [if_neg (by simp; omega), if_neg hc, wi (by omega), wr (by omega) (by omega), Int.natCast_sub (by omega)]
theorem years_r (d y : Nat) (hd : d ≤ 3000000) (hy : y ≤ 4000000) : ref18_Date_l1 ((d : Int), (y : Int)) = if d < ylen y then some (.brk ((d : Int), (y : Int))) else some (.nxt (((d - ylen y : Nat) : Int), ((y + 1 : Nat) : Int))) := by
  have hp : ref18_Date_p3 (leapN y) = some ((ylen y : Nat) : Int) := by unfold ref18_Date_p3 ylen; cases leapN y <;> rfl
  have hl := ylen_le y
  simp only [ref18_Date_l1]
  rw [leap_r]
  simp only [Option.bind_some]
  rw [hp]
  simp only [Option.bind_some]
  by_cases hc : d < ylen y
  · rw [if_pos (by simp; omega), if_pos hc]
  · rw [if_neg (by simp; omega), if_neg hc, wi (by omega), wr (by omega) (by omega), Int.natCast_sub (by omega)]

/-! ### months -/
def mtab : List Nat := [31, 28, 31, 30, 31, 30, 31, 31, 30, 31, 30, 31]
def mlen (y m : Nat) : Nat := if m = 1 ∧ leapN y = true then 29 else (mtab[m]?).getD 0
theorem M_all (y : Nat) : S (mlen y) 0 12 = ylen y := by
  cases h : leapN y <;> simp [S, mlen, ylen, h, mtab]
theorem mlen_le (y m : Nat) : mlen y m ≤ 31 := by
  unfold mlen
  split
  · omega
  · rcases Nat.lt_or_ge m 12 with h | h
    · have := List.all_eq_true.1 (show (List.range 12).all (fun m => decide ((mtab[m]?).getD 0 ≤ 31)) = true by kernel_rfl) m (by simpa using h)
      simpa using this
    · rw [List.getElem?_eq_none (by simp [mtab]; omega)]; simp
theorem months {ρ : Type} {y : Nat} {body : Int × Int → Option (St ρ (Int × Int) (Int × Int))}
    (hb : ∀ d m : Nat, d ≤ 400 → m < 12 → body ((d : Int), (m : Int)) = if mlen y m ≤ d then some (.nxt (((d - mlen y m : Nat) : Int), ((m + 1 : Nat) : Int))) else some (.brk ((d : Int), (m : Int)))) :
    ∀ (j F d m : Nat), m + j = 12 → j < F → d ≤ 400 → d < S (mlen y) m j → ∃ d' k : Nat, iter body F ((d : Int), (m : Int)) = some (.inr ((d' : Int), ((m + k : Nat) : Int))) ∧ d = S (mlen y) m k + d' ∧ d' < mlen y (m + k) ∧ m + k < 12 := by
  intro j
  induction j with
  | zero => intro F d m _ _ _ h; simp [S] at h
  | succ j ih =>
    intro F d m hm hF hd h
    obtain ⟨F, rfl⟩ := F_succ hF
    have hbb := hb d m hd (by omega)
    simp only [S] at h
    by_cases hc : mlen y m ≤ d
    · rw [if_pos hc] at hbb
      obtain ⟨d', k, h1, h2, h3, h4⟩ := ih F (d - mlen y m) (m + 1) (by omega) (by omega) (by omega) (by omega)
      refine ⟨d', k + 1, ?_, ?_, ?_, by omega⟩
      · rw [iter_nxt hbb, h1, show m + 1 + k = m + (k + 1) by omega]
      · simp only [S]; omega
      · rw [show m + (k + 1) = m + 1 + k by omega]; exact h3
    · rw [if_neg hc] at hbb
      exact ⟨d, 0, iter_brk hbb, by simp [S], by simpa using hc, by omega⟩
theorem days_h {y m : Nat} (h : m < 12) : head_days (y : Int) (m : Int) = some ((mlen y m : Nat) : Int) := by
  unfold head_days head_days_p1 mlen
  rw [leap_h]
  simp only [Option.bind_some]
  have ht : ∀ m : Nat, m < 12 → (ixm 12 (m : Int)).bind (fun j => (tab_head_days_1[j]?).bind fun x => some x) = some (((mtab[m]?).getD 0 : Nat) : Int) := by
    intro m hm
    have := List.all_eq_true.1 (show (List.range 12).all (fun m => decide ((ixm 12 (m : Int)).bind (fun j => (tab_head_days_1[j]?).bind fun x => some x) = some (((mtab[m]?).getD 0 : Nat) : Int))) = true by kernel_rfl) m (by simpa using hm)
    simpa using this
  by_cases h1 : m = 1
  · subst h1
    cases hl : leapN y
    · have := ht 1 (by omega)
      rw [if_neg (show ¬ (1 = 1 ∧ false = true) by simp)]
      exact this
    · rfl
  · rw [if_neg (by simp; omega), if_neg (fun h => h1 h.1)]
    simp only [Option.bind_some, Bool.false_eq_true, if_false]
    exact ht m h
theorem days_r {y m : Nat} (h : m < 12) : ref18_days (m : Int) (y : Int) = some ((mlen y m : Nat) : Int) := by
  rw [← days_h h]
  unfold ref18_days head_days
  have e1 : ref18_days_p1 (m : Int) (y : Int) = head_days_p1 (m : Int) (y : Int) := rfl
  rw [e1]
  congr 1
  funext t
  congr 1
  have := List.all_eq_true.1 (show (List.range 12).all (fun m => decide (((idx ([31, 28, 31, 30, 31, 30, 31, 31, 30, 31, 30, 31] : List Int) (m : Int)).bind fun x => some x) = (ixm 12 (m : Int)).bind (fun j => (tab_head_days_1[j]?).bind fun x => some x))) = true by kernel_rfl) m (by simpa using h)
  simpa using this
theorem months_h (y d m : Nat) (hd : d ≤ 400) (hm : m < 12) : head_date_l2 (y : Int) ((d : Int), (m : Int)) = if mlen y m ≤ d then some (.nxt (((d - mlen y m : Nat) : Int), ((m + 1 : Nat) : Int))) else some (.brk ((d : Int), (m : Int))) := by
  have hl := mlen_le y m
  simp only [head_date_l2]
  rw [days_h hm]
  simp only [Option.bind_some]
  by_cases hc : mlen y m ≤ d
  · rw [if_pos (by simp; omega), if_pos hc, wi (by omega), wr (by omega) (by omega), Int.natCast_sub (by omega)]
  · rw [if_neg (by simp; omega), if_neg hc]
theorem months_r (y d m : Nat) (hd : d ≤ 400) (hm : m < 12) : ref18_Date_l2 (y : Int) ((d : Int), (m : Int)) = if mlen y m ≤ d then some (.nxt (((d - mlen y m : Nat) : Int), ((m + 1 : Nat) : Int))) else some (.brk ((d : Int), (m : Int))) := by
  have hl := mlen_le y m
  simp only [ref18_Date_l2]
  rw [days_r hm]
  simp only [Option.bind_some]
  by_cases hc : mlen y m ≤ d
  · rw [if_pos (by simp; omega), if_pos hc, wi (by omega), wr (by omega) (by omega), Int.natCast_sub (by omega)]
  · rw [if_neg (by simp; omega), if_neg hc]
end Go.Proofs.HeadS
