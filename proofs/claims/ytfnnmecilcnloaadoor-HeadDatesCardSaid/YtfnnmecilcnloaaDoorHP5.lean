import Derived.Test.YtfnnmecilcnloaaDoorHP4
import Derived.Test.YtfnnmecilcnloaaDoorHP2
set_option linter.unusedSimpArgs false
set_option linter.unusedVariables false
set_option linter.unusedSectionVars false
set_option linter.defProp false
set_option maxRecDepth 100000
namespace Go.Proofs.HeadS
open Go Go.Am Go.Proofs

/-! ### digits and names -/
def dg (n : Nat) : UInt8 := UInt8.ofNat (48 + n)
def tw (n : Nat) : List UInt8 := [dg (n / 10), dg (n % 10)]
theorem dg_inj {a b : Nat} (ha : a < 10) (hb : b < 10) (h : dg a = dg b) : a = b := by
  have := List.all_eq_true.1 (show (List.range 10).all (fun a => (List.range 10).all fun b => !(dg a == dg b) || a == b) = true by kernel_rfl) a (by simpa using ha)
  have := List.all_eq_true.1 this b (by simpa using hb)
  simpa [h] using this
theorem two_h {n : Nat} (h : n < 100) : head_two (n : Int) = some (tw n) := by
  have := List.all_eq_true.1 (show (List.range 100).all (fun n => decide (head_two (n : Int) = some (tw n))) = true by kernel_rfl) n (by simpa using h)
  simpa using this
theorem four_h {y : Nat} (h : y ≤ 9999) : head_four (y : Int) = some (tw (y / 100) ++ tw (y % 100)) := by
  unfold head_four
  rw [show IntKind.wrap .i64 (Int.tdiv (y : Int) 100) = ((y / 100 : Nat) : Int) by rw [show Int.tdiv (y : Int) 100 = ((y / 100 : Nat) : Int) from rfl, wr (by omega) (by omega)],
    show Int.tmod (y : Int) 100 = ((y % 100 : Nat) : Int) from rfl, two_h (by omega), two_h (by omega)]
  simp only [Option.bind_some]
  rw [cat_ok (by simp [tw])]
  rfl
theorem two_r {n : Nat} (h : n ≤ 9999) : ref18_two (n : Int) = some (tw (n % 100)) := by
  have hd : ∀ k : Nat, k < 10 → UInt8.ofInt (IntKind.wrap .i64 (48 + (k : Int))) = dg k := by
    intro k hk
    have := List.all_eq_true.1 (show (List.range 10).all (fun k => decide (UInt8.ofInt (IntKind.wrap .i64 (48 + (k : Int))) = dg k)) = true by kernel_rfl) k (by simpa using hk)
    simpa using this
  unfold ref18_two tw
  rw [show IntKind.wrap .i64 (Int.tdiv (n : Int) 10) = ((n / 10 : Nat) : Int) by rw [show Int.tdiv (n : Int) 10 = ((n / 10 : Nat) : Int) from rfl, wr (by omega) (by omega)],
    show Int.tmod ((n / 10 : Nat) : Int) 10 = ((n / 10 % 10 : Nat) : Int) from rfl, show Int.tmod (n : Int) 10 = ((n % 10 : Nat) : Int) from rfl, hd _ (by omega), hd _ (by omega),
    show n % 100 / 10 = n / 10 % 10 by omega, show n % 100 % 10 = n % 10 by omega]
def wtab : List UInt8 := [84, 104, 117, 70, 114, 105, 83, 97, 116, 83, 117, 110, 77, 111, 110, 84, 117, 101, 87, 101, 100]
def mtabs : List UInt8 := (74 :: 97 :: 110 :: 70 :: 101 :: 98 :: 77 :: 97 :: 114 :: 65 :: 112 :: 114 :: 77 :: 97 :: 121 :: 74 :: 117 :: 110 :: 74 :: 117 :: 108 :: 65 :: 117 :: 103 :: 83 :: 101 :: 112 :: 79 :: 99 :: 116 :: 78 :: 111 :: 118 :: 68 :: 101 :: 99 :: [])
def wk (w : Nat) : List UInt8 := (wtab.take (3 * w + 3)).drop (3 * w)
def mn (m : Nat) : List UInt8 := (mtabs.take (3 * m + 3)).drop (3 * m)
theorem wk_len {w : Nat} (h : w < 7) : (wk w).length = 3 := by simp [wk, wtab]; omega
theorem mn_len {m : Nat} (h : m < 12) : (mn m).length = 3 := by simp [mn, mtabs]; omega
theorem mn_inj {a b : Nat} (ha : a < 12) (hb : b < 12) (h : mn a = mn b) : a = b := by
  have := List.all_eq_true.1 (show (List.range 12).all (fun a => (List.range 12).all fun b => !(mn a == mn b) || a == b) = true by kernel_rfl) a (by simpa using ha)
  have := List.all_eq_true.1 this b (by simpa using hb)
  simpa [h] using this
theorem wk_h {w : Nat} (h : w < 7) : sub ([84, 104, 117, 70, 114, 105, 83, 97, 116, 83, 117, 110, 77, 111, 110, 84, 117, 101, 87, 101, 100] : List UInt8) (IntKind.wrap .i64 (3 * (w : Int))) (IntKind.wrap .i64 (IntKind.wrap .i64 (3 * (w : Int)) + 3)) = some (wk w) := by
  rw [show IntKind.wrap .i64 (3 * (w : Int)) = ((3 * w : Nat) : Int) by rw [wr (by omega) (by omega)]; omega, show IntKind.wrap .i64 (((3 * w : Nat) : Int) + 3) = ((3 * w + 3 : Nat) : Int) by rw [wr (by omega) (by omega)]; omega,
    sub_ok (by omega) (by simp; omega)]
  rfl
theorem mn_h {m : Nat} (h : m < 12) : sub mtabs (IntKind.wrap .i64 (3 * (m : Int))) (IntKind.wrap .i64 (IntKind.wrap .i64 (3 * (m : Int)) + 3)) = some (mn m) := by
  rw [show IntKind.wrap .i64 (3 * (m : Int)) = ((3 * m : Nat) : Int) by rw [wr (by omega) (by omega)]; omega, show IntKind.wrap .i64 (((3 * m : Nat) : Int) + 3) = ((3 * m + 3 : Nat) : Int) by rw [wr (by omega) (by omega)]; omega,
    sub_ok (by omega) (by simp [mtabs]; omega)]
  rfl
def wl : List (List UInt8) := [([84, 104, 117] : List UInt8), ([70, 114, 105] : List UInt8), ([83, 97, 116] : List UInt8), ([83, 117, 110] : List UInt8), ([77, 111, 110] : List UInt8), ([84, 117, 101] : List UInt8), ([87, 101, 100] : List UInt8)]
def mll : List (List UInt8) := [([74, 97, 110] : List UInt8), ([70, 101, 98] : List UInt8), ([77, 97, 114] : List UInt8), ([65, 112, 114] : List UInt8), ([77, 97, 121] : List UInt8), ([74, 117, 110] : List UInt8), ([74, 117, 108] : List UInt8), ([65, 117, 103] : List UInt8), ([83, 101, 112] : List UInt8), ([79, 99, 116] : List UInt8), ([78, 111, 118] : List UInt8), ([68, 101, 99] : List UInt8)]
theorem wk_r {w : Nat} (h : w < 7) : idx wl (w : Int) = some (wk w) := by
  have := List.all_eq_true.1 (show (List.range 7).all (fun w => decide (idx wl (w : Int) = some (wk w))) = true by kernel_rfl) w (by simpa using h)
  simpa using this
theorem mn_r {m : Nat} (h : m < 12) : idx mll (m : Int) = some (mn m) := by
  have := List.all_eq_true.1 (show (List.range 12).all (fun m => decide (idx mll (m : Int) = some (mn m))) = true by kernel_rfl) m (by simpa using h)
  simpa using this

/-- a date's text -/
def dstr (w a m y e : Nat) : List UInt8 :=
  wk w ++ (44 :: 32 :: dg (a / 10) :: dg (a % 10) :: 32 :: (mn m ++ (32 :: dg (y / 100 / 10) :: dg (y / 100 % 10) :: dg (y % 100 / 10) :: dg (y % 100 % 10) :: 32 :: dg (e / 3600 / 10) :: dg (e / 3600 % 10) :: 58 :: dg (e / 60 % 60 / 10) :: dg (e / 60 % 60 % 10) :: 58 :: dg (e % 60 / 10) :: dg (e % 60 % 10) :: [32, 43, 48, 48, 48, 48])))
/-- year, month, day of a number of days -/
def Civ (d y m a : Nat) : Prop := ∃ k b, y = 1970 + k ∧ d = S ylen 1970 k + b ∧ b < ylen y ∧ b = S (mlen y) 0 m + a ∧ a < mlen y m ∧ m < 12
theorem civ_one {d y m a y2 m2 a2 : Nat} (h : Civ d y m a) (h2 : Civ d y2 m2 a2) : y = y2 ∧ m = m2 ∧ a = a2 := by
  obtain ⟨k, b, e1, e2, e3, e4, e5, -⟩ := h
  obtain ⟨k2, b2, f1, f2, f3, f4, f5, -⟩ := h2
  obtain ⟨rfl, rfl⟩ := S_one (e2.symm.trans f2) (e1 ▸ e3) (f1 ▸ f3)
  subst f1
  subst e1
  obtain ⟨h1, h2⟩ := S_one (f := mlen (1970 + k)) (e4.symm.trans f4) (by simpa using e5) (by simpa using f5)
  exact ⟨rfl, h1, h2⟩
theorem civ_back {d d2 y m a : Nat} (h : Civ d y m a) (h2 : Civ d2 y m a) : d = d2 := by
  obtain ⟨k, b, e1, e2, e3, e4, e5, -⟩ := h
  obtain ⟨k2, b2, f1, f2, f3, f4, f5, -⟩ := h2
  have : k = k2 := by omega
  subst this
  omega
theorem civ_le {d y m a : Nat} (h : Civ d y m a) (hd : d ≤ 2932896) : y ≤ 9999 ∧ m < 12 ∧ a < 31 := by
  obtain ⟨k, b, e1, e2, e3, e4, e5, e6⟩ := h
  have := y_bound e2 hd
  have := mlen_le y m
  omega
theorem date_h {d F : Nat} (hd : d ≤ 2932896) (hF : 3000000 < F) : ∃ y m a : Nat, Civ d y m a ∧ head_date F (d : Int) = some ((y : Int), (m : Int), ((a + 1 : Nat) : Int)) := by
  obtain ⟨b, k, h1, h2, h3⟩ := years (fun d y hd hy => years_h d y hd hy) F d 1970 (by omega) (by omega) (by omega)
  have hl := ylen_le (1970 + k)
  obtain ⟨a, m, g1, g2, g3, g4⟩ := months (y := 1970 + k) (fun d m hd hm => months_h (1970 + k) d m hd hm) 12 F b 0 rfl (by omega) (by omega) (by rw [M_all]; exact h3)
  rw [Nat.zero_add] at g1 g3 g4
  have := mlen_le (1970 + k) m
  refine ⟨1970 + k, m, a, ⟨k, b, rfl, h2, h3, g2, g3, g4⟩, ?_⟩
  unfold head_date
  rw [show ((1970 : Nat) : Int) = 1970 from rfl] at h1
  rw [h1]
  simp only [Option.bind_some]
  rw [show ((0 : Nat) : Int) = 0 from rfl] at g1
  rw [g1]
  simp only [Option.bind_some]
  rw [wi (by omega)]
/-- no rfl-lemma: the kernel need not compare the two sides -/
theorem bs {α β : Type} (a : α) (f : α → Option β) : (some a).bind f = f a := (Option.bind_some a f).trans (Eq.trans rfl rfl)
theorem head_D {t F : Nat} (ht : t ≤ 253402300799) (hF : 3000000 < F) : ∃ y m a : Nat, Civ (t / 86400) y m a ∧ head_Date F (t : Int) = some (dstr (t / 86400 % 7) (a + 1) m y (t % 86400)) := by
  have hd : t / 86400 ≤ 2932896 := by omega
  obtain ⟨y, m, a, hc, h⟩ := date_h (F := F) hd hF
  obtain ⟨hy, hm, ha⟩ := civ_le hc hd
  refine ⟨y, m, a, hc, ?_⟩
  unfold head_Date
  have e0 : min (max (t : Int) 0) 253402300799 = (t : Int) := by omega
  have e1 : IntKind.wrap .i64 (Int.tdiv (t : Int) 86400) = ((t / 86400 : Nat) : Int) := by rw [show Int.tdiv (t : Int) 86400 = ((t / 86400 : Nat) : Int) from rfl, wr (by omega) (by omega)]
  have e2 : Int.tmod (t : Int) 86400 = ((t % 86400 : Nat) : Int) := rfl
  have e3 : Int.tmod ((t / 86400 : Nat) : Int) 7 = ((t / 86400 % 7 : Nat) : Int) := rfl
  have e4 : IntKind.wrap .i64 (Int.tdiv ((t % 86400 : Nat) : Int) 3600) = ((t % 86400 / 3600 : Nat) : Int) := by rw [show Int.tdiv ((t % 86400 : Nat) : Int) 3600 = ((t % 86400 / 3600 : Nat) : Int) from rfl, wr (by omega) (by omega)]
  have e5 : IntKind.wrap .i64 (Int.tdiv ((t % 86400 : Nat) : Int) 60) = ((t % 86400 / 60 : Nat) : Int) := by rw [show Int.tdiv ((t % 86400 : Nat) : Int) 60 = ((t % 86400 / 60 : Nat) : Int) from rfl, wr (by omega) (by omega)]
  have e6 : Int.tmod ((t % 86400 / 60 : Nat) : Int) 60 = ((t % 86400 / 60 % 60 : Nat) : Int) := rfl
  have e7 : Int.tmod ((t % 86400 : Nat) : Int) 60 = ((t % 86400 % 60 : Nat) : Int) := rfl
  rw [e0, e1, e2, e3, e4, e5, e6, e7, h]
  clear e0 e1 e2 e3 e4 e5 e6 e7 h hc
  simp only [bs]
  have hw7 : t / 86400 % 7 < 7 := Nat.mod_lt _ (by decide)
  have he : t % 86400 < 86400 := Nat.mod_lt _ (by decide)
  generalize t / 86400 % 7 = w at hw7 ⊢
  generalize t % 86400 = e at he ⊢
  clear hd ht hF
  have hw := wk_len hw7
  have hmn := mn_len hm
  rw [wk_h (by omega)]
  generalize hW : wk w = W at hw ⊢
  simp only [bs]
  rw [cat_ok (by simp; omega)]
  simp only [bs]
  have hmh := mn_h hm
  unfold mtabs at hmh
  rw [hmh]
  generalize hM : mn m = M at hmn ⊢
  simp only [bs]
  rw [two_h (by omega)]
  simp only [bs]
  rw [cat_ok (by simp [tw]; omega)]
  simp only [bs]
  rw [cat_ok (by simp [tw]; omega)]
  simp only [bs]
  rw [cat_ok (by simp [tw]; omega)]
  simp only [bs]
  rw [cat_ok (by simp [tw]; omega)]
  simp only [bs]
  rw [four_h hy]
  simp only [bs]
  rw [cat_ok (by simp [tw]; omega)]
  simp only [bs]
  rw [cat_ok (by simp [tw]; omega)]
  simp only [bs]
  rw [two_h (by omega)]
  simp only [bs]
  rw [cat_ok (by simp [tw]; omega)]
  simp only [bs]
  rw [cat_ok (by simp [tw]; omega)]
  simp only [bs]
  rw [two_h (by omega)]
  simp only [bs]
  rw [cat_ok (by simp [tw]; omega)]
  simp only [bs]
  rw [cat_ok (by simp [tw]; omega)]
  simp only [bs]
  rw [two_h (by omega)]
  simp only [bs]
  rw [cat_ok (by simp [tw]; omega)]
  simp only [bs]
  rw [cat_ok (by simp [tw]; omega)]
  subst hW hM
  simp only [bs, dstr, tw, List.append_assoc, List.cons_append, List.nil_append]
theorem ref_D {t F y m a : Nat} (ht : t ≤ 253402300799) (hF : 3000000 < F) (hc : Civ (t / 86400) y m a) : ref18_Date F (t : Int) = some (dstr (t / 86400 % 7) (a + 1) m y (t % 86400)) := by
  have hd : t / 86400 ≤ 2932896 := by omega
  obtain ⟨hy, hm, ha⟩ := civ_le hc hd
  obtain ⟨d, hdd⟩ : ∃ d, d = t / 86400 := ⟨_, rfl⟩
  have e1 : IntKind.wrap .i64 (Int.tdiv (t : Int) 86400) = (d : Int) := by rw [show Int.tdiv (t : Int) 86400 = ((t / 86400 : Nat) : Int) from rfl, wr (by omega) (by omega), hdd]
  have e2 : Int.tmod (t : Int) 86400 = ((t % 86400 : Nat) : Int) := rfl
  have e3 : Int.tmod (d : Int) 7 = ((d % 7 : Nat) : Int) := rfl
  have e4 : IntKind.wrap .i64 (Int.tdiv ((t % 86400 : Nat) : Int) 3600) = ((t % 86400 / 3600 : Nat) : Int) := by rw [show Int.tdiv ((t % 86400 : Nat) : Int) 3600 = ((t % 86400 / 3600 : Nat) : Int) from rfl, wr (by omega) (by omega)]
  have e5 : IntKind.wrap .i64 (Int.tdiv ((t % 86400 : Nat) : Int) 60) = ((t % 86400 / 60 : Nat) : Int) := by rw [show Int.tdiv ((t % 86400 : Nat) : Int) 60 = ((t % 86400 / 60 : Nat) : Int) from rfl, wr (by omega) (by omega)]
  have e6 : Int.tmod ((t % 86400 / 60 : Nat) : Int) 60 = ((t % 86400 / 60 % 60 : Nat) : Int) := rfl
  have e7 : Int.tmod ((t % 86400 : Nat) : Int) 60 = ((t % 86400 % 60 : Nat) : Int) := rfl
  have e8 : Int.tmod (d : Int) 146097 = ((d % 146097 : Nat) : Int) := rfl
  have e9 : IntKind.wrap .i64 (1970 + IntKind.wrap .i64 (400 * IntKind.wrap .i64 (Int.tdiv (d : Int) 146097))) = ((1970 + 400 * (d / 146097) : Nat) : Int) := by
    rw [show Int.tdiv (d : Int) 146097 = ((d / 146097 : Nat) : Int) from rfl, wr (n := ((d / 146097 : Nat) : Int)) (by omega) (by omega), wr (n := 400 * ((d / 146097 : Nat) : Int)) (by omega) (by omega), wr (by omega) (by omega)]; omega
  obtain ⟨b, k, h1, h2, h3⟩ := years (fun d y hd hy => years_r d y hd hy) F (d % 146097) (1970 + 400 * (d / 146097)) (by omega) (by omega) (by omega)
  have hl := ylen_le (1970 + 400 * (d / 146097) + k)
  obtain ⟨a', m', g1, g2, g3, g4⟩ := months (y := 1970 + 400 * (d / 146097) + k) (fun d m hd hm => months_r _ d m hd hm) 12 F b 0 rfl (by omega) (by omega) (by rw [M_all]; exact h3)
  rw [Nat.zero_add] at g1 g3 g4
  have hc2 : Civ (t / 86400) (1970 + 400 * (d / 146097) + k) m' a' := by
    refine ⟨400 * (d / 146097) + k, b, by omega, ?_, h3, g2, g3, g4⟩
    rw [S_add, S_cyc]
    omega
  obtain ⟨ey, rfl, rfl⟩ := civ_one hc hc2
  rw [← ey] at h1 g1
  rw [show ((0 : Nat) : Int) = 0 from rfl] at g1
  have hp1 : ref18_Date_p1 (t : Int) = some (t : Int) := by unfold ref18_Date_p1; rw [if_neg (by simp)]
  have hp2 : ref18_Date_p2 (t : Int) = some (t : Int) := by unfold ref18_Date_p2; rw [if_neg (by simp; omega)]
  unfold ref18_Date
  rw [hp1]
  simp only [bs]
  rw [hp2]
  simp only [bs]
  rw [e1, e2, e3, e4, e5, e6, e7, e8, e9, h1]
  rw [hdd] at *
  have hw7 : t / 86400 % 7 < 7 := Nat.mod_lt _ (by decide)
  have he : t % 86400 < 86400 := Nat.mod_lt _ (by decide)
  clear e1 e2 e3 e4 e5 e6 e7 e8 e9 h1 hp1 hp2 h2 h3 hl g2 g3 g4 hc hc2
  generalize t / 86400 % 7 = w at hw7 ⊢
  generalize t % 86400 = e at he ⊢
  have hw := wk_len hw7
  have hmn := mn_len hm
  have hwr := wk_r hw7
  unfold wl at hwr
  rw [hwr]
  generalize hW : wk w = W at hw ⊢
  simp only [bs]
  rw [g1]
  simp only [bs]
  rw [cat_ok (by simp; omega)]
  simp only [bs]
  have hmr := mn_r hm
  unfold mll at hmr
  rw [hmr]
  generalize hM : mn m = M at hmn ⊢
  simp only [bs]
  rw [wi (by omega), two_r (by omega)]
  simp only [bs]
  rw [cat_ok (by simp [tw]; omega)]
  simp only [bs]
  rw [cat_ok (by simp [tw]; omega)]
  simp only [bs]
  rw [cat_ok (by simp [tw]; omega)]
  simp only [bs]
  rw [cat_ok (by simp [tw]; omega)]
  simp only [bs]
  rw [show IntKind.wrap .i64 (Int.tdiv (y : Int) 100) = ((y / 100 : Nat) : Int) by rw [show Int.tdiv (y : Int) 100 = ((y / 100 : Nat) : Int) from rfl, wr (by omega) (by omega)], two_r (by omega)]
  simp only [bs]
  rw [cat_ok (by simp [tw]; omega)]
  simp only [bs]
  rw [two_r hy]
  simp only [bs]
  rw [cat_ok (by simp [tw]; omega)]
  simp only [bs]
  rw [cat_ok (by simp [tw]; omega)]
  simp only [bs]
  rw [two_r (by omega)]
  simp only [bs]
  rw [cat_ok (by simp [tw]; omega)]
  simp only [bs]
  rw [cat_ok (by simp [tw]; omega)]
  simp only [bs]
  rw [two_r (by omega)]
  simp only [bs]
  rw [cat_ok (by simp [tw]; omega)]
  simp only [bs]
  rw [cat_ok (by simp [tw]; omega)]
  simp only [bs]
  rw [two_r (by omega)]
  simp only [bs]
  rw [cat_ok (by simp [tw]; omega)]
  simp only [bs]
  rw [cat_ok (by simp [tw]; omega)]
  subst hW hM
  simp only [bs, dstr, tw, List.append_assoc, List.cons_append, List.nil_append]
  rw [show (a + 1) % 100 = a + 1 by omega, show y / 100 % 100 = y / 100 by omega, show e / 3600 % 100 = e / 3600 by omega, show e / 60 % 60 % 100 = e / 60 % 60 by omega, show e % 60 % 100 = e % 60 by omega]
theorem dstr_len {w a m y e : Nat} (hw : w < 7) (hm : m < 12) : (dstr w a m y e).length = 31 := by
  have := wk_len hw
  have := mn_len hm
  simp only [dstr, List.length_append, List.length_cons, List.length_nil]
  omega
theorem dstr_inj {w a m y e w2 a2 m2 y2 e2 : Nat} (hw : w < 7) (hw2 : w2 < 7) (hm : m < 12) (hm2 : m2 < 12) (ha : a < 100) (ha2 : a2 < 100) (hy : y ≤ 9999) (hy2 : y2 ≤ 9999) (he : e < 86400) (he2 : e2 < 86400)
    (h : dstr w a m y e = dstr w2 a2 m2 y2 e2) : a = a2 ∧ m = m2 ∧ y = y2 ∧ e = e2 := by
  unfold dstr at h
  obtain ⟨-, h⟩ := List.append_inj h (by rw [wk_len hw, wk_len hw2])
  simp only [List.cons.injEq, true_and] at h
  obtain ⟨h1, h2, h⟩ := h
  obtain ⟨hmm, h⟩ := List.append_inj h (by rw [mn_len hm, mn_len hm2])
  simp only [List.cons.injEq, true_and, and_true] at h
  obtain ⟨h3, h4, h5, h6, h7, h8, h9, h10, h11, h12⟩ := h
  have := dg_inj (by omega) (by omega) h1
  have := dg_inj (by omega) (by omega) h2
  have := dg_inj (by omega) (by omega) h3
  have := dg_inj (by omega) (by omega) h4
  have := dg_inj (by omega) (by omega) h5
  have := dg_inj (by omega) (by omega) h6
  have := dg_inj (by omega) (by omega) h7
  have := dg_inj (by omega) (by omega) h8
  have := dg_inj (by omega) (by omega) h9
  have := dg_inj (by omega) (by omega) h10
  have := dg_inj (by omega) (by omega) h11
  have := dg_inj (by omega) (by omega) h12
  exact ⟨by omega, mn_inj hm hm2 hmm, by omega, by omega⟩
theorem headDates_law (t more : Int) : ∃ F, law18_HeadDates F t more = some true := by
  refine ⟨3000000 + 100, ?_⟩
  unfold law18_HeadDates
  rw [known_a]
  simp only [Option.bind_some, Bool.not_true, Bool.false_eq_true, if_false]
  by_cases h : t < 0 ∨ 253401609599 < t ∨ more < 0 ∨ 691200 < more
  · rw [if_pos (by simp only [Bool.or_eq_true, decide_eq_true_eq]; omega)]
  · rw [if_neg (by simp only [Bool.or_eq_true, decide_eq_true_eq]; omega)]
    obtain ⟨n, rfl⟩ : ∃ n : Nat, t = (n : Int) := ⟨t.toNat, by omega⟩
    obtain ⟨q, rfl⟩ : ∃ q : Nat, more = (q : Int) := ⟨more.toNat, by omega⟩
    have hn : n ≤ 253401609599 := by omega
    have hq : q ≤ 691200 := by omega
    obtain ⟨y, m, a, hc, h1⟩ := head_D (t := n) (F := 3000000 + 100) (by omega) (by omega)
    obtain ⟨y2, m2, a2, hc2, h2⟩ := head_D (t := n + q) (F := 3000000 + 100) (by omega) (by omega)
    obtain ⟨hy, hm, ha⟩ := civ_le hc (by omega)
    obtain ⟨hy2, hm2, ha2⟩ := civ_le hc2 (by omega)
    rw [show IntKind.wrap .i64 ((n : Int) + (q : Int)) = ((n + q : Nat) : Int) by rw [wr (by omega) (by omega)]; omega, h1, h2]
    simp only [Option.bind_some]
    have hlen := dstr_len (w := n / 86400 % 7) (a := a + 1) (m := m) (y := y) (e := n % 86400) (by omega) hm
    unfold law18_HeadDates_p2
    rw [if_pos (by rw [hlen]; rfl), ← show ((3 : Nat) : Int) = 3 from rfl, sub_to (by omega)]
    simp only [Option.bind_some]
    have e1 : IntKind.wrap .i64 (Int.tdiv (n : Int) 86400) = ((n / 86400 : Nat) : Int) := by rw [show Int.tdiv (n : Int) 86400 = ((n / 86400 : Nat) : Int) from rfl, wr (by omega) (by omega)]
    have e3 : Int.tmod ((n / 86400 : Nat) : Int) 7 = ((n / 86400 % 7 : Nat) : Int) := rfl
    have hwk := wk_h (w := n / 86400 % 7) (by omega)
    rw [← show ((3 : Nat) : Int) = 3 from rfl] at hwk
    rw [e1, e3, hwk]
    simp only [Option.bind_some]
    have ht : (dstr (n / 86400 % 7) (a + 1) m y (n % 86400)).take 3 = wk (n / 86400 % 7) := by
      unfold dstr
      have hwl := wk_len (w := n / 86400 % 7) (by omega)
      rw [List.take_append_of_le_length (by rw [hwl]; exact Nat.le_refl 3), List.take_of_length_le (by rw [hwl]; exact Nat.le_refl 3)]
    rw [if_pos (by rw [ht]; simp), ref_D (by omega) (by omega) hc]
    have hk : (decide (dstr (n / 86400 % 7) (a + 1) m y (n % 86400) = dstr ((n + q) / 86400 % 7) (a2 + 1) m2 y2 ((n + q) % 86400)) == decide ((q : Int) = 0)) = true := by
     rw [beq_iff_eq, decide_eq_decide]
     constructor
     · intro heq
       obtain ⟨r1, r2, r3, r4⟩ := dstr_inj (by omega) (by omega) hm hm2 (by omega) (by omega) hy hy2 (by omega) (by omega) heq
       obtain rfl : a = a2 := by omega
       subst r2 r3
       have := civ_back hc hc2
       omega
     · intro hz
       obtain rfl : q = 0 := by omega
       obtain ⟨r1, r2, r3⟩ := civ_one hc (by simpa using hc2)
       subst r1 r2 r3
       rfl
    rw [hk]
    simp only [Option.bind_some, decide_true, if_true]
end Go.Proofs.HeadS
