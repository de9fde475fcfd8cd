import Derived.Test.YtfnnmecilcnloaaDoorAP8
import Derived.Test.YtfnnmecilcnloaaDoorASAddrQuotes
set_option linter.unusedSimpArgs false
set_option linter.unusedVariables false
set_option linter.unusedSectionVars false
set_option linter.defProp false
set_option maxRecDepth 100000
namespace Go.Proofs.AddrS
open Go Go.Am Go.Proofs

/-- a text that stands for bytes in quotes -/
def Stands (t l : List UInt8) : Prop := ∀ rest, qL (t ++ rest) = (qL rest).map fun x => (l ++ x.1, x.2)
theorem Stands.nil : Stands [] [] := fun rest => by cases h : qL rest <;> simp [h]
theorem Stands.app {t l u m : List UInt8} (h1 : Stands t l) (h2 : Stands u m) : Stands (t ++ u) (l ++ m) := fun rest => by
  rw [List.append_assoc, h1, h2]
  cases qL rest <;> simp
theorem Stands.one {c : UInt8} (hv : isVis c = true) (h1 : c ≠ 34) (h2 : c ≠ 92) : Stands [c] [c] := fun rest => by
  rw [List.singleton_append, qL_cons, if_neg h1, if_neg h2, if_pos hv]
  simp
theorem Stands.two {c : UInt8} (hv : isVis c = true) : Stands [92, c] [c] := fun rest => by
  simp only [List.cons_append, List.nil_append]
  rw [qL_cons, if_neg (by decide), if_pos rfl]
  simp [hv]
theorem vis95 (x : UInt8) : isVis (32 + x % 95) = true := u8_all (p := fun x => isVis (32 + x % 95)) (by kernel_rfl) x
theorem quote_loop {loc : List UInt8} {sts : List Bool} (hl : loc.length ≤ 64) : ∀ (r : List UInt8) (i F : Nat) (t l : List UInt8), loc.drop i = r → i + r.length = loc.length → Stands t l → l.all isVis = true → l.length = i → t.length ≤ 2 * i → r.length < F →
    ∃ t' l', iter (law14_AddrQuotes_l1 loc sts) F (t, l, (i : Int)) = some (.inr (t', l')) ∧ Stands t' l' ∧ l'.all isVis = true ∧ l'.length = loc.length ∧ t'.length ≤ 2 * loc.length := by
  intro r
  induction r with
  | nil =>
    intro i F t l hd hi hs hv hll htl hF
    obtain ⟨G, rfl⟩ := F_succ hF
    have hi' : i = loc.length := by simpa using hi
    refine ⟨t, l, iter_brk ?_, hs, hv, by omega, by omega⟩
    simp only [law14_AddrQuotes_l1]
    rw [if_neg (by simp; omega)]
  | cons x r ih =>
    intro i F t l hd hi hs hv hll htl hF
    obtain ⟨G, rfl⟩ := F_succ (show 0 < F by omega)
    obtain ⟨h1, h2, h3⟩ := drop_cons hd
    simp only [List.length_cons] at hi hF
    obtain ⟨c, hc⟩ : ∃ c, c = 32 + x % 95 := ⟨_, rfl⟩
    have hcv : isVis c = true := by rw [hc]; exact vis95 x
    have hp2 : ∃ b, law14_AddrQuotes_p2 x (i : Int) sts = some b ∧ (b = false → c ≠ 34 ∧ c ≠ 92) := by
      unfold law14_AddrQuotes_p2
      rw [← hc]
      by_cases h34 : c = 34
      · rw [if_pos (by simpa using h34)]; exact ⟨true, rfl, fun h => by cases h⟩
      · rw [if_neg (by simpa using h34)]
        by_cases h92 : c = 92
        · rw [if_pos (by simpa using h92)]; exact ⟨true, rfl, fun h => by cases h⟩
        · rw [if_neg (by simpa using h92)]
          by_cases hi2 : i < sts.length
          · rw [if_pos (by simpa using hi2), idx_lt hi2]; exact ⟨_, rfl, fun _ => ⟨h34, h92⟩⟩
          · rw [if_neg (by simpa using hi2)]; exact ⟨_, rfl, fun _ => ⟨h34, h92⟩⟩
    obtain ⟨b, hb, hbc⟩ := hp2
    have hst : law14_AddrQuotes_l1 loc sts (t, l, (i : Int)) = some (.nxt (t ++ (if b = true then [92, c] else [c]), l ++ [c], ((i + 1 : Nat) : Int))) := by
      simp only [law14_AddrQuotes_l1]
      rw [if_pos (by simpa using h1), idx_get h2, Option.bind_some, ← hc, cat_ok (by simp; omega), Option.bind_some, hb, Option.bind_some]
      cases b with
      | true =>
        simp only [if_true]
        rw [cat_ok (by simp; omega), Option.bind_some, cat_ok (by simp; omega), Option.bind_some, wi (by omega)]
        simp
      | false =>
        simp only [Bool.false_eq_true, if_false]
        rw [cat_ok (by simp; omega), Option.bind_some, wi (by omega)]
    rw [iter_nxt hst]
    refine ih (i + 1) G _ _ h3 (by omega) (hs.app ?_) ?_ (by simp; omega) ?_ (by omega)
    · cases b with
      | true => exact Stands.two hcv
      | false => exact Stands.one hcv (hbc rfl).1 (hbc rfl).2
    · rw [List.all_append, hv]; simp [hcv]
    · cases b <;> simp <;> omega
theorem toldB_len (a : AddressV) : (toldB a).length ≤ 2 * a.local0.length + a.domain.length + 5 := by
  have := esc_len a.local0
  unfold toldB
  split <;> simp <;> omega
theorem quotes_ok (loc : List UInt8) (sts : List Bool) : ∃ F, law14_AddrQuotes F loc sts = some true := by
  refine ⟨900 + 100, ?_⟩
  unfold law14_AddrQuotes
  rw [known_eq, Option.bind_some]
  simp only [Bool.not_true, Bool.false_eq_true, if_false]
  by_cases hl : loc.length = 0 ∨ 64 < loc.length
  · rw [if_pos (by simp only [Bool.or_eq_true, decide_eq_true_eq]; omega)]
  · rw [if_neg (by simp only [Bool.or_eq_true, decide_eq_true_eq]; omega)]
    obtain ⟨t, l, h1, hs, hv, hll, htl⟩ := quote_loop (loc := loc) (sts := sts) (by omega) loc 0 (900 + 100) [] [] rfl (by simp) Stands.nil rfl rfl (by simp) (by omega)
    rw [show (([] : List UInt8), ([] : List UInt8), (0 : Int)) = (([] : List UInt8), ([] : List UInt8), ((0 : Nat) : Int)) from rfl, h1]
    simp only [Option.bind_some]
    rw [cat_ok (by simp; omega), Option.bind_some, cat_ok (by simp; omega), Option.bind_some]
    have hne : l ≠ [] := by intro h; subst h; simp at hll; omega
    have hnull : nullB ⟨l, [120, 46, 121]⟩ = false := by simp [nullB, hne]
    have hr : rightB ⟨l, [120, 46, 121]⟩ = true := by
      have htl := toldB_len ⟨l, [120, 46, 121]⟩
      have hd : domB [120, 46, 121] = true := by kernel_rfl
      simp only [rightB, hnull, Bool.false_or, hd, Bool.and_true, Bool.and_eq_true, decide_eq_true_eq, locB, bne_iff_ne, ne_eq]
      simp only [List.length_cons, List.length_nil] at htl
      exact ⟨⟨⟨hne, by omega⟩, hv⟩, by omega⟩
    have hp : pathV ([60, 34] ++ t ++ [34, 64, 120, 46, 121, 62]) = (⟨l, [120, 46, 121]⟩, [], 0) := by
      have e : ([60, 34] ++ t ++ [34, 64, 120, 46, 121, 62] : List UInt8) = 60 :: 34 :: (t ++ 34 :: [64, 120, 46, 121, 62]) := by simp
      have hq : qL (t ++ 34 :: [64, 120, 46, 121, 62]) = some (l, [64, 120, 46, 121, 62]) := by
        rw [hs, qL_cons, if_pos rfl]; simp
      have hloc : localL (34 :: (t ++ 34 :: [64, 120, 46, 121, 62])) = some (l, [64, 120, 46, 121, 62]) := by
        unfold localL
        rw [if_pos (show nx (34 :: (t ++ 34 :: [64, 120, 46, 121, 62])) = 34 from rfl)]
        simp only [List.drop_succ_cons, List.drop_zero]
        rw [hq]
        simp only
        rw [if_neg hne]
      have hbox : boxL (34 :: (t ++ 34 :: [64, 120, 46, 121, 62])) = some (⟨l, [120, 46, 121]⟩, []) := by
        unfold boxL
        rw [show routeL (34 :: (t ++ 34 :: [64, 120, 46, 121, 62])) = some (34 :: (t ++ 34 :: [64, 120, 46, 121, 62])) from if_neg (show nx (34 :: (t ++ 34 :: [64, 120, 46, 121, 62])) ≠ 64 by simp [nx])]
        simp only [hloc]
        rw [if_pos (show nx [64, 120, 46, 121, 62] = 64 from rfl)]
        rw [show domainL (List.drop 1 [64, 120, 46, 121, 62]) = some ([120, 46, 121], [62]) by kernel_rfl]
        rfl
      rw [e]
      unfold pathV pathL
      rw [if_pos (show nx (60 :: 34 :: (t ++ 34 :: [64, 120, 46, 121, 62])) = 60 from rfl)]
      simp only [List.drop_succ_cons, List.drop_zero]
      rw [if_neg (show nx (34 :: (t ++ 34 :: [64, 120, 46, 121, 62])) ≠ 62 by simp [nx]), hbox]
      simp only
      rw [if_pos hr]
    have hT : (([60, 34] ++ t ++ [34, 64, 120, 46, 121, 62] : List UInt8)).length ≤ 140 := by simp; omega
    have hpar : parseV ([60, 34] ++ t ++ [34, 64, 120, 46, 121, 62]) = (⟨l, [120, 46, 121]⟩, 0) := by
      unfold parseV; rw [hp]; simp
    rw [parse_ok (by omega) (by omega), hpar]
    simp only [Option.bind_some]
    rw [print_ok (by simp only; omega) (by simp) (by simp only [List.length_cons, List.length_nil]; omega), hnull, hr]
    simp only [Option.bind_some, Bool.false_eq_true, if_false, if_true]
    have hback := told_read hnull hr []
    rw [List.append_nil] at hback
    have hpar2 : parseV (toldB ⟨l, [120, 46, 121]⟩) = (⟨l, [120, 46, 121]⟩, 0) := by
      unfold parseV; rw [hback]; simp
    have htl2 := toldB_len ⟨l, [120, 46, 121]⟩
    simp only [List.length_cons, List.length_nil] at htl2
    rw [parse_ok (by omega) (by omega), hpar2]
    simp only [Option.bind_some]
    rw [wr (by decide) (by decide)]
    simp
end Go.Proofs.AddrS
