import Derived.Test.YtndhkepeecpilaaDoorRPX
import Derived.Test.YtndhkepeecpilaaDoorRSReplyBack
set_option linter.unusedSimpArgs false
set_option linter.unusedVariables false
set_option linter.unusedSectionVars false
set_option linter.defProp false
namespace Go.Proofs.ReplyS
open Go Go.Am Go.Proofs

theorem rprint_eq {F : Nat} {r : ReplyV} (hF : 1000 < F) (hf : fewB r = true) : ref16_Print F r = some (if rightB r then txt r else []) := by
  by_cases hr : rightB r = true
  case neg =>
    unfold ref16_Print
    rw [rright_eq hF hf]
    simp [hr]
  have h := rightB_iff.1 hr
  obtain ⟨n, x, y, z, hn, hc, hx, hy, hz, g1, g2, e⟩ := code_dig h.h1 h.h2
  have h4 := h.h4
  obtain ⟨-, -, -, -, -, dx⟩ := dg_facts ⟨x, hx⟩
  obtain ⟨-, -, -, -, -, dy⟩ := dg_facts ⟨y, hy⟩
  obtain ⟨-, -, -, -, -, dz⟩ := dg_facts ⟨z, hz⟩
  simp only at dx dy dz
  have t1 : Int.tdiv r.code 100 = (x : Int) := by rw [hn, Int.tdiv_eq_ediv_of_nonneg (by omega)]; omega
  have t2 : Int.tmod (IntKind.wrap .i64 (Int.tdiv r.code 10)) 10 = (y : Int) := by
    have : Int.tdiv r.code 10 = r.code / 10 := Int.tdiv_eq_ediv_of_nonneg (by omega)
    rw [this, wr (by omega) (by omega), Int.tmod_eq_emod_of_nonneg (by omega)]
    omega
  have t3 : Int.tmod r.code 10 = (z : Int) := by rw [Int.tmod_eq_emod_of_nonneg (by omega)]; omega
  have key : ∀ (q : List (List UInt8)) (i G : Nat) (out : List UInt8), r.lines.drop i = q → i ≤ r.lines.length → q.length < G → (∀ l ∈ q, l.length ≤ 480) → out.length + 1000 * q.length ≤ 1000000 →
      iter (ref16_Print_l1 r) G (out, (i : Int)) = some (.inr (out ++ ptext [dg x, dg y, dg z] q)) := by
    intro q
    induction q with
    | nil =>
      intro i G out hd hi' hG _ _
      obtain ⟨G, rfl⟩ := F_succ hG
      have := drop_nil_ge hd
      have hn : ¬ (i : Int) < r.lines.length := by omega
      exact iter_brk (by simp [ref16_Print_l1, hn, ptext])
    | cons c q ih =>
      intro i G out hd hi' hG hq ho
      obtain ⟨G, rfl⟩ := F_succ hG
      obtain ⟨q1, q2, q3⟩ := drop_cons hd
      have hlt : (i : Int) < r.lines.length := by omega
      have hw : IntKind.wrap .i64 ((i : Int) + 1) = ((i + 1 : Nat) : Int) := by rw [wr (by omega) (by omega)]; rfl
      have hcl := hq c (by simp)
      have hlen : (r.lines.drop (i + 1)).length = r.lines.length - (i + 1) := List.length_drop
      rw [q3] at hlen
      simp only [List.length_cons] at ho
      have step : ∀ mark : List UInt8, mark.length = 1 → ref16_Print_p1 (i : Int) r = some mark → iter (ref16_Print_l1 r) (G + 1) (out, (i : Int)) = some (.inr (out ++ ([dg x, dg y, dg z] ++ mark ++ c ++ [13, 10]) ++ ptext [dg x, dg y, dg z] q)) := by
        intro mark hm hp
        have c1 : cat [dg x, dg y, dg z] mark = some ([dg x, dg y, dg z] ++ mark) := cat_ok (by simp; omega)
        have c2 : cat ([dg x, dg y, dg z] ++ mark) c = some ([dg x, dg y, dg z] ++ mark ++ c) := cat_ok (by simp; omega)
        have c3 : capp 1 out ([dg x, dg y, dg z] ++ mark ++ c) = some (out ++ ([dg x, dg y, dg z] ++ mark ++ c)) := capp_ok (by simp; omega) (by omega)
        have c4 : capp 1 (out ++ ([dg x, dg y, dg z] ++ mark ++ c)) [13, 10] = some (out ++ ([dg x, dg y, dg z] ++ mark ++ c) ++ [13, 10]) := capp_ok (by simp; omega) (by omega)
        have w1 : IntKind.wrap .i64 (x : Int) = x := wr (by omega) (by omega)
        have w2 : IntKind.wrap .i64 (48 + (x : Int)) = 48 + x := wr (by omega) (by omega)
        have w3 : IntKind.wrap .i64 (48 + (y : Int)) = 48 + y := wr (by omega) (by omega)
        have w4 : IntKind.wrap .i64 (48 + (z : Int)) = 48 + z := wr (by omega) (by omega)
        rw [iter_nxt (s' := (out ++ ([dg x, dg y, dg z] ++ mark ++ c ++ [13, 10]), ((i + 1 : Nat) : Int))) (by
          simp only [ref16_Print_l1, hlt, decide_true, if_true, idx_get q2, Option.bind_some, hp, t1, t2, t3, w1, w2, w3, w4, dx, dy, dz, c1, c2, c3, c4, hw]
          simp)]
        exact ih (i + 1) G _ q3 (by omega) (by simp at hG; omega) (fun l hl => hq l (by simp [hl])) (by simp; omega)
      have hw2 : IntKind.wrap .i64 ((i : Int) + 1) = (i : Int) + 1 := wr (by omega) (by omega)
      cases q with
      | nil =>
        simp only [List.length_nil] at hlen
        have he : (i : Int) + 1 = (r.lines.length : Int) := by omega
        rw [step [32] rfl (by unfold ref16_Print_p1; rw [hw2, if_pos (by simpa using he)])]
        simp [ptext]
      | cons m q =>
        simp only [List.length_cons] at hlen
        have he : ¬ (i : Int) + 1 = (r.lines.length : Int) := by omega
        rw [step [45] rfl (by unfold ref16_Print_p1; rw [hw2, if_neg (by simpa using he)])]
        simp [ptext]
  have := key r.lines 0 F [] rfl (Nat.zero_le _) (by omega) (fun l hl => text_len (h.h5 l hl)) (by simp; omega)
  rw [show ((0 : Nat) : Int) = 0 from rfl, List.nil_append] at this
  unfold ref16_Print
  rw [rright_eq hF hf, hr, Option.bind_some]
  simp only [Bool.not_true, Bool.false_eq_true, if_false, this, Option.bind_some, if_true]
  unfold txt; rw [e]

theorem back_law (r o : ReplyV) (code : Int) : ∃ F, law16_ReplyBack F r o code = some true := by
  refine ⟨200000 + 100, ?_⟩
  generalize hG : 200000 + 100 = F
  have hF : 100000 < F := by omega
  have hk : law16_known F = some true := by rw [← hG]; exact known_eqB 200000
  unfold law16_ReplyBack
  rw [hk, Option.bind_some]
  simp only [Bool.not_true, Bool.false_eq_true, if_false]
  unfold law16_ReplyBack_p1
  rw [few_eq (r := r) (by omega), few_eq (r := o) (by omega)]
  by_cases h1 : fewB r = true
  case neg => simp [h1]
  by_cases h2 : fewB o = true
  case neg => simp [h1, h2]
  have l1 := (fewB_get h1).1
  have hp2 : law16_ReplyBack_p2 F r (if rightB r then txt r else []) o code = some false := by
    unfold law16_ReplyBack_p2 law16_Of
    simp only [Option.bind_some, rprint_eq (r := r) (F := F) (by omega) h1, decide_true, Bool.not_true, Bool.false_eq_true, if_false, right_eq (r := r) (F := F) (by omega) h1, rright_eq (r := r) (F := F) (by omega) h1, beq_self_eq_true,
      same_eq (a := r) (b := o) (F := F) (by omega) l1, rsame_eq (a := r) (b := o) (F := F) (by omega) l1]
    have hcl : ref16_Class code = reply_Class code := rfl
    rw [hcl]
    have : ∃ v, reply_Class code = some v := by unfold reply_Class; split <;> exact ⟨_, rfl⟩
    obtain ⟨v, hv⟩ := this
    rw [hv]; simp
  simp only [Option.bind_some, h1, h2, Bool.not_true, Bool.false_eq_true, if_false, print_eq' (r := r) (F := F) (by omega) h1, hp2, law16_Of, rright_eq (r := r) (F := F) (by omega) h1]
  by_cases hr : rightB r = true
  · have h := rightB_iff.1 hr
    simp only [hr, Bool.not_true, Bool.false_eq_true, if_false, if_true, parse_txt hF h, Option.bind_some, law16_ReplyBack_p3, decide_true, same_eq (a := r) (b := r) (F := F) (by omega) l1]
  · simp [hr]
end Go.Proofs.ReplyS
