import Derived.Test.YtfnnmecilcnloaaDoorAmOps4
set_option linter.unusedSimpArgs false
set_option linter.unusedVariables false
set_option linter.unusedSectionVars false
set_option linter.defProp false
namespace Go.Am
open Go
variable [Tabs]
section
variable {P : Program} {L : List Nat} {N : Nat} {F : Nat → Prop} {γ : List Nat} {C : Nat → List Value} {e : Env} {ah : AH} {ts : Array Value} {ds : List Deferred} {w : World} {m : Bool}
variable {d : Option Nat} {ty ty2 : TypeId} {pos : String} {af : Array Edge} {g : Option (Nat × Bool)} {e' : Env} {ah' : AH}

theorem part_get {t : TypeId} {n : Nat} {xs : Array Value} (hs : tsz P t = 1) (hu : ∃ u, P.underlying t = some u ∧ (match u with | .int _ | .string | .bool => True | _ => False)) (hn : n < xs.size) :
    (part t xs n).run P w = .ok (xs.getD n undef) w := by
  obtain ⟨u, hu, hk⟩ := hu
  have ha : tagg P t = false := by unfold tagg; rw [hu]; cases u <;> simp at hk ⊢
  have h1 : (isAgg t).run P w = .ok false w := by rw [run_isAgg (by simp [hu]), ha]
  simp [part, h1, Array.getD_eq_getD_getElem?, Array.getElem?_eq_getElem hn]

/-- fields one by one -/
theorem eqFields_run (xs ys : Array Value) : ∀ (fs : List Field) (i : Nat) (ks : List Pk) (as bs : List AV) (r : Bool), plainKs P i fs = some ks → seqb ks as bs = some r →
    xs.size = i + as.length → ys.size = i + bs.length →
    (∀ (j : Nat) (a : AV), as[j]? = some a → VR C γ a (xs.getD (i + j) undef)) → (∀ (j : Nat) (a : AV), bs[j]? = some a → VR C γ a (ys.getD (i + j) undef)) →
    (Op.eqFields 9999 xs ys fs).run P w = .ok r w := by
  intro fs
  induction fs with
  | nil =>
    intro i ks as bs r hk hs hx hy ha hb
    simp only [plainKs, Option.some.injEq] at hk
    subst hk
    cases as <;> cases bs <;> simp [seqb] at hs
    subst hs
    simp [Op.eqFields]
  | cons f fs ih =>
    intro i ks as bs r hk hs hx hy ha hb
    simp only [plainKs] at hk
    split at hk
    case isFalse => cases hk
    rename_i hf
    obtain ⟨ho, hname, hsz⟩ := hf
    cases hr : plainKs P (i + 1) fs with
    | none => rw [hr] at hk; split at hk <;> simp_all
    | some ks' =>
      have key : ∃ k, ks = k :: ks' ∧ (match k with | .i => ∃ k', P.underlying f.type = some (.int k') | .s => P.underlying f.type = some .string | .b => P.underlying f.type = some .bool) := by
        rw [hr] at hk
        split at hk <;> simp only [Option.some.injEq, reduceCtorEq] at hk <;> simp_all
        all_goals (obtain rfl := hk; simp_all)
      obtain ⟨k, rfl, hu⟩ := key
      cases as with
      | nil => simp [seqb] at hs
      | cons a as =>
        cases bs with
        | nil => simp [seqb] at hs
        | cons b bs =>
          have hu' : ∃ u, P.underlying f.type = some u ∧ (match u with | .int _ | .string | .bool => True | _ => False) := by
            cases k with
            | i => obtain ⟨k', hu⟩ := hu; exact ⟨_, hu, trivial⟩
            | s => exact ⟨_, hu, trivial⟩
            | b => exact ⟨_, hu, trivial⟩
          have hpx := part_get (w := w) (n := f.offset) (xs := xs) hsz hu' (by simp at hx; omega)
          have hpy := part_get (w := w) (n := f.offset) (xs := ys) hsz hu' (by simp at hy; omega)
          have hva := ha 0 a rfl
          have hvb := hb 0 b rfl
          rw [Nat.add_zero] at hva hvb
          have hrec : ∀ r', seqb ks' as bs = some r' → (Op.eqFields 9999 xs ys fs).run P w = .ok r' w := fun r' h' =>
            ih (i + 1) ks' as bs r' hr h' (by simp at hx; omega) (by simp at hy; omega)
              (fun j a h => by have := ha (j + 1) a h; rwa [show i + (j + 1) = i + 1 + j by omega] at this)
              (fun j a h => by have := hb (j + 1) a h; rwa [show i + (j + 1) = i + 1 + j by omega] at this)
          have done : ∀ (x r' : Bool), (Op.equalIn 9999 f.type (xs.getD i undef) (ys.getD i undef)).run P w = .ok x w → seqb ks' as bs = some r' → r = (x && r') →
              (Op.eqFields 9999 xs ys (f :: fs)).run P w = .ok r w := by
            intro x r' h1 h2 h3
            rw [ho] at hpx hpy
            simp only [Op.eqFields]
            rw [if_pos hname, ho]
            simp only [Sem.run_bind, hpx, hpy, Result.andThen_ok, h1]
            cases x with
            | false => simp [h3]
            | true => simp [hrec r' h2, h3]
          simp only [seqb] at hs
          split at hs
          · split at hs
            · rename_i k1 i1 k2 j1 hkk
              subst hkk
              cases h2 : seqb ks' as bs with
              | none => rw [h2] at hs; cases hs
              | some r' =>
                rw [h2] at hs
                simp only [Option.map_some, Option.some.injEq] at hs
                obtain ⟨k', hu⟩ := hu
                refine done _ r' ?_ h2 hs.symm
                rw [hva.int_inv, hvb.int_inv, run_equalIn_int w 9998 f.type k1 k' i1 j1 hu]
                congr 1
            · cases hs
          · rename_i l m
            cases h2 : seqb ks' as bs with
            | none => rw [h2] at hs; cases hs
            | some r' =>
              rw [h2] at hs
              simp only [Option.map_some, Option.some.injEq] at hs
              refine done _ r' ?_ h2 hs.symm
              rw [hva.str_inv, hvb.str_inv, run_equalIn_string w 9998 f.type _ _ hu, ByteArray.toList_mk, ByteArray.toList_mk]
              congr 1
              rw [Bool.eq_iff_iff]; simp
          · rename_i x y
            cases h2 : seqb ks' as bs with
            | none => rw [h2] at hs; cases hs
            | some r' =>
              rw [h2] at hs
              simp only [Option.map_some, Option.some.injEq] at hs
              refine done _ r' ?_ h2 hs.symm
              rw [hva.bool_inv, hvb.bool_inv, run_equalIn_bool w 9998 f.type _ _ hu]
          · cases hs

theorem op_seq {op : BinOp} {t : TypeId} {fs : Array Field} {x y : Operand} {x' y' : Ar} {ks : List Pk} {neq : Bool} (h : SR L N F γ C e ah ts w) (hd : ∀ x, d = some x → x < N)
    (hx : carg0 x = some x') (hy : carg0 y = some y') (hu : P.underlying t = some (.struct fs)) (hk : plainEq P t fs = some ks) (hop : op = if neq then .neq else .eql)
    (hev : aev L ⟨d, .seq ks neq x' y', none⟩ e ah = some (e', ah')) : Done m P L N F γ C ⟨d, .binOp op t x y ty2, ty, pos, af, g⟩ ts ds w e' ah' := by
  have h1 := arg0_ok (ds := ds) h hx
  have h2 := arg0_ok (ds := ds) h hy
  unfold plainEq at hk
  split at hk
  case isFalse => cases hk
  rename_i hc
  obtain ⟨hst, hgt⟩ := hc
  simp only [aev] at hev
  split at hev
  case h_2 => cases hev
  rename_i as bs ha hb
  cases hs : seqb ks as bs with
  | none => rw [hs] at hev; cases hev
  | some r =>
    rw [hs] at hev
    simp only [Option.map_some, Option.some.injEq, Prod.mk.injEq] at hev
    obtain ⟨rfl, rfl⟩ := hev
    rw [ha] at h1; rw [hb] at h2
    obtain ⟨vs, e1, l1, v1⟩ := h1.1.agg_inv
    obtain ⟨us, e2, l2, v2⟩ := h2.1.agg_inv
    have hfo : P.fieldsOf t = fs := by simp [Program.fieldsOf, hu]
    refine Done.plain h hd (v := .bool (if neq then !r else r)) ?_ (.bool ..) trivial rfl
    intro w _
    have hfl := eqFields_run (P := P) (w := w) (C := C) (γ := γ) vs us fs.toList 0 ks as bs r hk hs (by omega) (by omega) (by simpa using v1) (by simpa using v2)
    have hrun : (Op.equalIn 10000 t (.agg vs) (.agg us)).run P w = .ok r w := by
      rw [run_equalIn_agg w 9999 t vs us (by rw [hfo]; exact hu) hst, hfo]; exact hfl
    have hgd : ∀ op' x y, (eqGuard op' t x y (.agg vs) (.agg us)).run P w = .ok () w := fun op' x y => run_eqGuard_agg w op' t x y vs us hgt
    cases neq <;> simp only [Bool.false_eq_true, if_false, if_true] at hop <;> subst hop
    · have := run_eql_struct (P := P) w t vs us
      simp [execOp, e1, e2, hgd, this, hrun]
    · have := run_neq_struct (P := P) w t vs us
      simp only [if_true]; simp [execOp, e1, e2, hgd, this, hrun]
end
end Go.Am
