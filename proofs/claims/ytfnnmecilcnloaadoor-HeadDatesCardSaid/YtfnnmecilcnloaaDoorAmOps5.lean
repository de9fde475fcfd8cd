import Derived.Test.YtfnnmecilcnloaaDoorAmOps4
set_option linter.unusedSimpArgs false
set_option linter.unusedVariables false
set_option linter.unusedSectionVars false
set_option linter.defProp false
namespace Go.Am
open Go
variable [Tabs]
section
variable {P : Program} {L : List Nat} {N : Nat} {F : Nat → Prop} {γ : List Nat} {C : Nat → List Value} {e : Env} {ah : AH} {ts : Array Value} {ds : List Deferred} {w : World} {m : Bool}
variable {d : Option Nat} {ty ty2 : TypeId} {pos : String} {af : Array Edge} {g : Option (Nat × Bool)} {e' : Env} {ah' : AH}

theorem part_get {t : TypeId} {n : Nat} {xs : Array Value} (hs : tsz P t = 1) (hu : ∃ u, P.underlying t = some u ∧ (match u with | .int _ | .string | .bool => True | _ => False)) (hn : n < xs.size) :
    (part t xs n).run P w = .ok (xs.getD n undef) w := by
  obtain ⟨u, hu, hk⟩ := hu
  have ha : tagg P t = false := by unfold tagg; rw [hu]; cases u <;> simp at hk ⊢
  have h1 : (isAgg t).run P w = .ok false w := by rw [run_isAgg (by simp [hu]), ha]
  simp [part, h1, Array.getD_eq_getD_getElem?, Array.getElem?_eq_getElem hn]

/-- fields one by one -/
theorem eqFields_run (nf : Nat) (xs ys : Array Value) : ∀ (fs : List Field) (i : Nat) (ks : List Pk) (as bs : List AV) (r : Bool), plainKs P i fs = some ks → seqb ks as bs = some r →
    xs.size = i + as.length → ys.size = i + bs.length →
    (∀ (j : Nat) (a : AV), as[j]? = some a → VR C γ a (xs.getD (i + j) undef)) → (∀ (j : Nat) (a : AV), bs[j]? = some a → VR C γ a (ys.getD (i + j) undef)) →
    (Op.eqFields (nf + 1) xs ys fs).run P w = .ok r w := by
  intro fs
  induction fs with
  | nil =>
    intro i ks as bs r hk hs hx hy ha hb
    simp only [plainKs, Option.some.injEq] at hk
    subst hk
    cases as <;> cases bs <;> simp [seqb] at hs
    subst hs
    simp [Op.eqFields]
  | cons f fs ih =>
    intro i ks as bs r hk hs hx hy ha hb
    simp only [plainKs] at hk
    split at hk
    case isFalse => cases hk
    rename_i hf
    obtain ⟨ho, hname, hsz⟩ := hf
    cases hr : plainKs P (i + 1) fs with
    | none => rw [hr] at hk; split at hk <;> simp_all
    | some ks' =>
      have key : ∃ k, ks = k :: ks' ∧ (match k with | .i => ∃ k', P.underlying f.type = some (.int k') | .s => P.underlying f.type = some .string | .b => P.underlying f.type = some .bool) := by
        rw [hr] at hk
        split at hk <;> simp only [Option.some.injEq, reduceCtorEq] at hk <;> simp_all
        all_goals (obtain rfl := hk; simp_all)
      obtain ⟨k, rfl, hu⟩ := key
      cases as with
      | nil => simp [seqb] at hs
      | cons a as =>
        cases bs with
        | nil => simp [seqb] at hs
        | cons b bs =>
          have hu' : ∃ u, P.underlying f.type = some u ∧ (match u with | .int _ | .string | .bool => True | _ => False) := by
            cases k with
            | i => obtain ⟨k', hu⟩ := hu; exact ⟨_, hu, trivial⟩
            | s => exact ⟨_, hu, trivial⟩
            | b => exact ⟨_, hu, trivial⟩
          have hpx := part_get (w := w) (n := f.offset) (xs := xs) hsz hu' (by simp at hx; omega)
          have hpy := part_get (w := w) (n := f.offset) (xs := ys) hsz hu' (by simp at hy; omega)
          have hva := ha 0 a rfl
          have hvb := hb 0 b rfl
          rw [Nat.add_zero] at hva hvb
          have hrec : ∀ r', seqb ks' as bs = some r' → (Op.eqFields (nf + 1) xs ys fs).run P w = .ok r' w := fun r' h' =>
            ih (i + 1) ks' as bs r' hr h' (by simp at hx; omega) (by simp at hy; omega)
              (fun j a h => by have := ha (j + 1) a h; rwa [show i + (j + 1) = i + 1 + j by omega] at this)
              (fun j a h => by have := hb (j + 1) a h; rwa [show i + (j + 1) = i + 1 + j by omega] at this)
          have done : ∀ (x r' : Bool), (Op.equalIn (nf + 1) f.type (xs.getD i undef) (ys.getD i undef)).run P w = .ok x w → seqb ks' as bs = some r' → r = (x && r') →
              (Op.eqFields (nf + 1) xs ys (f :: fs)).run P w = .ok r w := by
            intro x r' h1 h2 h3
            rw [ho] at hpx hpy
            simp only [Op.eqFields]
            rw [if_pos hname, ho]
            simp only [Sem.run_bind, hpx, hpy, Result.andThen_ok, h1]
            cases x with
            | false => simp [h3]
            | true => simp [hrec r' h2, h3]
          simp only [seqb] at hs
          split at hs
          · split at hs
            · rename_i k1 i1 k2 j1 hkk
              subst hkk
              cases h2 : seqb ks' as bs with
              | none => rw [h2] at hs; cases hs
              | some r' =>
                rw [h2] at hs
                simp only [Option.map_some, Option.some.injEq] at hs
                obtain ⟨k', hu⟩ := hu
                refine done _ r' ?_ h2 hs.symm
                rw [hva.int_inv, hvb.int_inv, run_equalIn_int w nf f.type k1 k' i1 j1 hu]
                congr 1
            · cases hs
          · rename_i l m
            cases h2 : seqb ks' as bs with
            | none => rw [h2] at hs; cases hs
            | some r' =>
              rw [h2] at hs
              simp only [Option.map_some, Option.some.injEq] at hs
              refine done _ r' ?_ h2 hs.symm
              rw [hva.str_inv, hvb.str_inv, run_equalIn_string w nf f.type _ _ hu, ByteArray.toList_mk, ByteArray.toList_mk]
              congr 1
              rw [Bool.eq_iff_iff]; simp
          · rename_i x y
            cases h2 : seqb ks' as bs with
            | none => rw [h2] at hs; cases hs
            | some r' =>
              rw [h2] at hs
              simp only [Option.map_some, Option.some.injEq] at hs
              refine done _ r' ?_ h2 hs.symm
              rw [hva.bool_inv, hvb.bool_inv, run_equalIn_bool w nf f.type _ _ hu]
          · cases hs

theorem seqb_app : ∀ (k1 : List Pk) {ks : List Pk} {as bs : List AV} {r : Bool}, seqb (k1 ++ ks) as bs = some r →
    ∃ a1 a2 b1 b2 r1 r2, as = a1 ++ a2 ∧ bs = b1 ++ b2 ∧ a1.length = k1.length ∧ b1.length = k1.length ∧ seqb k1 a1 b1 = some r1 ∧ seqb ks a2 b2 = some r2 ∧ r = (r1 && r2) := by
  intro k1
  induction k1 with
  | nil => intro ks as bs r h; exact ⟨[], as, [], bs, true, r, rfl, rfl, rfl, rfl, rfl, h, by simp⟩
  | cons k k1 ih =>
    intro ks as bs r h
    cases as with
    | nil => simp [seqb] at h
    | cons a as =>
      cases bs with
      | nil => simp [seqb] at h
      | cons b bs =>
        have key : ∃ x r', seqb (k1 ++ ks) as bs = some r' ∧ r = (x && r') ∧ ∀ (l : List Pk) (as' bs' : List AV) (q : Bool), seqb l as' bs' = some q → seqb (k :: l) (a :: as') (b :: bs') = some (x && q) := by
          simp only [List.cons_append, seqb] at h
          split at h
          · split at h
            · rename_i k1 i1 k2 j1 hk
              obtain ⟨r', h1, h2⟩ := Option.map_eq_some_iff.1 h
              exact ⟨_, r', h1, h2.symm, fun l as' bs' q hq => by simp only [seqb, if_pos hk, hq, Option.map_some]⟩
            · cases h
          · obtain ⟨r', h1, h2⟩ := Option.map_eq_some_iff.1 h
            exact ⟨_, r', h1, h2.symm, fun l as' bs' q hq => by simp only [seqb, hq, Option.map_some]⟩
          · obtain ⟨r', h1, h2⟩ := Option.map_eq_some_iff.1 h
            exact ⟨_, r', h1, h2.symm, fun l as' bs' q hq => by simp only [seqb, hq, Option.map_some]⟩
          · cases h
        obtain ⟨x, r', h1, h2, h3⟩ := key
        obtain ⟨a1, a2, b1, b2, r1, r2, rfl, rfl, l1, l2, s1, s2, rfl⟩ := ih h1
        exact ⟨a :: a1, a2, b :: b1, b2, x && r1, r2, rfl, rfl, by simp [l1], by simp [l2], h3 _ _ _ _ s1, s2, by rw [h2, Bool.and_assoc]⟩

theorem seqb_len : ∀ {ks : List Pk} {as bs : List AV} {r : Bool}, seqb ks as bs = some r → as.length = ks.length ∧ bs.length = ks.length := by
  intro ks
  induction ks with
  | nil => intro as bs r h; cases as <;> cases bs <;> simp [seqb] at h ⊢
  | cons k ks ih =>
    intro as bs r h
    cases as with
    | nil => simp [seqb] at h
    | cons a as =>
      cases bs with
      | nil => simp [seqb] at h
      | cons b bs =>
        have : ∃ r', seqb ks as bs = some r' := by
          simp only [seqb] at h
          split at h
          · split at h
            · obtain ⟨r', h1, -⟩ := Option.map_eq_some_iff.1 h; exact ⟨r', h1⟩
            · cases h
          · obtain ⟨r', h1, -⟩ := Option.map_eq_some_iff.1 h; exact ⟨r', h1⟩
          · obtain ⟨r', h1, -⟩ := Option.map_eq_some_iff.1 h; exact ⟨r', h1⟩
          · cases h
        obtain ⟨r', h1⟩ := this
        have := ih h1
        simp [this.1, this.2]

theorem seqb_i {as bs : List AV} {r : Bool} (h : seqb [.i] as bs = some r) : ∃ k i j, as = [.int k i] ∧ bs = [.int k j] ∧ r = decide (i = j) := by
  cases as with
  | nil => simp [seqb] at h
  | cons a as =>
    cases bs with
    | nil => simp [seqb] at h
    | cons b bs =>
      simp only [seqb] at h
      split at h
      · split at h
        · rename_i k i k' j hk
          subst hk
          cases as <;> cases bs <;> simp [seqb] at h
          exact ⟨_, _, _, rfl, rfl, h.symm⟩
        · cases h
      · simp_all
      · simp_all
      · cases h
theorem seqb_s {as bs : List AV} {r : Bool} (h : seqb [.s] as bs = some r) : ∃ l m, as = [.str l] ∧ bs = [.str m] ∧ r = decide (l = m) := by
  cases as with
  | nil => simp [seqb] at h
  | cons a as =>
    cases bs with
    | nil => simp [seqb] at h
    | cons b bs =>
      simp only [seqb] at h
      split at h
      · simp_all
      · cases as <;> cases bs <;> simp [seqb] at h
        exact ⟨_, _, rfl, rfl, h.symm⟩
      · simp_all
      · cases h
theorem seqb_b {as bs : List AV} {r : Bool} (h : seqb [.b] as bs = some r) : ∃ l m, as = [.bool l] ∧ bs = [.bool m] ∧ r = (l == m) := by
  cases as with
  | nil => simp [seqb] at h
  | cons a as =>
    cases bs with
    | nil => simp [seqb] at h
    | cons b bs =>
      simp only [seqb] at h
      split at h
      · simp_all
      · simp_all
      · cases as <;> cases bs <;> simp [seqb] at h
        exact ⟨_, _, rfl, rfl, h.symm⟩
      · cases h

theorem part_agg {t : TypeId} {n : Nat} {xs : Array Value} {gs : Array Field} (hu : P.underlying t = some (.struct gs)) (hi : (P.info? t).isSome = true) :
    (part t xs n).run P w = .ok (.agg (xs.extract n (n + tsz P t))) w := by
  have ha : tagg P t = true := by unfold tagg; rw [hu]
  have h1 : (isAgg t).run P w = .ok true w := by rw [run_isAgg (by simp [hu]), ha]
  simp [part, h1, run_size hi]

theorem eqNest_run (xs ys : Array Value) : ∀ (fs : List Field) (i : Nat) (ks : List Pk) (as bs : List AV) (r : Bool), nestKs P i fs = some ks → seqb ks as bs = some r →
    xs.size = i + as.length → ys.size = i + bs.length →
    (∀ (j : Nat) (a : AV), as[j]? = some a → VR C γ a (xs.getD (i + j) undef)) → (∀ (j : Nat) (a : AV), bs[j]? = some a → VR C γ a (ys.getD (i + j) undef)) →
    (Op.eqFields 9999 xs ys fs).run P w = .ok r w := by
  intro fs
  induction fs with
  | nil =>
    intro i ks as bs r hk hs hx hy ha hb
    simp only [nestKs, Option.some.injEq] at hk
    subst hk
    cases as <;> cases bs <;> simp [seqb] at hs
    subst hs
    simp [Op.eqFields]
  | cons f fs ih =>
    intro i ks as bs r hk hs hx hy ha hb
    simp only [nestKs] at hk
    split at hk
    case isFalse => cases hk
    rename_i hf
    obtain ⟨ho, hname⟩ := hf
    have done : ∀ (k1 ks' : List Pk) (X Y : Value), ks = k1 ++ ks' → nestKs P (i + k1.length) fs = some ks' →
        (part f.type xs i).run P w = .ok X w → (part f.type ys i).run P w = .ok Y w →
        (∀ a1 b1 r1, seqb k1 a1 b1 = some r1 → (∀ (j : Nat) (a : AV), a1[j]? = some a → VR C γ a (xs.getD (i + j) undef)) → (∀ (j : Nat) (a : AV), b1[j]? = some a → VR C γ a (ys.getD (i + j) undef)) →
          (Op.equalIn 9999 f.type X Y).run P w = .ok r1 w) → (Op.eqFields 9999 xs ys (f :: fs)).run P w = .ok r w := by
      intro k1 ks' X Y hks hr hX hY hE
      subst hks
      obtain ⟨a1, a2, b1, b2, r1, r2, rfl, rfl, l1, l2, s1, s2, rfl⟩ := seqb_app k1 hs
      have h1 := hE a1 b1 r1 s1 (fun j a h => ha j a (by rw [List.getElem?_append_left (List.getElem?_eq_some_iff.1 h).1]; exact h))
        (fun j a h => hb j a (by rw [List.getElem?_append_left (List.getElem?_eq_some_iff.1 h).1]; exact h))
      have h2 := ih (i + k1.length) ks' a2 b2 r2 hr s2 (by simp at hx; omega) (by simp at hy; omega)
        (fun j a h => by have := ha (a1.length + j) a (by rw [List.getElem?_append_right (by omega)]; simpa using h); rwa [l1, show i + (k1.length + j) = i + k1.length + j by omega] at this)
        (fun j a h => by have := hb (b1.length + j) a (by rw [List.getElem?_append_right (by omega)]; simpa using h); rwa [l2, show i + (k1.length + j) = i + k1.length + j by omega] at this)
      simp only [Op.eqFields]
      rw [if_pos hname, ho]
      simp only [Sem.run_bind, hX, hY, Result.andThen_ok, h1]
      cases r1 with
      | false => simp
      | true => simp [h2]
    have hlen := seqb_len hs
    split at hk
    · rename_i gs hu
      split at hk
      case isFalse => cases hk
      rename_i hst
      obtain ⟨hst, hin⟩ := hst
      split at hk
      case h_2 => cases hk
      rename_i k1 hk1
      split at hk
      case isFalse => cases hk
      rename_i hsz
      obtain ⟨ks', hr, rfl⟩ := Option.map_eq_some_iff.1 hk
      have hfo : P.fieldsOf f.type = gs := by simp [Program.fieldsOf, hu]
      refine done k1 ks' _ _ rfl hr (part_agg hu hin) (part_agg hu hin) fun a1 b1 r1 hs1 hv1 hv2 => ?_
      have hl1 := seqb_len hs1
      rw [run_equalIn_agg w 9998 f.type _ _ (by rw [hfo]; exact hu) hst, hfo, hsz]
      simp at hlen
      have hget : ∀ (zs : Array Value) (j : Nat), i + k1.length ≤ zs.size → j < k1.length → (zs.extract i (i + k1.length)).getD j undef = zs.getD (i + j) undef := by
        intro zs j h1 h2
        simp [Array.getD_eq_getD_getElem?, Array.getElem?_extract, h2]
        rw [if_pos (by omega)]
      refine eqFields_run (C := C) (γ := γ) 9997 _ _ gs.toList 0 k1 a1 b1 r1 hk1 hs1 (by simp; omega) (by simp; omega) (fun j a h => ?_) (fun j a h => ?_)
      · rw [Nat.zero_add, hget _ _ (by omega) (by rw [← hl1.1]; exact (List.getElem?_eq_some_iff.1 h).1)]; exact hv1 j a h
      · rw [Nat.zero_add, hget _ _ (by omega) (by rw [← hl1.2]; exact (List.getElem?_eq_some_iff.1 h).1)]; exact hv2 j a h
    · rename_i k' hu
      split at hk
      case isFalse => cases hk
      rename_i hsz
      obtain ⟨ks', hr, rfl⟩ := Option.map_eq_some_iff.1 hk
      simp at hlen
      refine done [.i] ks' _ _ rfl hr (part_get hsz ⟨_, hu, trivial⟩ (by omega)) (part_get hsz ⟨_, hu, trivial⟩ (by omega)) fun a1 b1 r1 hs1 hv1 hv2 => ?_
      obtain ⟨k, i1, j1, rfl, rfl, rfl⟩ := seqb_i hs1
      have q1 := hv1 0 _ rfl
      have q2 := hv2 0 _ rfl
      rw [Nat.add_zero] at q1 q2
      rw [q1.int_inv, q2.int_inv, run_equalIn_int w 9998 f.type k k' i1 j1 hu]
      congr 1
    · rename_i hu
      split at hk
      case isFalse => cases hk
      rename_i hsz
      obtain ⟨ks', hr, rfl⟩ := Option.map_eq_some_iff.1 hk
      simp at hlen
      refine done [.s] ks' _ _ rfl hr (part_get hsz ⟨_, hu, trivial⟩ (by omega)) (part_get hsz ⟨_, hu, trivial⟩ (by omega)) fun a1 b1 r1 hs1 hv1 hv2 => ?_
      obtain ⟨l, m, rfl, rfl, rfl⟩ := seqb_s hs1
      have q1 := hv1 0 _ rfl
      have q2 := hv2 0 _ rfl
      rw [Nat.add_zero] at q1 q2
      rw [q1.str_inv, q2.str_inv, run_equalIn_string w 9998 f.type _ _ hu, ByteArray.toList_mk, ByteArray.toList_mk]
      congr 1
      rw [Bool.eq_iff_iff]; simp
    · rename_i hu
      split at hk
      case isFalse => cases hk
      rename_i hsz
      obtain ⟨ks', hr, rfl⟩ := Option.map_eq_some_iff.1 hk
      simp at hlen
      refine done [.b] ks' _ _ rfl hr (part_get hsz ⟨_, hu, trivial⟩ (by omega)) (part_get hsz ⟨_, hu, trivial⟩ (by omega)) fun a1 b1 r1 hs1 hv1 hv2 => ?_
      obtain ⟨l, m, rfl, rfl, rfl⟩ := seqb_b hs1
      have q1 := hv1 0 _ rfl
      have q2 := hv2 0 _ rfl
      rw [Nat.add_zero] at q1 q2
      rw [q1.bool_inv, q2.bool_inv, run_equalIn_bool w 9998 f.type _ _ hu]
    · cases hk

theorem op_seq {op : BinOp} {t : TypeId} {fs : Array Field} {x y : Operand} {x' y' : Ar} {ks : List Pk} {neq : Bool} (h : SR L N F γ C e ah ts w) (hd : ∀ x, d = some x → x < N)
    (hx : carg0 x = some x') (hy : carg0 y = some y') (hu : P.underlying t = some (.struct fs)) (hk : plainEq P t fs = some ks) (hop : op = if neq then .neq else .eql)
    (hev : aev L ⟨d, .seq ks neq x' y', none⟩ e ah = some (e', ah')) : Done m P L N F γ C ⟨d, .binOp op t x y ty2, ty, pos, af, g⟩ ts ds w e' ah' := by
  have h1 := arg0_ok (ds := ds) h hx
  have h2 := arg0_ok (ds := ds) h hy
  unfold plainEq at hk
  split at hk
  case isFalse => cases hk
  rename_i hc
  obtain ⟨hst, hgt⟩ := hc
  simp only [aev] at hev
  split at hev
  case h_2 => cases hev
  rename_i as bs ha hb
  cases hs : seqb ks as bs with
  | none => rw [hs] at hev; cases hev
  | some r =>
    rw [hs] at hev
    simp only [Option.map_some, Option.some.injEq, Prod.mk.injEq] at hev
    obtain ⟨rfl, rfl⟩ := hev
    rw [ha] at h1; rw [hb] at h2
    obtain ⟨vs, e1, l1, v1⟩ := h1.1.agg_inv
    obtain ⟨us, e2, l2, v2⟩ := h2.1.agg_inv
    have hfo : P.fieldsOf t = fs := by simp [Program.fieldsOf, hu]
    refine Done.plain h hd (v := .bool (if neq then !r else r)) ?_ (.bool ..) trivial rfl
    intro w _
    have hfl : (Op.eqFields 9999 vs us fs.toList).run P w = .ok r w := by
      split at hk
      · rename_i ks0 hk0
        injection hk with hk; subst hk
        exact eqFields_run (P := P) (w := w) (C := C) (γ := γ) 9998 vs us fs.toList 0 _ as bs r hk0 hs (by omega) (by omega) (by simpa using v1) (by simpa using v2)
      · exact eqNest_run (P := P) (w := w) (C := C) (γ := γ) vs us fs.toList 0 ks as bs r hk hs (by omega) (by omega) (by simpa using v1) (by simpa using v2)
    have hrun : (Op.equalIn 10000 t (.agg vs) (.agg us)).run P w = .ok r w := by
      rw [run_equalIn_agg w 9999 t vs us (by rw [hfo]; exact hu) hst, hfo]; exact hfl
    have hgd : ∀ op' x y, (eqGuard op' t x y (.agg vs) (.agg us)).run P w = .ok () w := fun op' x y => run_eqGuard_agg w op' t x y vs us hgt
    cases neq <;> simp only [Bool.false_eq_true, if_false, if_true] at hop <;> subst hop
    · have := run_eql_struct (P := P) w t vs us
      simp [execOp, e1, e2, hgd, this, hrun]
    · have := run_neq_struct (P := P) w t vs us
      simp only [if_true]; simp [execOp, e1, e2, hgd, this, hrun]
end
end Go.Am
