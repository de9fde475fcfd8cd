import Derived.Test.YtfnnmecilcnloaaDoorAmOps3
import Derived.Laws.Strings
import Derived.Laws.StructEq
set_option linter.unusedSimpArgs false
set_option linter.unusedVariables false
set_option linter.unusedSectionVars false
set_option linter.defProp false
namespace Go.Am
open Go
variable [Tabs]
section
variable {P : Program} {L : List Nat} {N : Nat} {F : Nat → Prop} {γ : List Nat} {C : Nat → List Value} {e : Env} {ah : AH} {ts : Array Value} {ds : List Deferred} {w : World} {m : Bool}
variable {d : Option Nat} {ty ty2 : TypeId} {pos : String} {af : Array Edge} {g : Option (Nat × Bool)} {e' : Env} {ah' : AH}

theorem run_guard_int {op : BinOp} {t : TypeId} {x y : Operand} {a b : Value} (h : match a, b with | .nilIface, .nilIface => False | .agg _, .agg _ => False | _, _ => True) :
    (eqGuard op t x y a b).run P w = .ok () w := by
  unfold eqGuard
  cases op <;> simp <;> (cases a <;> cases b <;> simp_all)

theorem iarith_run {op : BinOp} {t : TypeId} {k : IntKind} {i j : Int} {r : AV} (hop : op ≠ .shl ∧ op ≠ .shr) (h : iarith op k i j = some r) :
    ∃ v, (∀ w2, (binOp op t (.int k i) (.int k j)).run P w2 = .ok v w2) ∧ VR C γ r v ∧ r.plain = true ∧ TC w C r v := by
  cases op with
  | add => simp only [iarith, Option.some.injEq] at h; subst h; exact ⟨.int k (k.wrap (i + j)), fun w2 => by simp [binOp, Op.intArith], .int .., rfl, trivial⟩
  | sub => simp only [iarith, Option.some.injEq] at h; subst h; exact ⟨.int k (k.wrap (i - j)), fun w2 => by simp [binOp, Op.intArith], .int .., rfl, trivial⟩
  | mul => simp only [iarith, Option.some.injEq] at h; subst h; exact ⟨.int k (k.wrap (i * j)), fun w2 => by simp [binOp, Op.intArith], .int .., rfl, trivial⟩
  | and => simp only [iarith, Option.some.injEq] at h; subst h; exact ⟨.int k (k.wrap (BitVec.ofInt k.bits i &&& BitVec.ofInt k.bits j).toNat), fun w2 => by simp [binOp, Op.intBits], .int .., rfl, trivial⟩
  | or => simp only [iarith, Option.some.injEq] at h; subst h; exact ⟨.int k (k.wrap (BitVec.ofInt k.bits i ||| BitVec.ofInt k.bits j).toNat), fun w2 => by simp [binOp, Op.intBits], .int .., rfl, trivial⟩
  | xor => simp only [iarith, Option.some.injEq] at h; subst h; exact ⟨.int k (k.wrap (BitVec.ofInt k.bits i ^^^ BitVec.ofInt k.bits j).toNat), fun w2 => by simp [binOp, Op.intBits], .int .., rfl, trivial⟩
  | andNot => simp only [iarith, Option.some.injEq] at h; subst h; exact ⟨.int k (k.wrap (BitVec.ofInt k.bits i &&& ~~~(BitVec.ofInt k.bits j)).toNat), fun w2 => by simp [binOp, Op.intBits], .int .., rfl, trivial⟩
  | quo =>
    simp only [iarith] at h
    split at h
    · cases h
    · rename_i hj; simp only [Option.some.injEq] at h; subst h; exact ⟨.int k (k.wrap (i.tdiv j)), fun w2 => by simp [binOp, Op.intDiv, hj], .int .., rfl, trivial⟩
  | rem =>
    simp only [iarith] at h
    split at h
    · cases h
    · rename_i hj; simp only [Option.some.injEq] at h; subst h; exact ⟨.int k (i.tmod j), fun w2 => by simp [binOp, Op.intDiv, hj], .int .., rfl, trivial⟩
  | eql => simp only [iarith, Option.some.injEq] at h; subst h; exact ⟨.bool (decide (i = j)), fun w2 => by simp [binOp, Op.intCmp, bne]; try (rw [Bool.eq_iff_iff]; simp), .bool .., rfl, trivial⟩
  | neq => simp only [iarith, Option.some.injEq] at h; subst h; exact ⟨.bool (!decide (i = j)), fun w2 => by simp [binOp, Op.intCmp, bne]; try (rw [Bool.eq_iff_iff]; simp), .bool .., rfl, trivial⟩
  | lss => simp only [iarith, Option.some.injEq] at h; subst h; exact ⟨.bool (decide (i < j)), fun w2 => by simp [binOp, Op.intCmp, bne]; try (rw [Bool.eq_iff_iff]; simp), .bool .., rfl, trivial⟩
  | leq => simp only [iarith, Option.some.injEq] at h; subst h; exact ⟨.bool (decide (i ≤ j)), fun w2 => by simp [binOp, Op.intCmp, bne]; try (rw [Bool.eq_iff_iff]; simp), .bool .., rfl, trivial⟩
  | gtr => simp only [iarith, Option.some.injEq] at h; subst h; exact ⟨.bool (decide (j < i)), fun w2 => by simp [binOp, Op.intCmp, bne]; try (rw [Bool.eq_iff_iff]; simp), .bool .., rfl, trivial⟩
  | geq => simp only [iarith, Option.some.injEq] at h; subst h; exact ⟨.bool (decide (j ≤ i)), fun w2 => by simp [binOp, Op.intCmp, bne]; try (rw [Bool.eq_iff_iff]; simp), .bool .., rfl, trivial⟩
  | shl => exact absurd rfl hop.1
  | shr => exact absurd rfl hop.2

theorem abin_run {op : BinOp} {t : TypeId} {a b r : AV} {x y : Value} (ha : VR C γ a x) (hb : VR C γ b y) (h : abin op a b = some r) :
    (∀ w2, ∀ x' y' : Operand, (eqGuard op t x' y' x y).run P w2 = .ok () w2) ∧ ∃ v, (∀ w2, (binOp op t x y).run P w2 = .ok v w2) ∧ VR C γ r v ∧ r.plain = true ∧ TC w C r v := by
  cases a with
  | int k i =>
    cases b with
    | int k' j =>
      obtain rfl := ha.int_inv
      obtain rfl := hb.int_inv
      refine ⟨fun w2 x' y' => run_guard_int trivial, ?_⟩
      by_cases h1 : op = .shl
      · subst h1
        simp only [abin] at h
        split at h
        · cases h
        · rename_i hj; simp only [Option.some.injEq] at h; subst h
          exact ⟨.int k (k.wrap (i * 2 ^ (min j.toNat k.bits))), fun w2 => by simp [binOp, Op.shift, hj], .int .., rfl, trivial⟩
      · by_cases h2 : op = .shr
        · subst h2
          simp only [abin] at h
          split at h
          · cases h
          · rename_i hj; simp only [Option.some.injEq] at h; subst h
            exact ⟨.int k (i.fdiv (2 ^ (min j.toNat k.bits))), fun w2 => by simp [binOp, Op.shift, hj], .int .., rfl, trivial⟩
        · have h3 : (if k = k' then iarith op k i j else none) = some r := by
            cases op <;> first | exact absurd rfl h1 | exact absurd rfl h2 | exact h
          split at h3
          · rename_i hk; subst hk; exact iarith_run ⟨h1, h2⟩ h3
          · cases h3
    | _ => simp [abin] at h
  | str l =>
    cases b with
    | str m =>
      obtain rfl := ha.str_inv
      obtain rfl := hb.str_inv
      refine ⟨fun w2 x' y' => run_guard_int trivial, ?_⟩
      have hl : ∀ l : List UInt8, (⟨l.toArray⟩ : ByteArray).toList = l := by
        intro l; exact ByteArray.toList_mk l
      simp only [abin] at h
      cases op <;> simp only [reduceCtorEq, Option.some.injEq] at h
      · split at h
        · rename_i hlen; simp only [Option.some.injEq] at h; subst h
          refine ⟨.string ⟨(l ++ m).toArray⟩, fun w2 => ?_, .str .., rfl, trivial⟩
          have hs : ∀ l : List UInt8, (⟨l.toArray⟩ : ByteArray).size = l.length := fun l => by simp [ByteArray.size]
          have hn : ¬ ((((⟨l.toArray⟩ : ByteArray).size + (⟨m.toArray⟩ : ByteArray).size : Nat) : Int) > IntKind.i64.max) := by
            rw [hs, hs]; have : IntKind.i64.max = 9223372036854775807 := by decide
            rw [this]; omega
          simp only [binOp, Op.stringOp, if_neg hn]
          have : (⟨l.toArray⟩ : ByteArray) ++ ⟨m.toArray⟩ = ⟨(l ++ m).toArray⟩ := by
            apply ByteArray.ext; simp
          rw [this]; rfl
        · cases h
      · subst h; exact ⟨.bool (decide (l = m)), fun w2 => by simp [binOp, Op.stringOp, hl]; rw [Bool.eq_iff_iff]; simp, .bool .., rfl, trivial⟩
      · subst h; exact ⟨.bool (!decide (l = m)), fun w2 => by simp [binOp, Op.stringOp, hl]; rw [Bool.eq_iff_iff]; simp, .bool .., rfl, trivial⟩
    | _ => simp [abin] at h
  | _ => simp [abin] at h

theorem run_bool_eq {t : TypeId} (hu : P.underlying t = some .bool) (a b : Bool) : (binOp .eql t (.bool a) (.bool b)).run P w = .ok (.bool (a == b)) w ∧ (binOp .neq t (.bool a) (.bool b)).run P w = .ok (.bool (!(a == b))) w := by
  have h1 : (Op.equal t (.bool a) (.bool b)).run P w = .ok (a == b) w := run_equalIn_bool w 9999 t a b hu
  constructor
  · simp only [binOp, Sem.run_bind, h1, Result.andThen_ok, Sem.run_pure]
  · simp only [binOp, Sem.run_bind, h1, Result.andThen_ok, Sem.run_pure]
theorem eqIn_ptr {t u : TypeId} (hu : P.underlying t = some (.pointer u)) (n : Nat) (a : Option Addr) : (Op.equalIn (n + 1) t (.pointer none) (.pointer a)).run P w = .ok a.isNone w := by
  simp [Op.equalIn, run_und hu]
theorem eqIn_ptr' {t u : TypeId} (hu : P.underlying t = some (.pointer u)) (n : Nat) (a : Addr) : (Op.equalIn (n + 1) t (.pointer (some a)) (.pointer none)).run P w = .ok false w := by
  simp [Op.equalIn, run_und hu]
theorem run_ptr_eq {t u : TypeId} (hu : P.underlying t = some (.pointer u)) {x y : Value} {b : Bool}
    (h : (x = .pointer none ∧ ∃ a, y = .pointer a ∧ b = a.isNone) ∨ (∃ a, x = .pointer (some a) ∧ y = .pointer none ∧ b = false)) :
    (binOp .eql t x y).run P w = .ok (.bool b) w ∧ (binOp .neq t x y).run P w = .ok (.bool (!b)) w := by
  have h1 : (Op.equal t x y).run P w = .ok b w := by
    rcases h with ⟨rfl, a, rfl, rfl⟩ | ⟨a, rfl, rfl, rfl⟩
    · exact eqIn_ptr hu 9999 a
    · exact eqIn_ptr' hu 9999 a
  have h2 : binOp .eql t x y = (do pure (.bool (← Op.equal t x y))) ∧ binOp .neq t x y = (do pure (.bool (!(← Op.equal t x y)))) := by
    rcases h with ⟨rfl, a, rfl, rfl⟩ | ⟨a, rfl, rfl, rfl⟩ <;> exact ⟨rfl, rfl⟩
  constructor
  · simp only [h2.1, Sem.run_bind, h1, Result.andThen_ok, Sem.run_pure]
  · simp only [h2.2, Sem.run_bind, h1, Result.andThen_ok, Sem.run_pure]

theorem op_bin {op : BinOp} {t : TypeId} {x y : Operand} {x' y' : Ar} (h : SR L N F γ C e ah ts w) (hd : ∀ x, d = some x → x < N) (hx : carg0 x = some x') (hy : carg0 y = some y')
    (hev : aev L ⟨d, .bin op x' y', none⟩ e ah = some (e', ah')) : Done m P L N F γ C ⟨d, .binOp op t x y ty2, ty, pos, af, g⟩ ts ds w e' ah' := by
  have h1 := arg0_ok (ds := ds) h hx
  have h2 := arg0_ok (ds := ds) h hy
  simp only [aev] at hev
  cases hb : abin op (ev e x') (ev e y') with
  | none => rw [hb] at hev; cases hev
  | some r =>
    rw [hb] at hev
    simp only [Option.map_some, Option.some.injEq, Prod.mk.injEq] at hev
    obtain ⟨rfl, rfl⟩ := hev
    obtain ⟨hg, v, hr, hv, hp, ht⟩ := abin_run (P := P) (w := w) (t := t) h1.1 h2.1 hb
    exact Done.plain h hd (fun w _ => by simp [execOp, hg, hr]) hv ht hp

theorem op_bq {op : BinOp} {t : TypeId} {x y : Operand} {x' y' : Ar} {neq : Bool} (h : SR L N F γ C e ah ts w) (hd : ∀ x, d = some x → x < N) (hx : carg0 x = some x') (hy : carg0 y = some y')
    (hu : P.underlying t = some .bool) (hop : op = if neq then .neq else .eql)
    (hev : aev L ⟨d, .bq neq x' y', none⟩ e ah = some (e', ah')) : Done m P L N F γ C ⟨d, .binOp op t x y ty2, ty, pos, af, g⟩ ts ds w e' ah' := by
  have h1 := arg0_ok (ds := ds) h hx
  have h2 := arg0_ok (ds := ds) h hy
  simp only [aev] at hev
  cases hb : abq (ev e x') (ev e y') with
  | none => rw [hb] at hev; cases hev
  | some r =>
    rw [hb] at hev
    simp only [Option.map_some, Option.some.injEq, Prod.mk.injEq] at hev
    obtain ⟨rfl, rfl⟩ := hev
    cases ha : ev e x' with
    | bool a =>
      cases hb' : ev e y' with
      | bool b =>
        rw [ha] at h1; rw [hb'] at h2
        rw [ha, hb'] at hb
        simp only [abq, Option.some.injEq] at hb
        subst hb
        have e1 := h1.1.bool_inv
        have e2 := h2.1.bool_inv
        refine Done.plain h hd (v := .bool (if neq then !(a == b) else (a == b))) ?_ (.bool ..) trivial rfl
        intro w _
        have hb := run_bool_eq (P := P) (w := w) hu a b
        cases neq <;> simp only [Bool.false_eq_true, if_false, if_true] at hop <;> subst hop
        · simp [execOp, e1, e2, run_guard_int, hb.1]
        · simp only [if_true]; simp [execOp, e1, e2, run_guard_int, hb.2]
      | _ => rw [ha, hb'] at hb; simp [abq] at hb
    | _ => rw [ha] at hb; simp [abq] at hb

theorem op_pq {op : BinOp} {t u : TypeId} {x y : Operand} {x' y' : Ar} {neq : Bool} (h : SR L N F γ C e ah ts w) (hd : ∀ x, d = some x → x < N) (hx : carg0 x = some x') (hy : carg0 y = some y')
    (hu : P.underlying t = some (.pointer u)) (hop : op = if neq then .neq else .eql)
    (hev : aev L ⟨d, .pq neq x' y', none⟩ e ah = some (e', ah')) : Done m P L N F γ C ⟨d, .binOp op t x y ty2, ty, pos, af, g⟩ ts ds w e' ah' := by
  have h1 := arg0_ok (ds := ds) h hx
  have h2 := arg0_ok (ds := ds) h hy
  simp only [aev] at hev
  cases hb : apq (ev e x') (ev e y') with
  | none => rw [hb] at hev; cases hev
  | some r =>
    rw [hb] at hev
    simp only [Option.map_some, Option.some.injEq, Prod.mk.injEq] at hev
    obtain ⟨rfl, rfl⟩ := hev
    unfold apq at hb
    split at hb <;> simp only [Option.some.injEq, reduceCtorEq] at hb <;> subst hb
    · rename_i s o ha hb'
      rw [ha] at h1; rw [hb'] at h2
      obtain ⟨b, -, e1⟩ := h1.1.ptr_inv
      have e2 := h2.1.v_inv.1
      refine Done.plain h hd (v := .bool (if neq then !false else false)) ?_ (.bool ..) trivial rfl
      intro w _
      have hb := run_ptr_eq (P := P) (w := w) hu (.inr ⟨⟨b, o, none⟩, rfl, rfl, rfl⟩)
      cases neq <;> simp only [Bool.false_eq_true, if_false, if_true] at hop <;> subst hop
      · simp [execOp, e1, e2, run_guard_int, hb.1]
      · simp only [if_true]; simp [execOp, e1, e2, run_guard_int, hb.2]
    · rename_i s o ha hb'
      rw [ha] at h1; rw [hb'] at h2
      obtain ⟨b, -, e2⟩ := h2.1.ptr_inv
      have e1 := h1.1.v_inv.1
      refine Done.plain h hd (v := .bool (if neq then !false else false)) ?_ (.bool ..) trivial rfl
      intro w _
      have hb := run_ptr_eq (P := P) (w := w) hu (.inl ⟨rfl, some ⟨b, o, none⟩, rfl, rfl⟩)
      cases neq <;> simp only [Bool.false_eq_true, if_false, if_true] at hop <;> subst hop
      · simp [execOp, e1, e2, run_guard_int, hb.1]
      · simp only [if_true]; simp [execOp, e1, e2, run_guard_int, hb.2]
    · rename_i ha hb'
      rw [ha] at h1; rw [hb'] at h2
      have e2 := h2.1.v_inv.1
      have e1 := h1.1.v_inv.1
      refine Done.plain h hd (v := .bool (if neq then !true else true)) ?_ (.bool ..) trivial rfl
      intro w _
      have hb := run_ptr_eq (P := P) (w := w) hu (.inl ⟨rfl, none, rfl, rfl⟩)
      cases neq <;> simp only [Bool.false_eq_true, if_false, if_true] at hop <;> subst hop
      · simp [execOp, e1, e2, run_guard_int, hb.1]
      · simp only [if_true]; simp [execOp, e1, e2, run_guard_int, hb.2]

theorem op_un {op : UnOp} {t : TypeId} {x : Operand} {x' : Ar} (h : SR L N F γ C e ah ts w) (hd : ∀ x, d = some x → x < N) (hx : carg0 x = some x')
    (hev : aev L ⟨d, .un op x', none⟩ e ah = some (e', ah')) : Done m P L N F γ C ⟨d, .unOp op t x, ty, pos, af, g⟩ ts ds w e' ah' := by
  have h1 := arg0_ok (ds := ds) h hx
  simp only [aev] at hev
  cases hb : aun op (ev e x') with
  | none => rw [hb] at hev; cases hev
  | some r =>
    rw [hb] at hev
    simp only [Option.map_some, Option.some.injEq, Prod.mk.injEq] at hev
    obtain ⟨rfl, rfl⟩ := hev
    unfold aun at hb
    split at hb <;> simp only [Option.some.injEq, reduceCtorEq] at hb <;> subst hb <;> rename_i ha <;> rw [ha] at h1
    · exact Done.plain h hd (fun w _ => by simp [execOp, h1.1.int_inv, Op.unary, Op.intArith]) (.int ..) trivial rfl
    · exact Done.plain h hd (fun w _ => by simp [execOp, h1.1.int_inv, Op.unary, Op.intBits]) (.int ..) trivial rfl
    · exact Done.plain h hd (fun w _ => by simp [execOp, h1.1.bool_inv, Op.unary]) (.bool ..) trivial rfl

end
end Go.Am
