import Derived.Test.YtfnnmecilcnloaaDoorAmOps5
set_option linter.unusedSimpArgs false
set_option linter.unusedVariables false
set_option linter.unusedSectionVars false
set_option linter.defProp false
namespace Go.Am
open Go
variable [Tabs]
section
variable {P : Program} {L : List Nat} {N : Nat} {F : Nat → Prop} {γ : List Nat} {C : Nat → List Value} {e : Env} {ah : AH} {ts : Array Value} {ds : List Deferred} {w : World} {m : Bool}
variable {d : Option Nat} {ty ty2 : TypeId} {pos : String} {af : Array Edge} {g : Option (Nat × Bool)} {e' : Env} {ah' : AH}

theorem op_mkf {f : Nat} {first cs : Array Operand} {cs' : List Ar} (h : SR L N F γ C e ah ts w) (hd : ∀ x, d = some x → x < N) (hf : first.size = 0) (hc : cargs0 cs.toList = some cs')
    (hev : aev L ⟨d, .mkf f cs', none⟩ e ah = some (e', ah')) : Done m P L N F γ C ⟨d, .makeFunc (.func f) first cs, ty, pos, af, g⟩ ts ds w e' ah' := by
  simp only [aev, Option.some.injEq, Prod.mk.injEq] at hev
  obtain ⟨rfl, rfl⟩ := hev
  have h0 : first = #[] := Array.eq_empty_of_size_eq_zero hf
  subst h0
  refine Done.plain h hd (v := .func (.func f) #[] (cs.map (Act.eval ⟨ts, ds⟩))) (fun w _ => by simp [execOp, Instr.makeFunc]) ?_ trivial rfl
  have key : ∀ (l : List Operand) (l' : List Ar), cargs0 l = some l' → l'.length = l.length ∧ ∀ (i : Nat) (x : Operand) (a : Ar), l[i]? = some x → l'[i]? = some a → carg0 x = some a := by
    intro l
    induction l with
    | nil => intro l' hl; simp [cargs0] at hl; subst hl; simp
    | cons x r ih =>
      intro l' hl
      simp only [cargs0] at hl
      split at hl
      · rename_i a as ha has
        simp only [Option.some.injEq] at hl; subst hl
        obtain ⟨h1, h2⟩ := ih as has
        refine ⟨by simp [h1], fun i y b hy hb => ?_⟩
        cases i with
        | zero => simp at hy hb; subst hy; subst hb; exact ha
        | succ i => exact h2 i y b (by simpa using hy) (by simpa using hb)
      · cases hl
  obtain ⟨h1, h2⟩ := key _ _ hc
  refine .fn _ _ _ _ (by simp [h1]) fun i a hi => ?_
  rw [List.getElem?_map] at hi
  cases hb : cs'[i]? with
  | none => rw [hb] at hi; simp at hi
  | some b =>
    rw [hb] at hi
    obtain rfl : ev e b = a := by simpa using hi
    have hlt : i < cs.size := by have := (List.getElem?_eq_some_iff.1 hb).1; rw [h1] at this; simpa using this
    have hx : cs.toList[i]? = some cs[i] := by simp [hlt]
    have := (arg0_ok (ds := ds) h (h2 i _ _ hx hb)).1
    rwa [show (cs.map (Act.eval ⟨ts, ds⟩)).getD i undef = Act.eval ⟨ts, ds⟩ cs[i] by simp [Array.getD_eq_getD_getElem?, hlt]]

theorem op_ext {x : Operand} {x' : Ar} {i : Nat} (h : SR L N F γ C e ah ts w) (hd : ∀ x, d = some x → x < N) (hx : carg0 x = some x')
    (hev : aev L ⟨d, .ext x' i, none⟩ e ah = some (e', ah')) : Done m P L N F γ C ⟨d, .extract x i, ty, pos, af, g⟩ ts ds w e' ah' := by
  have h1 := arg0_ok (ds := ds) h hx
  simp only [aev] at hev
  split at hev
  case h_2 => cases hev
  rename_i cs he
  split at hev
  case h_2 => cases hev
  rename_i a ha
  simp only [Option.some.injEq, Prod.mk.injEq] at hev
  obtain ⟨rfl, rfl⟩ := hev
  rw [he] at h1
  obtain ⟨vs, hv, hl, hvs⟩ := h1.1.tup_inv
  rw [hv] at h1
  have hlt : i < vs.size := by rw [← hl]; exact (List.getElem?_eq_some_iff.1 ha).1
  refine Done.plain h hd (v := vs.getD i undef) ?_ ((Wk.sh a).vr (hvs _ _ ha)) ?_ (sh_plain a)
  · intro w _; simp [execOp, hv, Instr.extract, hlt, Array.getD_eq_getD_getElem?]
  · have := h1.2 i a ha
    cases a with
    | agg cs => exact (Wk.sh _).tc (by
        generalize vs.getD i undef = v at this
        cases v <;> first | trivial | exact this)
    | sl t k xs => generalize vs.getD i undef = v at this; cases t <;> cases v <;> first | trivial | exact this
    | tup cs => generalize vs.getD i undef = v at this; cases v <;> exact absurd this (by simp [TCy, TCx])
    | _ => generalize vs.getD i undef = v at this; cases v <;> trivial

theorem op_len {x : Operand} {x' : Ar} {t s : TypeId} (h : SR L N F γ C e ah ts w) (hd : ∀ x, d = some x → x < N)
    (hx : carg P t x = some x') (hu : P.underlying t = some (.slice s))
    (hev : aev L ⟨d, .len x', none⟩ e ah = some (e', ah')) : Done m P L N F γ C ⟨d, .call { callee := .builtin .len, args := #[x], argTypes := #[t] }, ty, pos, af, g⟩ ts ds w e' ah' := by
  have h1 := arg_ok (ds := ds) h hx
  simp only [aev] at hev
  split at hev
  case h_4 => cases hev
  · rename_i tg k xs he
    simp only [Option.some.injEq, Prod.mk.injEq] at hev
    obtain ⟨rfl, rfl⟩ := hev
    rw [he] at h1
    obtain ⟨a, c, hv, -⟩ := h1.1.sl_inv
    exact Done.plain h hd (v := .int .i64 xs.length) (fun w _ => by simp [execOp, resolve, invoke, builtin, Builtin.len_, run_und hu, hv, goInt]) (.int ..) trivial rfl
  · rename_i s' k' o' n' he
    simp only [Option.some.injEq, Prod.mk.injEq] at hev
    obtain ⟨rfl, rfl⟩ := hev
    rw [he] at h1
    obtain ⟨b, c, -, -, hv⟩ := h1.1.msl_inv
    exact Done.plain h hd (v := .int .i64 n') (fun w _ => by simp [execOp, resolve, invoke, builtin, Builtin.len_, run_und hu, hv, goInt]) (.int ..) trivial rfl
  · rename_i s' k' n' c' he
    simp only [Option.some.injEq, Prod.mk.injEq] at hev
    obtain ⟨rfl, rfl⟩ := hev
    rw [he] at h1
    obtain ⟨a, hv, -⟩ := h1.1.gsl_inv
    exact Done.plain h hd (v := .int .i64 n') (fun w _ => by simp [execOp, resolve, invoke, builtin, Builtin.len_, run_und hu, hv, goInt]) (.int ..) trivial rfl

theorem op_lens {x : Operand} {x' : Ar} {t : TypeId} (h : SR L N F γ C e ah ts w) (hd : ∀ x, d = some x → x < N)
    (hx : carg P t x = some x') (hu : P.underlying t = some .string)
    (hev : aev L ⟨d, .lens x', none⟩ e ah = some (e', ah')) : Done m P L N F γ C ⟨d, .call { callee := .builtin .len, args := #[x], argTypes := #[t] }, ty, pos, af, g⟩ ts ds w e' ah' := by
  have h1 := arg_ok (ds := ds) h hx
  simp only [aev] at hev
  split at hev
  case h_2 => cases hev
  rename_i l he
  simp only [Option.some.injEq, Prod.mk.injEq] at hev
  obtain ⟨rfl, rfl⟩ := hev
  rw [he] at h1
  have hv := h1.1.str_inv
  have hsz : (⟨l.toArray⟩ : ByteArray).size = l.length := by simp [ByteArray.size]
  exact Done.plain h hd (v := .int .i64 l.length) (fun w _ => by simp [execOp, resolve, invoke, builtin, Builtin.len_, run_und hu, hv, goInt, hsz]) (.int ..) trivial rfl

theorem op_ixs {t : TypeId} {x i : Operand} {x' i' : Ar} (h : SR L N F γ C e ah ts w) (hd : ∀ x, d = some x → x < N)
    (hx : carg0 x = some x') (hi : carg0 i = some i') (hu : P.underlying t = some .string)
    (hev : aev L ⟨d, .ixs x' i', none⟩ e ah = some (e', ah')) : Done m P L N F γ C ⟨d, .index t x i, ty, pos, af, g⟩ ts ds w e' ah' := by
  have h1 := arg0_ok (ds := ds) h hx
  have h2 := arg0_ok (ds := ds) h hi
  simp only [aev] at hev
  split at hev
  case h_2 => cases hev
  rename_i l k j he hj
  split at hev
  case isFalse => cases hev
  rename_i h0
  split at hev
  case h_2 => cases hev
  rename_i c hc
  simp only [Option.some.injEq, Prod.mk.injEq] at hev
  obtain ⟨rfl, rfl⟩ := hev
  rw [he] at h1; rw [hj] at h2
  have e1 := h1.1.str_inv
  have e2 := h2.1.int_inv
  have hg : (⟨l.toArray⟩ : ByteArray)[j.toNat]? = some c := by
    have hlt := (List.getElem?_eq_some_iff.1 hc).1
    have hsz : j.toNat < (⟨l.toArray⟩ : ByteArray).size := by simpa [ByteArray.size] using hlt
    rw [getElem?_pos (⟨l.toArray⟩ : ByteArray) j.toNat hsz]
    congr 1
    exact (List.getElem?_eq_some_iff.1 hc).2
  refine Done.plain h hd (v := .int .u8 c.toNat) ?_ (.int ..) trivial rfl
  intro w _
  simp [execOp, Instr.index, run_und hu, e1, e2, asIntOf, h0, hg]

theorem op_ixa {t s : TypeId} {x i : Operand} {x' i' : Ar} (h : SR L N F γ C e ah ts w) (hd : ∀ x, d = some x → x < N)
    (hx : carg0 x = some x') (hi : carg0 i = some i') (hu : P.underlying t = some (.slice s)) (ht : tok P s = true)
    (hev : aev L ⟨d, .ixa (tsz P s) x' i', none⟩ e ah = some (e', ah')) : Done m P L N F γ C ⟨d, .indexAddr t x i, ty, pos, af, g⟩ ts ds w e' ah' := by
  have h1 := arg0_ok (ds := ds) h hx
  have h2 := arg0_ok (ds := ds) h hi
  simp only [tok, Bool.and_eq_true] at ht
  simp only [aev] at hev
  split at hev
  case h_4 => cases hev
  case h_2 =>
    rename_i s' k' p' n' kk j he hj
    split at hev
    case isFalse => cases hev
    rename_i h0
    obtain ⟨h0, h3, rfl⟩ := h0
    simp only [Option.some.injEq, Prod.mk.injEq] at hev
    obtain ⟨rfl, rfl⟩ := hev
    rw [he] at h1; rw [hj] at h2
    obtain ⟨b, c, hb, hc, e1⟩ := h1.1.msl_inv
    have e2 := h2.1.int_inv
    refine Done.plain h hd (v := .pointer (some ⟨b, p' + j.toNat * tsz P s, none⟩)) ?_ (.ptr _ _ _ _ hb) trivial rfl
    intro w _
    simp [execOp, Instr.indexAt, run_und hu, e1, e2, asIntOf, h0, h3, run_size ht.2, add_eq]
  case h_3 =>
    rename_i s' k' n' c' kk j he hj
    split at hev
    case isFalse => cases hev
    rename_i h0
    obtain ⟨h0, h3, rfl⟩ := h0
    simp only [Option.some.injEq, Prod.mk.injEq] at hev
    obtain ⟨rfl, rfl⟩ := hev
    rw [he] at h1; rw [hj] at h2
    obtain ⟨a, e1, hc, hcase⟩ := h1.1.gsl_inv
    rcases hcase with ⟨rfl, -⟩ | ⟨b, hb, rfl⟩
    · omega
    have e2 := h2.1.int_inv
    refine Done.plain h hd (v := .pointer (some ⟨b, j.toNat * tsz P s, none⟩)) ?_ (.ptr _ _ _ _ hb) trivial rfl
    intro w _
    simp [execOp, Instr.indexAt, run_und hu, e1, e2, asIntOf, h0, h3, run_size ht.2, add_eq]
  rename_i tg k xs kk j he hj
  split at hev
  case isFalse => cases hev
  rename_i h0
  split at hev
  case h_2 => cases hev
  rename_i a ha
  split at hev
  case isFalse => cases hev
  rename_i hk
  simp only [Option.some.injEq, Prod.mk.injEq] at hev
  obtain ⟨rfl, rfl⟩ := hev
  rw [he] at h1; rw [hj] at h2
  obtain ⟨ad, c, e1, -, hcase⟩ := h1.1.sl_inv
  have e2 := h2.1.int_inv
  have hlt : j.toNat < xs.length := (List.getElem?_eq_some_iff.1 ha).1
  rcases hcase with rfl | ⟨b, o, rfl, hkk, hlen, hcells⟩
  · simp at hlt
  subst hk
  have hlt' : j < (xs.length : Int) := by omega
  have hm : (j.toNat + 1) * tsz P s ≤ xs.length * tsz P s := Nat.mul_le_mul_right _ hlt
  rw [Nat.succ_mul] at hm
  refine Done.plain h hd (v := .pointer (some ⟨b, (o + j.toNat * tsz P s) + 0, none⟩)) ?_ (.ep _ _ _ _ _ (by rw [hkk _ _ ha]; omega) (fun q y hq => hcells _ _ ha q y hq)) trivial rfl
  intro w _
  simp [execOp, Instr.indexAt, run_und hu, e1, e2, asIntOf, h0, hlt', run_size ht.2, add_eq]

theorem op_ixp {t s : TypeId} {x i : Operand} {x' i' : Ar} {mm : Nat} (h : SR L N F γ C e ah ts w) (hd : ∀ x, d = some x → x < N)
    (hx : carg0 x = some x') (hi : carg0 i = some i') (hu : P.underlying t = some (.array mm s)) (ht : tok P s = true)
    (hev : aev L ⟨d, .ixp (tsz P s) mm x' i', none⟩ e ah = some (e', ah')) : Done m P L N F γ C ⟨d, .indexAddr t x i, ty, pos, af, g⟩ ts ds w e' ah' := by
  have h1 := arg0_ok (ds := ds) h hx
  have h2 := arg0_ok (ds := ds) h hi
  simp only [tok, Bool.and_eq_true] at ht
  simp only [aev] at hev
  split at hev
  case h_3 => cases hev
  · rename_i s' p kk j he hj
    split at hev
    case isFalse => cases hev
    rename_i h0
    obtain ⟨h0, h3⟩ := h0
    simp only [Option.some.injEq, Prod.mk.injEq] at hev
    obtain ⟨rfl, rfl⟩ := hev
    rw [he] at h1; rw [hj] at h2
    obtain ⟨b, hb, e1⟩ := h1.1.ptr_inv
    have e2 := h2.1.int_inv
    refine Done.plain h hd (v := .pointer (some ⟨b, p + j.toNat * tsz P s, none⟩)) ?_ (.ptr _ _ _ _ hb) trivial rfl
    intro w _
    simp [execOp, Instr.indexAt, run_und hu, e1, e2, asIntOf, Instr.sureAddr, h0, h3, run_size ht.2, add_eq]
  · rename_i a p kk j he hj
    split at hev
    case isFalse => cases hev
    rename_i h0
    obtain ⟨h0, h3⟩ := h0
    simp only [Option.some.injEq, Prod.mk.injEq] at hev
    obtain ⟨rfl, rfl⟩ := hev
    rw [he] at h1; rw [hj] at h2
    obtain ⟨b, q, e1, l1, c1⟩ := h1.1.ep_inv
    have e2 := h2.1.int_inv
    refine Done.plain h hd (v := .pointer (some ⟨b, q + (p + j.toNat * tsz P s), none⟩)) ?_ (.ep _ _ _ _ _ l1 c1) trivial rfl
    intro w _
    simp [execOp, Instr.indexAt, run_und hu, e1, e2, asIntOf, Instr.sureAddr, h0, h3, run_size ht.2, add_eq, Nat.add_assoc]

theorem op_aso {x : Operand} {x' : Ar} {k : Nat} (h : SR L N F γ C e ah ts w) (hd : ∀ x, d = some x → x < N) (hx : carg P ty x = some x')
    (hev : aev L ⟨d, .aso k x', none⟩ e ah = some (e', ah')) : Done m P L N F γ C ⟨d, .assign x, ty, pos, af, g⟩ ts ds w e' ah' := by
  have h1 := arg_ok (ds := ds) h hx
  simp only [aev] at hev
  split at hev
  case h_3 => cases hev
  · rename_i k' he
    split at hev
    case isFalse => cases hev
    simp only [Option.some.injEq, Prod.mk.injEq] at hev
    obtain ⟨rfl, rfl⟩ := hev
    rw [he] at h1
    obtain ⟨a, c, hv, -⟩ := h1.1.sl_inv
    rw [hv] at h1
    have hc : c = 0 := h1.2
    subst hc
    exact Done.plain h hd (v := .slice a 0 0) (fun w _ => by simp [execOp, hv]) (.gsl0 ..) trivial rfl
  · rename_i s' k' n' c' he
    simp only [Option.some.injEq, Prod.mk.injEq] at hev
    obtain ⟨rfl, rfl⟩ := hev
    rw [he] at h1
    exact Done.plain h hd (v := Act.eval ⟨ts, ds⟩ x) (fun w _ => by simp [execOp]) h1.1 trivial rfl

theorem bnd_run {x : Option Operand} {x' : Option Ar} {dflt n y : Nat} {code : BoundsCode} (h : SR L N F γ C e ah ts w) (hx : copt x = some x') (hb : bnd e dflt x' = some n) (hy : n ≤ y) :
    (match x with | none => n = dflt | some x => ∃ k i, Act.eval ⟨ts, ds⟩ x = .int k i ∧ 0 ≤ i ∧ i.toNat = n ∧ ∀ w2, (Instr.sliceBound (.int k i) y code).run P w2 = .ok n w2) := by
  cases x with
  | none =>
    simp only [copt, Option.some.injEq] at hx; subst hx
    simp only [bnd, Option.some.injEq] at hb
    exact hb.symm
  | some x =>
    simp only [copt] at hx
    cases ha : carg0 x with
    | none => rw [ha] at hx; cases hx
    | some a =>
      rw [ha] at hx
      simp only [Option.map_some, Option.some.injEq] at hx; subst hx
      have h1 := arg0_ok (ds := ds) h ha
      simp only [bnd] at hb
      split at hb
      case h_2 => cases hb
      rename_i k i he
      split at hb
      case isFalse => cases hb
      rename_i h0
      simp only [Option.some.injEq] at hb
      rw [he] at h1
      refine ⟨k, i, h1.1.int_inv, h0, hb, fun w2 => ?_⟩
      have : i ≤ (y : Int) := by omega
      simp [Instr.sliceBound, asIntOf, h0, this, hb]

theorem op_sls {t : TypeId} {x : Operand} {lo hi : Option Operand} {x' : Ar} {lo' hi' : Option Ar} (h : SR L N F γ C e ah ts w) (hd : ∀ x, d = some x → x < N)
    (hx : carg0 x = some x') (hl : copt lo = some lo') (hh : copt hi = some hi') (hu : P.underlying t = some .string)
    (hev : aev L ⟨d, .sls x' lo' hi', none⟩ e ah = some (e', ah')) : Done m P L N F γ C ⟨d, .slice t x lo hi none, ty, pos, af, g⟩ ts ds w e' ah' := by
  have h1 := arg0_ok (ds := ds) h hx
  simp only [aev] at hev
  split at hev
  case h_2 => cases hev
  rename_i l he
  split at hev
  case h_2 => cases hev
  rename_i i j hi1 hj1
  split at hev
  case isFalse => cases hev
  rename_i hij
  obtain ⟨hij, hjl⟩ := hij
  simp only [Option.some.injEq, Prod.mk.injEq] at hev
  obtain ⟨rfl, rfl⟩ := hev
  rw [he] at h1
  have e1 := h1.1.str_inv
  have hsz : (⟨l.toArray⟩ : ByteArray).size = l.length := by simp [ByteArray.size]
  have r1 := bnd_run (P := P) (ds := ds) (code := .sliceAlen) h hh hj1 hjl
  have r2 := bnd_run (P := P) (ds := ds) (code := .sliceB) h hl hi1 hij
  have hex : (⟨l.toArray⟩ : ByteArray).extract i j = ⟨((l.take j).drop i).toArray⟩ := by
    apply ByteArray.ext
    simp [ByteArray.data_extract, List.extract_eq_take_drop, List.drop_take]
  refine Done.plain h hd (v := .string ⟨((l.take j).drop i).toArray⟩) ?_ (.str ..) trivial rfl
  intro w _
  have hrun : (Instr.sliceBounds false l.length l.length (lo.map (Act.eval ⟨ts, ds⟩)) (hi.map (Act.eval ⟨ts, ds⟩)) none).run P w = .ok (i, j, l.length) w := by
    cases lo with
    | none =>
      simp only at r2; subst r2
      cases hi with
      | none => simp only at r1; subst r1; simp [Instr.sliceBounds]
      | some y => obtain ⟨k, q, v1, v2, v3, v4⟩ := r1; simp [Instr.sliceBounds, v1, v4]
    | some z =>
      obtain ⟨k, q, v1, v2, v3, v4⟩ := r2
      cases hi with
      | none => simp only at r1; subst r1; simp [Instr.sliceBounds, v1, v4]
      | some y => obtain ⟨k', q', u1, u2, u3, u4⟩ := r1; simp [Instr.sliceBounds, v1, v4, u1, u4]
  have hsl : ∀ lo hi, (Instr.sliceAt t (.string ⟨l.toArray⟩) lo hi none).run P w = (Instr.slice t (.string ⟨l.toArray⟩) lo hi none).run P w := by
    intro lo hi
    simp [Instr.sliceAt, run_und hu]
  simp [execOp, e1, hsl]
  simp [run_und hu, Instr.slice, hsz, hrun, hex]

theorem op_slc {t s : TypeId} {x : Operand} {lo hi mx : Option Operand} {x' : Ar} {lo' hi' mx' : Option Ar} (h : SR L N F γ C e ah ts w) (hd : ∀ x, d = some x → x < N)
    (hx : carg0 x = some x') (hl : copt lo = some lo') (hh : copt hi = some hi') (hm : copt mx = some mx') (hu : P.underlying t = some (.slice s)) (ht : tok P s = true)
    (hev : aev L ⟨d, .slc (tsz P s) x' lo' hi' mx', none⟩ e ah = some (e', ah')) : Done m P L N F γ C ⟨d, .slice t x lo hi mx, ty, pos, af, g⟩ ts ds w e' ah' := by
  have h1 := arg0_ok (ds := ds) h hx
  simp only [tok, Bool.and_eq_true] at ht
  simp only [aev] at hev
  split at hev
  case h_2 => cases hev
  rename_i tg k xs he
  rw [he] at h1
  obtain ⟨ad, c, e1, hc, hcase⟩ := h1.1.sl_inv
  have hbase : ∀ i j m : Nat, i ≤ j → j ≤ xs.length → k = tsz P s → ∀ tg', VR C γ (.sl tg' k ((xs.take j).drop i)) (.slice (if m = i then ad else ad.map (·.add (i * tsz P s))) (j - i) (m - i)) ∨ ¬ (j ≤ m) := by
    intro i j m hij hjn hk tg'
    by_cases hjm : j ≤ m
    · left
      have hlen : ((xs.take j).drop i).length = j - i := by simp; omega
      by_cases hz : j - i = 0
      · have h0 : (xs.take j).drop i = [] := List.eq_nil_of_length_eq_zero (by omega)
        rw [h0, hz]
        exact .sl0 ..
      · rcases hcase with rfl | ⟨b, o, rfl, hkk, hle, hcells⟩
        · simp at hjn; omega
        · have hone := (e1 ▸ h1.1).sl_one
          rw [if_neg (by omega)]
          simp only [Option.map_some, add_eq]
          have hget : ∀ (q : Nat) (a : AV), ((xs.take j).drop i)[q]? = some a → xs[i + q]? = some a := by
            intro q a hq
            rw [List.getElem?_drop] at hq
            by_cases hlt : i + q < j
            · rwa [List.getElem?_take_of_lt hlt] at hq
            · rw [List.getElem?_eq_none (by simp; omega)] at hq; cases hq
          have hmul : j * k ≤ xs.length * k := Nat.mul_le_mul_right _ hjn
          have hsum : i * k + (j - i) * k = j * k := by rw [← Nat.add_mul]; congr 1; omega
          refine .sl _ _ _ _ _ _ _ _ hlen.symm (by omega) (fun q a hq => hkk _ _ (hget q a hq)) (by rw [← hk]; omega) (fun q h5 h6 => hone _ (by rw [← hk] at h5; omega) (by rw [← hk] at h5 h6; omega)) fun q a hq p y hp => ?_
          have := hcells _ _ (hget q a hq) p y hp
          rwa [show o + i * tsz P s + q * k + p = o + (i + q) * k + p by rw [Nat.add_mul, hk]; omega]
    · exact .inr hjm
  split at hev
  · rename_i i j hi1 hj1
    split at hev
    case isFalse => cases hev
    rename_i hc3
    obtain ⟨hk, hij, hjl⟩ := hc3
    simp only [Option.some.injEq, Prod.mk.injEq] at hev
    obtain ⟨rfl, rfl⟩ := hev
    have hmx : mx = none := by
      cases mx with
      | none => rfl
      | some y => simp only [copt] at hm; cases hy : carg0 y <;> rw [hy] at hm <;> simp at hm
    subst hmx
    have r1 := bnd_run (P := P) (ds := ds) (code := .sliceAcap) h hh hj1 (Nat.le_trans hjl hc)
    have r2 := bnd_run (P := P) (ds := ds) (code := .sliceB) h hl hi1 hij
    have hv := (hbase i j c hij hjl hk .n).resolve_right (by omega)
    refine Done.plain h hd ?_ (by rw [hk] at hv; exact hv) trivial rfl
    intro w _
    have hrun : (Instr.sliceBounds true xs.length c (lo.map (Act.eval ⟨ts, ds⟩)) (hi.map (Act.eval ⟨ts, ds⟩)) none).run P w = .ok (i, j, c) w := by
      cases lo with
      | none =>
        simp only at r2; subst r2
        cases hi with
        | none => simp only at r1; subst r1; simp [Instr.sliceBounds]
        | some y => obtain ⟨k, q, v1, v2, v3, v4⟩ := r1; simp [Instr.sliceBounds, v1, v4]
      | some z =>
        obtain ⟨k, q, v1, v2, v3, v4⟩ := r2
        cases hi with
        | none => simp only at r1; subst r1; simp [Instr.sliceBounds, v1, v4]
        | some y => obtain ⟨k', q', u1, u2, u3, u4⟩ := r1; simp [Instr.sliceBounds, v1, v4, u1, u4]
    have hsl : ∀ lo hi, (Instr.sliceAt t (.slice ad xs.length c) lo hi none).run P w = (Instr.slice t (.slice ad xs.length c) lo hi none).run P w := by
      intro lo hi
      simp [Instr.sliceAt, run_und hu]
    simp [execOp, e1, hsl]
    simp [run_und hu, Instr.slice, hrun, run_size ht.2]
  · rename_i i j m hi1 hj1
    split at hev
    case isTrue => cases hev
    rename_i hhn
    split at hev
    case h_2 => cases hev
    rename_i mm hmm
    split at hev
    case isFalse => cases hev
    rename_i hc3
    obtain ⟨hk, hij, hjm, hml⟩ := hc3
    simp only [Option.some.injEq, Prod.mk.injEq] at hev
    obtain ⟨rfl, rfl⟩ := hev
    obtain ⟨y, rfl⟩ : ∃ y, mx = some y := by
      cases mx with
      | none => simp [copt] at hm
      | some y => exact ⟨y, rfl⟩
    subst hjm
    have r3 := bnd_run (P := P) (ds := ds) (code := .slice3Acap) h hm hmm (Nat.le_trans hml hc)
    have r1 := bnd_run (P := P) (ds := ds) (code := .slice3B) h hh hj1 (Nat.le_refl j)
    have r2 := bnd_run (P := P) (ds := ds) (code := .slice3C) h hl hi1 hij
    have hv := (hbase i j j hij hml hk .ex).resolve_right (by omega)
    refine Done.plain h hd ?_ (by rw [hk] at hv; exact hv) (by simp [TC]) rfl
    obtain ⟨k3, q3, w1, w2, w3, w4⟩ := r3
    have hhi : ∃ z, hi = some z := by
      cases hi with
      | none => simp only [copt, Option.some.injEq] at hh; subst hh; exact absurd rfl hhn
      | some z => exact ⟨z, rfl⟩
    obtain ⟨z, rfl⟩ := hhi
    obtain ⟨k', q', u1, u2, u3, u4⟩ := r1
    intro w _
    have hrun : (Instr.sliceBounds true xs.length c (lo.map (Act.eval ⟨ts, ds⟩)) (some (Act.eval ⟨ts, ds⟩ z)) (some (Act.eval ⟨ts, ds⟩ y))).run P w = .ok (i, j, j) w := by
      cases lo with
      | none => simp only at r2; subst r2; simp [Instr.sliceBounds, w1, w4, u1, u4]
      | some z => obtain ⟨k, q, v1, v2, v3, v4⟩ := r2; simp [Instr.sliceBounds, v1, v4, w1, w4, u1, u4]
    have hsl : ∀ lo hi mx, (Instr.sliceAt t (.slice ad xs.length c) lo hi mx).run P w = (Instr.slice t (.slice ad xs.length c) lo hi mx).run P w := by
      intro lo hi mx
      simp [Instr.sliceAt, run_und hu]
    simp [execOp, e1, hsl]
    simp [run_und hu, Instr.slice, hrun, run_size ht.2]
  · cases hev
end
end Go.Am
