import Derived.Test.YtfnnmecilcnloaaDoorAmGrow
set_option linter.unusedSimpArgs false
set_option linter.unusedVariables false
set_option linter.unusedSectionVars false
set_option linter.defProp false
namespace Go.Am
open Go
variable [Tabs]
section
variable {P : Program} {L : List Nat} {N : Nat} {F : Nat → Prop} {γ : List Nat} {C C' : Nat → List Value} {e : Env} {ah : AH} {ts : Array Value} {ds : List Deferred} {w w' : World} {m : Bool}
variable {e' : Env} {ah' : AH}

def AOp.isCall : AOp → Bool
  | .call _ _ => true
  | .appo _ _ _ _ => true
  | .nq _ _ => true
  | _ => false

theorem op_ok {o : Oper} {op : AOp} (h : SR L N F γ C e ah ts w) (hd : ∀ x, o.dst = some x → x < N) (hc : cop P o = some op) (hcall : op.isCall = false)
    (hm : m = true ∨ ((∀ x n, op ≠ .ld x n) ∧ ∀ x, op ≠ .cvt .bs x))
    (hev : aev L ⟨o.dst, op, none⟩ e ah = some (e', ah')) : Done m P L N F γ C o ts ds w e' ah' := by
  obtain ⟨d, o, ty, pos, af, g⟩ := o
  simp only at hd hev
  cases o with
  | move x =>
    simp only [cop, Option.map_eq_some_iff] at hc
    obtain ⟨a, ha, rfl⟩ := hc
    simp only [aev, Option.some.injEq, Prod.mk.injEq] at hev
    obtain ⟨rfl, rfl⟩ := hev
    exact op_mv h hd ha
  | assign x =>
    simp only [cop, Option.map_eq_some_iff] at hc
    obtain ⟨a, ha, rfl⟩ := hc
    exact op_asg h hd ha hev
  | pick c a b =>
    simp only [cop] at hc
    split at hc
    · rename_i c' a' b' h1 h2 h3
      injection hc with hc; subst hc
      exact op_pick h hd h1 h2 h3 hev
    · cases hc
  | alloc t =>
    simp only [cop, Option.map_eq_some_iff] at hc
    obtain ⟨a, ha, rfl⟩ := hc
    exact op_alloc h hd ha hev
  | box t x =>
    simp only [cop, Option.map_eq_some_iff] at hc
    obtain ⟨a, ha, rfl⟩ := hc
    exact op_box h hd ha hev
  | build t parts =>
    simp only [cop] at hc
    split at hc
    case h_3 => cases hc
    case h_2 =>
      rename_i mm el hu
      split at hc
      case h_2 => cases hc
      rename_i z ps hz hp
      split at hc
      case isFalse => cases hc
      rename_i hall
      split at hc
      · rename_i hcp
        simp only [Option.map_eq_some_iff] at hc
        obtain ⟨z', hz', rfl⟩ := hc
        refine op_buildA h hd hu hz hp hall ?_
        rw [← hev]
        simp only [aev]
        rw [fill_const e ps z hcp, hz']
        rfl
      · injection hc with hc; subst hc
        exact op_buildA h hd hu hz hp hall hev
    rename_i fs hu
    split at hc
    case h_2 => cases hc
    rename_i z ps hz hp
    split at hc
    case isFalse => cases hc
    rename_i hall
    injection hc with hc; subst hc
    exact op_build h hd hu hz hp hall hev
  | buildSlice t n parts =>
    simp only [cop] at hc
    split at hc
    case h_2 => cases hc
    rename_i el hel
    split at hc
    case isFalse => cases hc
    rename_i hh
    obtain ⟨h1, h2, h3⟩ := hh
    simp only [Option.map_eq_some_iff] at hc
    obtain ⟨as, ha, rfl⟩ := hc
    refine op_bsl h hd ?_ h1 h2 h3 ha hev
    unfold tel at hel
    split at hel
    · rename_i e hu; injection hel with hel; subst hel; exact hu
    · cases hel
  | load t x =>
    simp only [cop] at hc
    split at hc
    case isFalse => cases hc
    rename_i ht
    simp only [Option.map_eq_some_iff] at hc
    obtain ⟨a, ha, rfl⟩ := hc
    obtain rfl : m = true := hm.resolve_right (fun h => h.1 _ _ rfl)
    exact op_ld h hd ha ht hev
  | store t a x =>
    simp only [cop] at hc
    split at hc
    case h_2 => cases hc
    rename_i a' x' ha hx
    split at hc
    case isFalse => cases hc
    rename_i ht
    simp only [Bool.and_eq_true, Option.isNone_iff_eq_none] at ht
    obtain ⟨ht, rfl⟩ := ht
    injection hc with hc; subst hc
    exact op_st h ha hx ht hev
  | nilCheck x =>
    simp only [cop, Option.map_eq_some_iff] at hc
    obtain ⟨a, ha, rfl⟩ := hc
    exact op_nck h hd ha hev
  | fieldAddr t x f =>
    simp only [cop] at hc
    split at hc
    case h_2 => cases hc
    rename_i x' fd hx hf
    split at hc
    case isTrue => cases hc
    rename_i hs
    injection hc with hc; subst hc
    exact op_fld h hd hx hf hs hev
  | field t x f =>
    simp only [cop] at hc
    split at hc
    case h_2 => cases hc
    rename_i x' fd hx hf
    split at hc
    case isFalse => cases hc
    rename_i hs
    injection hc with hc; subst hc
    exact op_fldv h hd hx hf hs hev
  | binOp op2 t x y ty2 =>
    simp only [cop] at hc
    split at hc
    case h_3 => cases hc
    case h_2 =>
      rename_i x' hx hy
      split at hc
      · rename_i ms hu
        injection hc with hc; subst hc; exact op_iq h hd hx hu rfl hev
      · rename_i ms hu
        injection hc with hc; subst hc; exact op_iq h hd hx hu rfl hev
      · injection hc with hc; subst hc; cases hcall
      · injection hc with hc; subst hc; cases hcall
      · cases hc
    rename_i x' y' hx hy
    split at hc
    · rename_i fs hu
      split at hc
      case h_2 => cases hc
      rename_i ks hk
      split at hc
      · injection hc with hc; subst hc; exact op_seq h hd hx hy hu hk rfl hev
      · injection hc with hc; subst hc; exact op_seq h hd hx hy hu hk rfl hev
      · cases hc
    · injection hc with hc; subst hc; exact op_bin h hd hx hy hev
    · injection hc with hc; subst hc; exact op_bin h hd hx hy hev
    · rename_i hu
      split at hc
      · injection hc with hc; subst hc; exact op_bq h hd hx hy hu rfl hev
      · injection hc with hc; subst hc; exact op_bq h hd hx hy hu rfl hev
      · cases hc
    · rename_i u hu
      split at hc
      · injection hc with hc; subst hc; exact op_pq h hd hx hy hu rfl hev
      · injection hc with hc; subst hc; exact op_pq h hd hx hy hu rfl hev
      · cases hc
    · cases hc
  | unOp op2 t x =>
    simp only [cop, Option.map_eq_some_iff] at hc
    obtain ⟨a, ha, rfl⟩ := hc
    exact op_un h hd ha hev
  | convert s t x =>
    simp only [cop] at hc
    split at hc
    case h_2 => cases hc
    rename_i hh x' hcv hx
    injection hc with hc; subst hc
    exact op_cvt h hd hx hcv (hm.imp id fun q => by rintro rfl; exact q.2 _ rfl) hev
  | makeFunc fn first cs =>
    cases fn with
    | func f =>
      simp only [cop] at hc
      split at hc
      case isFalse => cases hc
      rename_i hf
      simp only [Option.map_eq_some_iff] at hc
      obtain ⟨a, ha, rfl⟩ := hc
      exact op_mkf h hd hf ha hev
    | _ => simp [cop] at hc
  | slice t x lo hi mx =>
    simp only [cop] at hc
    split at hc
    case h_2 => cases hc
    rename_i x' lo' hi' mx' hx hlo hhi hmx
    split at hc
    · rename_i hu
      split at hc
      · injection hc with hc; subst hc
        have : mx = none := by
          cases mx with
          | none => rfl
          | some y => simp only [copt] at hmx; cases hy : carg0 y <;> rw [hy] at hmx <;> simp at hmx
        subst this
        exact op_sls h hd hx hlo hhi hu hev
      · cases hc
    · rename_i el hu
      split at hc
      case isFalse => cases hc
      rename_i ht
      injection hc with hc; subst hc
      exact op_slc h hd hx hlo hhi hmx hu ht hev
    · cases hc
  | indexAddr t x i =>
    simp only [cop] at hc
    split at hc
    case h_3 => cases hc
    case h_2 =>
      rename_i x' i' hel hx hi
      split at hc
      case h_2 => cases hc
      rename_i mm el hu
      split at hc
      case isFalse => cases hc
      rename_i ht
      injection hc with hc; subst hc
      exact op_ixp h hd hx hi hu ht hev
    rename_i el x' i' hel hx hi
    split at hc
    case isFalse => cases hc
    rename_i ht
    injection hc with hc; subst hc
    unfold tel at hel
    split at hel
    · rename_i e hu; injection hel with hel; subst hel; exact op_ixa h hd hx hi hu ht hev
    · cases hel
  | index t x i =>
    simp only [cop] at hc
    split at hc
    case h_2 => cases hc
    rename_i x' i' hu hx hi
    injection hc with hc; subst hc
    exact op_ixs h hd hx hi hu hev
  | extract x i =>
    simp only [cop, Option.map_eq_some_iff] at hc
    obtain ⟨a, ha, rfl⟩ := hc
    exact op_ext h hd ha hev
  | call c =>
    obtain ⟨callee, args, argTypes⟩ := c
    simp only [cop] at hc
    split at hc
    · rename_i x t h1 h2
      have e1 : args = #[x] := by rw [← Array.toArray_toList (xs := args), h1]
      have e2 : argTypes = #[t] := by rw [← Array.toArray_toList (xs := argTypes), h2]
      subst e1; subst e2
      split at hc
      · rename_i x' hu hx; injection hc with hc; subst hc; exact op_lens h hd hx hu hev
      · rename_i s x' hu hx; injection hc with hc; subst hc; exact op_len h hd hx hu hev
      · cases hc
    · rename_i x y t u h1 h2
      have e1 : args = #[x, y] := by rw [← Array.toArray_toList (xs := args), h1]
      have e2 : argTypes = #[t, u] := by rw [← Array.toArray_toList (xs := argTypes), h2]
      subst e1; subst e2
      split at hc
      case h_2 => cases hc
      rename_i x' y' _ _ hx hy
      split at hc
      case isFalse => cases hc
      rename_i htu
      injection hc with hc; subst hc
      obtain ⟨rfl, -⟩ := htu
      exact op_mm (mx := true) h hd hx hy hev
    · rename_i x y t u h1 h2
      have e1 : args = #[x, y] := by rw [← Array.toArray_toList (xs := args), h1]
      have e2 : argTypes = #[t, u] := by rw [← Array.toArray_toList (xs := argTypes), h2]
      subst e1; subst e2
      split at hc
      case h_2 => cases hc
      rename_i x' y' _ _ hx hy
      split at hc
      case isFalse => cases hc
      rename_i htu
      injection hc with hc; subst hc
      obtain ⟨rfl, -⟩ := htu
      exact op_mm (mx := false) h hd hx hy hev
    · rename_i x y t u h1 h2
      have e1 : args = #[x, y] := by rw [← Array.toArray_toList (xs := args), h1]
      have e2 : argTypes = #[t, u] := by rw [← Array.toArray_toList (xs := argTypes), h2]
      subst e1; subst e2
      split at hc
      case h_2 => cases hc
      rename_i el x' hel hx
      have ht : P.underlying t = some (.slice el) := by
        unfold tel at hel
        split at hel
        · rename_i e hu; injection hel with hel; subst hel; exact hu
        · cases hel
      split at hc
      · rename_i s y' hu hy
        split at hc
        case isFalse => cases hc
        rename_i hz
        injection hc with hc; subst hc
        exact op_app h hd hx hy ht hu hz hev
      · rename_i y' hu hy
        split at hc
        case isFalse => cases hc
        rename_i hz
        injection hc with hc; subst hc
        exact op_apps h hd hx hy ht hu hz.2 hz.1 hev
      · cases hc
    · split at hc
      · injection hc with hc; subst hc; cases hcall
      · cases hc
    · cases hc
  | _ => simp [cop] at hc

theorem op_okM {o : Oper} {op : AOp} (h : SR L N F γ C e ah ts w) (hd : ∀ x, o.dst = some x → x < N) (hc : copM P m o = some op) (hcall : op.isCall = false)
    (hev : aev L ⟨o.dst, op, none⟩ e ah = some (e', ah')) : Done m P L N F γ C o ts ds w e' ah' := by
  cases m with
  | true => exact op_ok h hd (by simpa [copM] using hc) hcall (.inl rfl) hev
  | false =>
    simp only [copM, Bool.false_eq_true, if_false, Option.map_eq_some_iff] at hc
    obtain ⟨op', ho, rfl⟩ := hc
    by_cases hl2 : ∃ x, op' = .cvt .bs x
    · obtain ⟨x, rfl⟩ := hl2
      obtain ⟨d, oo, ty, pos, af, g⟩ := o
      cases oo with
      | convert s t y =>
        simp only [cop] at ho
        split at ho
        case h_2 => cases ho
        rename_i hh x' hcv hx
        injection ho with ho
        injection ho with e1 e2
        subst e1; subst e2
        exact op_cvte h hd hx hcv hev
      | makeFunc fn first cs =>
        cases fn with
        | func f => simp only [cop] at ho; split at ho <;> simp at ho
        | _ => simp [cop] at ho
      | _ =>
        exfalso
        simp only [cop] at ho
        first
          | cases ho; done
          | (simp at ho; done)
          | (repeat' (split at ho)) <;> (first | (cases ho; done) | (simp at ho; done))
    by_cases hl : ∃ x n, op' = .ld x n
    · obtain ⟨x, n, rfl⟩ := hl
      obtain ⟨d, oo, ty, pos, af, g⟩ := o
      cases oo with
      | load t y =>
        simp only [cop] at ho
        split at ho
        case isFalse => cases ho
        rename_i ht
        simp only [Option.map_eq_some_iff] at ho
        obtain ⟨a, ha, he⟩ := ho
        injection he with e1 e2
        subst e1; subst e2
        exact op_lde h hd ha ht hev
      | makeFunc fn first cs =>
        cases fn with
        | func f => simp only [cop] at ho; split at ho <;> simp at ho
        | _ => simp [cop] at ho
      | _ =>
        exfalso
        simp only [cop] at ho
        first
          | cases ho; done
          | (simp at ho; done)
          | (repeat' (split at ho)) <;> (first | (cases ho; done) | (simp at ho; done))
    · have : op'.toE = op' := by
        cases op' with
        | ld x n => exact absurd ⟨_, _, rfl⟩ hl
        | cvt hh x => cases hh <;> first | rfl | exact absurd ⟨_, rfl⟩ hl2
        | _ => rfl
      rw [this] at hcall hev
      exact op_ok h hd ho hcall (.inr ⟨fun x n he => hl ⟨x, n, he⟩, fun x he => hl2 ⟨x, he⟩⟩) hev

theorem cop_asg {o : Oper} {x' : Ar} (hc : cop P o = some (.asg x')) : ∃ x, o = ⟨o.dst, .assign x, o.type, o.pos, o.after, o.guard⟩ ∧ carg P o.type x = some x' := by
  obtain ⟨d, oo, ty, pos, af, g⟩ := o
  cases oo with
  | assign y =>
    simp only [cop, Option.map_eq_some_iff] at hc
    obtain ⟨a, ha, he⟩ := hc
    injection he with he
    subst he
    exact ⟨y, rfl, ha⟩
  | makeFunc fn first cs =>
    cases fn with
    | func f => simp only [cop] at hc; split at hc <;> simp at hc
    | _ => simp [cop] at hc
  | _ =>
    exfalso
    simp only [cop] at hc
    first
      | cases hc; done
      | (simp at hc; done)
      | (repeat' (split at hc)) <;> (first | (cases hc; done) | (simp at hc; done))
theorem cop_app {o : Oper} {k b : Nat} {x' y' : Ar} (hop : cop P o = some (.app k b x' y')) :
    ∃ x y t u el s, o = ⟨o.dst, .call { callee := .builtin .append, args := #[x, y], argTypes := #[t, u] }, o.type, o.pos, o.after, o.guard⟩ ∧ carg P t x = some x' ∧ carg P u y = some y' ∧
      P.underlying t = some (.slice el) ∧ P.underlying u = some (.slice s) ∧ (zeroOf P el).map List.length = some (tsz P el) ∧ k = tsz P el ∧ b = tby P el := by
  obtain ⟨d, oo, ty, pos, af, g⟩ := o
  cases oo with
  | call c =>
    obtain ⟨callee, args, argTypes⟩ := c
    simp only [cop] at hop
    split at hop
    · split at hop <;> simp at hop
    · split at hop
      · split at hop <;> simp at hop
      · cases hop
    · split at hop
      · split at hop <;> simp at hop
      · cases hop
    · rename_i x y t u h1 h2
      have e1 : args = #[x, y] := by rw [← Array.toArray_toList (xs := args), h1]
      have e2 : argTypes = #[t, u] := by rw [← Array.toArray_toList (xs := argTypes), h2]
      subst e1; subst e2
      split at hop
      case h_2 => cases hop
      rename_i el x2 hel hx
      have ht : P.underlying t = some (.slice el) := by
        unfold tel at hel
        split at hel
        · rename_i e hu; injection hel with hel; subst hel; exact hu
        · cases hel
      split at hop
      · rename_i s y2 hu hy
        split at hop
        case isFalse => cases hop
        rename_i hz
        injection hop with hop
        injection hop with q1 q2 q3 q4
        subst q1; subst q2; subst q3; subst q4
        exact ⟨x, y, t, u, el, s, rfl, hx, hy, ht, hu, hz, rfl, rfl⟩
      · split at hop <;> simp at hop
      · cases hop
    · split at hop <;> simp at hop
    · cases hop
  | makeFunc fn first cs =>
    cases fn with
    | func f => simp only [cop] at hop; split at hop <;> simp at hop
    | _ => simp [cop] at hop
  | _ =>
    exfalso
    simp only [cop] at hop
    first
      | cases hop; done
      | (simp at hop; done)
      | (repeat' (split at hop)) <;> (first | (cases hop; done) | (simp at hop; done))
theorem cop_nq {o : Oper} {neq : Bool} {x' : Ar} (hop : cop P o = some (.nq neq x')) :
    ∃ op t x ty2 el, o = ⟨o.dst, .binOp op t x (.const (.slice none 0 0)) ty2, o.type, o.pos, o.after, o.guard⟩ ∧ carg0 x = some x' ∧ P.underlying t = some (.slice el) ∧ op = if neq then .neq else .eql := by
  obtain ⟨d, oo, ty, pos, af, g⟩ := o
  cases oo with
  | binOp op t x y ty2 =>
    simp only [cop] at hop
    split at hop
    case h_3 => cases hop
    case h_2 =>
      rename_i x2 hx hy
      split at hop
      · cases hop
      · cases hop
      · rename_i el hu
        injection hop with hop; injection hop with h1 h2; subst h1; subst h2
        exact ⟨_, t, x, ty2, el, rfl, hx, hu, rfl⟩
      · rename_i el hu
        injection hop with hop; injection hop with h1 h2; subst h1; subst h2
        exact ⟨_, t, x, ty2, el, rfl, hx, hu, rfl⟩
      · cases hop
    exfalso
    (repeat' (split at hop)) <;> (first | (cases hop; done) | (simp at hop; done))
  | makeFunc fn first cs =>
    cases fn with
    | func f => simp only [cop] at hop; split at hop <;> simp at hop
    | _ => simp [cop] at hop
  | _ =>
    exfalso
    simp only [cop] at hop
    first
      | cases hop; done
      | (simp at hop; done)
      | (repeat' (split at hop)) <;> (first | (cases hop; done) | (simp at hop; done))
theorem toE_nq {op : AOp} {n : Bool} {x : Ar} (h : op.toE = .nq n x) : op = .nq n x := by
  cases op with
  | cvt hh x => cases hh <;> cases h
  | ld x n => cases h
  | _ => exact h
theorem toE_app {op : AOp} {k b : Nat} {x y : Ar} (h : op.toE = .app k b x y) : op = .app k b x y := by
  cases op with
  | cvt hh x => cases hh <;> cases h
  | ld x n => cases h
  | _ => exact h
theorem toE_asg {op : AOp} {x : Ar} (h : op.toE = .asg x) : op = .asg x := by
  cases op with
  | cvt hh x => cases hh <;> cases h
  | ld x n => cases h
  | _ => exact h
theorem copM_app {o : Oper} {k b : Nat} {x y : Ar} (hc : copM P m o = some (.app k b x y)) : cop P o = some (.app k b x y) := by
  cases m with
  | true => simpa [copM] using hc
  | false =>
    simp only [copM, Bool.false_eq_true, if_false, Option.map_eq_some_iff] at hc
    obtain ⟨op', ho, hE⟩ := hc
    rw [ho, toE_app hE]
theorem copM_asg {o : Oper} {x : Ar} (hc : copM P m o = some (.asg x)) : cop P o = some (.asg x) := by
  cases m with
  | true => simpa [copM] using hc
  | false =>
    simp only [copM, Bool.false_eq_true, if_false, Option.map_eq_some_iff] at hc
    obtain ⟨op', ho, hE⟩ := hc
    rw [ho, toE_asg hE]
theorem copM_nq {o : Oper} {n : Bool} {x : Ar} (hc : copM P m o = some (.nq n x)) : cop P o = some (.nq n x) := by
  cases m with
  | true => simpa [copM] using hc
  | false =>
    simp only [copM, Bool.false_eq_true, if_false, Option.map_eq_some_iff] at hc
    obtain ⟨op', ho, hE⟩ := hc
    rw [ho, toE_nq hE]
theorem op_nqE {o : Oper} {n : Bool} {x : Ar} {K : Env → AH → Prop} (h : SR L N F γ C e ah ts w) (hd : ∀ x, o.dst = some x → x < N) (hc : copM P m o = some (AOp.er (.nq n x)))
    (hk : nqW L o.dst n x e ah K) : ∃ e' ah', K e' ah' ∧ Done m P L N F γ C o ts ds w e' ah' := by
  obtain ⟨op, t, x0, ty2, el, ho, hx, hu, hop⟩ := cop_nq (copM_nq hc)
  rw [ho]
  exact op_nq (d := o.dst) h hd hx hu hop hk
theorem op_appoE {o : Oper} {k b : Nat} {x y : Ar} {K : Env → AH → Prop} (h : SR L N F γ C e ah ts w) (hd : ∀ x, o.dst = some x → x < N) (hc : copM P m o = some (AOp.er (.appo k b x y)))
    (hk : appoW L o.dst k b x y e ah K) : ∃ e' ah', K e' ah' ∧ Done m P L N F γ C o ts ds w e' ah' := by
  obtain ⟨x0, y0, t, u, el, s, ho, hx, hy, ht, hu, hz, rfl, rfl⟩ := cop_app (copM_app hc)
  rw [ho]
  exact op_appo (d := o.dst) h hd hx hy ht hu hz hk
theorem op_asoE {o : Oper} {k : Nat} {x : Ar} (h : SR L N F γ C e ah ts w) (hd : ∀ x, o.dst = some x → x < N) (hc : copM P m o = some (AOp.er (.aso k x)))
    (hev : aev L ⟨o.dst, .aso k x, none⟩ e ah = some (e', ah')) : Done m P L N F γ C o ts ds w e' ah' := by
  obtain ⟨x0, ho, hx⟩ := cop_asg (copM_asg hc)
  rw [ho]
  exact op_aso (d := o.dst) h hd hx hev
theorem toE_call {op : AOp} {f : Ar} {as : List Ar} (h : op.toE = .call f as) : op = .call f as := by
  cases op with
  | cvt hh x => cases hh <;> cases h
  | ld x n => cases h
  | _ => exact h
theorem er_call {op : AOp} {f : Ar} {as : List Ar} (h : op.er = .call f as) : op = .call f as := by
  cases op with
  | cvto x => cases h
  | appo => cases h
  | aso => cases h
  | _ => exact h
/-- with marks -/
theorem op_okE {o : Oper} {op : AOp} (h : SR L N F γ C e ah ts w) (hd : ∀ x, o.dst = some x → x < N) (hc : cop P o = some op.er) (hcall : op.isCall = false)
    (hev : aev L ⟨o.dst, op, none⟩ e ah = some (e', ah')) : Done true P L N F γ C o ts ds w e' ah' := by
  by_cases hx : ∃ x, op = .cvto x
  · obtain ⟨x, rfl⟩ := hx
    obtain ⟨d, oo, ty, pos, af, g⟩ := o
    have hc : cop P ⟨d, oo, ty, pos, af, g⟩ = some (.cvt .sb x) := hc
    cases oo with
    | convert s t y =>
      simp only [cop] at hc
      split at hc
      case h_2 => cases hc
      rename_i hh x' hcv hx
      injection hc with hc
      injection hc with e1 e2
      subst e1; subst e2
      exact op_cvto h hd hx hcv hev
    | makeFunc fn first cs =>
      cases fn with
      | func f => simp only [cop] at hc; split at hc <;> simp at hc
      | _ => simp [cop] at hc
    | _ =>
      exfalso
      simp only [cop] at hc
      first
        | cases hc; done
        | (simp at hc; done)
        | (repeat' (split at hc)) <;> (first | (cases hc; done) | (simp at hc; done))
  · by_cases hy : ∃ k x, op = .aso k x
    · obtain ⟨k, x, rfl⟩ := hy
      exact op_asoE (m := true) h hd (by simpa [copM] using hc) hev
    have : op.er = op := by
      cases op <;> first | rfl | exact absurd ⟨_, rfl⟩ hx | exact absurd ⟨_, _, rfl⟩ hy | cases hcall | rfl
    rw [this] at hc
    exact op_ok h hd hc hcall (.inl rfl) hev
theorem op_okME {o : Oper} {op : AOp} (h : SR L N F γ C e ah ts w) (hd : ∀ x, o.dst = some x → x < N) (hc : copM P m o = some op.er) (hcall : op.isCall = false)
    (hev : aev L ⟨o.dst, op, none⟩ e ah = some (e', ah')) : Done m P L N F γ C o ts ds w e' ah' := by
  cases m with
  | true => exact op_okE h hd (by simpa [copM] using hc) hcall hev
  | false =>
    by_cases hx : ∃ x, op = .cvto x
    · obtain ⟨x, rfl⟩ := hx
      simp only [copM, Bool.false_eq_true, if_false, Option.map_eq_some_iff] at hc
      obtain ⟨op', ho, hE⟩ := hc
      have hE : op'.toE = .cvt .sb x := hE
      have : op' = .cvt .sb x := by
        cases op' with
        | cvt hh y => cases hh <;> first | exact hE | cases hE
        | ld y n => cases hE
        | _ => exact hE
      subst this
      obtain ⟨v, w', γ', C', h1, h2, h3, h4, h5, h6⟩ := op_okE (op := .cvto x) (ds := ds) h hd ho rfl hev
      refine ⟨v, w', γ', C', h1, h2, h3, h4, h5, fun hq => ?_⟩
      exfalso
      obtain ⟨d, oo, ty, pos, af, g⟩ := o
      cases oo with
      | convert s t y =>
        simp only [cop] at ho
        split at ho
        case h_2 => cases ho
        rename_i hh x' hcv hx
        injection ho with ho
        injection ho with e1 e2
        subst e1
        unfold ccv at hcv
        split at hcv
        · cases hcv
        · cases hcv
        · rename_i el hs ht
          simp [quietO, ht] at hq
        · split at hcv
          · split at hcv <;> cases hcv
          · cases hcv
        · cases hcv
      | makeFunc fn first cs =>
        cases fn with
        | func f => simp only [cop] at ho; split at ho <;> simp at ho
        | _ => simp [cop] at ho
      | _ =>
        simp only [cop] at ho
        first
          | cases ho; done
          | (simp at ho; done)
          | (repeat' (split at ho)) <;> (first | (cases ho; done) | (simp at ho; done))
    · by_cases hy : ∃ k x, op = .aso k x
      · obtain ⟨k, x, rfl⟩ := hy
        exact op_asoE h hd hc hev
      have : op.er = op := by
        cases op <;> first | rfl | exact absurd ⟨_, rfl⟩ hx | exact absurd ⟨_, _, rfl⟩ hy | cases hcall | rfl
      rw [this] at hc
      exact op_okM h hd hc hcall hev

theorem aev_g (L : List Nat) (d : Option Nat) (op : AOp) (g : Option (Nat × Bool)) (e : Env) (ah : AH) : aev L ⟨d, op, g⟩ e ah = aev L ⟨d, op, none⟩ e ah := by
  cases op <;> rfl

def callable (P : Program) (f : Nat) : Bool := match P.funcs[f]? with
  | some fn => fn.body.isSome && fn.name != "runtime.NumGoroutine"
  | none => false

def argE : Nat → List AV → Env
  | _, [] => []
  | i, a :: r => (i, a) :: argE (i + 1) r

theorem get_argE : ∀ (l : List AV) (i t : Nat), get (argE i l) t = if i ≤ t then (l[t - i]?).getD .un else .un := by
  intro l
  induction l with
  | nil => intro i t; simp [argE, get]
  | cons a r ih =>
    intro i t
    simp only [argE, get]
    by_cases h : i = t
    · subst h; simp
    · rw [if_neg h, ih]
      by_cases h1 : i ≤ t
      · obtain ⟨q, hq⟩ : ∃ q, t - i = q + 1 := ⟨t - i - 1, by omega⟩
        rw [if_pos h1, if_pos (by omega), hq, show t - (i + 1) = q by omega]; simp
      · rw [if_neg h1, if_neg (by omega)]

/-- what a call does, over what its arguments are -/
def ACalls (P : Program) (f : Nat) (args : List AV) (ah : AH) (R : AV → AH → Prop) : Prop :=
  callable P f = true ∧ ∀ (F : Nat → Prop) (γ : List Nat) (C : Nat → List Value) (w : World) (vs : Array Value), SR [] args.length F γ C (argE 0 args) ah vs w →
    Calls P f vs w fun en w' => ∃ r v ah' γ' C', en = .returned v ∧ R r ah' ∧ γ <+: γ' ∧ SR [] 1 F γ' C' [(0, r)] ah' #[v] w' ∧ Ext F C w C' w'

theorem ACalls.mono {f : Nat} {args : List AV} {ah : AH} {R R' : AV → AH → Prop} (h : ACalls P f args ah R) (hr : ∀ r ah', R r ah' → R' r ah') : ACalls P f args ah R' :=
  ⟨h.1, fun F γ C w vs hs => (h.2 F γ C w vs hs).mono fun _ _ ⟨r, v, ah', γ', C', h1, h2, h3⟩ => ⟨r, v, ah', γ', C', h1, hr _ _ h2, h3⟩⟩

/-- the frame of a caller behind a call -/
def AV.unc : AV → AV
  | .sl (.fr (.cell _ _)) k xs => .sl .n k xs
  | a => a
def unC : Env → Env
  | [] => []
  | (i, a) :: r => (i, a.unc) :: unC r
theorem get_unC (e : Env) (t : Nat) : get (unC e) t = (get e t).unc := by
  induction e with
  | nil => rfl
  | cons p r ih =>
    obtain ⟨i, b⟩ := p
    simp only [unC, get]
    by_cases h : i = t <;> simp [h, ih]
theorem Wk.unc (a : AV) : Wk a a.unc := by
  cases a with
  | sl t k xs =>
    cases t with
    | fr m => cases m <;> first | exact .n .. | exact .same _
    | _ => exact .same _
  | _ => exact .same _
theorem unc_own (a : AV) : a.unc.isOwn = a.isOwn := by
  cases a with
  | sl t k xs =>
    cases t with
    | fr m => cases m <;> rfl
    | _ => rfl
  | _ => rfl
theorem unc_ownB (a : AV) (v : Value) : ownB a.unc v = ownB a v := by
  cases a with
  | sl t k xs =>
    cases t with
    | fr m => cases m <;> simp [AV.unc, ownB]
    | _ => rfl
  | _ => rfl
theorem unc_fr {a : AV} {l : Loc} {k : Nat} {xs : List AV} (h : a.unc = .sl (.fr l) k xs) : a = .sl (.fr l) k xs ∧ ∃ t, l = .tmp t := by
  cases a with
  | sl t k' xs' =>
    cases t with
    | fr m => cases m with
      | tmp u => simp only [AV.unc] at h; exact ⟨h, u, by injection h with h; injection h with h; exact h.symm⟩
      | cell s o => simp [AV.unc] at h
    | _ => simp [AV.unc] at h
  | _ => simp [AV.unc] at h

/-- a call, seen from its caller -/
theorem call_ok {f : Nat} {as : List AV} {vs : Array Value} {R : AV → AH → Prop} {d : Option Nat} (h : SR L N F γ C e ah ts w) (hd : ∀ x, d = some x → x < N) (hac : ACalls P f as ah R)
    (hlen : vs.size = as.length) (has : ∀ (i : Nat) (a : AV), as[i]? = some a → VR C γ a (vs.getD i undef) ∧ TC w C a (vs.getD i undef) ∧ a.plain = true) :
    Calls P f vs w fun en w' => ∃ r v ah' γ' C', en = .returned v ∧ R r ah' ∧ γ <+: γ' ∧ SR L N F γ' C' (Am.putv L (unC e) d r.df) ah' (Act.put ⟨ts, ds⟩ d v).tmps w' ∧ Ext F C w C' w' := by
  let F' : Nat → Prop := fun b => F b ∨ ∃ t, blk γ e ah ts w (.tmp t) b
  have hga : ∀ t, get (argE 0 as) t = (as[t]?).getD .un := fun t => by rw [get_argE]; simp
  have hnot : ∀ t, (get (argE 0 as) t).isOwn = false := by
    intro t
    rw [hga]
    cases ht : as[t]? with
    | none => rfl
    | some a => exact plain_own (has t a ht).2.2
  have hsub : ∀ p b, blk γ (argE 0 as) ah vs w p b → blk γ e ah ts w p b ∧ ∀ t, p ≠ .tmp t := by
    intro p b hp
    cases p with
    | obj s => exact ⟨hp, by simp⟩
    | cell s i => exact ⟨hp, by simp⟩
    | tmp t => simp only [blk] at hp; rw [ownB_not _ (hnot t)] at hp; cases hp
  have hs : SR [] as.length F' γ C (argE 0 as) ah vs w := by
    refine ⟨h.mem, hlen, fun t => ?_, fun p q b hp hq => h.excl p q b (hsub p b hp).1 (hsub q b hq).1, fun p b hp => ?_, ⟨fun b hb => ?_, fun e he => by obtain ⟨h1, h2⟩ := h.flt.tab e he; exact ⟨.inl h1, h2⟩⟩, fun t l k xs ht => ?_⟩
    · rw [hga]
      cases ht : as[t]? with
      | none => exact ⟨.un .., by cases vs.getD t undef <;> trivial⟩
      | some a => exact ⟨(has t a ht).1, (has t a ht).2.1⟩
    · rintro (hF | ⟨t, ht⟩)
      · exact h.nf p b (hsub p b hp).1 hF
      · exact (hsub p b hp).2 t (h.excl p (.tmp t) b (hsub p b hp).1 ht)
    · rcases hb with hF | ⟨t, ht⟩
      · exact h.flt.lt b hF
      · exact blk_lt h ht
    · rw [hga] at ht
      cases hq : as[t]? with
      | none => rw [hq] at ht; simp at ht
      | some a => rw [hq] at ht; exact absurd ht (plain_fr (has t a hq).2.2 l k xs)
  refine (hac.2 F' γ C w vs hs).mono ?_
  rintro en w' ⟨r, v, ah', γ', C', rfl, hR, hγ, hsr, hx⟩
  refine ⟨r, v, ah', γ', C', rfl, hR, hγ, ?_, ⟨hx.pre, fun b hb => hx.keep b (.inl hb), hx.size, hx.out⟩⟩
  have hg : ∀ (s b : Nat), γ[s]? = some b → γ'[s]? = some b := by
    intro s b hs
    obtain ⟨q, rfl⟩ := hγ
    rw [List.getElem?_append_left (List.getElem?_eq_some_iff.1 hs).1]; exact hs
  have hown : ∀ t b, ownB (get e t) (ts.getD t undef) = some b → F' b := fun t b hb => .inr ⟨t, hb⟩
  have hbk : ∀ p b, blk γ' (unC e) ah' ts w' p b → (∃ t, p = .tmp t ∧ blk γ e ah ts w (.tmp t) b) ∨ ((∀ t, p ≠ .tmp t) ∧ blk γ' [(0, r)] ah' #[v] w' p b) := by
    intro p b hp
    cases p with
    | obj s => exact .inr ⟨by simp, hp⟩
    | cell s i => exact .inr ⟨by simp, hp⟩
    | tmp t => simp only [blk, get_unC, unc_ownB] at hp; exact .inl ⟨t, rfl, hp⟩
  have h2 : SR L N F γ' C' (unC e) ah' ts w' := by
    refine ⟨hsr.mem, h.sz, fun t => ?_, fun p q b hp hq => ?_, fun p b hp => ?_, h.flt.keep hx.size (fun b hb => (hx.keep b (.inl hb)).1), fun t l k xs ht => ?_⟩
    · rw [get_unC]
      refine ⟨(Wk.unc _).vr ((h.env t).1.mono hx.pre _ hg), (Wk.unc _).tc ((h.env t).2.mono fun b hb => ?_)⟩
      exact hx.keep b (hown t b hb)
    · rcases hbk p b hp with ⟨t, rfl, h1⟩ | ⟨h1, h2⟩ <;> rcases hbk q b hq with ⟨u, rfl, h3⟩ | ⟨h3, h4⟩
      · exact h.excl _ _ b h1 h3
      · exact absurd (hown t b h1) (hsr.nf q b h4)
      · exact absurd (hown u b h3) (hsr.nf p b h2)
      · exact hsr.excl p q b h2 h4
    · rcases hbk p b hp with ⟨t, rfl, h1⟩ | ⟨h1, h2⟩
      · exact h.nf _ b h1
      · exact fun hF => hsr.nf p b h2 (.inl hF)
    · rw [get_unC] at ht
      obtain ⟨h1, u, rfl⟩ := unc_fr ht
      have := h.fr t _ k xs h1
      exact ⟨this.1, fun hu => this.2 (by rw [get_unC, unc_own] at hu; exact hu)⟩
  have hr := hsr.env 0
  simp only [get, if_true] at hr
  have hv0 : (#[v] : Array Value).getD 0 undef = v := rfl
  rw [hv0] at hr
  by_cases ho : r.isOwn = true
  · cases r with
    | sl t k xs =>
      cases t with
      | own =>
        simp only [AV.df]
        refine h2.putvOwn hd hr.1 hr.2 fun b hb => ?_
        have hb0 : blk γ' [(0, .sl .own k xs)] ah' #[v] w' (.tmp 0) b := hb
        refine ⟨fun hF => hsr.nf _ b hb0 (.inl hF), fun p hp => ?_⟩
        rcases hbk p b hp with ⟨t, rfl, h1⟩ | ⟨h1, h3⟩
        · exact hsr.nf _ b hb0 (hown t b h1)
        · exact h1 0 (hsr.excl p (.tmp 0) b h3 hb0)
      | _ => cases ho
    | _ => cases ho
  · have ho' : r.isOwn = false := by simpa using ho
    exact h2.putv hd ((Wk.df r).vr hr.1) ((Wk.df r).tc hr.2) (df_own ho') (fun l k xs hl => absurd hl (df_fr r l k xs))
end
end Go.Am
