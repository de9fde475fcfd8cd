import Derived.Test.YtfnnmecilcnloaaDoorAmOps
set_option linter.unusedSimpArgs false
set_option linter.unusedVariables false
set_option linter.unusedSectionVars false
set_option linter.defProp false
namespace Go.Am
open Go
variable [Tabs]
section
variable {P : Program} {L : List Nat} {N : Nat} {F : Nat → Prop} {γ : List Nat} {C : Nat → List Value} {e : Env} {ah : AH} {ts : Array Value} {ds : List Deferred} {w : World} {m : Bool}
variable {d : Option Nat} {ty : TypeId} {pos : String} {af : Array Edge} {g : Option (Nat × Bool)} {e' : Env} {ah' : AH}

theorem run_und {t : TypeId} {u : TypeDesc} (h : P.underlying t = some u) : (underlying t).run P w = .ok u w := by
  simp [underlying, program, Sem.run, h, pure, bind, Sem.bind]

theorem run_tinfo {t : TypeId} {i : TypeInfo} (h : P.info? t = some i) : (typeInfo t).run P w = .ok i w := by
  simp [typeInfo, program, Sem.run, h, pure, bind, Sem.bind]

theorem run_size {t : TypeId} (h : (P.info? t).isSome = true) : (sizeOf t).run P w = .ok (tsz P t) w := by
  obtain ⟨i, hi⟩ := Option.isSome_iff_exists.1 h
  simp [sizeOf, run_tinfo hi, tsz, hi]

theorem run_isAgg {t : TypeId} (h : (P.underlying t).isSome = true) : (isAgg t).run P w = .ok (tagg P t) w := by
  obtain ⟨u, hu⟩ := Option.isSome_iff_exists.1 h
  unfold isAgg tagg
  simp only [Sem.run_bind, run_und hu, Result.andThen_ok, hu]
  cases u <;> rfl

theorem op_pick {c a b : Operand} {c' a' b' : Ar} (h : SR L N F γ C e ah ts w) (hd : ∀ x, d = some x → x < N) (hc : carg0 c = some c') (ha : carg P ty a = some a') (hb : carg P ty b = some b')
    (hev : aev L ⟨d, .pick c' a' b', none⟩ e ah = some (e', ah')) : Done m P L N F γ C ⟨d, .pick c a b, ty, pos, af, g⟩ ts ds w e' ah' := by
  have h1 := arg0_ok (ds := ds) h hc
  simp only [aev] at hev
  split at hev <;> simp only [Option.some.injEq, Prod.mk.injEq, reduceCtorEq] at hev
  rename_i t he
  obtain ⟨rfl, rfl⟩ := hev
  rw [he] at h1
  have hbv : Act.eval ⟨ts, ds⟩ c = .bool t := h1.1.bool_inv
  have ha2 := arg_ok (ds := ds) h ha
  have hb2 := arg_ok (ds := ds) h hb
  cases t with
  | true =>
    refine Done.plain h hd (v := Act.eval ⟨ts, ds⟩ a) (fun w _ => by simp [execOp, hbv, asBool]) ?_ ?_ ?_
    · exact (Wk.sh _).vr ha2.1
    · exact (Wk.sh _).tc ha2.2
    · exact sh_plain _
  | false =>
    refine Done.plain h hd (v := Act.eval ⟨ts, ds⟩ b) (fun w _ => by simp [execOp, hbv, asBool]) ?_ ?_ ?_
    · exact (Wk.sh _).vr hb2.1
    · exact (Wk.sh _).tc hb2.2
    · exact sh_plain _

theorem op_nck {x : Operand} {x' : Ar} (h : SR L N F γ C e ah ts w) (hd : ∀ x, d = some x → x < N) (hc : carg0 x = some x')
    (hev : aev L ⟨d, .nck x', none⟩ e ah = some (e', ah')) : Done m P L N F γ C ⟨d, .nilCheck x, ty, pos, af, g⟩ ts ds w e' ah' := by
  have h1 := arg0_ok (ds := ds) h hc
  simp only [aev] at hev
  split at hev <;> simp only [Option.some.injEq, Prod.mk.injEq, reduceCtorEq] at hev
  · rename_i s p he
    obtain ⟨rfl, rfl⟩ := hev
    rw [he] at h1
    obtain ⟨b, hb, hv⟩ := h1.1.ptr_inv
    exact Done.plain h hd (fun w _ => by simp [execOp, hv]) (.ptr _ _ _ _ hb) trivial rfl
  · rename_i a p he
    obtain ⟨rfl, rfl⟩ := hev
    rw [he] at h1
    obtain ⟨b, q, hv, hb, hq⟩ := h1.1.ep_inv
    exact Done.plain h hd (fun w _ => by simp [execOp, hv]) (.ep _ _ _ _ _ hb hq) trivial rfl

theorem add_eq (b o q : Nat) : (Addr.add ⟨b, o, none⟩ q) = ⟨b, o + q, none⟩ := by
  unfold Addr.add; split
  · rename_i h; subst h; rfl
  · rfl

theorem op_fld {t : TypeId} {x : Operand} {f : Nat} {x' : Ar} {fd : Field} (h : SR L N F γ C e ah ts w) (hd : ∀ x, d = some x → x < N) (hc : carg0 x = some x') (hf : tfd P t f = some fd)
    (hs : tsz P fd.type ≠ 0)
    (hev : aev L ⟨d, .fld x' fd.offset, none⟩ e ah = some (e', ah')) : Done m P L N F γ C ⟨d, .fieldAddr t x f, ty, pos, af, g⟩ ts ds w e' ah' := by
  have h1 := arg0_ok (ds := ds) h hc
  have hsz : (P.info? fd.type).isSome = true := by
    cases hi : P.info? fd.type with
    | none => simp [tsz, hi] at hs
    | some i => rfl
  unfold tfd at hf
  split at hf
  case h_2 => cases hf
  rename_i fs hu
  have hrun : ∀ (w : World) b o, (Instr.fieldAt t (.pointer (some ⟨b, o, none⟩)) f).run P w = .ok (.pointer (some ⟨b, o + fd.offset, none⟩)) w := by
    intro w b o
    simp [Instr.fieldAt, run_und hu, hf, Instr.sureAddr, fieldPlace, run_size hsz, hs, add_eq]
  simp only [aev] at hev
  split at hev <;> simp only [Option.some.injEq, Prod.mk.injEq, reduceCtorEq] at hev
  · rename_i s p he
    obtain ⟨rfl, rfl⟩ := hev
    rw [he] at h1
    obtain ⟨b, hb, hv⟩ := h1.1.ptr_inv
    exact Done.plain h hd (fun w _ => by simp [execOp, hv, hrun]) (.ptr _ _ _ _ hb) trivial rfl
  · rename_i a p he
    obtain ⟨rfl, rfl⟩ := hev
    rw [he] at h1
    obtain ⟨b, q, hv, hb, hq⟩ := h1.1.ep_inv
    exact Done.plain h hd (v := .pointer (some ⟨b, q + (p + fd.offset), none⟩)) (fun w _ => by simp [execOp, hv, hrun, Nat.add_assoc]) (.ep _ _ _ _ _ hb hq) trivial rfl
end
end Go.Am
