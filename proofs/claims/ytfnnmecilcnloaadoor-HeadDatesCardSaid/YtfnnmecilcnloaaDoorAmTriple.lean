import Derived.Test.YtfnnmecilcnloaaDoorAmCode
import Derived.Scope
import Derived.Lib.SlBytesConst
import Derived.Deep.LoopGhost
set_option linter.unusedSimpArgs false
set_option linter.unusedVariables false
set_option linter.unusedSectionVars false
set_option linter.defProp false
namespace Go.Am
open Go
variable [Tabs]

/-- one operation -/
def opW (P : Program) (L : List Nat) (o : AOper) (e : Env) (ah : AH) (K : Env → AH → Prop) : Prop :=
  match o.op with
  | .call f as =>
    match ev e f with
    | .fn f caps => allFlat caps = true ∧ ACalls P f (as.map (fun x => (ev e x).sh) ++ caps.map AV.s1) ah fun r ah' => K (putv L (unC e) o.d r.df) ah'
    | _ => False
  | .appo k b x y => appoW L o.d k b x y e ah K
  | .nq n x => nqW L o.d n x e ah K
  | _ => match aev L o e ah with
    | some (e', ah') => K e' ah'
    | none => False

def drop? (e : Env) : Option Nat → Env
  | some d => put e d (.tup [])
  | none => e

def opsW (P : Program) (L : List Nat) : List AOper → Env → AH → (Env → AH → Prop) → Prop
  | [], e, ah, K => K e ah
  | o :: r, e, ah, K => match guardOk e o with
    | some true => opW P L o e ah fun e ah => opsW P L r e ah K
    | some false => opsW P L r (drop? e o.d) ah K
    | none => False

/-- every temporary that is written is one of the frame's -/
def dOk (N : Nat) : List AOper → Bool
  | [] => true
  | o :: r => (match o.d with | some d => decide (d < N) | none => true) && (match o.op with | .lit y _ => decide (y < N) | _ => true) && dOk N r

theorem dOk_er (N : Nat) : ∀ as : List AOper, dOk N (as.map AOper.er) = dOk N as := by
  intro as
  induction as with
  | nil => rfl
  | cons o r ih =>
    obtain ⟨d, op, g⟩ := o
    simp only [List.map_cons, dOk, ih, AOper.er]
    cases op <;> rfl

def NG : Exit → Prop
  | .goto _ => False
  | _ => True

/-- whatever a stretch of code does from such a state -/
def AW (P : Program) (L : List Nat) (N n0 : Nat) (c : Code) (Q : Exit → Env → AH → Prop) (e : Env) (ah : AH) : Prop :=
  ∀ (F : Nat → Prop) (γ : List Nat) (C : Nat → List Value) (ts : Array Value) (w : World), SR L N F γ C e ah ts w → n0 ≤ γ.length →
    c.wp P (fun x a' w' => a'.defers = [] ∧ NG x ∧ ∃ e' ah' γ' C', Q x e' ah' ∧ γ.take n0 <+: γ' ∧ SR L N F γ' C' e' ah' a'.tmps w' ∧ Ext F C w C' w') ⟨ts, []⟩ w

section
variable {P : Program} {L : List Nat} {N n0 : Nat} {F : Nat → Prop} {γ : List Nat} {C C' : Nat → List Value} {e : Env} {ah : AH} {ts : Array Value} {w w' : World}
variable {e' : Env} {ah' : AH}

theorem take_pre {γ γ' : List Nat} {n : Nat} (h : γ <+: γ') : γ.take n <+: γ' := (List.take_prefix n γ).trans h
theorem take_take_pre {γ γ' γ'' : List Nat} {n : Nat} (h0 : n ≤ γ.length) (h : γ.take n <+: γ') (h' : γ'.take n <+: γ'') : γ.take n <+: γ'' := by
  obtain ⟨r, rfl⟩ := h
  have : (γ.take n ++ r).take n = γ.take n := by
    rw [List.take_append_of_le_length (by simp; omega), List.take_take, Nat.min_self]
  rwa [this] at h'
theorem pre_len {γ γ' : List Nat} {n : Nat} (h0 : n ≤ γ.length) (h : γ.take n <+: γ') : n ≤ γ'.length := by
  have := h.length_le; simp at this; omega

theorem AW.mono {c : Code} {Q Q' : Exit → Env → AH → Prop} (h : AW P L N n0 c Q e ah) (hq : ∀ x e ah, Q x e ah → Q' x e ah) : AW P L N n0 c Q' e ah :=
  fun F γ C ts w hs hn => wp_mono (h F γ C ts w hs hn) fun _ _ _ ⟨hd, hg, e', ah', γ', C', h1, h2⟩ => ⟨hd, hg, e', ah', γ', C', hq _ _ _ h1, h2⟩

theorem AW.skip {Q : Exit → Env → AH → Prop} (h : Q .normal e ah) : AW P L N n0 .skip Q e ah :=
  fun F γ C ts w hs hn => wp_skip ⟨rfl, trivial, e, ah, γ, C, h, List.take_prefix _ _, hs, Ext.refl ..⟩
theorem AW.label {Q : Exit → Env → AH → Prop} {l : Nat} (h : Q .normal e ah) : AW P L N n0 (.label l) Q e ah :=
  fun F γ C ts w hs hn => wp_label ⟨rfl, trivial, e, ah, γ, C, h, List.take_prefix _ _, hs, Ext.refl ..⟩
theorem AW.ret {Q : Exit → Env → AH → Prop} (h : Q .ret e ah) : AW P L N n0 .ret Q e ah :=
  fun F γ C ts w hs hn => wp_ret ⟨rfl, trivial, e, ah, γ, C, h, List.take_prefix _ _, hs, Ext.refl ..⟩
theorem AW.exit {Q : Exit → Env → AH → Prop} {i : Nat} (h : Q (.exit i) e ah) : AW P L N n0 (.exit i) Q e ah :=
  fun F γ C ts w hs hn => wp_exit ⟨rfl, trivial, e, ah, γ, C, h, List.take_prefix _ _, hs, Ext.refl ..⟩

theorem AW.seq {a b : Code} {Q : Exit → Env → AH → Prop} (h : AW P L N n0 a (fun x e ah => match x with | .normal => AW P L N n0 b Q e ah | x => Q x e ah) e ah) : AW P L N n0 (.seq a b) Q e ah := by
  intro F γ C ts w hs hn
  refine wp_seq (wp_mono (h F γ C ts w hs hn) ?_)
  rintro x ⟨ts', ds'⟩ w' ⟨rfl, hg, e', ah', γ', C', h1, h2, h3, h4⟩
  cases x with
  | normal =>
    refine wp_mono (h1 F γ' C' ts' w' h3 (pre_len hn h2)) ?_
    rintro x ⟨ts2, ds2⟩ w2 ⟨rfl, hg, e2, ah2, γ2, C2, g1, g2, g3, g4⟩
    exact ⟨rfl, hg, e2, ah2, γ2, C2, g1, take_take_pre hn h2 g2, g3, h4.trans g4⟩
  | _ => exact ⟨rfl, hg, e', ah', γ', C', h1, h2, h3, h4⟩

theorem AW.cond {c : Operand} {c' : Ar} {a b : Code} {t : Bool} {Q : Exit → Env → AH → Prop} (hc : carg0 c = some c') (ht : ev e c' = .bool t) (h : AW P L N n0 (if t then a else b) Q e ah) :
    AW P L N n0 (.cond c a b) Q e ah := by
  intro F γ C ts w hs hn
  have := (arg0_ok (ds := []) hs hc).1
  rw [ht] at this
  exact wp_cond (t := t) this.bool_inv (h F γ C ts w hs hn)

theorem AW.blk {c : Code} {i : Nat} {Q : Exit → Env → AH → Prop} (h : AW P L N n0 c (fun x e ah => match x with | .exit j => if j = i then Q .normal e ah else Q (.exit j) e ah | x => Q x e ah) e ah) :
    AW P L N n0 (.block i c) Q e ah := by
  intro F γ C ts w hs hn
  refine wp_block (wp_mono (h F γ C ts w hs hn) ?_)
  rintro x a w' ⟨hd, hg, e', ah', γ', C', h1, h2⟩
  cases x with
  | exit j =>
    simp only [Exit.inBlock] at h1 ⊢
    by_cases hj : j = i
    · rw [if_pos hj] at h1 ⊢; exact ⟨hd, trivial, e', ah', γ', C', h1, h2⟩
    · rw [if_neg hj] at h1 ⊢; exact ⟨hd, trivial, e', ah', γ', C', h1, h2⟩
  | _ => exact ⟨hd, hg, e', ah', γ', C', h1, h2⟩

/-- a loop: an invariant that bears a number, which every round lowers -/
theorem AW.loop {c : Code} {Q : Exit → Env → AH → Prop} (I : Nat → Env → AH → Prop) {k0 : Nat}
    (round : ∀ k e ah, I k e ah → AW P L N n0 c (fun x e' ah' => match x with | .normal => ∃ k', k' < k ∧ I k' e' ah' | x => Q x e' ah') e ah) (h0 : I k0 e ah) : AW P L N n0 (.loop c) Q e ah := by
  intro F γ C ts w hs hn
  refine wp_loop_ghost (fun k a w' => a.defers = [] ∧ ∃ e' ah' γ' C', I k e' ah' ∧ γ.take n0 <+: γ' ∧ SR L N F γ' C' e' ah' a.tmps w' ∧ Ext F C w C' w') k0
    ⟨rfl, e, ah, γ, C, h0, List.take_prefix _ _, hs, Ext.refl ..⟩ ?_
  rintro k ⟨ts1, ds1⟩ w1 ⟨rfl, e1, ah1, γ1, C1, h1, h2, h3, h4⟩
  refine wp_mono (round k e1 ah1 h1 F γ1 C1 ts1 w1 h3 (pre_len hn h2)) ?_
  rintro x ⟨ts2, ds2⟩ w2 ⟨rfl, hg, e2, ah2, γ2, C2, g1, g2, g3, g4⟩
  cases x with
  | normal => obtain ⟨k', hk', hI⟩ := g1; exact ⟨k', hk', rfl, e2, ah2, γ2, C2, hI, take_take_pre hn h2 g2, g3, h4.trans g4⟩
  | _ => exact ⟨rfl, hg, e2, ah2, γ2, C2, g1, take_take_pre hn h2 g2, g3, h4.trans g4⟩

theorem AW.scope {c : Code} {Q : Exit → Env → AH → Prop} (h : AW P L N n0 c Q e ah) : AW P L N n0 (.scope c) Q e ah :=
  fun F γ C ts w hs hn => wp_scope_straight (wp_mono (h F γ C ts w hs hn) fun x _ _ h => by cases x <;> first | exact h | exact h.2.1.elim)

/-- less is known -/
theorem AW.weak {c : Code} {Q : Exit → Env → AH → Prop} {e1 : Env} (hw : ∀ t, Wk (get e t) (get e1 t)) (h : AW P L N n0 c Q e1 ah) : AW P L N n0 c Q e ah :=
  fun F γ C ts w hs hn => h F γ C ts w (hs.wk hw) hn

/-! ### a region in the order of the text -/
theorem guard_ok {ops : Array Oper} {o : Oper} {g : Option (Nat × Bool)} {d : Option Nat} {op : AOp} {b : Bool} (h : SR L N F γ C e ah ts w) (hg : cguard ops o.guard = some g) (hb : guardOk e ⟨d, op, g⟩ = some b) :
    Region.wanted o (yielded ops ts) = b := by
  unfold Region.wanted
  cases ho : o.guard with
  | none =>
    rw [ho] at hg
    simp only [cguard, Option.some.injEq] at hg
    subst hg
    simp only [guardOk, Option.some.injEq] at hb
    exact hb
  | some jw =>
    obtain ⟨j, want⟩ := jw
    rw [ho] at hg
    simp only [cguard, Option.map_eq_some_iff] at hg
    obtain ⟨t, ht, rfl⟩ := hg
    simp only [guardOk] at hb
    split at hb
    · rename_i b' he
      have hv := (h.env t).1
      rw [he] at hv
      have hv := hv.bool_inv
      have hy : yielded ops ts j = some b' := by
        unfold yielded
        rw [ht]
        simp only [Option.bind_some]
        have : ts[t]? = some (.bool b') := by
          rw [Array.getD_eq_getD_getElem?] at hv
          cases hq : ts[t]? with
          | none => rw [hq] at hv; simp [undef] at hv
          | some v => rw [hq] at hv; simp at hv; rw [hv]
        rw [this]
      simp only [hy]
      simp only [Option.some.injEq] at hb
      rw [← hb]
      simp
    · rename_i he
      have hv := (h.env t).1
      rw [he] at hv
      obtain ⟨vs, hv, -⟩ := hv.tup_inv
      have hy : yielded ops ts j = none := by
        unfold yielded
        rw [ht]
        simp only [Option.bind_some]
        rw [Array.getD_eq_getD_getElem?] at hv
        cases hq : ts[t]? with
        | none => rfl
        | some v => rw [hq] at hv; simp at hv; rw [hv]
      simp only [hy]
      simp only [Option.some.injEq] at hb
      exact hb
    · cases hb
    · cases hb

theorem cargs_ok (h : SR L N F γ C e ah ts w) : ∀ (tys : List TypeId) (l : List Operand) (as : List Ar), cargs P tys l = some as → as.length = l.length ∧
    ∀ (i : Nat) (x : Operand) (a : Ar), l[i]? = some x → as[i]? = some a → VR C γ (ev e a) (Act.eval ⟨ts, []⟩ x) ∧ TC w C (ev e a) (Act.eval ⟨ts, []⟩ x) := by
  intro tys l
  induction l generalizing tys with
  | nil => intro as hc; cases tys <;> (simp [cargs] at hc; subst hc; simp)
  | cons x r ih =>
    intro as hc
    cases tys with
    | nil => simp [cargs] at hc
    | cons t tys =>
      simp only [cargs] at hc
      split at hc
      case h_2 => cases hc
      rename_i a as' ha has
      simp only [Option.some.injEq] at hc
      subst hc
      obtain ⟨h1, h2⟩ := ih tys as' has
      refine ⟨by simp [h1], fun j y b hy hb => ?_⟩
      cases j with
      | zero => simp at hy hb; subst hy; subst hb; exact arg_ok h ha
      | succ j => exact h2 j y b (by simpa using hy) (by simpa using hb)

theorem exec_call {f : Nat} (hf : callable P f = true) {d : Option Nat} {x : Operand} {args : Array Operand} {tys : Array TypeId} {ty : TypeId} {pos : String} {af : Array Edge} {g : Option (Nat × Bool)} {caps : Array Value} {ρ : Operand → Value}
    (hx : ρ x = .func (.func f) #[] caps) :
    (execOp ρ ⟨d, .call { callee := .value x, args := args, argTypes := tys }, ty, pos, af, g⟩).run P w = .ok (.enter f (args.map ρ ++ caps)) w := by
  unfold callable at hf
  split at hf
  case h_2 => cases hf
  rename_i fn hfn
  simp only [Bool.and_eq_true, bne_iff_ne] at hf
  obtain ⟨h1, h2⟩ := hf
  have h3 : fn.body.isNone = false := by cases hb : fn.body <;> simp_all
  have h4 : (fn.name == "runtime.NumGoroutine") = false := by simpa using h2
  have h5 : fn.body ≠ none := by intro h0; rw [h0] at h1; cases h1
  simp [execOp, resolve, Deferred.ofValue, hx, invoke, callFunc, program, Sem.run, hfn, h2, h5]

theorem cop_call {o : Oper} {f : Ar} {cas : List Ar} (hop : cop P o = some (.call f cas)) :
    ∃ x args tys, o = ⟨o.dst, .call { callee := .value x, args := args, argTypes := tys }, o.type, o.pos, o.after, o.guard⟩ ∧ carg0 x = some f ∧ cargs P tys.toList args.toList = some cas := by
  obtain ⟨d, oo, ty, pos, af, gd⟩ := o
  cases oo with
  | call c =>
    obtain ⟨callee, args, tys⟩ := c
    simp only [cop] at hop
    split at hop
    · split at hop <;> simp at hop
    · split at hop
      · split at hop
        · simp at hop
        · cases hop
      · cases hop
    · split at hop
      · split at hop
        · simp at hop
        · cases hop
      · cases hop
    · split at hop
      · split at hop
        · split at hop <;> simp at hop
        · split at hop <;> simp at hop
        · cases hop
      · cases hop
    · rename_i x
      split at hop
      · rename_i f2 as2 h1 h2
        injection hop with hop
        injection hop with e1 e2
        subst e1; subst e2
        exact ⟨x, args, tys, rfl, h1, h2⟩
      · cases hop
    · cases hop
  | makeFunc fn first cs =>
    cases fn with
    | func f => simp only [cop] at hop; split at hop <;> simp at hop
    | _ => simp [cop] at hop
  | _ =>
    exfalso
    simp only [cop] at hop
    first
      | cases hop; done
      | (simp at hop; done)
      | (repeat' (split at hop)) <;> (first | (cases hop; done) | (simp at hop; done))

theorem call_args (hs : SR L N F γ C e ah ts w) {cas : List Ar} {caps : List AV} {args : Array Operand} {vs : Array Value} (hfl : allFlat caps = true) (hcl : caps.length = vs.size)
    (hcv : ∀ (i : Nat) (a : AV), caps[i]? = some a → VR C γ a (vs.getD i undef)) (c1 : cas.length = args.toList.length)
    (c2 : ∀ (i : Nat) (x : Operand) (a : Ar), args.toList[i]? = some x → cas[i]? = some a → VR C γ (ev e a) (Act.eval ⟨ts, []⟩ x) ∧ TC w C (ev e a) (Act.eval ⟨ts, []⟩ x)) :
    ∀ (i : Nat) (a : AV), (cas.map (fun x => (ev e x).sh) ++ caps.map AV.s1)[i]? = some a →
      VR C γ a ((args.map (Act.eval ⟨ts, []⟩) ++ vs).getD i undef) ∧ TC w C a ((args.map (Act.eval ⟨ts, []⟩) ++ vs).getD i undef) ∧ a.plain = true := by
  intro i a hi
  by_cases hlt : i < cas.length
  · rw [List.getElem?_append_left (by simpa using hlt), List.getElem?_map, List.getElem?_eq_getElem hlt] at hi
    obtain rfl : (ev e cas[i]).sh = a := by simpa using hi
    have hlt2 : i < args.toList.length := by omega
    have := c2 i _ _ (List.getElem?_eq_getElem hlt2) (List.getElem?_eq_getElem hlt)
    have hgd : (args.map (Act.eval ⟨ts, []⟩) ++ vs).getD i undef = Act.eval ⟨ts, []⟩ args.toList[i] := by
      rw [Array.length_toList] at hlt2
      simp [Array.getD_eq_getD_getElem?, Array.getElem?_append, hlt2]
    rw [hgd]
    exact ⟨(Wk.sh _).vr this.1, (Wk.sh _).tc this.2, sh_plain _⟩
  · rw [List.getElem?_append_right (by simpa using hlt), List.getElem?_map] at hi
    simp only [List.length_map] at hi
    cases hq2 : caps[i - cas.length]? with
    | none => rw [hq2] at hi; simp at hi
    | some b =>
      rw [hq2] at hi
      obtain rfl : b.s1 = a := by simpa using hi
      have hgd : (args.map (Act.eval ⟨ts, []⟩) ++ vs).getD i undef = vs.getD (i - cas.length) undef := by
        have c1' : cas.length = args.size := by simpa using c1
        simp only [Array.getD_eq_getD_getElem?]
        rw [Array.getElem?_append_right (by simp; omega)]
        simp [c1']
      rw [hgd]
      exact ⟨(Wk.of_or (Wk.s1 _)).vr (hcv _ _ hq2), s1_tc b (allFlat_get hfl hq2) _, s1_plain b⟩

theorem copB_or {o : Oper} {a : AOp} (h : copB P o = some a) : cop P o = some a ∨ a = .bad := by
  unfold copB at h
  cases hc : cop P o with
  | none => rw [hc] at h; injection h with h; exact .inr h.symm
  | some b => rw [hc] at h; exact .inl h
theorem er_bad {op : AOp} (h : op.er = .bad) : op = .bad := by cases op <;> first | rfl | cases h
theorem cops_cases {ops : Array Oper} {l : List Oper} {as : List AOper} (h : cops P ops l = some as) : (l = [] ∧ as = []) ∨
    (∃ o o2 r a as', l = o :: o2 :: r ∧ litOf P o o2 = some a ∧ cops P ops r = some as' ∧ as = a :: as') ∨
    (∃ o o2 r ag as', l = o :: o2 :: r ∧ litG P ops o o2 = some ag ∧ cops P ops r = some as' ∧ as = ag ++ as') ∨
    ∃ o r op g as', l = o :: r ∧ (cop P o = some op ∨ op = .bad) ∧ cguard ops o.guard = some g ∧ cops P ops r = some as' ∧ as = ⟨o.dst, op, g⟩ :: as' := by
  cases l with
  | nil => simp only [cops, Option.some.injEq] at h; exact .inl ⟨rfl, h.symm⟩
  | cons o r =>
    cases r with
    | nil =>
      simp only [cops] at h
      split at h
      case h_2 => cases h
      rename_i a g h1 h2
      injection h with h
      exact .inr (.inr (.inr ⟨o, [], a, g, [], rfl, copB_or h1, h2, rfl, h.symm⟩))
    | cons o2 r =>
      rw [cops] at h
      split at h
      · rename_i a ha
        simp only [Option.map_eq_some_iff] at h
        obtain ⟨as', h1, rfl⟩ := h
        exact .inr (.inl ⟨o, o2, r, a, as', rfl, ha, h1, rfl⟩)
      · split at h
        · rename_i ag hag
          simp only [Option.map_eq_some_iff] at h
          obtain ⟨as', h1, rfl⟩ := h
          exact .inr (.inr (.inl ⟨o, o2, r, ag, as', rfl, hag, h1, rfl⟩))
        · split at h
          case h_2 => cases h
          rename_i a g as' h1 h2 h3
          injection h with h
          exact .inr (.inr (.inr ⟨o, o2 :: r, a, g, as', rfl, copB_or h1, h2, h3, h.symm⟩))

theorem er_lit {a b : AOper} {y : Nat} {bs : List UInt8} (h : a.er = b) (hb : b.op = .lit y bs) : a = b := by
  obtain ⟨d, op, g⟩ := a
  subst h
  cases op <;> first | rfl | (simp [AOper.er, AOp.er] at hb)
theorem litOf_lit {o o2 : Oper} {a : AOper} (h : litOf P o o2 = some a) : ∃ y bs, a.op = .lit y bs := by
  unfold litOf at h
  split at h
  case h_2 => cases h
  split at h
  case isFalse => cases h
  split at h
  case h_2 => cases h
  split at h
  case h_2 => cases h
  split at h
  case isFalse => cases h
  split at h
  case h_2 => cases h
  simp only [Option.map_eq_some_iff] at h
  obtain ⟨bs, -, rfl⟩ := h
  exact ⟨_, _, rfl⟩
theorem litG_inv {ops : Array Oper} {o o2 : Oper} {ag : List AOper} (h : litG P ops o o2 = some ag) : ∃ d y bs t w g, ag = [⟨some y, .mv (.c .un), some (t, w)⟩, ⟨d, .lit y bs, some (t, w)⟩] ∧ t ≠ y ∧
    litOf P (bare o) (bare o2) = some ⟨d, .lit y bs, g⟩ ∧ cguard ops o.guard = some (some (t, w)) ∧ cguard ops o2.guard = some (some (t, w)) := by
  unfold litG at h
  split at h
  case isFalse => cases h
  rename_i hg
  split at h
  case h_2 => cases h
  rename_i x t w d y bs g h1 h2 h3
  split at h
  · cases h
  · rename_i hty
    injection h with h
    exact ⟨d, y, bs, t, w, g, h.symm, hty, h3, h2, by rw [← hg]; exact h2⟩
theorem er_mv {a b : AOper} {x : Ar} (h : a.er = b) (hb : b.op = .mv x) : a = b := by
  obtain ⟨d, op, g⟩ := a
  subst h
  cases op <;> first | rfl | (simp [AOper.er, AOp.er] at hb)
theorem cops_casesE {ops : Array Oper} {l : List Oper} {as : List AOper} (h : cops P ops l = some (as.map AOper.er)) : (l = [] ∧ as = []) ∨
    (∃ o o2 r a as', l = o :: o2 :: r ∧ litOf P o o2 = some a ∧ cops P ops r = some (as'.map AOper.er) ∧ as = a :: as') ∨
    (∃ o o2 r ag as', l = o :: o2 :: r ∧ litG P ops o o2 = some ag ∧ cops P ops r = some (as'.map AOper.er) ∧ as = ag ++ as') ∨
    ∃ o r op g as', l = o :: r ∧ (cop P o = some op.er ∨ op = .bad) ∧ cguard ops o.guard = some g ∧ cops P ops r = some (as'.map AOper.er) ∧ as = ⟨o.dst, op, g⟩ :: as' := by
  rcases cops_cases h with ⟨h1, h2⟩ | ⟨o, o2, r, a, as', h1, h2, h3, h4⟩ | ⟨o, o2, r, ag, as', h1, h2, h3, h4⟩ | ⟨o, r, op, g, as', h1, h2, h3, h4, h5⟩
  · exact .inl ⟨h1, by simpa using h2⟩
  · cases as with
    | nil => simp at h4
    | cons x xs =>
      simp only [List.map_cons, List.cons.injEq] at h4
      obtain ⟨y, bs, hl⟩ := litOf_lit h2
      have := er_lit h4.1 hl
      subst this
      exact .inr (.inl ⟨o, o2, r, x, xs, h1, h2, by rw [h3, h4.2], rfl⟩)
  · obtain ⟨d, y, bs, t, w, g, rfl, -⟩ := litG_inv h2
    cases as with
    | nil => simp at h4
    | cons x xs =>
      cases xs with
      | nil => simp at h4
      | cons x2 xs =>
        simp only [List.map_cons, List.cons_append, List.nil_append, List.cons.injEq] at h4
        have e1 := er_mv h4.1 rfl
        have e2 := er_lit h4.2.1 rfl
        subst e1; subst e2
        exact .inr (.inr (.inl ⟨o, o2, r, _, xs, h1, h2, by rw [h3, h4.2.2], rfl⟩))
  · cases as with
    | nil => simp at h5
    | cons x xs =>
      simp only [List.map_cons, List.cons.injEq] at h5
      obtain ⟨d, op', g'⟩ := x
      obtain ⟨h6, h7⟩ := h5
      simp only [AOper.er] at h6
      injection h6 with e1 e2 e3
      subst e1; subst e2; subst e3
      exact .inr (.inr (.inr ⟨o, r, op', g', xs, h1, h2.imp id er_bad, h3, by rw [h4, h7], rfl⟩))

/-- a constant's bytes -/
theorem lit_okG {ops : Array Oper} {o o2 : Oper} {l : List Oper} {a : AOper} {as : List AOper} {K : Env → AH → Prop} {Q : Exit → Act → World → Prop} (hlit : litOf P (bare o) (bare o2) = some a)
    (hw1 : Region.wanted o (yielded ops ts) = true) (hw2 : ∀ y bs v, a.op = .lit y bs → Region.wanted o2 (yielded ops ((⟨ts, []⟩ : Act).put (some y) v).tmps) = true) (hd : dOk N (a :: as) = true)
    (hs : SR L N F γ C e ah ts w) (hk : opsW P L (a :: as) e ah K)
    (next : ∀ e1 ah1 C1 ts1 w1, opsW P L as e1 ah1 K → dOk N as = true → SR L N F γ C1 e1 ah1 ts1 w1 → Ext F C w C1 w1 → wpList P ops Q l ⟨ts1, []⟩ w1) : wpList P ops Q (o :: o2 :: l) ⟨ts, []⟩ w := by
  obtain ⟨d1, op1, ty1, pos1, af1, g1⟩ := o
  obtain ⟨d2, op2, ty2, pos2, af2, g2⟩ := o2
  unfold litOf bare at hlit
  split at hlit
  case h_2 => cases hlit
  rename_i t n parts s d x y h1 h2 h3
  simp only at h1 h2 h3
  subst h1; subst h2; subst h3
  split at hlit
  case isFalse => cases hlit
  rename_i hcs
  obtain ⟨rfl, rfl, rfl, hg1, hg2, hyd, hn, hn2⟩ := hcs
  split at hlit
  case h_2 => cases hlit
  rename_i el hel
  split at hlit
  case h_2 => cases hlit
  rename_i hu8
  split at hlit
  case isFalse => cases hlit
  rename_i hsz
  split at hlit
  case h_2 => cases hlit
  rename_i cas hcas
  simp only [Option.map_eq_some_iff] at hlit
  obtain ⟨bs, hbs, rfl⟩ := hlit
  have hw2 := fun v => hw2 _ _ v rfl
  simp only [dOk, Bool.and_eq_true] at hd
  obtain ⟨⟨hd1, hd2⟩, hd3⟩ := hd
  have hy : x < N := by simpa using hd2
  have hdst : ∀ z, d2 = some z → z < N := by
    intro z hz
    rw [hz] at hd1
    simpa using hd1
  simp only [opsW, guardOk, opW, aev] at hk
  have ht : P.underlying d = some (.slice el) := by
    unfold tel at hel
    split at hel
    · rename_i h; injection hel with hel; subst hel; exact h
    · cases hel
  obtain ⟨q1, q2⟩ := litB_ok hbs e
  obtain ⟨r, hrs, hrun, key⟩ := bsl_core (ds := []) (d := d2) hs hdst ht hn (by rw [hsz.1]; omega) hsz.2 hcas (by rw [hsz.1]; exact q2)
  obtain ⟨C', k1, k2⟩ := key (r.size, r.size + 1) (.inr rfl)
  rw [q1, hsz.1] at k1
  have k3 := k1.put0 (d := x) (a := .un) (v := .slice (some ⟨w.heap.size, 0, none⟩) n n) hy (.un ..) trivial rfl (by simp)
  unfold wpList
  rw [if_pos hw1]
  refine .inl ?_
  unfold Oper.wp
  have e1 : (execOp (Act.eval ⟨ts, []⟩) ⟨some x, .buildSlice d n parts, ty1, pos1, af1, g1⟩).run P w = .ok (.value (.slice (some ⟨w.heap.size, 0, none⟩) n n)) (w.alloc (.cells r el)) := by
    simp [execOp, hrun]
  rw [e1]
  simp only [Oper.upon]
  unfold wpList
  rw [if_pos (hw2 _)]
  refine .inl ?_
  unfold Oper.wp
  have hlt : x < ts.size := by rw [hs.sz]; exact hy
  have e2 : (execOp (Act.eval ((⟨ts, []⟩ : Act).put (some x) (.slice (some ⟨w.heap.size, 0, none⟩) n n))) ⟨d2, .convert d d (.tmp x), ty2, pos2, af2, g2⟩).run P (w.alloc (.cells r el)) = .ok (.value (.slice (some ⟨w.heap.size, 0, none⟩) n n)) (w.alloc (.cells r el (r.size, r.size + 1))) := by
    have hev : Act.eval ((⟨ts, []⟩ : Act).put (some x) (.slice (some ⟨w.heap.size, 0, none⟩) n n)) (.tmp x) = .slice (some ⟨w.heap.size, 0, none⟩) n n := by
      simp [Act.eval, Act.put, hlt]
    have := Lib.run_convert_bytes_const (P := P) w d el r n n ht hu8
    simp only [execOp, hev, Sem.run_bind, this, Result.andThen_ok, Sem.run_pure]
  rw [e2]
  simp only [Oper.upon]
  rw [← SR.put_comm_tmps ts [] hyd]
  have hput : (((⟨ts, []⟩ : Act).put d2 (.slice (some ⟨w.heap.size, 0, none⟩) n n)).put (some x) (.slice (some ⟨w.heap.size, 0, none⟩) n n)) =
      ⟨(((⟨ts, []⟩ : Act).put d2 (.slice (some ⟨w.heap.size, 0, none⟩) n n)).tmps).setIfInBounds x (.slice (some ⟨w.heap.size, 0, none⟩) n n), []⟩ := by
    cases d2 <;> rfl
  rw [hput]
  exact next _ _ C' _ _ hk hd3 k3 k2

theorem lit_ok {ops : Array Oper} {o o2 : Oper} {l : List Oper} {a : AOper} {as : List AOper} {K : Env → AH → Prop} {Q : Exit → Act → World → Prop} (hlit : litOf P o o2 = some a) (hd : dOk N (a :: as) = true)
    (hs : SR L N F γ C e ah ts w) (hk : opsW P L (a :: as) e ah K)
    (next : ∀ e1 ah1 C1 ts1 w1, opsW P L as e1 ah1 K → dOk N as = true → SR L N F γ C1 e1 ah1 ts1 w1 → Ext F C w C1 w1 → wpList P ops Q l ⟨ts1, []⟩ w1) : wpList P ops Q (o :: o2 :: l) ⟨ts, []⟩ w := by
  have hg : o.guard = none ∧ o2.guard = none := by
    unfold litOf at hlit
    split at hlit
    case h_2 => cases hlit
    split at hlit
    case isFalse => cases hlit
    rename_i hcs
    exact ⟨by simpa using hcs.2.2.2.1, by simpa using hcs.2.2.2.2.1⟩
  have e1 : bare o = o := by obtain ⟨d, op, ty, pos, af, g⟩ := o; simp only at hg; simp [bare, hg.1]
  have e2 : bare o2 = o2 := by obtain ⟨d, op, ty, pos, af, g⟩ := o2; simp only at hg; simp [bare, hg.2]
  exact lit_okG (by rw [e1, e2]; exact hlit) (by simp [Region.wanted, hg.1]) (fun _ _ _ _ => by simp [Region.wanted, hg.2]) hd hs hk next

theorem ops_okN {ops : Array Oper} : ∀ (n : Nat) (l : List Oper) (as : List AOper) (e : Env) (ah : AH) (K : Env → AH → Prop) (F : Nat → Prop) (γ : List Nat) (C : Nat → List Value) (ts : Array Value) (w : World)
    (Q : Exit → Act → World → Prop), l.length ≤ n → cops P ops l = some (as.map AOper.er) → dOk N as = true → SR L N F γ C e ah ts w → opsW P L as e ah K →
    (∀ e' ah' γ' C' ts' w', K e' ah' → γ <+: γ' → SR L N F γ' C' e' ah' ts' w' → Ext F C w C' w' → Q .normal ⟨ts', []⟩ w') → wpList P ops Q l ⟨ts, []⟩ w := by
  intro n
  induction n with
  | zero =>
    intro l as e ah K F γ C ts w Q hn hc hd hs hk hq
    obtain rfl : l = [] := List.eq_nil_of_length_eq_zero (by omega)
    simp only [cops, Option.some.injEq] at hc
    obtain rfl : as = [] := by simpa using hc.symm
    exact wpList_nil (hq e ah γ C ts w hk (List.prefix_refl _) hs (Ext.refl ..))
  | succ n ih =>
    intro l as e ah K F γ C ts w Q hn hc hd hs hk hq
    rcases cops_casesE hc with ⟨rfl, rfl⟩ | ⟨o, o2, l, a, as', rfl, hlit, has, rfl⟩ | ⟨o, o2, l, ag, as', rfl, hlit, has, rfl⟩ | ⟨o, l, op, g, as', rfl, hop, hg, has, rfl⟩
    · exact wpList_nil (hq e ah γ C ts w hk (List.prefix_refl _) hs (Ext.refl ..))
    · exact lit_ok hlit hd hs hk fun e1 ah1 C1 ts1 w1 hk1 hd1 hs1 hx1 => ih l as' e1 ah1 K F γ C1 ts1 w1 Q (by simp at hn; omega) has hd1 hs1 hk1
        fun e' ah' γ' C' ts' w' g1 g2 g3 g4 => hq e' ah' γ' C' ts' w' g1 g2 g3 (hx1.trans g4)
    · obtain ⟨d, y, bs, tg, want, g0, rfl, hty, hlo, hg1, hg2⟩ := litG_inv hlit
      have hd : dOk N [⟨some y, .mv (.c .un), some (tg, want)⟩, ⟨d, .lit y bs, some (tg, want)⟩] = true ∧ dOk N as' = true := by
        simp only [List.cons_append, List.nil_append, dOk, Bool.and_eq_true, Bool.and_true] at hd ⊢
        exact ⟨⟨hd.1, hd.2.1⟩, hd.2.2⟩
      have hyN : y < N := by
        have := hd.1
        simp only [dOk, Bool.and_eq_true] at this
        simpa using this.1.1
      have hsun : ∀ v, SR L N F γ C (put e y .un) ah (ts.setIfInBounds y v) w := fun v => hs.put0 hyN (.un ..) trivial rfl (by simp)
      have hge : ∀ a, get (put e y a) tg = get e tg := fun a => by rw [get_put, if_neg hty]
      have hgu : ∀ a (d d2 : Option Nat) (op op2 : AOp), guardOk (put e y a) ⟨d, op, some (tg, want)⟩ = guardOk e ⟨d2, op2, some (tg, want)⟩ := fun a _ _ _ _ => by simp only [guardOk, hge]
      rw [List.cons_append, List.cons_append, List.nil_append] at hk
      simp only [opsW] at hk
      split at hk
      · rename_i hgo
        have hw1 := guard_ok hs hg1 hgo
        have e0 : putv L e (some y) (cp L (.c .un) (ev e (.c .un))) = put e y .un := by
          simp only [ev, cp, putv]; split <;> rfl
        simp only [opW, aev] at hk
        rw [e0, hgu .un d (some y) (.lit y bs) (.mv (.c .un)), hgo] at hk
        simp only at hk
        have hk3 : opsW P L (⟨d, .lit y bs, g0⟩ :: as') (put e y .un) ah K := by
          have h0 : g0 = none := by
            unfold litOf at hlo
            split at hlo
            case h_2 => cases hlo
            split at hlo
            case isFalse => cases hlo
            split at hlo
            case h_2 => cases hlo
            split at hlo
            case h_2 => cases hlo
            split at hlo
            case isFalse => cases hlo
            split at hlo
            case h_2 => cases hlo
            simp only [Option.map_eq_some_iff] at hlo
            obtain ⟨_, -, hlo⟩ := hlo
            injection hlo with _ _ h3
            exact h3.symm
          subst h0
          exact hk
        refine lit_okG hlo hw1 (fun y' bs' v h => ?_) (by
            have h1 := hd.1
            simp only [dOk, Bool.and_eq_true] at h1 ⊢
            exact ⟨h1.2.1, hd.2⟩) (hs.weakPut (.un _)) hk3 fun e1 ah1 C1 ts1 w1 hk1 hd1 hs1 hx1 => ih l as' e1 ah1 K F γ C1 ts1 w1 Q (by simp at hn; omega) has hd1 hs1 hk1
          fun e' ah' γ' C' ts' w' g1 g2 g3 g4 => hq e' ah' γ' C' ts' w' g1 g2 g3 (hx1.trans g4)
        injection h with h1 h2
        subst h1
        exact guard_ok (hsun v) hg2 (d := d) (op := .lit y bs) ((hgu .un d (some y) (.lit y bs) (.mv (.c .un))).trans hgo)
      · rename_i hgo
        have hw1 := guard_ok hs hg1 hgo
        rw [show drop? e (some y) = put e y (.tup []) from rfl, hgu (.tup []) d (some y) (.lit y bs) (.mv (.c .un)), hgo] at hk
        simp only at hk
        obtain ⟨hdo, hdy⟩ : o.dst = some y ∧ o2.dst = d := by
          unfold litOf bare at hlo
          split at hlo
          case h_2 => cases hlo
          rename_i h1 h2 h3
          simp only at h3
          split at hlo
          case isFalse => cases hlo
          split at hlo
          case h_2 => cases hlo
          split at hlo
          case h_2 => cases hlo
          split at hlo
          case isFalse => cases hlo
          split at hlo
          case h_2 => cases hlo
          simp only [Option.map_eq_some_iff] at hlo
          obtain ⟨_, -, hlo⟩ := hlo
          injection hlo with q1 q2 _
          injection q2 with q2 _
          subst q2
          exact ⟨h3, q1⟩
        have hs1 : SR L N F γ C (put e y (.tup [])) ah (ts.setIfInBounds y undef) w := hs.put0 hyN (.tup _ [] #[] rfl (by simp)) (by simp [undef, TC]) rfl (by simp)
        unfold wpList
        rw [if_neg (by rw [hw1]; simp)]
        unfold wpList
        have hput1 : (⟨ts, []⟩ : Act).put o.dst undef = ⟨ts.setIfInBounds y undef, []⟩ := by rw [hdo]; rfl
        rw [hput1]
        have hw2 := guard_ok hs1 hg2 (d := d) (op := .lit y bs) ((hgu (.tup []) d (some y) (.lit y bs) (.mv (.c .un))).trans hgo)
        rw [if_neg (by show ¬ (Region.wanted o2 (yielded ops (ts.setIfInBounds y undef)) = true); rw [hw2]; simp)]
        have hput : (⟨ts.setIfInBounds y undef, []⟩ : Act).put o2.dst undef = ⟨((⟨ts.setIfInBounds y undef, []⟩ : Act).put o2.dst undef).tmps, []⟩ := by cases o2.dst <;> rfl
        rw [hput]
        refine ih l as' _ ah K F γ C _ w Q (by simp at hn; omega) has hd.2 ?_ hk hq
        rw [hdy]
        cases hdd : d with
        | none => exact hs1
        | some d' =>
          have hdN : d' < N := by
            have := hd.1
            simp only [dOk, Bool.and_eq_true, hdd] at this
            simpa using this.2.1.1
          exact hs1.put0 hdN (.tup _ [] #[] rfl (by simp)) (by simp [undef, TC]) rfl (by simp)
      · exact hk.elim
    have hn' : l.length ≤ n := by simp at hn; omega
    simp only [dOk, Bool.and_eq_true] at hd
    have hdst : ∀ x, o.dst = some x → x < N := by
      intro x hx
      have := hd.1.1
      rw [hx] at this
      simpa using this
    simp only [opsW] at hk
    split at hk
    · rename_i hgo
      have hw := guard_ok hs hg hgo
      unfold wpList
      rw [if_pos hw]
      refine .inl ?_
      rcases hop with hop | rfl
      case inr => exact hk.elim
      by_cases hcall : op.isCall = true
      · cases op with
        | call f cas =>
          simp only [opW] at hk
          split at hk
          case h_2 => exact hk.elim
          rename_i f' caps hfv
          obtain ⟨hfl, hk⟩ := hk
          obtain ⟨x, args, tys, ho, hx, hargs⟩ := cop_call hop
          have h1 := arg0_ok (ds := []) hs hx
          rw [hfv] at h1
          obtain ⟨vs, hfx, hcl, hcv⟩ := h1.1.fn_inv
          obtain ⟨c1, c2⟩ := cargs_ok hs _ _ _ hargs
          have hcallee := call_ok (d := o.dst) (ds := []) (vs := args.map (Act.eval ⟨ts, []⟩) ++ vs) hs hdst hk (by simp [c1, hcl]) (call_args hs hfl hcl hcv c1 c2)
          have hexec : (execOp (Act.eval ⟨ts, []⟩) o).run P w = .ok (.enter f' (args.map (Act.eval ⟨ts, []⟩) ++ vs)) w := by
            rw [ho]; exact exec_call hk.1 hfx
          unfold Oper.wp
          rw [hexec]
          simp only [Oper.upon]
          refine hcallee.mono ?_
          rintro en w1 ⟨r, v, ah1, γ1, C1, rfl, hR, hγ, hs1, hx1⟩
          have hput : (⟨ts, []⟩ : Act).put o.dst v = ⟨((⟨ts, []⟩ : Act).put o.dst v).tmps, []⟩ := by cases o.dst <;> rfl
          show wpList P ops Q l ((⟨ts, []⟩ : Act).put o.dst v) w1
          rw [hput]
          exact ih l as' _ ah1 K F γ1 C1 _ w1 Q hn' has hd.2 hs1 hR fun e' ah' γ' C' ts' w' g1 g2 g3 g4 => hq e' ah' γ' C' ts' w' g1 (hγ.trans g2) g3 (hx1.trans g4)
        | appo k b x y =>
          simp only [opW] at hk
          obtain ⟨e1, ah1, hk', v, w1, γ1, C1, hr, hγ, hs1, hx1, -, -⟩ := op_appoE (m := true) (ds := []) hs hdst (by simpa [copM] using hop) hk
          have next : wpList P ops Q l ((⟨ts, []⟩ : Act).put o.dst v) w1 := by
            have hput : (⟨ts, []⟩ : Act).put o.dst v = ⟨((⟨ts, []⟩ : Act).put o.dst v).tmps, []⟩ := by cases o.dst <;> rfl
            rw [hput]
            exact ih l as' e1 ah1 K F γ1 C1 _ w1 Q hn' has hd.2 hs1 hk' fun e' ah' γ' C' ts' w' g1 g2 g3 g4 => hq e' ah' γ' C' ts' w' g1 (hγ.trans g2) g3 (hx1.trans g4)
          unfold Oper.wp
          rcases hr with hr | ⟨hr, rfl⟩ <;> rw [hr] <;> exact next
        | nq n x =>
          simp only [opW] at hk
          obtain ⟨e1, ah1, hk', v, w1, γ1, C1, hr, hγ, hs1, hx1, -, -⟩ := op_nqE (m := true) (ds := []) hs hdst (by simpa [copM] using hop) hk
          have next : wpList P ops Q l ((⟨ts, []⟩ : Act).put o.dst v) w1 := by
            have hput : (⟨ts, []⟩ : Act).put o.dst v = ⟨((⟨ts, []⟩ : Act).put o.dst v).tmps, []⟩ := by cases o.dst <;> rfl
            rw [hput]
            exact ih l as' e1 ah1 K F γ1 C1 _ w1 Q hn' has hd.2 hs1 hk' fun e' ah' γ' C' ts' w' g1 g2 g3 g4 => hq e' ah' γ' C' ts' w' g1 (hγ.trans g2) g3 (hx1.trans g4)
          unfold Oper.wp
          rcases hr with hr | ⟨hr, rfl⟩ <;> rw [hr] <;> exact next
        | _ => cases hcall
      · have hcall' : op.isCall = false := by simpa using hcall
        have hk' : match aev L ⟨o.dst, op, g⟩ e ah with | some (e', ah') => opsW P L as' e' ah' K | none => False := by
          cases op <;> first | exact hk | cases hcall'
        rw [aev_g] at hk'
        cases hev : aev L ⟨o.dst, op, none⟩ e ah with
        | none => rw [hev] at hk'; exact hk'.elim
        | some ea =>
          obtain ⟨e1, ah1⟩ := ea
          rw [hev] at hk'
          obtain ⟨v, w1, γ1, C1, hr, hγ, hs1, hx1, -, -⟩ := op_okE (ds := []) hs hdst hop hcall' hev
          have next : wpList P ops Q l ((⟨ts, []⟩ : Act).put o.dst v) w1 := by
            have hput : (⟨ts, []⟩ : Act).put o.dst v = ⟨((⟨ts, []⟩ : Act).put o.dst v).tmps, []⟩ := by cases o.dst <;> rfl
            rw [hput]
            exact ih l as' e1 ah1 K F γ1 C1 _ w1 Q hn' has hd.2 hs1 hk' fun e' ah' γ' C' ts' w' g1 g2 g3 g4 => hq e' ah' γ' C' ts' w' g1 (hγ.trans g2) g3 (hx1.trans g4)
          unfold Oper.wp
          rcases hr with hr | ⟨hr, rfl⟩ <;> rw [hr] <;> exact next
    · rename_i hgo
      have hw := guard_ok hs hg hgo
      unfold wpList
      rw [if_neg (by rw [hw]; simp)]
      have hput : (⟨ts, []⟩ : Act).put o.dst undef = ⟨((⟨ts, []⟩ : Act).put o.dst undef).tmps, []⟩ := by cases o.dst <;> rfl
      rw [hput]
      refine ih l as' _ ah K F γ C _ w Q hn' has hd.2 ?_ hk hq
      cases ho : o.dst with
      | none => exact hs
      | some d => exact hs.put0 (hdst d ho) (.tup _ [] #[] rfl (by simp)) (by simp [undef, TC]) rfl (by simp)
    · exact hk.elim

theorem ops_ok {ops : Array Oper} (l : List Oper) (as : List AOper) (e : Env) (ah : AH) (K : Env → AH → Prop) (F : Nat → Prop) (γ : List Nat) (C : Nat → List Value) (ts : Array Value) (w : World)
    (Q : Exit → Act → World → Prop) (hc : cops P ops l = some (as.map AOper.er)) (hd : dOk N as = true) (hs : SR L N F γ C e ah ts w) (hk : opsW P L as e ah K)
    (hq : ∀ e' ah' γ' C' ts' w', K e' ah' → γ <+: γ' → SR L N F γ' C' e' ah' ts' w' → Ext F C w C' w' → Q .normal ⟨ts', []⟩ w') : wpList P ops Q l ⟨ts, []⟩ w :=
  ops_okN l.length l as e ah K F γ C ts w Q (Nat.le_refl _) hc hd hs hk hq
end
end Go.Am
