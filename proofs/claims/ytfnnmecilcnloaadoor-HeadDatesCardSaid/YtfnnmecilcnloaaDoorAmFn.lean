import Derived.Test.YtfnnmecilcnloaaDoorAmDraw
set_option linter.unusedSimpArgs false
set_option linter.unusedVariables false
set_option linter.unusedSectionVars false
set_option linter.defProp false
namespace Go.Am
open Go
variable [Tabs]

def cOk (N : Nat) : ACode → Bool
  | .rg ops => dOk N ops
  | .seq a b | .cond _ a b => cOk N a && cOk N b
  | .blk _ c | .loop c => cOk N c
  | _ => true

/-- what a piece of code does: loops and regions that draw stand for themselves -/
def AX (P : Program) (L : List Nat) (N n0 : Nat) (c : ACode) (Q : Exit → Env → AH → Prop) (e : Env) (ah : AH) : Prop :=
  ∀ c', ccode P c' = some c → AW P L N n0 c' Q e ah

def codeW (P : Program) (L : List Nat) (N n0 : Nat) : ACode → (Exit → Env → AH → Prop) → Env → AH → Prop
  | .skip, Q, e, ah => Q .normal e ah
  | .ret, Q, e, ah => Q .ret e ah
  | .exit i, Q, e, ah => Q (.exit i) e ah
  | .rg ops, Q, e, ah => opsW P L ops e ah fun e ah => Q .normal (keep L e) ah
  | .seq a b, Q, e, ah => codeW P L N n0 a (fun x e ah => match x with | .normal => codeW P L N n0 b Q e ah | x => Q x e ah) e ah
  | .cond c a b, Q, e, ah => match ev e c with
    | .bool t => if t then codeW P L N n0 a Q e ah else codeW P L N n0 b Q e ah
    | _ => False
  | .blk i c, Q, e, ah => codeW P L N n0 c (fun x e ah => match x with | .exit j => if j = i then Q .normal e ah else Q (.exit j) e ah | x => Q x e ah) e ah
  | .loop c, Q, e, ah => AX P L N n0 (.loop c) Q e ah
  | .sem c, Q, e, ah => AX P L N n0 c Q e ah

section
variable {P : Program} {L : List Nat} {N n0 : Nat} {e : Env} {ah : AH}

theorem AW.region {id : Nat} {ops : Array Oper} {as : List AOper} {Q : Exit → Env → AH → Prop} (hc : cops P ops ops.toList = some (as.map AOper.er)) (hd : dOk N as = true)
    (h : opsW P L as e ah fun e ah => Q .normal (keep L e) ah) : AW P L N n0 (.region id ops false) Q e ah := by
  intro F γ C ts w hs hn
  refine wp_region_list (ops_ok ops.toList as e ah _ F γ C ts w _ hc hd hs h ?_)
  intro e' ah' γ' C' ts' w' hq hγ hs' hx
  exact ⟨rfl, trivial, keep L e', ah', γ', C', hq, take_pre hγ, hs'.keep L, hx⟩

theorem codeW_ok : ∀ (c' : Code) (c : ACode) (Q : Exit → Env → AH → Prop) (e : Env) (ah : AH), ccode P c' = some (erase c) → cOk N (erase c) = true → codeW P L N n0 c Q e ah → AW P L N n0 c' Q e ah := by
  intro c'
  induction c' with
  | skip =>
    intro c Q e ah hc ho h
    cases c with
    | sem c0 => exact h _ hc
    | skip => exact AW.skip h
    | _ => simp [ccode, erase] at hc
  | label l =>
    intro c Q e ah hc ho h
    cases c with
    | sem c0 => exact h _ hc
    | skip => exact AW.label h
    | _ => simp [ccode, erase] at hc
  | ret =>
    intro c Q e ah hc ho h
    cases c with
    | sem c0 => exact h _ hc
    | ret => exact AW.ret h
    | _ => simp [ccode, erase] at hc
  | exit i =>
    intro c Q e ah hc ho h
    cases c with
    | sem c0 => exact h _ hc
    | exit j => simp [ccode, erase] at hc; subst hc; exact AW.exit h
    | _ => simp [ccode, erase] at hc
  | region id ops draw =>
    intro c Q e ah hc ho h
    cases c with
    | sem c0 => exact h _ hc
    | rg as =>
      simp only [ccode, erase] at hc
      cases draw with
      | true =>
        simp only [if_true] at hc
        split at hc
        case isFalse => cases hc
        rename_i hmn
        simp only [Bool.and_eq_true] at hmn
        split at hc
        case h_2 => cases hc
        rename_i st hst
        simp only [Option.map_eq_some_iff] at hc
        obtain ⟨as', has, he⟩ := hc
        injection he with he
        subst he
        exact AW.drawn hmn.1 hmn.2 hst has (by simpa only [erase, cOk, dOk_er] using ho) h
      | false =>
        simp only [Bool.false_eq_true, if_false, Option.map_eq_some_iff] at hc
        obtain ⟨as', has, he⟩ := hc
        injection he with he
        subst he
        exact AW.region has (by simpa only [erase, cOk, dOk_er] using ho) h
    | _ => simp only [ccode, erase] at hc; repeat' (split at hc) <;> simp at hc
  | seq a b iha ihb =>
    intro c Q e ah hc ho h
    cases c with
    | sem c0 => exact h _ hc
    | seq x y =>
      simp only [ccode, erase] at hc
      split at hc
      case h_2 => cases hc
      rename_i a' b' ha hb
      injection hc with hc
      injection hc with h1 h2
      subst h1; subst h2
      simp only [erase, cOk, Bool.and_eq_true] at ho
      refine AW.seq ((iha x _ e ah ha ho.1 h).mono fun x e ah hx => ?_)
      cases x with
      | normal => exact ihb y _ e ah hb ho.2 hx
      | _ => exact hx
    | _ => simp only [ccode, erase] at hc; split at hc <;> simp at hc
  | cond c0 a b iha ihb =>
    intro c Q e ah hc ho h
    cases c with
    | sem c0 => exact h _ hc
    | cond c2 x y =>
      simp only [ccode, erase] at hc
      split at hc
      case h_2 => cases hc
      rename_i c1 a' b' h1 ha hb
      injection hc with hc
      injection hc with g0 g1 g2
      subst g0; subst g1; subst g2
      simp only [erase, cOk, Bool.and_eq_true] at ho
      simp only [codeW] at h
      split at h
      case h_2 => exact h.elim
      rename_i t ht
      refine AW.cond h1 ht ?_
      cases t with
      | true => exact iha x Q e ah ha ho.1 h
      | false => exact ihb y Q e ah hb ho.2 h
    | _ => simp only [ccode, erase] at hc; split at hc <;> simp at hc
  | block i c0 ih =>
    intro c Q e ah hc ho h
    cases c with
    | sem c0 => exact h _ hc
    | blk j x =>
      simp only [ccode, erase, Option.map_eq_some_iff] at hc
      obtain ⟨a, ha, he⟩ := hc
      injection he with h1 h2
      subst h1; subst h2
      exact AW.blk (ih x _ e ah ha ho h)
    | _ => simp [ccode, erase] at hc
  | loop c0 ih =>
    intro c Q e ah hc ho h
    cases c with
    | sem c0 => exact h _ hc
    | loop x => exact h _ hc
    | _ => simp [ccode, erase] at hc
  | rangeFunc => intro c Q e ah hc; simp [ccode] at hc
  | goto => intro c Q e ah hc; simp [ccode] at hc
  | scope c0 ih => intro c Q e ah hc ho h; exact AW.scope (ih c Q e ah hc ho h)
  | refuse => intro c Q e ah hc; simp [ccode] at hc

theorem cop_cvto {o : Oper} {x : Ar} (h : cop P o = some (.cvto x)) : False := by
  obtain ⟨d, oo, ty, pos, af, gd⟩ := o
  cases oo with
  | makeFunc fn first cs =>
    cases fn with
    | func f => simp only [cop] at h; split at h <;> simp at h
    | _ => simp [cop] at h
  | call c =>
    obtain ⟨callee, args, tys⟩ := c
    simp only [cop] at h
    (repeat' (split at h)) <;> (first | (cases h; done) | (simp at h; done))
  | _ =>
    simp only [cop] at h
    first
      | cases h; done
      | (simp at h; done)
      | (repeat' (split at h)) <;> (first | (cases h; done) | (simp at h; done))
theorem cop_appoF {o : Oper} {k b : Nat} {x y : Ar} (h : cop P o = some (.appo k b x y)) : False := by
  obtain ⟨d, oo, ty, pos, af, gd⟩ := o
  cases oo with
  | makeFunc fn first cs =>
    cases fn with
    | func f => simp only [cop] at h; split at h <;> simp at h
    | _ => simp [cop] at h
  | call c =>
    obtain ⟨callee, args, tys⟩ := c
    simp only [cop] at h
    (repeat' (split at h)) <;> (first | (cases h; done) | (simp at h; done))
  | _ =>
    simp only [cop] at h
    first
      | cases h; done
      | (simp at h; done)
      | (repeat' (split at h)) <;> (first | (cases h; done) | (simp at h; done))
theorem cop_asoF {o : Oper} {k : Nat} {x : Ar} (h : cop P o = some (.aso k x)) : False := by
  obtain ⟨d, oo, ty, pos, af, gd⟩ := o
  cases oo with
  | makeFunc fn first cs =>
    cases fn with
    | func f => simp only [cop] at h; split at h <;> simp at h
    | _ => simp [cop] at h
  | call c =>
    obtain ⟨callee, args, tys⟩ := c
    simp only [cop] at h
    (repeat' (split at h)) <;> (first | (cases h; done) | (simp at h; done))
  | _ =>
    simp only [cop] at h
    first
      | cases h; done
      | (simp at h; done)
      | (repeat' (split at h)) <;> (first | (cases h; done) | (simp at h; done))
theorem cop_er {o : Oper} {op : AOp} (h : cop P o = some op) : op.er = op := by
  cases op with
  | cvto x => exact (cop_cvto h).elim
  | appo => exact (cop_appoF h).elim
  | aso => exact (cop_asoF h).elim
  | _ => rfl
theorem copM_er {m : Bool} {o : Oper} {op : AOp} (h : copM P m o = some op) : op.er = op := by
  cases op with
  | cvto x =>
    exfalso
    cases m with
    | true => exact cop_cvto (by simpa [copM] using h)
    | false =>
      simp only [copM, Bool.false_eq_true, if_false, Option.map_eq_some_iff] at h
      obtain ⟨op', h1, h2⟩ := h
      cases op' with
      | cvt hh y => cases hh <;> cases h2
      | ld y n => cases h2
      | cvto y => exact cop_cvto h1
      | _ => cases h2
  | appo =>
    exfalso
    cases m with
    | true => exact cop_appoF (by simpa [copM] using h)
    | false =>
      simp only [copM, Bool.false_eq_true, if_false, Option.map_eq_some_iff] at h
      obtain ⟨op', h1, h2⟩ := h
      cases op' with
      | cvt hh y => cases hh <;> cases h2
      | ld y n => cases h2
      | appo => exact cop_appoF h1
      | _ => cases h2
  | aso =>
    exfalso
    cases m with
    | true => exact cop_asoF (by simpa [copM] using h)
    | false =>
      simp only [copM, Bool.false_eq_true, if_false, Option.map_eq_some_iff] at h
      obtain ⟨op', h1, h2⟩ := h
      cases op' with
      | cvt hh y => cases hh <;> cases h2
      | ld y n => cases h2
      | aso => exact cop_asoF h1
      | _ => cases h2
  | _ => rfl
theorem cops_er {ops : Array Oper} : ∀ (n : Nat) (l : List Oper) (as : List AOper), l.length ≤ n → cops P ops l = some as → as.map AOper.er = as := by
  intro n
  induction n with
  | zero =>
    intro l as hn h
    obtain rfl : l = [] := List.eq_nil_of_length_eq_zero (by omega)
    simp only [cops, Option.some.injEq] at h; subst h; rfl
  | succ n ih =>
    intro l as hn h
    rcases cops_cases h with ⟨rfl, rfl⟩ | ⟨o, o2, r, a, as', rfl, h2, h3, rfl⟩ | ⟨o, o2, r, ag, as', rfl, h2, h3, rfl⟩ | ⟨o, r, op, g, as', rfl, h2, h3, h4, rfl⟩
    · rfl
    · obtain ⟨y, bs, hl⟩ := litOf_lit h2
      obtain ⟨d, op, g⟩ := a
      simp only at hl; subst hl
      simp only [List.map_cons, ih r as' (by simp at hn; omega) h3]; rfl
    · obtain ⟨d, y, bs, t, w, g, rfl, -⟩ := litG_inv h2
      simp only [List.cons_append, List.nil_append, List.map_cons, ih r as' (by simp at hn; omega) h3]; rfl
    · have he : op.er = op := by
        rcases h2 with h2 | rfl
        · exact cop_er h2
        · rfl
      simp only [List.map_cons, ih r as' (by simp at hn; omega) h4, AOper.er, he]
theorem copsM_er {ops : Array Oper} : ∀ (l : List (Bool × Nat)) (as : List AOper), copsM P ops l = some as → as.map AOper.er = as := by
  intro l
  induction l with
  | nil => intro as h; simp only [copsM, Option.some.injEq] at h; subst h; rfl
  | cons p r ih =>
    intro as h
    obtain ⟨m, i⟩ := p
    obtain ⟨o, a, g, as', h1, h2, h3, h4, rfl⟩ := copsM_cons h
    simp only [List.map_cons, ih as' h4, AOper.er, copM_er h2]
theorem ccode_erase : ∀ (c' : Code) (c : ACode), ccode P c' = some c → erase c = c := by
  intro c'
  induction c' with
  | skip => intro c hc; simp [ccode] at hc; subst hc; rfl
  | label l => intro c hc; simp [ccode] at hc; subst hc; rfl
  | ret => intro c hc; simp [ccode] at hc; subst hc; rfl
  | exit i => intro c hc; simp [ccode] at hc; subst hc; rfl
  | region id ops draw =>
    intro c hc
    simp only [ccode] at hc
    cases draw with
    | true =>
      simp only [if_true] at hc
      split at hc
      · split at hc
        · simp only [Option.map_eq_some_iff] at hc; obtain ⟨as, has, rfl⟩ := hc; simp only [erase, copsM_er _ _ has]
        · cases hc
      · cases hc
    | false => simp only [Bool.false_eq_true, if_false, Option.map_eq_some_iff] at hc; obtain ⟨as, has, rfl⟩ := hc; simp only [erase, cops_er _ _ _ (Nat.le_refl _) has]
  | seq a b iha ihb =>
    intro c hc
    simp only [ccode] at hc
    split at hc
    case h_2 => cases hc
    rename_i a' b' ha hb
    injection hc with hc
    subst hc
    simp only [erase, iha _ ha, ihb _ hb]
  | cond c0 a b iha ihb =>
    intro c hc
    simp only [ccode] at hc
    split at hc
    case h_2 => cases hc
    rename_i c1 a' b' h1 ha hb
    injection hc with hc
    subst hc
    simp only [erase, iha _ ha, ihb _ hb]
  | block i c0 ih => intro c hc; simp only [ccode, Option.map_eq_some_iff] at hc; obtain ⟨a, ha, rfl⟩ := hc; simp only [erase, ih _ ha]
  | loop c0 ih => intro c hc; simp only [ccode, Option.map_eq_some_iff] at hc; obtain ⟨a, ha, rfl⟩ := hc; rfl
  | rangeFunc => intro c hc; simp [ccode] at hc
  | goto => intro c hc; simp [ccode] at hc
  | scope c0 ih => intro c hc; exact ih c hc
  | refuse => intro c hc; simp [ccode] at hc

/-! ### the walk: what is left to do is a list -/
inductive It where
  | ops (r : List AOper)
  | keep
  | code (c : ACode)
  | blk (i : Nat)

def U (P : Program) (L : List Nat) (N n0 : Nat) : List It → (Exit → Env → AH → Prop) → Exit → Env → AH → Prop
  | [], Q, x, e, ah => Q x e ah
  | .code c :: t, Q, .normal, e, ah => codeW P L N n0 c (fun x e ah => U P L N n0 t Q x e ah) e ah
  | .ops r :: t, Q, .normal, e, ah => opsW P L r e ah fun e ah => U P L N n0 t Q .normal e ah
  | .keep :: t, Q, .normal, e, ah => U P L N n0 t Q .normal (keep L e) ah
  | .blk i :: t, Q, .exit j, e, ah => if j = i then U P L N n0 t Q .normal e ah else U P L N n0 t Q (.exit j) e ah
  | .blk _ :: t, Q, x, e, ah => U P L N n0 t Q x e ah
  | .code _ :: t, Q, x, e, ah => U P L N n0 t Q x e ah
  | .ops _ :: t, Q, x, e, ah => U P L N n0 t Q x e ah
  | .keep :: t, Q, x, e, ah => U P L N n0 t Q x e ah

/-- a call: what is behind it -/
def UK (P : Program) (L : List Nat) (N n0 f : Nat) (as : List AV) (d : Option Nat) (r : List AOper) (t : List It) (Q : Exit → Env → AH → Prop) (e : Env) (ah : AH) : Prop :=
  ACalls P f as ah fun v ah' => U P L N n0 (.ops r :: t) Q .normal (putv L (unC e) d v.df) ah'
def UF (P : Program) (L : List Nat) (N n0 : Nat) (as : List Ar) (d : Option Nat) (r : List AOper) (t : List It) (Q : Exit → Env → AH → Prop) (e : Env) (ah : AH) : AV → Prop
  | .fn f caps => if allFlat caps then UK P L N n0 f (as.map (fun x => (ev e x).sh) ++ caps.map AV.s1) d r t Q e ah else False
  | _ => False
def US (P : Program) (L : List Nat) (N n0 : Nat) (r : List AOper) (t : List It) (Q : Exit → Env → AH → Prop) : Option (Env × AH) → Prop
  | some (e, ah) => U P L N n0 (.ops r :: t) Q .normal e ah
  | none => False
def UG (P : Program) (L : List Nat) (N n0 : Nat) (o : AOper) (r : List AOper) (t : List It) (Q : Exit → Env → AH → Prop) (e : Env) (ah : AH) : Option Bool → Prop
  | some true => match o.op with
    | .call f as => UF P L N n0 as o.d r t Q e ah (ev e f)
    | .appo k b x y => appoW L o.d k b x y e ah fun e ah => U P L N n0 (.ops r :: t) Q .normal e ah
    | .nq n x => nqW L o.d n x e ah fun e ah => U P L N n0 (.ops r :: t) Q .normal e ah
    | _ => US P L N n0 r t Q (aev L o e ah)
  | some false => U P L N n0 (.ops r :: t) Q .normal (drop? e o.d) ah
  | none => False
def UC (P : Program) (L : List Nat) (N n0 : Nat) (a b : ACode) (t : List It) (Q : Exit → Env → AH → Prop) (e : Env) (ah : AH) : AV → Prop
  | .bool true => U P L N n0 (.code a :: t) Q .normal e ah
  | .bool false => U P L N n0 (.code b :: t) Q .normal e ah
  | _ => False
def UX (P : Program) (L : List Nat) (N n0 : Nat) (c : ACode) (t : List It) (Q : Exit → Env → AH → Prop) (e : Env) (ah : AH) : Prop :=
  AX P L N n0 c (fun x e ah => U P L N n0 t Q x e ah) e ah

variable {t : List It} {Q : Exit → Env → AH → Prop} {x : Exit}

@[simp] theorem U_nil : U P L N n0 [] Q x e ah = Q x e ah := rfl
@[simp] theorem U_skip : U P L N n0 (.code .skip :: t) Q .normal e ah = U P L N n0 t Q .normal e ah := rfl
@[simp] theorem U_ret : U P L N n0 (.code .ret :: t) Q .normal e ah = U P L N n0 t Q .ret e ah := rfl
@[simp] theorem U_exit {i : Nat} : U P L N n0 (.code (.exit i) :: t) Q .normal e ah = U P L N n0 t Q (.exit i) e ah := rfl
theorem fun_seq (b : ACode) : (fun x e ah => match x with | .normal => codeW P L N n0 b (fun x e ah => U P L N n0 t Q x e ah) e ah | x => U P L N n0 t Q x e ah) = fun x e ah => U P L N n0 (.code b :: t) Q x e ah := by
  funext x e ah
  cases x <;> rfl
@[simp] theorem U_seq {a b : ACode} : U P L N n0 (.code (.seq a b) :: t) Q .normal e ah = U P L N n0 (.code a :: .code b :: t) Q .normal e ah := by
  simp only [U, codeW]
  exact congrArg (fun K => codeW P L N n0 a K e ah) (fun_seq b)
@[simp] theorem U_blk {i : Nat} {c : ACode} : U P L N n0 (.code (.blk i c) :: t) Q .normal e ah = U P L N n0 (.code c :: .blk i :: t) Q .normal e ah := by
  have : (fun x e ah => match x with | .exit j => if j = i then U P L N n0 t Q .normal e ah else U P L N n0 t Q (.exit j) e ah | x => U P L N n0 t Q x e ah) = fun x e ah => U P L N n0 (.blk i :: t) Q x e ah := by
    funext x e ah
    cases x <;> rfl
  exact congrArg (fun K => codeW P L N n0 c K e ah) this
@[simp] theorem U_rg {ops : List AOper} : U P L N n0 (.code (.rg ops) :: t) Q .normal e ah = U P L N n0 (.ops ops :: .keep :: t) Q .normal e ah := rfl
@[simp] theorem U_loop {c : ACode} : U P L N n0 (.code (.loop c) :: t) Q .normal e ah = UX P L N n0 (.loop c) t Q e ah := rfl
@[simp] theorem U_sem {c : ACode} : U P L N n0 (.code (.sem c) :: t) Q .normal e ah = UX P L N n0 c t Q e ah := rfl
@[simp] theorem U_cond {c : Ar} {a b : ACode} : U P L N n0 (.code (.cond c a b) :: t) Q .normal e ah = UC P L N n0 a b t Q e ah (ev e c) := by
  simp only [U, codeW]
  cases ev e c with
  | bool t => cases t <;> rfl
  | _ => rfl
@[simp] theorem U_keep : U P L N n0 (.keep :: t) Q .normal e ah = U P L N n0 t Q .normal (keep L e) ah := rfl
@[simp] theorem U_blk_n {i : Nat} : U P L N n0 (.blk i :: t) Q .normal e ah = U P L N n0 t Q .normal e ah := rfl
@[simp] theorem U_blk_r {i : Nat} : U P L N n0 (.blk i :: t) Q .ret e ah = U P L N n0 t Q .ret e ah := rfl
@[simp] theorem U_blk_x {i j : Nat} : U P L N n0 (.blk i :: t) Q (.exit j) e ah = if j = i then U P L N n0 t Q .normal e ah else U P L N n0 t Q (.exit j) e ah := rfl
@[simp] theorem U_code_r {c : ACode} : U P L N n0 (.code c :: t) Q .ret e ah = U P L N n0 t Q .ret e ah := by cases c <;> rfl
@[simp] theorem U_code_x {c : ACode} {j : Nat} : U P L N n0 (.code c :: t) Q (.exit j) e ah = U P L N n0 t Q (.exit j) e ah := by cases c <;> rfl
@[simp] theorem U_ops_nil : U P L N n0 (.ops [] :: t) Q .normal e ah = U P L N n0 t Q .normal e ah := rfl
@[simp] theorem U_ops {o : AOper} {r : List AOper} : U P L N n0 (.ops (o :: r) :: t) Q .normal e ah = UG P L N n0 o r t Q e ah (guardOk e o) := by
  simp only [U, opsW]
  cases guardOk e o with
  | none => rfl
  | some b =>
    cases b with
    | false => rfl
    | true =>
      obtain ⟨d, op, g⟩ := o
      cases op with
      | call f as =>
        simp only [opW, UG]
        cases ev e f with
        | fn f' caps =>
          simp only [UF, UK]
          by_cases hf : allFlat caps = true
          · simp only [hf, if_true, true_and]; rfl
          · simp [hf]
        | _ => rfl
      | appo k b x y => rfl
      | nq n x => rfl
      | _ =>
        simp only [opW, UG, US]
        cases aev L ⟨d, _, g⟩ e ah with
        | none => rfl
        | some ea => obtain ⟨e', ah'⟩ := ea; rfl
@[simp] theorem US_some {r : List AOper} {e' : Env} {ah' : AH} : US P L N n0 r t Q (some (e', ah')) = U P L N n0 (.ops r :: t) Q .normal e' ah' := rfl
@[simp] theorem UG_false {o : AOper} {r : List AOper} : UG P L N n0 o r t Q e ah (some false) = U P L N n0 (.ops r :: t) Q .normal (drop? e o.d) ah := rfl
@[simp] theorem UC_true {a b : ACode} : UC P L N n0 a b t Q e ah (.bool true) = U P L N n0 (.code a :: t) Q .normal e ah := rfl
@[simp] theorem UC_false {a b : ACode} : UC P L N n0 a b t Q e ah (.bool false) = U P L N n0 (.code b :: t) Q .normal e ah := rfl
@[simp] theorem UF_fn {as : List Ar} {d : Option Nat} {r : List AOper} {f : Nat} {caps : List AV} : UF P L N n0 as d r t Q e ah (.fn f caps) =
    if allFlat caps then UK P L N n0 f (as.map (fun x => (ev e x).sh) ++ caps.map AV.s1) d r t Q e ah else False := rfl

theorem UC_split {a b : ACode} {v : Bool} (h1 : v = true → U P L N n0 (.code a :: t) Q .normal e ah) (h2 : v = false → U P L N n0 (.code b :: t) Q .normal e ah) : UC P L N n0 a b t Q e ah (.bool v) := by
  cases v
  · exact h2 rfl
  · exact h1 rfl
theorem UK_of {f : Nat} {as : List AV} {d : Option Nat} {r : List AOper} {R : AV → AH → Prop} (h : ACalls P f as ah R) (hk : ∀ v ah', R v ah' → U P L N n0 (.ops r :: t) Q .normal (putv L (unC e) d v.df) ah') :
    UK P L N n0 f as d r t Q e ah := h.mono hk

theorem UX_loop {c : ACode} (I : Nat → Env → AH → Prop) {k0 : Nat} (ho : cOk N c = true)
    (round : ∀ k e ah, I k e ah → U P L N n0 [.code c] (fun x e' ah' => match x with | .normal => ∃ k', k' < k ∧ I k' e' ah' | x => U P L N n0 t Q x e' ah') .normal e ah) (h0 : I k0 e ah) :
    UX P L N n0 (.loop c) t Q e ah := by
  intro c'
  induction c' with
  | loop c0 _ =>
    intro hc'
    simp only [ccode, Option.map_eq_some_iff] at hc'
    obtain ⟨a, ha, he⟩ := hc'
    injection he with he
    subst he
    exact AW.loop I (fun k e ah hI => codeW_ok c0 a _ e ah (by rw [ccode_erase c0 a ha]; exact ha) (by rw [ccode_erase c0 a ha]; exact ho) (round k e ah hI)) h0
  | scope c0 ih => exact fun hc' => AW.scope (ih hc')
  | region id ops draw => intro hc'; simp only [ccode] at hc'; repeat' (split at hc') <;> simp at hc'
  | block i c0 => intro hc'; simp only [ccode, Option.map_eq_some_iff] at hc'; obtain ⟨a, -, h⟩ := hc'; cases h
  | seq a b => intro hc'; simp only [ccode] at hc'; split at hc' <;> simp at hc'
  | cond a b c => intro hc'; simp only [ccode] at hc'; split at hc' <;> simp at hc'
  | _ => intro hc'; simp [ccode] at hc'
end
end Go.Am
