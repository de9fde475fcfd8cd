import Derived.Test.YtfnnmecilcnloaaDoorAmRel
import Derived.Tactics
import Derived.Laws.Sem
set_option linter.unusedSimpArgs false
set_option linter.unusedVariables false
set_option linter.unusedSectionVars false
set_option linter.defProp false
namespace Go.Am
open Go
variable [Tabs]

section
variable {P : Program} {L : List Nat} {N : Nat} {F : Nat → Prop} {γ : List Nat} {C : Nat → List Value} {e : Env} {ah : AH} {ts : Array Value} {ds : List Deferred} {w : World} {m : Bool}

theorem const_str (γ : List Nat) (s : ByteArray) : VR C γ (.str s.data.toList) (.string s) := by
  have : s = ⟨s.data.toList.toArray⟩ := by cases s; simp
  conv => rhs; rw [this]
  exact .str ..

theorem arg0_ok (h : SR L N F γ C e ah ts w) {x : Operand} {a : Ar} (hc : carg0 x = some a) :
    VR C γ (ev e a) (Act.eval ⟨ts, ds⟩ x) ∧ TC w C (ev e a) (Act.eval ⟨ts, ds⟩ x) := by
  cases x with
  | tmp t => simp only [carg0, Option.some.injEq] at hc; subst hc; exact h.env t
  | const c =>
    simp only [carg0] at hc
    split at hc <;> simp only [Option.some.injEq, reduceCtorEq] at hc
    all_goals first | contradiction | (subst hc)
    all_goals simp_all
    all_goals (try subst_vars)
    all_goals first
      | exact ⟨.int .., trivial⟩
      | exact ⟨const_str _ _, trivial⟩
      | exact ⟨.bool .., trivial⟩
      | exact ⟨.v _ _ rfl, trivial⟩
  | func f => simp only [carg0, Option.some.injEq] at hc; subst hc; exact ⟨.fn _ _ _ #[] rfl (by simp), trivial⟩
  | global g => simp [carg0] at hc

theorem arg_ok (h : SR L N F γ C e ah ts w) {ty : TypeId} {x : Operand} {a : Ar} (hc : carg P ty x = some a) :
    VR C γ (ev e a) (Act.eval ⟨ts, ds⟩ x) ∧ TC w C (ev e a) (Act.eval ⟨ts, ds⟩ x) := by
  cases x with
  | tmp t => simp only [carg, Option.some.injEq] at hc; subst hc; exact h.env t
  | const c =>
    simp only [carg] at hc
    split at hc <;> simp_all
    all_goals (try subst_vars)
    all_goals first
      | exact ⟨.int .., trivial⟩
      | exact ⟨const_str _ _, trivial⟩
      | exact ⟨.bool .., trivial⟩
      | exact ⟨.v _ _ rfl, trivial⟩
      | (obtain ⟨u, hu, rfl⟩ := hc; exact ⟨.sl0 .., rfl⟩)
  | func f => simp only [carg, Option.some.injEq] at hc; subst hc; exact ⟨.fn _ _ _ #[] rfl (by simp), trivial⟩
  | global g => simp [carg] at hc

def FrV (L : List Nat) (γ : List Nat) (e : Env) (ah : AH) (ts : Array Value) (w : World) (v : Value) : Loc → Prop
  | .tmp u => L.contains u = true ∧ ((get e u).isOwn = true → ts.getD u undef = v)
  | .cell s o => ∀ (cs : List AV) (x : AV) (b : Nat), ah[s]? = some cs → cs[o]? = some x → x.isOwn = true → γ[s]? = some b → w.cell? ⟨b, o, none⟩ = some v

theorem df_own {a : AV} (h : a.isOwn = false) : a.df.isOwn = false := by
  cases a with
  | sl t k xs => cases t <;> first | rfl | exact h
  | _ => rfl
theorem df_fr (a : AV) (l : Loc) (k : Nat) (xs : List AV) : a.df ≠ .sl (.fr l) k xs := by
  cases a with
  | sl t k xs => cases t <;> simp [AV.df]
  | _ => simp [AV.df]

theorem SR.putv (h : SR L N F γ C e ah ts w) {d : Option Nat} {a : AV} {v : Value} (hd : ∀ x, d = some x → x < N) (hv : VR C γ a v) (ht : TC w C a v)
    (ho : a.isOwn = false) (hfr : ∀ l k xs, a = .sl (.fr l) k xs → FrV L γ e ah ts w v l) :
    SR L N F γ C (Am.putv L e d a) ah (Act.put ⟨ts, ds⟩ d v).tmps w := by
  cases d with
  | none => exact h
  | some d =>
    simp only [Am.putv, Act.put]
    by_cases hL : L.contains d = true
    · rw [if_pos hL, ho, if_neg (by simp)]
      exact h.put0 (hd d rfl) ((Wk.df a).vr hv) ((Wk.df a).tc ht) (df_own ho) (df_fr a)
    · rw [if_neg hL]
      refine h.putG (hd d rfl) hv ht (fun b hb => by rw [ownB_not v ho] at hb; cases hb) (fun l k xs hl => ?_) (fun h1 => by rw [ho] at h1; cases h1)
      have := hfr l k xs hl
      cases l with
      | tmp u => exact ⟨this.1, fun hu => hL (hu ▸ this.1), this.2⟩
      | cell s o => exact this

/-- an own row into a temporary -/
theorem SR.putvOwn (h : SR L N F γ C e ah ts w) {d : Option Nat} {k : Nat} {xs : List AV} {v : Value} (hd : ∀ x, d = some x → x < N) (hv : VR C γ (.sl .own k xs) v)
    (ht : TC w C (.sl .own k xs) v) (hown : ∀ b, ownB (.sl .own k xs) v = some b → ¬ F b ∧ ∀ p, ¬ blk γ e ah ts w p b) :
    SR L N F γ C (Am.putv L e d (.sl .own k xs)) ah (Act.put ⟨ts, ds⟩ d v).tmps w := by
  cases d with
  | none => exact h
  | some d =>
    simp only [Am.putv, Act.put, AV.isOwn, if_true]
    by_cases hL : L.contains d = true
    · rw [if_pos hL]
      have hs := h.sweep (.tmp d)
      refine hs.putG (hd d rfl) hv ht (fun b hb => ⟨(hown b hb).1, fun p _ hp => (hown b hb).2 p ?_⟩) (fun l k xs hl => by simp at hl) (fun _ t k xs hg => ?_)
      · cases p with
        | obj s => exact hp
        | cell s i => exact hp
        | tmp t => simp only [blk, get_sweep] at hp ⊢; exact (Wk.unfr _ _).own hp
      · rw [get_sweep] at hg
        generalize get e t = a at hg
        cases a with
        | sl t k xs => cases t with
          | fr m => simp only [AV.unfr] at hg; split at hg
                    · simp at hg
                    · rename_i hm; simp at hg; exact hm hg.1
          | _ => simp [AV.unfr] at hg
        | _ => simp [AV.unfr] at hg
    · rw [if_neg hL]
      refine h.putG (hd d rfl) hv ht (fun b hb => ⟨(hown b hb).1, fun p _ => (hown b hb).2 p⟩) (fun l k xs hl => by simp at hl) (fun _ t k xs hg => ?_)
      exact hL (h.fr t _ k xs hg).1

/-- as far as a load sees: what is laid in rows; with m: the objects -/
def KA (m : Bool) (γ : List Nat) (C : Nat → List Value) (w w2 : World) : Prop :=
  (∀ b i, i < (C b).length → w2.cell? ⟨b, i, none⟩ = w.cell? ⟨b, i, none⟩) ∧ (m = true → ∀ (s b : Nat), γ[s]? = some b → w2.heap[b]? = w.heap[b]?)
theorem KA.refl (m : Bool) (γ : List Nat) (C : Nat → List Value) (w : World) : KA m γ C w w := ⟨fun _ _ _ => rfl, fun _ _ _ _ => rfl⟩
def Done (m : Bool) (P : Program) (L : List Nat) (N : Nat) (F : Nat → Prop) (γ : List Nat) (C : Nat → List Value) (o : Oper) (ts : Array Value) (ds : List Deferred) (w : World) (e' : Env) (ah' : AH) : Prop :=
  ∃ v w' γ' C', ((execOp (Act.eval ⟨ts, ds⟩) o).run P w = .ok (.value v) w' ∨ ((execOp (Act.eval ⟨ts, ds⟩) o).run P w = .ok .skip w' ∧ v = undef)) ∧ γ <+: γ' ∧
    SR L N F γ' C' e' ah' (Act.put ⟨ts, ds⟩ o.dst v).tmps w' ∧ Ext F C w C' w' ∧ (storeO o.op = false → ∀ (s b : Nat), γ[s]? = some b → w'.heap[b]? = w.heap[b]?) ∧
    (quietO P o.op = true → γ' = γ ∧ C' = C ∧ w' = w ∧ ∀ w2, KA m γ C w w2 → (execOp (Act.eval ⟨ts, ds⟩) o).run P w2 = .ok (.value v) w2)

theorem Done.pure {o : Oper} {v : Value} {e' : Env} {ah' : AH} (hr : ∀ w2, KA m γ C w w2 → (execOp (Act.eval ⟨ts, ds⟩) o).run P w2 = .ok (.value v) w2)
    (h : SR L N F γ C e' ah' (Act.put ⟨ts, ds⟩ o.dst v).tmps w) : Done m P L N F γ C o ts ds w e' ah' :=
  ⟨v, w, γ, C, .inl (hr w (KA.refl ..)), List.prefix_refl _, h, Ext.refl .., fun _ _ _ _ => rfl, fun _ => ⟨rfl, rfl, rfl, hr⟩⟩

/-- a value that is neither owned nor 'as there' -/
def AV.plain : AV → Bool
  | .sl .own _ _ => false
  | .sl (.fr _) _ _ => false
  | _ => true
theorem plain_own {a : AV} (h : a.plain = true) : a.isOwn = false := by
  cases a with
  | sl t k xs => cases t <;> first | rfl | simp [AV.plain] at h
  | _ => rfl
theorem plain_fr {a : AV} (h : a.plain = true) (l : Loc) (k : Nat) (xs : List AV) : a ≠ .sl (.fr l) k xs := by
  rintro rfl; simp [AV.plain] at h

theorem Done.plain (h : SR L N F γ C e ah ts w) {o : Oper} {v : Value} {a : AV} (hd : ∀ x, o.dst = some x → x < N) (hr : ∀ w2, KA m γ C w w2 → (execOp (Act.eval ⟨ts, ds⟩) o).run P w2 = .ok (.value v) w2)
    (hv : VR C γ a v) (ht : TC w C a v) (hp : a.plain = true) : Done m P L N F γ C o ts ds w (Am.putv L e o.dst a) ah :=
  .pure hr (h.putv hd hv ht (plain_own hp) fun l k xs hl => absurd hl (plain_fr hp l k xs))

theorem sh_plain (a : AV) : a.sh.plain = true := by
  cases a with
  | sl t k xs => cases t <;> rfl
  | _ => rfl

theorem cp_ok (h : SR L N F γ C e ah ts w) {d : Option Nat} (hd : ∀ x, d = some x → x < N) {x : Ar} {v : Value}
    (hv : VR C γ (ev e x) v ∧ TC w C (ev e x) v) (hx : ∀ t, x = .t t → v = ts.getD t undef) (hc : ∀ a, x = .c a → a.plain = true) :
    SR L N F γ C (Am.putv L e d (cp L x (ev e x))) ah (Act.put ⟨ts, ds⟩ d v).tmps w := by
  generalize hg : ev e x = a at hv
  cases a with
  | sl t k xs =>
    cases t with
    | own =>
      simp only [cp]
      cases x with
      | t u =>
        simp only
        by_cases hL : L.contains u = true
        · rw [if_pos hL]
          refine h.putv hd (hv.1.retag _) (by cases v <;> trivial) rfl fun l k xs hl => ?_
          injection hl with h1 h2 h3; injection h1 with h1; subst h1
          exact ⟨hL, fun _ => (hx u rfl).symm⟩
        · rw [if_neg hL]
          exact h.putv hd (hv.1.retag _) (by cases v <;> trivial) rfl (by simp)
      | c a => exact h.putv hd (hv.1.retag _) (by cases v <;> trivial) rfl (by simp)
    | fr m =>
      simp only [cp]
      refine h.putv hd hv.1 hv.2 rfl fun l k xs hl => ?_
      injection hl with h1 h2 h3; injection h1 with h1; subst h1
      cases x with
      | t u =>
        have := h.fr u m _ _ hg
        rw [hx u rfl]
        cases m with
        | tmp u => exact this
        | cell s o => exact this
      | c a => simp only [ev] at hg; subst hg; have := hc _ rfl; simp [AV.plain] at this
    | _ => simp only [cp]; exact h.putv hd hv.1 hv.2 rfl (by simp)
  | agg cs => simp only [cp]; exact h.putv hd ((Wk.sh (.agg cs)).vr hv.1) ((Wk.sh (.agg cs)).tc hv.2) rfl (by simp)
  | tup cs => simp only [cp]; exact h.putv hd ((Wk.sh (.tup cs)).vr hv.1) ((Wk.sh (.tup cs)).tc hv.2) rfl (by simp)
  | _ => simp only [cp]; exact h.putv hd hv.1 hv.2 rfl (by simp)

theorem carg_t {ty : TypeId} {x : Operand} {a : Ar} (hc : carg P ty x = some a) : ∀ t, a = .t t → x = .tmp t := by
  intro t ht
  subst ht
  cases x with
  | tmp u => simp [carg] at hc; rw [hc]
  | const c => simp only [carg] at hc; split at hc <;> simp_all
  | func f => simp [carg] at hc
  | global g => simp [carg] at hc
theorem carg_c {ty : TypeId} {x : Operand} {a : Ar} (hc : carg P ty x = some a) : ∀ b, a = .c b → b.plain = true := by
  intro b ht
  subst ht
  cases x with
  | tmp u => simp [carg] at hc
  | const c =>
    simp only [carg] at hc
    split at hc <;> simp_all
    all_goals (try subst_vars)
    all_goals first | rfl | (obtain ⟨u, hu, rfl⟩ := hc; rfl)
  | func f => simp [carg] at hc; subst hc; rfl
  | global g => simp [carg] at hc

theorem op_mv {d : Option Nat} {x : Operand} {ty : TypeId} {pos : String} {af : Array Edge} {g : Option (Nat × Bool)} {a : Ar} (h : SR L N F γ C e ah ts w)
    (hd : ∀ x, d = some x → x < N) (hc : carg P ty x = some a) :
    Done m P L N F γ C ⟨d, .move x, ty, pos, af, g⟩ ts ds w (Am.putv L e d (cp L a (ev e a))) ah := by
  refine .pure (v := Act.eval ⟨ts, ds⟩ x) (fun w _ => by simp [execOp]) (cp_ok h hd (arg_ok h hc) ?_ (carg_c hc))
  intro t ht; have := carg_t hc t ht; subst this; rfl

theorem op_asg {d : Option Nat} {x : Operand} {ty : TypeId} {pos : String} {af : Array Edge} {g : Option (Nat × Bool)} {a : Ar} {e' : Env} {ah' : AH} (h : SR L N F γ C e ah ts w)
    (hd : ∀ x, d = some x → x < N) (hc : carg P ty x = some a) (hev : aev L ⟨d, .asg a, none⟩ e ah = some (e', ah')) :
    Done m P L N F γ C ⟨d, .assign x, ty, pos, af, g⟩ ts ds w e' ah' := by
  have hx : ∀ t, a = .t t → Act.eval ⟨ts, ds⟩ x = ts.getD t undef := fun t ht => by have := carg_t hc t ht; subst this; rfl
  have hr : ∀ w2, KA m γ C w w2 → (execOp (Act.eval ⟨ts, ds⟩) ⟨d, .assign x, ty, pos, af, g⟩).run P w2 = .ok (.value (Act.eval ⟨ts, ds⟩ x)) w2 := fun w _ => by simp [execOp]
  have hv := arg_ok (ds := ds) h hc
  simp only [aev] at hev
  split at hev
  · rename_i k xs t he
    simp only [Option.some.injEq, Prod.mk.injEq] at hev
    obtain ⟨rfl, rfl⟩ := hev
    refine .pure hr ?_
    rw [he] at hv
    rw [hx t rfl] at hv ⊢
    have hw : SR L N F γ C (Am.put e t (.sl .n k xs)) ah ts w := h.weakPut (by simp only [ev] at he; rw [he]; exact .n ..)
    refine hw.putvOwn hd hv.1 hv.2 fun b hb => ?_
    have hb0 : blk γ e ah ts w (.tmp t) b := by simp only [ev] at he; simp only [blk, he]; exact hb
    refine ⟨h.nf _ _ hb0, fun p hp => ?_⟩
    have hp0 : blk γ e ah ts w p b := by
      cases p with
      | obj s => exact hp
      | cell s i => exact hp
      | tmp u =>
        simp only [blk, get_put] at hp ⊢
        by_cases hu : u = t
        · rw [if_pos hu] at hp; simp [ownB] at hp
        · rwa [if_neg hu] at hp
    have := h.excl _ _ _ hp0 hb0
    subst this
    simp [blk, get_put, ownB] at hp
  · simp only [Option.some.injEq, Prod.mk.injEq] at hev
    obtain ⟨rfl, rfl⟩ := hev
    exact .pure hr (cp_ok h hd hv hx (carg_c hc))
end
end Go.Am
