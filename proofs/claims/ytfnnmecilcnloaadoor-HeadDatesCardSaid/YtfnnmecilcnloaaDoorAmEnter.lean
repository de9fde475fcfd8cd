import Derived.Test.YtfnnmecilcnloaaDoorAmFn
set_option linter.unusedSimpArgs false
set_option linter.unusedVariables false
set_option linter.unusedSectionVars false
set_option linter.defProp false
namespace Go.Am
open Go
variable [Tabs]

def AV.isTup : AV → Bool
  | .tup _ => true
  | _ => false

/-- results -/
def resv (P : Program) (e : Env) (ah : AH) : List ResultVar → Option (List AV)
  | [] => some []
  | .tmp t :: r => if (get e t).isTup then none else match resv P e ah r with
    | some vs => some (get e t :: vs)
    | none => none
  | .cell a ty :: r => if tok P ty then
      match get e a with
      | .ptr s o => match ah[s]? with
        | some cs => match loadc (tn P ty) s o cs, resv P e ah r with
          | some v, some vs => some (v.sh :: vs)
          | _, _ => none
        | none => none
      | _ => none
    else none

def fin : List AV → AV
  | [a] => a.df
  | l => .tup (l.map AV.sh)

/-- it names objects below n alone -/
inductive Cl (n : Nat) : AV → Prop
  | ptr (s o) : s < n → Cl n (.ptr s o)
  | fn (f cs) : (∀ a ∈ cs, Cl n a) → Cl n (.fn f cs)
  | agg (cs) : (∀ a ∈ cs, Cl n a) → Cl n (.agg cs)
  | tup (cs) : (∀ a ∈ cs, Cl n a) → Cl n (.tup cs)
  | v (x) : Cl n (.v x)
  | int (k i) : Cl n (.int k i)
  | bool (b) : Cl n (.bool b)
  | str (l) : Cl n (.str l)
  | sl (t k xs) : Cl n (.sl t k xs)
  | ep (e o) : Cl n (.ep e o)
  | msl (s k o m) : s < n → Cl n (.msl s k o m)
  | gsl0 (s k) : Cl n (.gsl s k 0 0)
  | gsl (s k m c) : s < n → Cl n (.gsl s k m c)
  | ifc : Cl n .ifc
  | un : Cl n .un
@[simp] theorem Cl_msl {n s k o m : Nat} : Cl n (.msl s k o m) ↔ s < n := ⟨fun h => by cases h; assumption, .msl _ _ _ _⟩
@[simp] theorem Cl_ifc {n : Nat} : Cl n .ifc := .ifc
@[simp] theorem Cl_ptr {n s o : Nat} : Cl n (.ptr s o) ↔ s < n := ⟨fun h => by cases h; assumption, .ptr _ _⟩
@[simp] theorem Cl_fn {n f : Nat} {cs : List AV} : Cl n (.fn f cs) ↔ ∀ a ∈ cs, Cl n a := ⟨fun h => by cases h; assumption, .fn _ _⟩
@[simp] theorem Cl_agg {n : Nat} {cs : List AV} : Cl n (.agg cs) ↔ ∀ a ∈ cs, Cl n a := ⟨fun h => by cases h; assumption, .agg _⟩
@[simp] theorem Cl_tup {n : Nat} {cs : List AV} : Cl n (.tup cs) ↔ ∀ a ∈ cs, Cl n a := ⟨fun h => by cases h; assumption, .tup _⟩
@[simp] theorem Cl_v {n : Nat} {x : Value} : Cl n (.v x) := .v _
@[simp] theorem Cl_int {n : Nat} {k : IntKind} {i : Int} : Cl n (.int k i) := .int ..
@[simp] theorem Cl_bool {n : Nat} {b : Bool} : Cl n (.bool b) := .bool _
@[simp] theorem Cl_str {n : Nat} {l : List UInt8} : Cl n (.str l) := .str _
@[simp] theorem Cl_sl {n : Nat} {t : Tg} {k : Nat} {xs : List AV} : Cl n (.sl t k xs) := .sl ..
@[simp] theorem Cl_ep {n : Nat} {e : AV} {o : Nat} : Cl n (.ep e o) := .ep ..
@[simp] theorem Cl_x {n : Nat} : Cl n .un := .un
def ClH (n : Nat) (ah : AH) : Prop := ∀ (s : Nat) (cs : List AV), ah[s]? = some cs → ∀ a ∈ cs, Cl n a

def Ret (P : Program) (n : Nat) (rs : List ResultVar) (R : AV → AH → Prop) (x : Exit) (e : Env) (ah : AH) : Prop :=
  (x = .normal ∨ x = .ret) ∧ match resv P e ah rs with
    | some vs => Cl n (fin vs) ∧ ClH n (ah.take n) ∧ n ≤ ah.length ∧ R (fin vs) (ah.take n)
    | none => False

section
variable {P : Program} {L : List Nat} {N n0 : Nat} {F : Nat → Prop} {γ : List Nat} {C C' : Nat → List Value} {e : Env} {ah : AH} {ts : Array Value} {w w' : World}

theorem VR.take {a : AV} {v : Value} {n : Nat} (h : VR C γ a v) : Cl n a → VR C (γ.take n) a v := by
  induction h with
  | v _ _ hs => intro _; exact .v _ _ hs
  | un => intro _; exact .un ..
  | int => intro _; exact .int ..
  | bool => intro _; exact .bool ..
  | str => intro _; exact .str ..
  | ptr _ s o b hb => intro hn; exact .ptr _ _ _ _ (by rw [List.getElem?_take_of_lt (Cl_ptr.1 hn)]; exact hb)
  | msl _ s k o n b c hb hn' => intro hn; exact .msl _ _ _ _ _ _ _ (by rw [List.getElem?_take_of_lt (Cl_msl.1 hn)]; exact hb) hn'
  | gsl0 => intro _; exact .gsl0 ..
  | gsl _ s k n b c hb hn' =>
    intro hn
    cases hn with
    | gsl0 => exact .gsl0 ..
    | gsl _ _ _ _ hs => exact .gsl _ _ _ _ _ _ (by rw [List.getElem?_take_of_lt hs]; exact hb) hn'
  | ifc => intro _; exact .ifc ..
  | sl0 => intro _; exact .sl0 ..
  | sl _ _ _ _ b o n c hn' hc hk hl ho hx => intro _; exact .sl _ _ _ _ _ _ _ _ hn' hc hk hl ho hx
  | ep _ _ _ b p hl hx => intro _; exact .ep _ _ _ _ _ hl hx
  | agg _ cs vs hl hx ih => intro hn; exact .agg _ _ _ hl fun i a hi => ih i a hi (Cl_agg.1 hn a (List.mem_of_getElem? hi))
  | tup _ cs vs hl hx ih => intro hn; exact .tup _ _ _ hl fun i a hi => ih i a hi (Cl_tup.1 hn a (List.mem_of_getElem? hi))
  | fn _ f cs vs hl hx ih => intro hn; exact .fn _ _ _ _ hl fun i a hi => ih i a hi (Cl_fn.1 hn a (List.mem_of_getElem? hi))

/-- what is read names what there is -/
theorem VR.cl {a : AV} {v : Value} (h : VR C γ a v) : Cl γ.length a := by
  have mem : ∀ {cs : List AV} {a : AV}, a ∈ cs → ∃ i : Nat, cs[i]? = some a := fun ha => by
    obtain ⟨i, hi, rfl⟩ := List.getElem_of_mem ha; exact ⟨i, List.getElem?_eq_getElem hi⟩
  induction h with
  | ptr _ s o b hb => exact .ptr _ _ (List.getElem?_eq_some_iff.1 hb).1
  | agg _ cs vs hl hx ih => exact .agg _ fun a ha => by obtain ⟨i, hi⟩ := mem ha; exact ih i a hi
  | tup _ cs vs hl hx ih => exact .tup _ fun a ha => by obtain ⟨i, hi⟩ := mem ha; exact ih i a hi
  | fn _ f cs vs hl hx ih => exact .fn _ _ fun a ha => by obtain ⟨i, hi⟩ := mem ha; exact ih i a hi
  | msl _ s k o n b c hb _ => exact .msl _ _ _ _ (List.getElem?_eq_some_iff.1 hb).1
  | gsl0 => exact .gsl0 ..
  | gsl _ s k n b c hb _ => exact .gsl _ _ _ _ (List.getElem?_eq_some_iff.1 hb).1
  | ifc => exact .ifc
  | v => exact .v _
  | un => exact .un
  | int => exact .int ..
  | bool => exact .bool _
  | str => exact .str _
  | sl0 => exact .sl ..
  | sl => exact .sl ..
  | ep => exact .ep ..

theorem load_cell (h : SR L N F γ C e ah ts w) {a s o : Nat} {ty : TypeId} (ht : tok P ty = true) (hp : get e a = .ptr s o) {cs : List AV} (hs : ah[s]? = some cs) {v : AV} (hl : loadc (tn P ty) s o cs = some v) :
    ∃ u ad, ts.getD a undef = .pointer (some ad) ∧ (loadVar ty ad).run P w = .ok u w ∧ VR C γ v.sh u ∧ TC w C v.sh u := by
  have hv := (h.env a).1
  rw [hp] at hv
  obtain ⟨b, hb, hv⟩ := hv.ptr_inv
  obtain ⟨vs, tv, hh, hsz, hcell⟩ := h.mem.obj s b cs hs hb
  have hco := cell_obj hh
  cases hn : tn P ty with
  | some n =>
    simp only [hn, loadc] at hl
    split at hl
    case isFalse => cases hl
    rename_i hq
    obtain ⟨hq, hfl⟩ := hq
    injection hl with hl
    subst hl
    obtain ⟨r, hr, hrs, hrc⟩ := (run_load (w := w) ht (b := b) (o := o)).1 n hn (fun j hj => by
      rw [hco]; exact ⟨_, Array.getElem?_eq_getElem (by omega)⟩)
    obtain rfl : r = vs.extract o (o + n) := by
      apply Array.ext_getElem?
      intro j
      by_cases hj : j < n
      · rw [hrc j hj, hco, Array.getElem?_extract, if_pos (by omega)]
      · rw [Array.getElem?_eq_none (by omega), Array.getElem?_eq_none (by simp; omega)]
    refine ⟨_, _, hv, hr, ?_, ?_⟩
    · exact (Wk.sh _).vr ((Wk.aggMap _ Wk.sh1 _).vr (agg_sub hsz (fun i a hi => (hcell i a hi).1) hq))
    · exact (Wk.sh _).tc ((Wk.aggMap _ Wk.sh1 _).tc (agg_sub_tc hsz (fun i a hi hin => TC_tcx (hcell _ a hi).2 (allFlat_get hfl (i := i) (by rw [List.getElem?_take_of_lt hin, List.getElem?_drop]; exact hi))) hq))
  | none =>
    simp only [hn, loadc] at hl
    have hget : ∀ c, cs[o]? = some c → w.cell? ⟨b, o, none⟩ = some (vs.getD o undef) := by
      intro c hcp
      have hlt : o < vs.size := Nat.lt_of_lt_of_le (List.getElem?_eq_some_iff.1 hcp).1 hsz
      rw [hco]; simp [Array.getD_eq_getD_getElem?, Array.getElem?_eq_getElem hlt]
    split at hl
    · rename_i k xs hcp
      injection hl with hl
      subst hl
      have hr := (run_load (w := w) ht (b := b) (o := o)).2 _ hn (hget _ hcp)
      exact ⟨_, _, hv, hr, (hcell o _ hcp).1.retag _, by simp only [AV.sh, AV.sh1, Tg.sh]; cases (vs.getD o undef) <;> trivial⟩
    · rename_i c hno hcp
      split at hl
      case isFalse => cases hl
      rename_i hfl
      injection hl with hl
      subst hl
      have hr := (run_load (w := w) ht (b := b) (o := o)).2 _ hn (hget _ hcp)
      refine ⟨_, _, hv, hr, ?_, ?_⟩
      · exact (Wk.sh _).vr ((Wk.of_or (Wk.sh1 c)).vr (hcell o _ hcp).1)
      · exact (Wk.sh _).tc (TCx_tc (TC_tcx (hcell o _ hcp).2 hfl))
    · cases hl

theorem res_ok (h : SR L N F γ C e ah ts w) : ∀ (rs : List ResultVar) (vs : List AV), resv P e ah rs = some vs →
    ∃ us : List Value, (rs.mapM fun | .tmp t => pure (ts.getD t undef) | .cell a t => do loadVar t (← asAddr (ts.getD a undef)) : Sem (List Value)).run P w = .ok us w ∧ us.length = vs.length ∧
      (∀ (i : Nat) (a : AV), vs[i]? = some a → VR C γ a (us.getD i undef) ∧ TC w C a (us.getD i undef)) ∧
      (∀ (i : Nat) (a : AV) (b : Nat), vs[i]? = some a → ownB a (us.getD i undef) = some b → ∃ t, blk γ e ah ts w (.tmp t) b) ∧ ∀ (i : Nat) (a : AV), vs[i]? = some a → a.isTup = false := by
  intro rs
  induction rs with
  | nil => intro vs hr; simp [resv] at hr; subst hr; exact ⟨[], rfl, rfl, by simp, by simp, by simp⟩
  | cons r rs ih =>
    intro vs hr
    cases r with
    | tmp t =>
      simp only [resv] at hr
      split at hr
      case isTrue => cases hr
      rename_i hnt
      split at hr
      case h_2 => cases hr
      rename_i vs' hvs
      injection hr with hr
      subst hr
      obtain ⟨us, h1, h2, h3, h4, h5⟩ := ih vs' hvs
      refine ⟨ts.getD t undef :: us, ?_, by simp [h2], fun i a hi => ?_, fun i a b hi hb => ?_, fun i a hi => by
        cases i with
        | zero => simp at hi; subst hi; simpa using hnt
        | succ i => exact h5 i a (by simpa using hi)⟩
      · simp only [List.mapM_cons, Sem.run_bind, Sem.run_pure, Result.andThen_ok, h1]
      · cases i with
        | zero => simp at hi; subst hi; exact h.env t
        | succ i => exact h3 i a (by simpa using hi)
      · cases i with
        | zero => simp at hi; subst hi; exact ⟨t, hb⟩
        | succ i => exact h4 i a b (by simpa using hi) hb
    | cell a ty =>
      simp only [resv] at hr
      split at hr
      case isFalse => cases hr
      rename_i ht
      split at hr
      case h_2 => cases hr
      rename_i s o hp
      split at hr
      case h_2 => cases hr
      rename_i cs hs
      split at hr
      case h_2 => cases hr
      rename_i v vs' hv hvs
      injection hr with hr
      subst hr
      obtain ⟨us, h1, h2, h3, h4, h5⟩ := ih vs' hvs
      obtain ⟨u, ad, g1, g2, g3, g4⟩ := load_cell (P := P) h ht hp hs hv
      have hnt : v.sh.isTup = false := by
        unfold loadc at hv
        split at hv
        · split at hv <;> simp at hv; subst hv; rfl
        · split at hv
          · injection hv with hv; subst hv; rfl
          · split at hv <;> simp at hv
            rename_i c _ _ hf
            subst hv
            cases c <;> first | rfl | cases hf
          · cases hv
      refine ⟨u :: us, ?_, by simp [h2], fun i a hi => ?_, fun i a b hi hb => ?_, fun i a hi => by
        cases i with
        | zero => simp at hi; subst hi; exact hnt
        | succ i => exact h5 i a (by simpa using hi)⟩
      · have hA : (asAddr (ts.getD a undef)).run P w = .ok ad w := by rw [g1]; rfl
        simp only [List.mapM_cons, Sem.run_bind, hA, Sem.run_pure, Result.andThen_ok, g2, h1]
      · cases i with
        | zero => simp at hi; subst hi; exact ⟨g3, g4⟩
        | succ i => exact h3 i a (by simpa using hi)
      · cases i with
        | zero => simp at hi; subst hi; rw [ownB_not _ (plain_own (sh_plain v))] at hb; cases hb
        | succ i => exact h4 i a b (by simpa using hi) hb

/-- the end of a function: the objects below m are kept; or all are -/
def RetX (P : Program) (n0 : Nat) (rs : List ResultVar) (R : AV → AH → Prop) (x : Exit) (e : Env) (ah : AH) : Prop :=
  (∃ m, n0 ≤ m ∧ Ret P m rs R x e ah) ∨ ((x = .normal ∨ x = .ret) ∧ match resv P e ah rs with
    | some vs => R (fin vs) ah
    | none => False)

/-- **A FUNCTION's CONTRACT, OUT OF ITS CODE.** -/
theorem ACalls.enterX {f : Nat} {fn : Func} {c : Code} {ac : ACode} {args : List AV} {R : AV → AH → Prop} (L : List Nat) (hf : P.funcs[f]? = some fn) (hname : fn.name ≠ "runtime.NumGoroutine") (hb : fn.body = some c)
    (hc : ccode P c = some ac) (ho : cOk fn.ntmps ac = true) (hN : args.length ≤ fn.ntmps)
    (h : ClH ah.length ah → (∀ a ∈ args, ∀ s o, a = .ptr s o → s < ah.length) → AX P L fn.ntmps ah.length ac (RetX P ah.length fn.results.toList R) (argE 0 args) ah) : ACalls P f args ah R := by
  refine ⟨by simp [callable, hf, hb, hname], fun F γ C w vs hs => ?_⟩
  have hlen := hs.mem.len
  have hcl : ClH ah.length ah := by
    intro s cs hscs
    have hlt : s < γ.length := by rw [hlen]; exact (List.getElem?_eq_some_iff.1 hscs).1
    obtain ⟨us, ty, -, hsz, hcell⟩ := hs.mem.obj s _ cs hscs (List.getElem?_eq_getElem hlt)
    intro a ha
    obtain ⟨i, hi, rfl⟩ := List.getElem_of_mem ha
    rw [← hlen]
    exact (hcell i _ (List.getElem?_eq_getElem hi)).1.cl
  have hargs : ∀ a ∈ args, ∀ s o, a = .ptr s o → s < ah.length := by
    intro a ha s o he
    obtain ⟨i, hi, rfl⟩ := List.getElem_of_mem ha
    have := (hs.env i).1
    rw [get_argE] at this
    simp only [Nat.zero_le, if_true, Nat.sub_zero, List.getElem?_eq_getElem hi, Option.getD_some, he] at this
    obtain ⟨b, hb, -⟩ := this.ptr_inv
    rw [← hlen]; exact (List.getElem?_eq_some_iff.1 hb).1
  have hU := h hcl hargs
  have hW : AW P L fn.ntmps ah.length c (RetX P ah.length fn.results.toList R) (argE 0 args) ah := hU c hc
  have hvs : vs.size = args.length := hs.sz
  have hs2 : SR L fn.ntmps F γ C (argE 0 args) ah (vs ++ Array.replicate (fn.ntmps - vs.size) undef) w := by
    have hg : ∀ t, t < vs.size → (vs ++ Array.replicate (fn.ntmps - vs.size) undef).getD t undef = vs.getD t undef := by
      intro t ht; simp [Array.getD_eq_getD_getElem?, Array.getElem?_append, ht]
    have hx : ∀ t, ¬ t < vs.size → get (argE 0 args) t = .un := by
      intro t ht; rw [get_argE]; simp only [Nat.zero_le, if_true, Nat.sub_zero]; rw [List.getElem?_eq_none (by omega)]; rfl
    have hbk : ∀ p b, blk γ (argE 0 args) ah (vs ++ Array.replicate (fn.ntmps - vs.size) undef) w p b → blk γ (argE 0 args) ah vs w p b := by
      intro p b hp
      cases p with
      | obj s => exact hp
      | cell s i => exact hp
      | tmp t =>
        by_cases ht : t < vs.size
        · simp only [blk, hg t ht] at hp ⊢; exact hp
        · simp only [blk, hx t ht, ownB] at hp; cases hp
    refine ⟨hs.mem, by simp; omega, fun t => ?_, fun p q b hp hq => hs.excl p q b (hbk p b hp) (hbk q b hq), fun p b hp => hs.nf p b (hbk p b hp), hs.flt, fun t l k xs htl => ?_⟩
    · by_cases ht : t < vs.size
      · rw [hg t ht]; exact hs.env t
      · rw [hx t ht]; exact ⟨.un .., by generalize (vs ++ Array.replicate (fn.ntmps - vs.size) undef).getD t undef = v; cases v <;> trivial⟩
    · by_cases ht : t < vs.size
      · have := hs.fr t l k xs htl
        cases l with
        | tmp u => have := this.1; simp at this
        | cell s o => intro cs a b h1 h2 h3 h4; rw [hg t ht]; exact this cs a b h1 h2 h3 h4
      · rw [hx t ht] at htl; cases htl
  refine calls_of_wp hf hb (wp_mono (hW F γ C _ w hs2 (by omega)) ?_)
  rintro x ⟨ts', ds'⟩ w' ⟨rfl, -, e', ah', γ', C', hRX, hγ, hs', hext⟩
  have hx : x = .normal ∨ x = .ret := by
    rcases hRX with ⟨m, -, h, -⟩ | ⟨h, -⟩ <;> exact h
  obtain ⟨rvs, hrv⟩ : ∃ rvs, resv P e' ah' fn.results.toList = some rvs := by
    rcases hRX with ⟨m, -, -, h⟩ | ⟨-, h⟩
    · split at h
      · rename_i vs hv; exact ⟨vs, hv⟩
      · exact h.elim
    · split at h
      · rename_i vs hv; exact ⟨vs, hv⟩
      · exact h.elim
  obtain ⟨us, u1, u2, u3, u4, u5⟩ := res_ok (P := P) hs' _ _ hrv
  have hres : (results fn ts').run P w' = .ok (if us.length = 1 then us.getD 0 undef else .tuple us.toArray) w' := by
    unfold results
    rw [Array.mapM_eq_mapM_toList, map_eq_pure_bind]
    simp only [Sem.run_bind, Sem.run_pure]
    refine (congrArg (fun r => Result.andThen (Result.andThen r fun (a : List Value) w' => .ok a.toArray w') fun (a : Array Value) w' => .ok (if h : a.size = 1 then a[0] else Value.tuple a) w') u1).trans ?_
    simp only [Result.andThen_ok]
    by_cases h1 : us.length = 1
    · rw [if_pos h1]
      have : us.toArray.size = 1 := by simpa using h1
      rw [dif_pos this]
      simp [List.getD_eq_getElem?_getD, h1]
    · rw [if_neg h1]
      have : ¬ us.toArray.size = 1 := by simpa using h1
      rw [dif_neg this]
  generalize hv : (if us.length = 1 then us.getD 0 undef else .tuple us.toArray) = v at hres
  have hfin : VR C' γ' (fin rvs) v ∧ TC w' C' (fin rvs) v ∧ (∀ b, ownB (fin rvs) v = some b → ∃ t, blk γ' e' ah' ts' w' (.tmp t) b) ∧ ∀ l k xs, fin rvs ≠ .sl (.fr l) k xs := by
    by_cases h1 : us.length = 1
    · rw [if_pos h1] at hv
      obtain ⟨a, rfl⟩ : ∃ a, rvs = [a] := by
        cases rvs with
        | nil => rw [h1] at u2; simp at u2
        | cons a r => cases r with
          | nil => exact ⟨a, rfl⟩
          | cons b r => rw [h1] at u2; simp at u2
      have h3 := u3 0 a rfl
      rw [hv] at h3
      refine ⟨(Wk.df a).vr h3.1, (Wk.df a).tc h3.2, fun b hb => u4 0 a b rfl ?_, fun l k xs => df_fr a l k xs⟩
      rw [hv]; exact (Wk.df a).own hb
    · rw [if_neg h1] at hv
      have hf : fin rvs = .tup (rvs.map AV.sh) := by
        cases rvs with
        | nil => rfl
        | cons a r => cases r with
          | nil => exact absurd (by simpa using u2) h1
          | cons b r => rfl
      rw [hf]
      subst hv
      refine ⟨.tup _ _ _ (by simp [u2]) fun i a hi => ?_, fun i a hi => ?_, fun b hb => by simp [ownB] at hb, by simp⟩
      · rw [List.getElem?_map] at hi
        cases hq : rvs[i]? with
        | none => rw [hq] at hi; simp at hi
        | some y =>
          rw [hq] at hi
          obtain rfl : y.sh = a := by simpa using hi
          have := (Wk.sh y).vr (u3 i y hq).1
          rwa [← getD_list] 
      · rw [List.getElem?_map] at hi
        cases hq : rvs[i]? with
        | none => rw [hq] at hi; simp at hi
        | some y =>
          rw [hq] at hi
          obtain rfl : y.sh = a := by simpa using hi
          have h3 := (Wk.sh y).tc (u3 i y hq).2
          have h4 := (Wk.sh y).vr (u3 i y hq).1
          rw [← getD_list]
          show TCy y.sh (us.getD i undef)
          have h5 : y.sh.isTup = false := by have := u5 i y hq; cases y <;> first | rfl | cases this
          generalize us.getD i undef = u at h3 h4
          generalize hz : y.sh = z at h3 h4 h5
          cases z with
          | agg cs => obtain ⟨vs, rfl, -⟩ := h4.agg_inv; exact h3
          | tup cs => cases h5
          | sl t k xs => cases t <;> cases u <;> first | trivial | exact h3 | (exfalso; cases y <;> simp [AV.sh, AV.sh1] at hz; done) | skip
          | _ => cases u <;> trivial
  obtain ⟨m, hm, hrc, hclm, hmle, hRR⟩ : ∃ m, ah.length ≤ m ∧ Cl m (fin rvs) ∧ ClH m (ah'.take m) ∧ m ≤ ah'.length ∧ R (fin rvs) (ah'.take m) := by
    rcases hRX with ⟨m, hm, -, h⟩ | ⟨-, h⟩
    · rw [hrv] at h
      exact ⟨m, hm, h⟩
    · rw [hrv] at h
      have hl : ah'.take ah'.length = ah' := List.take_length
      refine ⟨ah'.length, ?_, ?_, ?_, Nat.le_refl _, by rw [hl]; exact h⟩
      · rw [← hs'.mem.len]
        have := hγ.length_le
        rw [← hlen, List.take_length] at this
        omega
      · rw [← hs'.mem.len]; exact hfin.1.cl
      · rw [hl]
        intro s cs hscs
        have hlt : s < γ'.length := by rw [hs'.mem.len]; exact (List.getElem?_eq_some_iff.1 hscs).1
        obtain ⟨us', ty', -, hsz', hcell'⟩ := hs'.mem.obj s _ cs hscs (List.getElem?_eq_getElem hlt)
        intro a ha
        obtain ⟨i, hi, rfl⟩ := List.getElem_of_mem ha
        rw [← hs'.mem.len]
        exact (hcell' i _ (List.getElem?_eq_getElem hi)).1.cl
  have hm0 : ah.length ≤ m := hm
  have hlen' := hs'.mem.len
  have hpre : γ <+: γ'.take m := by
    rw [← hlen, List.take_length] at hγ
    obtain ⟨q, rfl⟩ := hγ
    rw [List.take_append]
    rw [List.take_of_length_le (l := γ) (i := m) (by omega)]
    exact List.prefix_append _ _
  have hbp : bodyPost P fn (fun en w' => ∃ r v ah' γ' C', en = .returned v ∧ R r ah' ∧ γ <+: γ' ∧ SR [] 1 F γ' C' [(0, r)] ah' #[v] w' ∧ Ext F C w C' w') x ⟨ts', []⟩ w' := by
    have key : ∃ v', (results fn ts').run P w' = .ok v' w' ∧ ∃ r v ah' γ' C', Ending.returned v' = .returned v ∧ R r ah' ∧ γ <+: γ' ∧ SR [] 1 F γ' C' [(0, r)] ah' #[v] w' ∧ Ext F C w C' w' := by
      refine ⟨v, hres, fin rvs, v, ah'.take m, γ'.take m, C', rfl, hRR, hpre, ?_, hext⟩
      have hgt : ∀ (s b : Nat), (γ'.take m)[s]? = some b → γ'[s]? = some b ∧ s < m := by
        intro s b hsb
        by_cases hsm : s < m
        · rw [List.getElem?_take_of_lt hsm] at hsb; exact ⟨hsb, hsm⟩
        · rw [List.getElem?_eq_none (by simp; omega)] at hsb; cases hsb
      have hat : ∀ (s : Nat) (cs : List AV), (ah'.take m)[s]? = some cs → ah'[s]? = some cs := by
        intro s cs hsb
        by_cases hsm : s < m
        · rwa [List.getElem?_take_of_lt hsm] at hsb
        · rw [List.getElem?_eq_none (by simp; omega)] at hsb; cases hsb
      have hbk : ∀ p b, blk (γ'.take m) [(0, fin rvs)] (ah'.take m) #[v] w' p b → (∃ t, p = .tmp 0 ∧ blk γ' e' ah' ts' w' (.tmp t) b) ∨ ((∀ t, p ≠ .tmp t) ∧ blk γ' e' ah' ts' w' p b) := by
        intro p b hp
        cases p with
        | obj s => exact .inr ⟨by simp, (hgt s b hp).1⟩
        | cell s i =>
          obtain ⟨cs, a, b0, g1, g2, g3, g4⟩ := hp
          exact .inr ⟨by simp, cs, a, b0, hat s cs g1, g2, (hgt s b0 g3).1, g4⟩
        | tmp t =>
          simp only [blk, get] at hp
          by_cases ht : 0 = t
          · subst ht
            simp only [if_true] at hp
            obtain ⟨t, ht⟩ := hfin.2.2.1 b hp
            exact .inl ⟨t, rfl, ht⟩
          · rw [if_neg ht] at hp; simp [ownB] at hp
      refine ⟨⟨by simp [hlen'], fun s b cs g1 g2 => ?_, hs'.mem.com, fun s b cs g1 g0 hsb => hs'.mem.objC s b cs (hat s cs g1) g0 (hgt s b hsb).1, fun s b cs us ty fr g1 hsb hh => hs'.mem.frz s b cs us ty fr (hat s cs g1) (hgt s b hsb).1 hh⟩, rfl, fun t => ?_, fun p q b hp hq => ?_, fun p b hp => ?_, hs'.flt, fun t l k xs htl => ?_⟩
      · obtain ⟨vs, ty, q1, q2, q3⟩ := hs'.mem.obj s b cs (hat s cs g1) (hgt s b g2).1
        exact ⟨vs, ty, q1, q2, fun i a hi => ⟨(q3 i a hi).1.take (hclm s cs g1 a (List.mem_of_getElem? hi)), (q3 i a hi).2⟩⟩
      · by_cases ht : 0 = t
        · subst ht
          simp only [get, if_true]
          exact ⟨hfin.1.take hrc, hfin.2.1⟩
        · simp only [get, if_neg ht]
          exact ⟨.un .., by generalize (#[v] : Array Value).getD t undef = u; cases u <;> trivial⟩
      · rcases hbk p b hp with ⟨t, rfl, h1⟩ | ⟨h1, h2⟩ <;> rcases hbk q b hq with ⟨u, rfl, h3⟩ | ⟨h3, h4⟩
        · rfl
        · exact absurd (hs'.excl _ _ b h1 h4) (fun e => h3 t e.symm)
        · exact absurd (hs'.excl _ _ b h2 h3) (h1 u)
        · exact hs'.excl p q b h2 h4
      · rcases hbk p b hp with ⟨t, rfl, h1⟩ | ⟨h1, h2⟩
        · exact hs'.nf _ b h1
        · exact hs'.nf p b h2
      · by_cases ht : 0 = t
        · subst ht
          simp only [get, if_true] at htl
          exact absurd htl (hfin.2.2.2 l k xs)
        · simp only [get, if_neg ht] at htl; cases htl
    rcases hx with rfl | rfl
    · exact ⟨rfl, key⟩
    · exact ⟨rfl, key⟩
  exact hbp

theorem AX.up {c : ACode} {Q Q' : Exit → Env → AH → Prop} {e : Env} {ah : AH} {n0 : Nat} (h : AX P L N n0 c Q e ah) (hq : ∀ x e ah, Q x e ah → Q' x e ah) : AX P L N n0 c Q' e ah := fun c' hc' => (h c' hc').mono hq

theorem ACalls.enter {f : Nat} {fn : Func} {c : Code} {ac : ACode} {args : List AV} {R : AV → AH → Prop} (L : List Nat) (m : Nat) (hf : P.funcs[f]? = some fn) (hname : fn.name ≠ "runtime.NumGoroutine") (hb : fn.body = some c)
    (hc : ccode P c = some ac) (ho : cOk fn.ntmps ac = true) (hN : args.length ≤ fn.ntmps) (hm : ah.length ≤ m)
    (h : ClH ah.length ah → (∀ a ∈ args, ∀ s o, a = .ptr s o → s < ah.length) → U P L fn.ntmps ah.length [.code ac] (Ret P m fn.results.toList R) .normal (argE 0 args) ah) : ACalls P f args ah R :=
  ACalls.enterX L hf hname hb hc ho hN fun h1 h2 => AX.up (fun c' hc' => codeW_ok c' ac _ _ _ (by rw [ccode_erase c ac hc]; exact hc') (by rw [ccode_erase c ac hc]; exact ho) (h h1 h2)) fun x e H hR => .inl ⟨m, hm, hR⟩
end
end Go.Am
