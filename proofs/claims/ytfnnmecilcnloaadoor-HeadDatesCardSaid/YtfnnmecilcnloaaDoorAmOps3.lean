import Derived.Test.YtfnnmecilcnloaaDoorAmOps2
set_option linter.unusedSimpArgs false
set_option linter.unusedVariables false
set_option linter.unusedSectionVars false
set_option linter.defProp false
namespace Go.Am
open Go
variable [Tabs]
section
variable {P : Program} {L : List Nat} {N : Nat} {F : Nat → Prop} {γ : List Nat} {C : Nat → List Value} {e : Env} {ah : AH} {ts : Array Value} {ds : List Deferred} {w : World} {m : Bool}
variable {d : Option Nat} {ty : TypeId} {pos : String} {af : Array Edge} {g : Option (Nat × Bool)} {e' : Env} {ah' : AH}

theorem extract_get (vs : Array Value) (q n i : Nat) (hi : i < n) (hq : q + n ≤ vs.size) : (vs.extract q (q + n)).getD i undef = vs.getD (q + i) undef := by
  rw [Array.getD_eq_getD_getElem?, Array.getD_eq_getD_getElem?, Array.getElem?_extract, if_pos (by omega)]

/-- a stretch of cells, as a struct -/
theorem agg_sub {cs : List AV} {vs : Array Value} (hl : cs.length ≤ vs.size) (hv : ∀ (i : Nat) (a : AV), cs[i]? = some a → VR C γ a (vs.getD i undef)) {q n : Nat} (hq : q + n ≤ cs.length) :
    VR C γ (.agg ((cs.drop q).take n)) (.agg (vs.extract q (q + n))) := by
  refine .agg _ _ _ (by simp; omega) fun i a hi => ?_
  have hin : i < n := by
    have := (List.getElem?_eq_some_iff.1 hi).1
    simp at this; omega
  rw [List.getElem?_take_of_lt hin, List.getElem?_drop] at hi
  rw [extract_get _ _ _ _ hin (by omega)]
  exact hv _ _ hi
theorem agg_sub_tc {cs : List AV} {vs : Array Value} (hl : cs.length ≤ vs.size) {q n : Nat} (hv : ∀ (i : Nat) (a : AV), cs[q + i]? = some a → i < n → TCx a (vs.getD (q + i) undef)) (hq : q + n ≤ cs.length) :
    TC w C (.agg ((cs.drop q).take n)) (.agg (vs.extract q (q + n))) := by
  intro i a hi
  have hin : i < n := by
    have := (List.getElem?_eq_some_iff.1 hi).1
    simp at this; omega
  rw [List.getElem?_take_of_lt hin, List.getElem?_drop] at hi
  rw [extract_get _ _ _ _ hin (by omega)]
  exact hv _ _ hi hin

theorem sh1_plain (a : AV) : a.sh1.plain = true := by
  cases a with
  | sl t k xs => cases t <;> rfl
  | _ => rfl
theorem s1_plain (a : AV) : a.s1.plain = true := by
  cases a with
  | sl t k xs => cases t <;> rfl
  | _ => rfl
theorem TCx_tc {a : AV} {v : Value} (h : TCx a v) : TC w C a.sh1 v := by
  cases a with
  | sl t k xs => cases t <;> cases v <;> first | trivial | exact h
  | agg cs => cases v <;> exact absurd h (by simp [TCx])
  | tup cs => cases v <;> exact absurd h (by simp [TCx])
  | _ => cases v <;> trivial
theorem TC_tcx {a : AV} {v : Value} (h : TC w C a v) (hf : a.flat = true) : TCx a v := by
  cases a with
  | sl t k xs => cases t <;> cases v <;> first | trivial | exact h
  | agg cs => cases hf
  | tup cs => cases hf
  | _ => cases v <;> trivial
theorem s1_tc (a : AV) (hf : a.flat = true) (v : Value) : TC w C a.s1 v := by
  cases a with
  | sl t k xs => cases v <;> trivial
  | agg cs => cases hf
  | tup cs => cases hf
  | _ => cases v <;> trivial
theorem s1_tcx (a : AV) (hf : a.flat = true) (v : Value) : TCx a.s1 v := by
  cases a with
  | sl t k xs => cases v <;> trivial
  | agg cs => cases hf
  | tup cs => cases hf
  | _ => cases v <;> trivial
theorem allFlat_get {l : List AV} (h : allFlat l = true) {i : Nat} {a : AV} (hi : l[i]? = some a) : a.flat = true := by
  induction l generalizing i with
  | nil => simp at hi
  | cons b r ih =>
    simp only [allFlat, Bool.and_eq_true] at h
    cases i with
    | zero => simp at hi; subst hi; exact h.1
    | succ i => exact ih h.2 (by simpa using hi)
theorem allOk_get {l : List AV} (h : allOk l = true) {i : Nat} {a : AV} (hi : l[i]? = some a) : a.ok1 = true := by
  induction l generalizing i with
  | nil => simp at hi
  | cons b r ih =>
    simp only [allOk, Bool.and_eq_true] at h
    cases i with
    | zero => simp at hi; subst hi; exact h.1
    | succ i => exact ih h.2 (by simpa using hi)
theorem ok1_flat {a : AV} (h : a.ok1 = true) : a.flat = true := by cases a <;> first | rfl | cases h

theorem run_part {t : TypeId} (ht : tok P t = true) {vs : Array Value} {q : Nat} :
    (∀ n, tn P t = some n → (part t vs q).run P w = .ok (.agg (vs.extract q (q + n))) w) ∧
    (∀ v, tn P t = none → vs[q]? = some v → (part t vs q).run P w = .ok v w) := by
  simp only [tok, Bool.and_eq_true] at ht
  constructor
  · intro n hn
    unfold tn at hn
    split at hn
    · rename_i ha
      obtain rfl : tsz P t = n := by simpa using hn
      simp [part, run_isAgg ht.1, ha, run_size ht.2]
    · cases hn
  · intro v hn hv
    unfold tn at hn
    split at hn
    · cases hn
    · rename_i ha
      simp [part, run_isAgg ht.1, ha, hv]

theorem op_fldv {t : TypeId} {x : Operand} {f : Nat} {x' : Ar} {fd : Field} (h : SR L N F γ C e ah ts w) (hd : ∀ x, d = some x → x < N) (hc : carg0 x = some x') (hf : tfd P t f = some fd)
    (ht : tok P fd.type = true)
    (hev : aev L ⟨d, .fldv x' fd.offset (tn P fd.type), none⟩ e ah = some (e', ah')) : Done m P L N F γ C ⟨d, .field t x f, ty, pos, af, g⟩ ts ds w e' ah' := by
  have h1 := arg0_ok (ds := ds) h hc
  unfold tfd at hf
  split at hf
  case h_2 => cases hf
  rename_i fs hu
  have hrun : ∀ (w : World) vs, (Instr.field t (.agg vs) f).run P w = (part fd.type vs fd.offset).run P w := by
    intro w vs; simp [Instr.field, run_und hu, hf, asAgg]
  simp only [aev] at hev
  split at hev
  case h_2 => cases hev
  rename_i cs he
  rw [he] at h1
  obtain ⟨vs, hv, hl, hvs⟩ := h1.1.agg_inv
  rw [hv] at h1
  have htc : ∀ (i : Nat) (a : AV), cs[i]? = some a → TCx a (vs.getD i undef) := h1.2
  cases hn : tn P fd.type with
  | some n =>
    simp only [hn] at hev
    split at hev
    case isFalse => cases hev
    rename_i hq
    simp only [Option.some.injEq, Prod.mk.injEq] at hev
    obtain ⟨rfl, rfl⟩ := hev
    refine Done.plain h hd (v := .agg (vs.extract fd.offset (fd.offset + n))) ?_ ((Wk.aggMap _ Wk.sh1 _).vr (agg_sub (Nat.le_of_eq hl) hvs hq)) ((Wk.aggMap _ Wk.sh1 _).tc (agg_sub_tc (Nat.le_of_eq hl) (fun i a hi _ => htc _ a hi) hq)) rfl
    intro w _
    simp [execOp, hv, hrun, (run_part (w := w) ht).1 n hn]
  | none =>
    simp only [hn] at hev
    split at hev
    case h_2 => cases hev
    rename_i c hcq
    simp only [Option.some.injEq, Prod.mk.injEq] at hev
    obtain ⟨rfl, rfl⟩ := hev
    have hlt : fd.offset < vs.size := by rw [← hl]; exact (List.getElem?_eq_some_iff.1 hcq).1
    have hg : vs[fd.offset]? = some (vs.getD fd.offset undef) := by simp [Array.getD_eq_getD_getElem?, Array.getElem?_eq_getElem hlt]
    refine Done.plain h hd (v := vs.getD fd.offset undef) ?_ ((Wk.of_or (Wk.sh1 c)).vr (hvs _ _ hcq)) (TCx_tc (htc _ _ hcq)) (sh1_plain _)
    intro w _
    simp [execOp, hv, hrun, (run_part (w := w) ht).2 _ hn hg]

/-! loads -/
theorem run_loadFrom {b o : Nat} : ∀ (n i : Nat) (acc : Array Value), (∀ j, i ≤ j → j < i + n → ∃ v, w.cell? ⟨b, o + j, none⟩ = some v) →
    ∃ r : Array Value, (loadCellsFrom ⟨b, o, none⟩ i n acc).run P w = .ok r w ∧ r.size = acc.size + n ∧ (∀ j, j < acc.size → r[j]? = acc[j]?) ∧ ∀ j, j < n → r[acc.size + j]? = w.cell? ⟨b, o + (i + j), none⟩ := by
  intro n
  induction n with
  | zero => intro i acc _; exact ⟨acc, by simp [loadCellsFrom], rfl, fun _ _ => rfl, fun j hj => by omega⟩
  | succ n ih =>
    intro i acc h
    obtain ⟨v, hv⟩ := h i (Nat.le_refl _) (by omega)
    obtain ⟨r, hr, hs, h1, h2⟩ := ih (i + 1) (acc.push v) (fun j hj hj' => h j (by omega) (by omega))
    refine ⟨r, ?_, by simp at hs; omega, fun j hj => ?_, fun j hj => ?_⟩
    · simp only [loadCellsFrom, Sem.run_bind, load, Sem.run, add_eq, hv, Result.andThen_ok]
      exact hr
    · rw [h1 j (by simp; omega), Array.getElem?_push, if_neg (by omega)]
    · cases j with
      | zero => rw [Nat.add_zero, h1 _ (by simp), Array.getElem?_push, if_pos rfl]; exact hv.symm
      | succ j => have := h2 j (by omega); simp at this; rw [show acc.size + (j + 1) = acc.size + 1 + j by omega, this]; congr 2; omega

theorem run_load {t : TypeId} (ht : tok P t = true) {b o : Nat} :
    (∀ n, tn P t = some n → (∀ j, j < n → ∃ v, w.cell? ⟨b, o + j, none⟩ = some v) →
      ∃ r : Array Value, (loadVar t ⟨b, o, none⟩).run P w = .ok (.agg r) w ∧ r.size = n ∧ ∀ j, j < n → r[j]? = w.cell? ⟨b, o + j, none⟩) ∧
    (∀ v, tn P t = none → w.cell? ⟨b, o, none⟩ = some v → (loadVar t ⟨b, o, none⟩).run P w = .ok v w) := by
  simp only [tok, Bool.and_eq_true] at ht
  constructor
  · intro n hn hc
    unfold tn at hn
    split at hn
    · rename_i ha
      obtain rfl : tsz P t = n := by simpa using hn
      obtain ⟨r, hr, hs, _, h2⟩ := run_loadFrom (P := P) (w := w) (b := b) (o := o) (tsz P t) 0 #[] (fun j _ hj => hc j (by omega))
      refine ⟨r, ?_, by simpa using hs, fun j hj => by have := h2 j hj; simpa using this⟩
      simp [loadVar, run_isAgg ht.1, ha, run_size ht.2, loadCells, hr]
    · cases hn
  · intro v hn hv
    unfold tn at hn
    split at hn
    · cases hn
    · rename_i ha
      simp [loadVar, run_isAgg ht.1, ha, load, Sem.run, hv]

theorem cell_obj {b : Nat} {vs : Array Value} {ty : TypeId} {fr : Nat × Nat} (h : w.heap[b]? = some (.cells vs ty fr)) (i : Nat) : w.cell? ⟨b, i, none⟩ = vs[i]? := by
  simp [World.cell?, h]

theorem getD_list (vs : Array Value) (i : Nat) : vs.toList.getD i undef = vs.getD i undef := by
  simp [List.getD_eq_getElem?_getD, Array.getD_eq_getD_getElem?]

/-- a cell of a row -/
theorem cell_row (h : SR L N F γ C e ah ts w) {b i : Nat} (hi : i < (C b).length) : w.cell? ⟨b, i, none⟩ = some ((C b).getD i undef) := by
  have hne : C b ≠ [] := by intro h0; rw [h0] at hi; simp at hi
  obtain ⟨vs, ty, fr, hh, hp⟩ := h.mem.com b hne
  rw [cell_obj hh]
  have h1 := getD_prefix hp hi undef
  have hlt : i < vs.size := by have := hp.length_le; simp at this; omega
  rw [← h1, getD_list, Array.getElem?_eq_getElem hlt]
  simp [Array.getD_eq_getD_getElem?, Array.getElem?_eq_getElem hlt]

theorem load_same {t : TypeId} (ht : tok P t = true) {b o : Nat} {v : Value} {w2 : World} (hr : (loadVar t ⟨b, o, none⟩).run P w = .ok v w)
    (hs : ∀ j, j < (tn P t).getD 1 → (∃ u, w.cell? ⟨b, o + j, none⟩ = some u) ∧ w2.cell? ⟨b, o + j, none⟩ = w.cell? ⟨b, o + j, none⟩) : (loadVar t ⟨b, o, none⟩).run P w2 = .ok v w2 := by
  cases hn : tn P t with
  | some n =>
    rw [hn] at hs
    obtain ⟨r, h1, h2, h3⟩ := (run_load (w := w) ht (b := b) (o := o)).1 n hn (fun j hj => (hs j hj).1)
    obtain ⟨r', g1, g2, g3⟩ := (run_load (w := w2) ht (b := b) (o := o)).1 n hn (fun j hj => by rw [(hs j hj).2]; exact (hs j hj).1)
    rw [h1] at hr
    injection hr with hr _
    subst hr
    rw [g1]
    have : r' = r := by
      apply Array.ext_getElem?
      intro j
      by_cases hj : j < n
      · rw [g3 j hj, h3 j hj, (hs j hj).2]
      · rw [Array.getElem?_eq_none (by omega), Array.getElem?_eq_none (by omega)]
    rw [this]
  | none =>
    rw [hn] at hs
    have h0 := hs 0 (by simp)
    obtain ⟨u, hu⟩ := h0.1
    have h1 := (run_load (w := w) ht (b := b) (o := o)).2 u hn hu
    rw [h1] at hr
    injection hr with hr _
    subst hr
    exact (run_load (w := w2) ht (b := b) (o := o)).2 u hn (by have := h0.2; simp only [Nat.add_zero] at this hu; rw [this]; exact hu)

theorem op_lde {t : TypeId} {x : Operand} {x' : Ar} (h : SR L N F γ C e ah ts w) (hd : ∀ x, d = some x → x < N) (hc : carg0 x = some x') (ht : tok P t = true)
    (hev : aev L ⟨d, .lde x' (tn P t), none⟩ e ah = some (e', ah')) : Done m P L N F γ C ⟨d, .load t x, ty, pos, af, g⟩ ts ds w e' ah' := by
  have h1 := arg0_ok (ds := ds) h hc
  have hrun : ∀ b o v, Act.eval ⟨ts, ds⟩ x = .pointer (some ⟨b, o, none⟩) → (loadVar t ⟨b, o, none⟩).run P w = .ok v w →
      (∀ w2, KA m γ C w w2 → ∀ j, j < (tn P t).getD 1 → (∃ u, w.cell? ⟨b, o + j, none⟩ = some u) ∧ w2.cell? ⟨b, o + j, none⟩ = w.cell? ⟨b, o + j, none⟩) →
      ∀ w2, KA m γ C w w2 → (execOp (Act.eval ⟨ts, ds⟩) ⟨d, .load t x, ty, pos, af, g⟩).run P w2 = .ok (.value v) w2 := by
    intro b o v hx hr hs w2 hk
    have := load_same ht hr (hs w2 hk)
    simp [execOp, Instr.loadAt, Instr.sureAddr, hx, this]
  simp only [aev] at hev
  split at hev
  case h_2 => cases hev
  · rename_i a p he
    rw [he] at h1
    obtain ⟨b, q, hv, hlen, hcell⟩ := h1.1.ep_inv
    have hcr : ∀ j, p + j < a.cells.length → w.cell? ⟨b, q + p + j, none⟩ = some ((C b).getD (q + (p + j)) undef) := by
      intro j hj
      rw [Nat.add_assoc]; exact cell_row h (by omega)
    have hks : ∀ n, (tn P t).getD 1 = n → p + n ≤ a.cells.length → ∀ w2, KA m γ C w w2 → ∀ j, j < (tn P t).getD 1 → (∃ u, w.cell? ⟨b, q + p + j, none⟩ = some u) ∧ w2.cell? ⟨b, q + p + j, none⟩ = w.cell? ⟨b, q + p + j, none⟩ :=
      fun n hn hl w2 hk j hj => ⟨⟨_, hcr j (by omega)⟩, hk.1 b (q + p + j) (by omega)⟩
    cases hn : tn P t with
    | some n =>
      simp only [hn] at hev
      split at hev
      case isFalse => simp at hev
      rename_i hq
      obtain ⟨hq, hfl⟩ := hq
      simp only [Option.some.injEq, Prod.mk.injEq] at hev
      obtain ⟨rfl, rfl⟩ := hev
      obtain ⟨r, hr, hrs, hrc⟩ := (run_load (w := w) ht (b := b) (o := q + p)).1 n hn (fun j hj => ⟨_, hcr j (by omega)⟩)
      have hrv : ∀ i, i < n → r.getD i undef = (C b).getD (q + (p + i)) undef := by
        intro i hi
        rw [Array.getD_eq_getD_getElem?, hrc i hi, hcr i (by omega)]; rfl
      have hsub : ∀ (i : Nat) (x : AV), (((a.cells.drop p).take n))[i]? = some x → i < n ∧ a.cells[p + i]? = some x := by
        intro i x hi
        have hin : i < n := by
          have := (List.getElem?_eq_some_iff.1 hi).1
          simp at this; omega
        rw [List.getElem?_take_of_lt hin, List.getElem?_drop] at hi
        exact ⟨hin, hi⟩
      refine Done.plain h hd (hrun _ _ _ hv hr (hks _ rfl (by simp only [hn, Option.getD]; omega))) ((Wk.aggMap _ Wk.s1 _).vr (.agg _ _ _ (by simp; omega) fun i x hi => ?_)) ?_ rfl
      · obtain ⟨hin, hi'⟩ := hsub i x hi
        rw [hrv i hin]
        exact (hcell _ _ hi').up γ
      · intro i x hi
        rw [List.getElem?_map] at hi
        cases hx : ((a.cells.drop p).take n)[i]? with
        | none => rw [hx] at hi; simp at hi
        | some y =>
          rw [hx] at hi
          obtain rfl : y.s1 = x := by simpa using hi
          exact s1_tcx y (allFlat_get hfl hx) _
    | none =>
      simp only [hn] at hev
      split at hev
      case h_2 => simp at hev
      rename_i c hcp
      split at hev
      case isFalse => simp at hev
      rename_i hfl
      simp only [Option.some.injEq, Prod.mk.injEq] at hev
      obtain ⟨rfl, rfl⟩ := hev
      have hlt : p < a.cells.length := (List.getElem?_eq_some_iff.1 hcp).1
      have hr := (run_load (w := w) ht (b := b) (o := q + p)).2 _ hn (hcr 0 (by omega))
      exact Done.plain h hd (hrun _ _ _ hv hr (hks _ rfl (by simp only [hn, Option.getD]; omega))) ((Wk.of_or (Wk.s1 c)).vr ((hcell _ _ hcp).up γ)) (s1_tc c hfl _) (s1_plain _)

theorem op_ld {t : TypeId} {x : Operand} {x' : Ar} (h : SR L N F γ C e ah ts w) (hd : ∀ x, d = some x → x < N) (hc : carg0 x = some x') (ht : tok P t = true)
    (hev : aev L ⟨d, .ld x' (tn P t), none⟩ e ah = some (e', ah')) : Done true P L N F γ C ⟨d, .load t x, ty, pos, af, g⟩ ts ds w e' ah' := by
  have h1 := arg0_ok (ds := ds) h hc
  have hrun : ∀ b o v, Act.eval ⟨ts, ds⟩ x = .pointer (some ⟨b, o, none⟩) → (loadVar t ⟨b, o, none⟩).run P w = .ok v w →
      (∀ w2, KA true γ C w w2 → ∀ j, j < (tn P t).getD 1 → (∃ u, w.cell? ⟨b, o + j, none⟩ = some u) ∧ w2.cell? ⟨b, o + j, none⟩ = w.cell? ⟨b, o + j, none⟩) →
      ∀ w2, KA true γ C w w2 → (execOp (Act.eval ⟨ts, ds⟩) ⟨d, .load t x, ty, pos, af, g⟩).run P w2 = .ok (.value v) w2 := by
    intro b o v hx hr hs w2 hk
    have := load_same ht hr (hs w2 hk)
    simp [execOp, Instr.loadAt, Instr.sureAddr, hx, this]
  simp only [aev] at hev
  split at hev
  case h_3 => cases hev
  · rename_i s p he
    rw [he] at h1
    obtain ⟨b, hb, hv⟩ := h1.1.ptr_inv
    split at hev
    case h_2 => cases hev
    rename_i cs hcs
    obtain ⟨vs, tv, hh, hsz, hcell⟩ := h.mem.obj s b cs hcs hb
    have hco := cell_obj hh
    have hks : ∀ n, (tn P t).getD 1 = n → p + n ≤ cs.length → ∀ w2, KA true γ C w w2 → ∀ j, j < (tn P t).getD 1 → (∃ u, w.cell? ⟨b, p + j, none⟩ = some u) ∧ w2.cell? ⟨b, p + j, none⟩ = w.cell? ⟨b, p + j, none⟩ :=
      fun n hn hl w2 hk j hj => ⟨⟨_, by rw [hco]; exact Array.getElem?_eq_getElem (by omega)⟩, by simp [World.cell?, hk.2 rfl s b hb]⟩
    cases hn : tn P t with
    | some n =>
      simp only [hn, loadc] at hev
      split at hev
      case isFalse => simp at hev
      rename_i hq
      obtain ⟨hq, hfl⟩ := hq
      simp only [Option.map_some, Option.some.injEq, Prod.mk.injEq] at hev
      obtain ⟨rfl, rfl⟩ := hev
      obtain ⟨r, hr, hrs, hrc⟩ := (run_load (w := w) ht (b := b) (o := p)).1 n hn (fun j hj => by
        rw [hco]; exact ⟨_, Array.getElem?_eq_getElem (by omega)⟩)
      obtain rfl : r = vs.extract p (p + n) := by
        apply Array.ext_getElem?
        intro j
        by_cases hj : j < n
        · rw [hrc j hj, hco, Array.getElem?_extract, if_pos (by omega)]
        · rw [Array.getElem?_eq_none (by omega), Array.getElem?_eq_none (by simp; omega)]
      refine Done.plain h hd (hrun _ _ _ hv hr (hks _ rfl (by simp only [hn, Option.getD]; omega))) ((Wk.aggMap _ Wk.sh1 _).vr (agg_sub hsz (fun i a hi => (hcell i a hi).1) hq))
        ((Wk.aggMap _ Wk.sh1 _).tc (agg_sub_tc hsz (fun i a hi hin => TC_tcx (hcell _ a hi).2 (allFlat_get hfl (i := i) (by rw [List.getElem?_take_of_lt hin, List.getElem?_drop]; exact hi))) hq)) rfl
    | none =>
      simp only [hn, loadc] at hev
      have hget : ∀ c, cs[p]? = some c → w.cell? ⟨b, p, none⟩ = some (vs.getD p undef) := by
        intro c hcp
        have hlt : p < vs.size := Nat.lt_of_lt_of_le (List.getElem?_eq_some_iff.1 hcp).1 hsz
        rw [hco]; simp [Array.getD_eq_getD_getElem?, Array.getElem?_eq_getElem hlt]
      split at hev
      · rename_i k xs hcp
        simp only [Option.map_some, Option.some.injEq, Prod.mk.injEq] at hev
        obtain ⟨rfl, rfl⟩ := hev
        have hlt : p < cs.length := (List.getElem?_eq_some_iff.1 hcp).1
        have hw := hget _ hcp
        have hr := (run_load (w := w) ht (b := b) (o := p)).2 _ hn hw
        refine .pure (hrun _ _ _ hv hr (hks _ rfl (by simp only [hn, Option.getD]; omega))) (h.putv hd ((hcell p _ hcp).1.retag _) (by cases (vs.getD p undef) <;> trivial) rfl fun l k' xs' hl => ?_)
        injection hl with e1 e2 e3; injection e1 with e1; subst e1
        intro cs' x b' g1 g2 g3 g4
        rw [hb] at g4; injection g4 with g4; subst g4
        exact hw
      · rename_i c hno hcp
        split at hev
        case isFalse => simp at hev
        rename_i hfl
        simp only [Option.map_some, Option.some.injEq, Prod.mk.injEq] at hev
        obtain ⟨rfl, rfl⟩ := hev
        have hlt : p < cs.length := (List.getElem?_eq_some_iff.1 hcp).1
        have hw := hget _ hcp
        have hr := (run_load (w := w) ht (b := b) (o := p)).2 _ hn hw
        exact Done.plain h hd (hrun _ _ _ hv hr (hks _ rfl (by simp only [hn, Option.getD]; omega))) ((Wk.of_or (Wk.sh1 c)).vr (hcell p _ hcp).1) (TCx_tc (TC_tcx (hcell p _ hcp).2 hfl)) (sh1_plain _)
      · simp at hev
  · rename_i a p he
    exact op_lde h hd hc ht (by simpa only [aev, he] using hev)
end
end Go.Am
