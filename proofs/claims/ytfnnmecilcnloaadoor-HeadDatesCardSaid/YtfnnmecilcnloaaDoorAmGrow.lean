import Derived.Test.YtfnnmecilcnloaaDoorAmBuild
import Derived.Laws.Cover3
set_option linter.unusedSimpArgs false
set_option linter.unusedVariables false
set_option linter.unusedSectionVars false
set_option linter.defProp false
namespace Go.Am
open Go
variable [Tabs]
section
variable {P : Program} {L : List Nat} {N : Nat} {F : Nat → Prop} {γ : List Nat} {C C' : Nat → List Value} {e : Env} {ah : AH} {ts : Array Value} {ds : List Deferred} {w w' : World} {m0 : Bool}
variable {d : Option Nat} {ty ty2 : TypeId} {pos : String} {af : Array Edge} {g : Option (Nat × Bool)} {e' : Env} {ah' : AH}

/-- a new object, in a block that is new -/
theorem new_objG (h : SR L N F γ C e ah ts w) {row : Array Value} {t : TypeId} {fr : Nat × Nat} {cs : List AV} (hw : ∀ b, b < w.heap.size → w'.heap[b]? = w.heap[b]?) (hsz : w'.heap.size = w.heap.size + 1)
    (hb : w'.heap[w.heap.size]? = some (.cells row t fr)) (hfr : ∀ i, i < cs.length → ¬ (fr.1 ≤ i ∧ i < fr.2)) (hl : cs.length ≤ row.size)
    (hc : ∀ (i : Nat) (a : AV), cs[i]? = some a → VR C γ a (row.getD i undef) ∧ a.plain = true ∧ TC w' C a (row.getD i undef)) (ho : SameOut w w' := by exact ⟨rfl, rfl, rfl⟩) :
    SR L N F (γ ++ [w.heap.size]) C e (ah ++ [cs]) ts w' ∧ Ext F C w C w' ∧ (γ ++ [w.heap.size])[ah.length]? = some w.heap.size := by
  obtain ⟨hg, hxx⟩ := h.grow (ho := ho) (w' := w') (C' := C) hw (by omega) (fun _ _ => rfl) (fun b hb hne => absurd (C_new h hb) hne)
  have ho := hg.addObj (b := w.heap.size) (cs := cs) hb hfr hl (fun i a hi => ⟨(hc i a hi).1, (hc i a hi).2.2, plain_own (hc i a hi).2.1⟩) (C_new h (Nat.le_refl _)) (fun hF => Nat.lt_irrefl _ (h.flt.lt _ hF)) (fun p hp => by
    have hb0 : blk γ e ah ts w p w.heap.size := by
      cases p with
      | obj s => exact hp
      | cell s i =>
        obtain ⟨x, a, b0, g1, g2, g3, g4⟩ := hp
        have := blk_lt h (p := .obj s) (b := b0) g3
        exact ⟨x, a, b0, g1, g2, g3, by rwa [cell_same (hw b0 this)] at g4⟩
      | tmp t => exact hp
    exact Nat.lt_irrefl _ (blk_lt h hb0))
  exact ⟨ho, hxx, by rw [List.getElem?_append_right (by rw [h.mem.len]; exact Nat.le_refl _), h.mem.len]; simp⟩

theorem s1_plainG (a : AV) : a.s1.plain = true := by
  cases a with
  | sl t k xs => rfl
  | _ => rfl
theorem s1_tcG (a : AV) (v : Value) (h : a.flat = true) : TC w C a.s1 v := by
  cases a with
  | agg cs => simp [AV.flat] at h
  | tup cs => simp [AV.flat] at h
  | _ => cases v <;> trivial

/-- the cells of a row, one behind the other -/
theorem flat_get {k : Nat} : ∀ (ys : List AV), (∀ (i : Nat) (a : AV), ys[i]? = some a → a.cells.length = k) → ((ys.map fun a => a.cells.map AV.s1).flatten).length = ys.length * k ∧
    ∀ (q : Nat) (a : AV), ((ys.map fun a => a.cells.map AV.s1).flatten)[q]? = some a → ∃ i j y z, ys[i]? = some y ∧ y.cells[j]? = some z ∧ a = z.s1 ∧ q = i * k + j ∧ j < k := by
  intro ys
  induction ys with
  | nil => intro _; exact ⟨by simp, by simp⟩
  | cons y r ih =>
    intro hk
    obtain ⟨h1, h2⟩ := ih fun i a hi => hk (i + 1) a (by simpa using hi)
    have hy := hk 0 y rfl
    refine ⟨by simp only [List.map_cons, List.flatten_cons, List.length_append, List.length_map, h1, hy, List.length_cons, Nat.succ_mul]; omega, fun q a hq => ?_⟩
    simp only [List.map_cons, List.flatten_cons] at hq
    by_cases hlt : q < k
    · rw [List.getElem?_append_left (by simp; omega), List.getElem?_map] at hq
      cases hz : y.cells[q]? with
      | none => rw [hz] at hq; simp at hq
      | some z =>
        rw [hz] at hq
        obtain rfl : z.s1 = a := by simpa using hq
        exact ⟨0, q, y, z, rfl, hz, rfl, by simp, hlt⟩
    · rw [List.getElem?_append_right (by simp; omega)] at hq
      obtain ⟨i, j, y', z, g1, g2, g3, g4, g5⟩ := h2 _ _ hq
      refine ⟨i + 1, j, y', z, by simpa using g1, g2, g3, ?_, g5⟩
      simp only [List.length_map, hy] at g4
      rw [Nat.succ_mul]; omega

theorem cells_flat {a : AV} {v : Value} (h : VR C γ a v) (hs : v.oneCell' = true) : a.flat = true := by
  cases a with
  | agg cs => obtain ⟨vs, rfl, -⟩ := h.agg_inv; simp [Value.oneCell'] at hs
  | tup cs => obtain ⟨vs, rfl, -⟩ := h.tup_inv; simp [Value.oneCell'] at hs
  | _ => rfl

/-- an append to a row that is an object -/
theorem op_appo {t u el s0 : TypeId} {x y : Operand} {x' y' : Ar} {K : Env → AH → Prop} (h : SR L N F γ C e ah ts w) (hd : ∀ x, d = some x → x < N)
    (hx : carg P t x = some x') (hy : carg P u y = some y') (ht : P.underlying t = some (.slice el)) (hu : P.underlying u = some (.slice s0)) (hz : (zeroOf P el).map List.length = some (tsz P el))
    (hk : appoW L d (tsz P el) (tby P el) x' y' e ah K) :
    ∃ e' ah', K e' ah' ∧ Done m0 P L N F γ C ⟨d, .call { callee := .builtin .append, args := #[x, y], argTypes := #[t, u] }, ty, pos, af, g⟩ ts ds w e' ah' := by
  obtain ⟨i, z, hi, hiz, his, hib, hzs⟩ := zeroOf_info hz
  have h1 := arg_ok (ds := ds) h hx
  have h2 := arg_ok (ds := ds) h hy
  unfold appoW at hk
  split at hk
  case h_2 => exact hk.elim
  rename_i tg k1 ys s k2 n c hye hxe
  obtain ⟨hk1, hk2, hys, hfit, h63, hcase⟩ := hk
  generalize hkk : tsz P el = k at *
  subst hk1; subst hk2
  rw [hxe] at h1; rw [hye] at h2
  obtain ⟨ad, hxv, hnc, hpos⟩ := h1.1.gsl_inv
  obtain ⟨ad2, c2, hyv, -, -⟩ := h2.1.sl_inv
  rw [hyv] at h2
  obtain ⟨news, o1, o2, o3, o4⟩ := olds_ok (P := P) h h2.1
  have hym : 0 < ys.length := List.length_pos_iff.2 hys
  obtain ⟨hfl, hfg⟩ := flat_get (k := k2) ys fun i a hi => (o4 i a hi).1
  have hlen : ∀ w2 : World, (Builtin.lenOf (Act.eval ⟨ts, ds⟩ y)).run P w2 = .ok ys.length w2 := by rw [hyv]; intro w2; rfl
  have hnew : ∀ w2 : World, w2.heap = w.heap → (Builtin.firstCells i.size ys.length (Act.eval ⟨ts, ds⟩ y)).run P w2 = .ok news.toArray w2 := by rw [his, hyv]; exact o3
  have hcall : ∀ v' w', (Builtin.append_ #[t, u] ty #[.slice ad n c, Act.eval ⟨ts, ds⟩ y]).run P w = .ok v' w' →
      (execOp (Act.eval ⟨ts, ds⟩) ⟨d, .call { callee := .builtin .append, args := #[x, y], argTypes := #[t, u] }, ty, pos, af, g⟩).run P w = .ok (.value v') w' := by
    intro v' w' hr
    simp [execOp, resolve, invoke, builtin, hxv, hr]
  -- what comes behind, as cells
  have hnewc : ∀ (q : Nat) (a : AV), ((ys.map fun a => a.cells.map AV.s1).flatten)[q]? = some a → VR C γ a (news.getD q undef) ∧ a.plain = true ∧ ∀ w2 : World, TC w2 C a (news.getD q undef) := by
    intro q a hq
    obtain ⟨i, j, y', z, g1, g2, rfl, rfl, g5⟩ := hfg q a hq
    have hv := (o4 i y' g1).2 j z g2
    have hlt : i < ys.length := (List.getElem?_eq_some_iff.1 g1).1
    have hmul : (i + 1) * k2 ≤ ys.length * k2 := Nat.mul_le_mul_right _ hlt
    rw [Nat.succ_mul] at hmul
    have hone := o2 (news[i * k2 + j]'(by omega)) (List.getElem_mem _)
    have hgd : news.getD (i * k2 + j) undef = news[i * k2 + j]'(by omega) := by rw [List.getD_eq_getElem?_getD, List.getElem?_eq_getElem (by omega)]; rfl
    rw [hgd] at hv ⊢
    exact ⟨(Wk.of_or (Wk.s1 z)).vr (hv.up γ), s1_plainG z, fun w2 => s1_tcG z _ (cells_flat hv hone)⟩
  -- a new object: what was of it is in olds
  have fresh : ∀ {pre : List AV} {olds : List Value}, c < n + ys.length → olds.length = n * k2 → pre.length = n * k2 →
      (Builtin.firstCells i.size n (.slice ad n c)).run P w.drew = .ok olds.toArray w.drew →
      (∀ (q : Nat) (a : AV), pre[q]? = some a → VR C γ a (olds.getD q undef) ∧ a.plain = true ∧ ∀ w2 : World, TC w2 C a (olds.getD q undef)) →
      (∀ c', n + ys.length ≤ c' → K (Am.putv L e d (.gsl ah.length k2 (n + ys.length) c')) (ah ++ [pre ++ ((ys.map fun a => a.cells.map AV.s1).flatten ++ List.replicate ((c' - n - ys.length) * k2) .un)])) →
      ∃ e' ah', K e' ah' ∧ Done m0 P L N F γ C ⟨d, .call { callee := .builtin .append, args := #[x, y], argTypes := #[t, u] }, ty, pos, af, g⟩ ts ds w e' ah' := by
    intro pre olds hg hol hpl hold hpre hK
    have hr := run_append_grow' (ty := ty) (z := z) (base := ad) (olds := olds) ht hu (.inr ⟨_, rfl⟩) hi hiz (hlen w) (hnew w.drew rfl) hold hg h63 (by rw [hib]; exact hfit)
    generalize hcap : grownCap w (n + ys.length) c el = cap at hr
    have hge : n + ys.length ≤ cap := by rw [← hcap]; exact grownCap_ge w _ _ _
    generalize hrow : (olds ++ news ++ (Builtin.zeroCells z.cells (cap - (n + ys.length))).toList).toArray = row at hr
    have hzl : (Builtin.zeroCells z.cells (cap - (n + ys.length))).size = (cap - (n + ys.length)) * k2 := by rw [size_zeroCells, hzs]
    obtain ⟨q1, q2, q3⟩ := heap_alloc w.drew (.cells row el)
    refine ⟨_, _, hK cap hge, ?_⟩
    obtain ⟨g1, g2, g3⟩ := new_objG (w' := w.drew.alloc (.cells row el)) (cs := pre ++ ((ys.map fun a => a.cells.map AV.s1).flatten ++ List.replicate ((cap - n - ys.length) * k2) .un)) h q2 q3 q1 (by simp) (by
        rw [← hrow]; simp only [List.size_toArray, List.length_append, List.length_replicate, Array.length_toList, hzl, hol, hpl, hfl, o1]
        rw [show cap - n - ys.length = cap - (n + ys.length) by omega]; omega) (fun q a hq => by
      have hrd : row.getD q undef = (olds ++ news ++ (Builtin.zeroCells z.cells (cap - (n + ys.length))).toList).getD q undef := by rw [← hrow]; simp [Array.getD_eq_getD_getElem?, List.getD_eq_getElem?_getD]
      rw [hrd, List.append_assoc]
      by_cases hq1 : q < pre.length
      · rw [List.getElem?_append_left hq1] at hq
        rw [List.getD_eq_getElem?_getD, List.getElem?_append_left (by omega), ← List.getD_eq_getElem?_getD]
        exact ⟨(hpre q a hq).1, (hpre q a hq).2.1, (hpre q a hq).2.2 _⟩
      · rw [List.getElem?_append_right (by omega)] at hq
        rw [List.getD_eq_getElem?_getD, List.getElem?_append_right (by omega), ← List.getD_eq_getElem?_getD, show q - olds.length = q - pre.length by omega]
        by_cases hq2 : q - pre.length < ((ys.map fun a => a.cells.map AV.s1).flatten).length
        · rw [List.getElem?_append_left hq2] at hq
          rw [List.getD_eq_getElem?_getD, List.getElem?_append_left (by omega), ← List.getD_eq_getElem?_getD]
          have := hnewc _ a hq
          exact ⟨this.1, this.2.1, this.2.2 _⟩
        · rw [List.getElem?_append_right (by omega)] at hq
          have : a = .un := by
            have := List.mem_of_getElem? hq
            exact (List.mem_replicate.1 this).2
          subst this
          refine ⟨.un .., rfl, ?_⟩
          generalize List.getD _ _ _ = v
          cases v <;> trivial)
    exact ⟨_, _, γ ++ [w.heap.size], C, .inl (hcall _ _ hr), List.prefix_append _ _, g1.putv hd (.gsl _ _ _ _ _ _ g3 hge) trivial rfl (by simp), g2, fun hso => by simp [storeO] at hso, fun hq => by simp [quietO] at hq⟩
  rcases hcase with ⟨rfl, rfl, hK⟩ | ⟨cs, hcs, hcne, hcl, hnc', hcf, hA, hB⟩
  · refine fresh (pre := []) (olds := []) (by omega) (by simp) (by simp) ?_ (by simp) ?_
    · cases ad with
      | none => rfl
      | some a => simp [Builtin.firstCells, loadCells, loadCellsFrom]
    · intro c' hc'
      have := hK c' (by omega)
      simpa [gcs] using this
  · obtain ⟨b, hb, hadb⟩ : ∃ b, γ[s]? = some b ∧ ad = some ⟨b, 0, none⟩ := by
      rcases hpos with ⟨-, rfl⟩ | hpos
      · rw [Nat.zero_mul] at hcl; exact absurd (List.eq_nil_of_length_eq_zero hcl) hcne
      · exact hpos
    subst hadb
    obtain ⟨vs, tv, hh, hsz, hcell⟩ := h.mem.obj s b cs hcs hb
    have hnk : n * k2 ≤ c * k2 := Nat.mul_le_mul_right _ hnc'
    by_cases hroom : n + ys.length ≤ c
    · have hmk : (n + ys.length) * k2 ≤ c * k2 := Nat.mul_le_mul_right _ hroom
      rw [Nat.add_mul] at hmk
      refine ⟨_, _, hA hroom, ?_⟩
      have hstore := run_storeCells_cells (P := P) b (0 + n * k2) news 0 w (fun j hj => by
          rw [cell_obj hh]; simp; omega) (fun j hj => by
          have := h.mem.frz s b cs vs tv.1 tv.2 hcs hb hh (0 + n * k2 + 0 + j) (by omega)
          simp only [World.frozen?, hh]
          rw [Bool.and_eq_false_iff, decide_eq_false_iff_not, decide_eq_false_iff_not]
          exact Decidable.not_and_iff_or_not.1 this) o2
      rw [Nat.add_zero] at hstore
      have hr := run_append_room' (w' := w.setCells b (0 + n * k2) news) (ty := ty) ht hu (.inr ⟨_, rfl⟩) hi (hlen w) (hnew w rfl) hroom (base := some ⟨b, 0, none⟩)
        (fun a ha => by injection ha with ha; subst ha; rw [add_eq, his]; exact hstore) (fun h => by cases h)
      obtain ⟨⟨nw, g1, g2, g3⟩, g4, g5⟩ := setCells_heap b news (0 + n * k2) w vs tv.1 tv.2 hh (by omega)
      have hl2 : (cs.take (n * k2) ++ (ys.map fun a => a.cells.map AV.s1).flatten ++ cs.drop ((n + ys.length) * k2)).length = cs.length := by
        simp only [List.length_append, List.length_take, List.length_drop, hfl, Nat.add_mul]; omega
      obtain ⟨k1, k2'⟩ := h.objSet (ho := setCells_out b news (0 + n * k2) w) (p := 0) hcs hb hh g1 g2 hl2 g4 g5 (fun hz => absurd hz hcne) (fun q a hq => by
        have hg := g3 q
        by_cases hq1 : q < n * k2
        · left
          rw [List.append_assoc, List.getElem?_append_left (by simp; omega), List.getElem?_take_of_lt hq1] at hq
          exact ⟨hq, by rw [hg, if_neg (by omega)]⟩
        · by_cases hq2 : q < n * k2 + ys.length * k2
          · right; left
            rw [List.append_assoc, List.getElem?_append_right (by simp; omega), List.getElem?_append_left (by simp only [List.length_take, hfl]; omega)] at hq
            simp only [List.length_take, show min (n * k2) cs.length = n * k2 by omega] at hq
            have := hnewc _ a hq
            rw [hg, if_pos (by omega), show q - (0 + n * k2) = q - n * k2 by omega]
            exact ⟨plain_own this.2.1, this.1, this.2.2 _⟩
          · left
            rw [List.getElem?_append_right (by simp only [List.length_append, List.length_take, hfl]; omega), List.getElem?_drop] at hq
            simp only [List.length_append, List.length_take, hfl, Nat.add_mul] at hq
            rw [show n * k2 + ys.length * k2 + (q - (min (n * k2) cs.length + ys.length * k2)) = q by omega] at hq
            exact ⟨hq, by rw [hg, if_neg (by omega)]⟩)
      exact ⟨_, _, γ, C, .inl (hcall _ _ hr), List.prefix_refl _, k1.putv hd (.gsl _ _ _ _ _ _ hb hroom) trivial rfl (by simp), k2', fun hso => by simp [storeO] at hso, fun hq => by simp [quietO] at hq⟩
    · obtain ⟨r, hr, hrs, -, hrc⟩ := run_loadFrom (P := P) (w := w.drew) (b := b) (o := 0) (n * k2) 0 #[] (fun j _ hj => ⟨vs.getD j undef, by
        have : w.drew.cell? ⟨b, 0 + j, none⟩ = w.cell? ⟨b, 0 + j, none⟩ := rfl
        rw [this, cell_obj hh]; simp [Array.getD_eq_getD_getElem?, Array.getElem?_eq_getElem (show j < vs.size by omega)]⟩)
      have hrv : ∀ j, j < n * k2 → r.toList.getD j undef = vs.getD j undef := by
        intro j hj
        have := hrc j hj
        have e0 : w.drew.cell? ⟨b, 0 + (0 + j), none⟩ = w.cell? ⟨b, 0 + (0 + j), none⟩ := rfl
        rw [e0, cell_obj hh] at this
        simp at this
        simp [List.getD_eq_getElem?_getD, Array.getD_eq_getD_getElem?, this]
      refine fresh (pre := (cs.take (n * k2)).map AV.s1) (olds := r.toList) (by omega) (by simpa using hrs) (by simp; omega) ?_ (fun q a hq => ?_) ?_
      · rw [his]
        simp only [Builtin.firstCells, loadCells]
        exact hr
      · rw [List.getElem?_map] at hq
        cases hc0 : (cs.take (n * k2))[q]? with
        | none => rw [hc0] at hq; simp at hq
        | some a0 =>
          rw [hc0] at hq
          obtain rfl : a0.s1 = a := by simpa using hq
          have hqlt : q < n * k2 := by have := (List.getElem?_eq_some_iff.1 hc0).1; simp at this; omega
          rw [List.getElem?_take_of_lt hqlt] at hc0
          have hv := hcell q a0 hc0
          rw [hrv q hqlt]
          refine ⟨(Wk.of_or (Wk.s1 a0)).vr hv.1, s1_plainG a0, fun w2 => ?_⟩
          exact s1_tcG a0 _ (allFlat_get hcf (i := q) (by rw [List.getElem?_take_of_lt hqlt]; exact hc0))
      · intro c' hc'
        have := hB (by omega) c' hc'
        rw [show c' - n - ys.length = (c' - n) - ys.length by omega]
        simpa [gcs] using this

theorem fill_buildA {el : TypeId} (h : SR L N F γ C e ah ts w) : ∀ (l : List (Nat × Operand)) (ps : List (Nat × Nat × Ar)) (cs cs' : List AV) (cells : Array Value),
    aparts P el l = some ps → fill e cs ps = some cs' → cells.size = cs.length → (∀ (i : Nat) (a : AV), cs[i]? = some a → VR C γ a (cells.getD i undef) ∧ TCx a (cells.getD i undef)) →
    ∃ r, Instr.fill (fun i => some (i * tsz P el, tsz P el)) cells (l.map fun (x : Nat × Operand) => (x.1, Act.eval ⟨ts, ds⟩ x.2)) = some r ∧ r.size = cs'.length ∧
      ∀ (i : Nat) (a : AV), cs'[i]? = some a → VR C γ a (r.getD i undef) ∧ TCx a (r.getD i undef) := by
  intro l
  induction l with
  | nil =>
    intro ps cs cs' cells hp hf hl hc
    simp only [aparts, Option.some.injEq] at hp
    subst hp
    simp only [fill, Option.some.injEq] at hf
    subst hf
    exact ⟨cells, rfl, hl, hc⟩
  | cons x r ih =>
    intro ps cs cs' cells hp hf hl hc
    obtain ⟨i, x⟩ := x
    simp only [aparts] at hp
    split at hp
    case h_2 => cases hp
    rename_i a as ha has
    simp only [Option.some.injEq] at hp
    subst hp
    simp only [fill] at hf
    split at hf
    case isFalse => cases hf
    rename_i hco
    obtain ⟨hcl, hok⟩ := hco
    split at hf
    case h_2 => cases hf
    rename_i cs1 hov
    obtain ⟨o1, o2, o3⟩ := over_ok hov
    obtain ⟨a1, a2⟩ := arg_ok (ds := ds) h ha
    obtain ⟨c1, c2⟩ := a1.cells hok
    have c3 := a2.cells a1 hok
    simp only [List.length_map] at o1 o3
    generalize hoff : i * tsz P el = off at *
    obtain ⟨f1, f2⟩ := fill_one (Act.eval ⟨ts, ds⟩ x) off cells (by omega)
    obtain ⟨q, q1, q2, q3⟩ := ih as cs1 cs' _ has hf (by rw [f1, o2]; exact hl) (fun j b hb => by
      rw [o3 j] at hb
      rw [f2 j]
      by_cases hin : off ≤ j ∧ j < off + (ev e a).cells.length
      · rw [if_pos hin, List.getElem?_map] at hb
        rw [if_pos (by omega)]
        cases hq : (ev e a).cells[j - off]? with
        | none => rw [hq] at hb; simp at hb
        | some y =>
          rw [hq] at hb
          obtain rfl : y.sh1 = b := by simpa using hb
          refine ⟨(Wk.of_or (Wk.sh1 y)).vr (c2 _ y hq).1, ?_⟩
          have := c3 _ y hq
          generalize ((Act.eval ⟨ts, ds⟩ x).cells.getD (j - off) undef) = v at this
          cases y with
          | sl t k xs => cases t <;> cases v <;> first | trivial | exact this
          | _ => exact this
      · rw [if_neg hin] at hb
        rw [if_neg (by omega)]
        exact hc j b hb)
    refine ⟨q, ?_, q2, q3⟩
    simp only [List.map_cons, Instr.fill]
    rw [hoff, if_neg (by simp; omega)]
    exact q1

theorem fill_const (e : Env) : ∀ (ps : List (Nat × Nat × Ar)) (z : List AV), ps.all constP = true → fill e z ps = fill [] z ps := by
  intro ps
  induction ps with
  | nil => intro z _; rfl
  | cons p r ih =>
    intro z h
    obtain ⟨o, n, x⟩ := p
    simp only [List.all_cons, Bool.and_eq_true] at h
    cases x with
    | t u => simp [constP] at h
    | c a =>
      simp only [fill]
      have h1 : ev e (.c a) = a := rfl
      have h2 : ev [] (.c a) = a := rfl
      rw [h1, h2]
      split
      · cases over z o (a.cells.map AV.sh1) with
        | none => rfl
        | some cs => exact ih cs h.2
      · rfl

theorem op_buildA {t el : TypeId} {mm : Nat} {parts : Array (Nat × Operand)} {z : List AV} {ps : List (Nat × Nat × Ar)} (h : SR L N F γ C e ah ts w) (hd : ∀ x, d = some x → x < N)
    (hu : P.underlying t = some (.array mm el)) (hz : zeroOf P t = some z) (hc : aparts P el parts.toList = some ps) (hel : (P.info? el).isSome = true)
    (hev : aev L ⟨d, .build z ps, none⟩ e ah = some (e', ah')) : Done m0 P L N F γ C ⟨d, .build t parts, ty, pos, af, g⟩ ts ds w e' ah' := by
  obtain ⟨zv, hzr, hzs, hinfo, hzc⟩ := zeroOf_ok (C := C) (γ := γ) hz
  simp only [aev] at hev
  cases hf : fill e z ps with
  | none => rw [hf] at hev; cases hev
  | some cs =>
    rw [hf] at hev
    simp only [Option.map_some, Option.some.injEq, Prod.mk.injEq] at hev
    obtain ⟨rfl, rfl⟩ := hev
    obtain ⟨r, r1, r2, r3⟩ := fill_buildA (ds := ds) h parts.toList ps z cs zv.cells hc hf hzs (fun i a hi => ⟨(hzc i a hi).1, (hzc i a hi).2.1⟩)
    refine Done.plain h hd (v := .agg r) ?_ (.agg _ _ _ r2.symm fun i a hi => (r3 i a hi).1) (fun i a hi => (r3 i a hi).2) rfl
    intro w _
    have hl : (parts.map fun (i, x) => (i, Act.eval ⟨ts, ds⟩ x)).toList = parts.toList.map fun (x : Nat × Operand) => (x.1, Act.eval ⟨ts, ds⟩ x.2) := by rw [Array.toList_map]
    simp only [execOp, Instr.build, Sem.run_bind, hzr, Result.andThen_ok, run_und hu, run_size hel, hl]
    rw [r1]
    rfl
theorem run_eql_slice_nil' (w : World) (t e : TypeId) (a : Option Addr) (l c : Nat) (h : P.underlying t = some (.slice e)) : (binOp .eql t (.slice a l c) (.slice none 0 0)).run P w = .ok (.bool a.isNone) w := by
  simp only [binOp]
  simp [run_equal_slice_nil w t e a l c h]
theorem op_nq {t el : TypeId} {op : BinOp} {x : Operand} {x' : Ar} {neq : Bool} {K : Env → AH → Prop} (h : SR L N F γ C e ah ts w) (hd : ∀ x, d = some x → x < N) (hx : carg0 x = some x')
    (hu : P.underlying t = some (.slice el)) (hop : op = if neq then .neq else .eql) (hk : nqW L d neq x' e ah K) :
    ∃ e' ah', K e' ah' ∧ Done m0 P L N F γ C ⟨d, .binOp op t x (.const (.slice none 0 0)) ty2, ty, pos, af, g⟩ ts ds w e' ah' := by
  have h1 := arg0_ok (ds := ds) h hx
  unfold nqW at hk
  split at hk
  case h_2 => exact hk.elim
  rename_i tg k xs he
  rw [he] at h1
  obtain ⟨a, c, hv, -, hcase⟩ := h1.1.sl_inv
  have hcn : Act.eval ⟨ts, ds⟩ (.const (.slice none 0 0)) = .slice none 0 0 := rfl
  have key : ∀ b, b = (if neq then !a.isNone else a.isNone) → Done m0 P L N F γ C ⟨d, .binOp op t x (.const (.slice none 0 0)) ty2, ty, pos, af, g⟩ ts ds w (Am.putv L e d (.bool b)) ah := by
    intro b hb
    subst hb
    refine Done.plain h hd (v := .bool (if neq then !a.isNone else a.isNone)) ?_ (.bool ..) trivial rfl
    intro w _
    cases neq
    · simp only [Bool.false_eq_true, if_false] at hop; subst hop
      simp [execOp, hv, hcn, eqGuard, run_eql_slice_nil' w t el a xs.length c hu]
    · simp only [if_true] at hop; subst hop
      simp [execOp, hv, hcn, eqGuard, run_neq_slice_nil w t el a xs.length c hu]
  by_cases hxs : xs = []
  · exact ⟨_, _, hk.1 hxs _, key _ rfl⟩
  · refine ⟨_, _, hk.2 hxs, key _ ?_⟩
    obtain ⟨b, o, rfl, -⟩ := hcase.resolve_left hxs
    cases neq <;> rfl
end
end Go.Am
