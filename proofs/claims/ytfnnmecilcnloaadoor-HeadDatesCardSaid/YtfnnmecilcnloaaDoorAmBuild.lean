import Derived.Test.YtfnnmecilcnloaaDoorAmApp
set_option linter.unusedSimpArgs false
set_option linter.unusedVariables false
set_option linter.unusedSectionVars false
set_option linter.defProp false
namespace Go.Am
open Go
variable [Tabs]
section
variable {P : Program} {L : List Nat} {N : Nat} {F : Nat → Prop} {γ : List Nat} {C C' : Nat → List Value} {e : Env} {ah : AH} {ts : Array Value} {ds : List Deferred} {w w' : World} {m : Bool}
variable {d : Option Nat} {ty ty2 : TypeId} {pos : String} {af : Array Edge} {g : Option (Nat × Bool)} {e' : Env} {ah' : AH}

theorem allNp_get {l : List AV} (h : allNp l = true) {i : Nat} {a : AV} (hi : l[i]? = some a) : a.np = true := by
  induction l generalizing i with
  | nil => simp at hi
  | cons b r ih =>
    simp only [allNp, Bool.and_eq_true] at h
    cases i with
    | zero => simp at hi; subst hi; exact h.1
    | succ i => exact ih h.2 (by simpa using hi)
theorem VR.np {a : AV} {v : Value} (h : VR C γ a v) (hn : a.np = true) : VR C [] a v := by
  cases h with
  | v _ _ hs => exact .v _ _ hs
  | un => exact .un ..
  | int => exact .int ..
  | bool => exact .bool ..
  | str => exact .str ..
  | ptr => cases hn
  | msl => cases hn
  | gsl0 => cases hn
  | gsl => cases hn
  | ifc => exact .ifc ..
  | sl0 => exact .sl0 ..
  | sl _ _ _ _ b o n c hn' hc hk hl ho hx => exact .sl _ _ _ _ _ _ _ _ hn' hc hk hl ho hx
  | ep _ _ _ b p hl hx => exact .ep _ _ _ _ _ hl hx
  | agg => cases hn
  | tup => cases hn
  | fn _ f cs vs hl hx =>
    have : cs = [] := by simpa [AV.np] using hn
    subst this
    exact .fn _ _ _ _ hl (by simp)

theorem fill_seq (k : Nat) : ∀ (l : List (Nat × Value)) (m : Nat) (cells : Array Value), (∀ (i : Nat) (x : Nat × Value), l[i]? = some x → x.1 = m + i ∧ x.2.cells.size = k) → (m + l.length) * k ≤ cells.size →
    ∃ r, Instr.fill (fun i => some (i * k, k)) cells l = some r ∧ r.size = cells.size ∧ (∀ q, q < m * k → r.getD q undef = cells.getD q undef) ∧
      ∀ (i : Nat) (x : Nat × Value), l[i]? = some x → ∀ j, j < k → r.getD ((m + i) * k + j) undef = x.2.cells.getD j undef := by
  intro l
  induction l with
  | nil => intro m cells _ _; exact ⟨cells, rfl, rfl, fun _ _ => rfl, by simp⟩
  | cons x r ih =>
    intro m cells h hl
    obtain ⟨e1, e2⟩ := h 0 x rfl
    obtain ⟨i, v⟩ := x
    simp only [Nat.add_zero] at e1 e2
    subst e1
    simp only [List.length_cons] at hl
    have hmk : (i + 1) * k ≤ (i + (r.length + 1)) * k := Nat.mul_le_mul_right _ (by omega)
    rw [Nat.succ_mul] at hmk
    obtain ⟨f1, f2⟩ := fill_one v (i * k) cells (by omega)
    obtain ⟨q, q1, q2, q3, q4⟩ := ih (i + 1) _ (fun j x hx => by
      have := h (j + 1) x (by simpa using hx); exact ⟨by omega, this.2⟩) (by rw [f1]; rw [show i + 1 + r.length = i + (r.length + 1) by omega]; exact hl)
    refine ⟨q, ?_, by rw [q2, f1], fun p hp => ?_, fun j x hx p hp => ?_⟩
    · simp only [Instr.fill]
      have hneg : ¬ (v.cells.size ≠ k ∨ i * k + v.cells.size > cells.size) := by omega
      rw [if_neg (by simpa using hneg)]
      exact q1
    · rw [q3 p (by rw [Nat.succ_mul]; omega), f2 p, if_neg (by omega)]
    · cases j with
      | zero =>
        simp at hx
        subst hx
        simp only [Nat.add_zero]
        rw [q3 _ (by rw [Nat.succ_mul]; omega), f2, if_pos (by omega)]
        congr 1; omega
      | succ j =>
        have := q4 j x (by simpa using hx) p hp
        rwa [show i + 1 + j = i + (j + 1) by omega] at this

theorem cslice_ok {el : TypeId} (h : SR L N F γ C e ah ts w) : ∀ (l : List (Nat × Operand)) (m : Nat) (as : List Ar), cslice P el m l = some as → as.length = l.length ∧
    ∀ (i : Nat) (x : Nat × Operand) (a : Ar), l[i]? = some x → as[i]? = some a → x.1 = m + i ∧ VR C γ (ev e a) (Act.eval ⟨ts, ds⟩ x.2) ∧ TC w C (ev e a) (Act.eval ⟨ts, ds⟩ x.2) := by
  intro l
  induction l with
  | nil => intro m as hc; simp [cslice] at hc; subst hc; simp
  | cons x r ih =>
    intro m as hc
    obtain ⟨i, x⟩ := x
    simp only [cslice] at hc
    split at hc
    case isFalse => cases hc
    rename_i him
    split at hc
    case h_2 => cases hc
    rename_i a as' ha has
    simp only [Option.some.injEq] at hc
    subst hc
    obtain ⟨h1, h2⟩ := ih (m + 1) as' has
    refine ⟨by simp [h1], fun j y b hy hb => ?_⟩
    cases j with
    | zero => simp at hy hb; subst hy; subst hb; exact ⟨by simp [him], arg_ok (ds := ds) h ha⟩
    | succ j => have := h2 j y b (by simpa using hy) (by simpa using hb); exact ⟨by omega, this.2⟩

theorem bsl_core {t el : TypeId} {n : Nat} {parts : Array (Nat × Operand)} {as : List Ar} (h : SR L N F γ C e ah ts w) (hd : ∀ x, d = some x → x < N) (ht : P.underlying t = some (.slice el))
    (hn : parts.size = n) (hb : n * tsz P el ≤ 16777216) (hz : (zeroOf P el).isSome = true) (hc : cslice P el 0 parts.toList = some as)
    (hall : (as.all fun p => decide ((ev e p).cells.length = tsz P el) && allOk (ev e p).cells && allNp (ev e p).cells) = true) :
    ∃ (r : Array Value), r.size = n * tsz P el ∧ (Instr.buildSlice t n (parts.map fun (i, x) => (i, Act.eval ⟨ts, ds⟩ x))).run P w = .ok (.slice (some ⟨w.heap.size, 0, none⟩) n n) (w.alloc (.cells r el)) ∧
      ∀ fr : Nat × Nat, fr = (0, 0) ∨ fr = (r.size, r.size + 1) → ∃ C', SR L N F γ C' (Am.putv L e d (.sl .ex (tsz P el) (as.map fun p => (ev e p).s0))) ah (Act.put ⟨ts, ds⟩ d (.slice (some ⟨w.heap.size, 0, none⟩) n n)).tmps (w.alloc (.cells r el fr)) ∧
        Ext F C w C' (w.alloc (.cells r el fr)) := by
  obtain ⟨zc, hz⟩ := Option.isSome_iff_exists.1 hz
  obtain ⟨z, hzr, hzs, hinfo, -⟩ := zeroOf_ok (C := C) (γ := γ) hz
  generalize hk : tsz P el = k at *
  obtain ⟨c1, c2⟩ := cslice_ok (ds := ds) h _ _ _ hc
  have hpl : parts.toList.length = n := by rw [Array.length_toList]; exact hn
  have hpart : ∀ (i : Nat) (a : Ar), as[i]? = some a → ∃ x, parts.toList[i]? = some x ∧ x.1 = i ∧ VR C γ (ev e a) (Act.eval ⟨ts, ds⟩ x.2) ∧ TC w C (ev e a) (Act.eval ⟨ts, ds⟩ x.2) ∧
      (ev e a).cells.length = k ∧ allOk (ev e a).cells = true ∧ allNp (ev e a).cells = true := by
    intro i a hi
    have hlt : i < parts.toList.length := by have := (List.getElem?_eq_some_iff.1 hi).1; omega
    obtain ⟨d1, d2, d3⟩ := c2 i _ a (List.getElem?_eq_getElem hlt) hi
    have hm := List.mem_of_getElem? hi
    have := List.all_eq_true.1 hall a hm
    simp only [Bool.and_eq_true, beq_iff_eq, decide_eq_true_eq] at this
    exact ⟨_, List.getElem?_eq_getElem hlt, by omega, d2, d3, this.1.1, this.1.2, this.2⟩
  generalize hvs : (parts.map fun (i, x) => (i, Act.eval ⟨ts, ds⟩ x)).toList = l
  have hl : l = parts.toList.map fun (x : Nat × Operand) => (x.1, Act.eval ⟨ts, ds⟩ x.2) := by rw [← hvs, Array.toList_map]
  have hll : l.length = n := by rw [hl]; simp [hn]
  have hlk : ∀ (i : Nat) (x : Nat × Value), l[i]? = some x → ∃ a, as[i]? = some a ∧ x.1 = i ∧ VR C γ (ev e a) x.2 ∧ TC w C (ev e a) x.2 ∧ (ev e a).cells.length = k ∧ allOk (ev e a).cells = true ∧ allNp (ev e a).cells = true := by
    intro i x hx
    have hlt : i < as.length := by have := (List.getElem?_eq_some_iff.1 hx).1; omega
    obtain ⟨y, y1, y2, y3, y4, y5, y6, y7⟩ := hpart i _ (List.getElem?_eq_getElem hlt)
    rw [hl, List.getElem?_map, y1] at hx
    simp only [Option.map_some, Option.some.injEq] at hx
    subst hx
    exact ⟨_, List.getElem?_eq_getElem hlt, y2, y3, y4, y5, y6, y7⟩
  have hlc : ∀ (i : Nat) (x : Nat × Value), l[i]? = some x → x.1 = 0 + i ∧ x.2.cells.size = k := by
    intro i x hx
    obtain ⟨a, a1, a2, a3, a4, a5, a6, a7⟩ := hlk i x hx
    exact ⟨by omega, by rw [(a3.cells a6).1]; exact a5⟩
  generalize hz0 : (if n * k = 0 then (#[] : Array Value) else z.cells) = zero
  obtain ⟨r, r1, r2, -, r4⟩ := fill_seq k l 0 ((Array.range (n * k)).map (fun i => zero[i % zero.size]!)) hlc (by simp [hll])
  have hrs : r.size = n * k := by rw [r2]; simp
  have hrun : (Instr.buildSlice t n (parts.map fun (i, x) => (i, Act.eval ⟨ts, ds⟩ x))).run P w = .ok (.slice (some ⟨w.heap.size, 0, none⟩) n n) (w.alloc (.cells r el)) := by
    have hb' : ¬ (n * k > 2 ^ 24) := by omega
    simp only [Instr.buildSlice, Sem.run_bind, run_und ht, Result.andThen_ok, run_size hinfo, hk, hvs]
    by_cases h0 : n * k = 0
    · rw [if_pos h0] at hz0
      subst hz0
      simp [h0] at r1 hb' ⊢
      simp [r1, newRow]
    · rw [if_neg h0] at hz0
      subst hz0
      simp only [if_neg hb', if_neg h0]
      simp [hzr, r1, newRow]
  have hone : ∀ v ∈ r.toList, v.oneCell' = true := by
    intro v hv
    obtain ⟨q, hq, rfl⟩ := List.getElem_of_mem hv
    have hq' : q < n * k := by rw [Array.length_toList, hrs] at hq; exact hq
    have hk0 : 0 < k := by rcases Nat.eq_zero_or_pos k with h0 | h0
                           · rw [h0] at hq'; omega
                           · exact h0
    have hqi : q / k < l.length := by rw [hll]; exact (Nat.div_lt_iff_lt_mul hk0).2 hq'
    obtain ⟨a, a1, a2, a3, a4, a5, a6, a7⟩ := hlk _ _ (List.getElem?_eq_getElem hqi)
    have hr := r4 _ _ (List.getElem?_eq_getElem hqi) (q % k) (Nat.mod_lt _ hk0)
    rw [Nat.zero_add, Nat.div_add_mod'] at hr
    have hlt2 : q % k < (ev e a).cells.length := by rw [a5]; exact Nat.mod_lt _ hk0
    have := ((a3.cells a6).2 _ _ (List.getElem?_eq_getElem hlt2)).2
    rw [← hr] at this
    have e1 : r.toList[q] = r.getD q undef := by
      rw [← getD_list, List.getD_eq_getElem?_getD, List.getElem?_eq_getElem hq]; rfl
    rw [e1]; exact this
  refine ⟨r, hrs, hrun, fun fr hfr => ?_⟩
  obtain ⟨q1, q2, q3⟩ := heap_alloc w (.cells r el fr)
  obtain ⟨C', g1, g2, g3, g4⟩ := new_own (ds := ds) (w' := w.alloc (.cells r el fr)) (d := none) (con := r.toList) (xs := as.map fun p => (ev e p).s0) (k := k) (n := n) (c := n)
    h (by simp) q2 q3 q1 (List.prefix_refl _) hone (by simp [hrs]) (by simp [c1, hpl]) (Nat.le_refl _) (by omega) (fun q hq => by rcases hfr with rfl | rfl <;> simp; omega)
    (fun i a hi => by
      rw [List.getElem?_map] at hi
      cases hq : as[i]? with
      | none => rw [hq] at hi; simp at hi
      | some b =>
        rw [hq] at hi
        obtain rfl : (ev e b).s0 = a := by simpa using hi
        obtain ⟨x, x1, x2, x3, x4, x5, x6, x7⟩ := hpart i b hq
        rw [← x5]
        cases ev e b <;> simp [AV.s0, AV.s1, AV.cells])
    (fun i a hi j y hj => by
      rw [List.getElem?_map] at hi
      cases hq : as[i]? with
      | none => rw [hq] at hi; simp at hi
      | some b =>
        rw [hq] at hi
        obtain rfl : (ev e b).s0 = a := by simpa using hi
        obtain ⟨x, x1, x2, x3, x4, x5, x6, x7⟩ := hpart i b hq
        have hls : ∃ u, (ev e b).cells[j]? = some u ∧ y = u.s1 ∧ j < k := by
          rw [← x5]
          cases hb : ev e b with
          | agg cs =>
            rw [hb] at hj
            simp only [AV.s0, AV.cells, List.getElem?_map] at hj
            cases hcj : cs[j]? with
            | none => rw [hcj] at hj; simp at hj
            | some u => rw [hcj] at hj; exact ⟨u, hcj, by simpa using hj.symm, (List.getElem?_eq_some_iff.1 hcj).1⟩
          | _ =>
            rw [hb] at hj
            cases j with
            | zero => simp [AV.s0, AV.s1, AV.cells] at hj ⊢; subst hj; first | rfl | trivial | simp
            | succ j => simp [AV.s0, AV.s1, AV.cells] at hj
        obtain ⟨u, u1, rfl, hjk⟩ := hls
        have hx : l[i]? = some (x.1, Act.eval ⟨ts, ds⟩ x.2) := by rw [hl, List.getElem?_map, x1]; rfl
        have hr := r4 i _ hx j hjk
        rw [Nat.zero_add] at hr
        rw [getD_list, hr]
        exact (Wk.of_or (Wk.s1 u)).vr ((((x3.cells x6).2 j u u1).1.np (allNp_get x7 u1))))
  exact ⟨C', g3.putv hd (g4.retag .ex) rfl rfl (by simp), g2⟩

theorem op_bsl {t el : TypeId} {n : Nat} {parts : Array (Nat × Operand)} {as : List Ar} (h : SR L N F γ C e ah ts w) (hd : ∀ x, d = some x → x < N) (ht : P.underlying t = some (.slice el))
    (hn : parts.size = n) (hb : n * tsz P el ≤ 16777216) (hz : (zeroOf P el).isSome = true) (hc : cslice P el 0 parts.toList = some as)
    (hev : aev L ⟨d, .bsl (tsz P el) as, none⟩ e ah = some (e', ah')) : Done m P L N F γ C ⟨d, .buildSlice t n parts, ty, pos, af, g⟩ ts ds w e' ah' := by
  simp only [aev] at hev
  split at hev
  case isFalse => cases hev
  rename_i hall
  simp only [Option.some.injEq, Prod.mk.injEq] at hev
  obtain ⟨rfl, rfl⟩ := hev
  obtain ⟨r, hrs, hrun, key⟩ := bsl_core (ds := ds) h hd ht hn hb hz hc hall
  obtain ⟨C', g1, g2⟩ := key (0, 0) (.inl rfl)
  refine ⟨_, _, γ, C', .inl ?_, List.prefix_refl _, g1, g2, fun _ s b hb => (heap_alloc w _).2.1 b (blk_lt h (p := .obj s) hb), fun hq => by simp [quietO] at hq⟩
  simp [execOp, hrun]

theorem litB_ok : ∀ {as : List Ar} {bs : List UInt8}, litB as = some bs → ∀ e : Env, (as.map fun p => (ev e p).s0) = bs.map b8 ∧
    (as.all fun p => decide ((ev e p).cells.length = 1) && allOk (ev e p).cells && allNp (ev e p).cells) = true := by
  intro as
  induction as with
  | nil => intro bs h e; simp [litB] at h; subst h; simp
  | cons a r ih =>
    intro bs h e
    unfold litB at h
    split at h
    · rename_i heq; cases heq
    · rename_i i r' heq
      injection heq with e1 e2
      subst e1; subst e2
      split at h
      case isFalse => cases h
      rename_i hi
      cases hl : litB r with
      | none => rw [hl] at h; cases h
      | some l =>
        rw [hl] at h
        simp only [Option.map_some, Option.some.injEq] at h
        subst h
        obtain ⟨h1, h2⟩ := ih hl e
        refine ⟨?_, ?_⟩
        · simp only [List.map_cons, h1, List.cons.injEq, and_true]
          simp only [ev, AV.s0, AV.s1, b8, AV.int.injEq, true_and]
          have : (UInt8.ofNat i.toNat).toNat = i.toNat := by simp [UInt8.toNat_ofNat]; omega
          rw [this]; omega
        · simp only [List.all_cons, h2, Bool.and_true]
          simp [ev, AV.cells, allOk, allNp, AV.ok1, AV.np]
    · cases h

theorem SR.put_comm_tmps (ts : Array Value) (ds : List Deferred) {y : Nat} {d : Option Nat} (hy : d ≠ some y) (v u : Value) :
    (((⟨ts, ds⟩ : Act).put d v).put (some y) u) = (((⟨ts, ds⟩ : Act).put (some y) u).put d v) := by
  rw [Act.put_comm]
  intro x hx hy'
  injection hy' with hy'
  subst hy'
  exact hy hx

theorem run_mapM {α β : Type} (f : α → Sem β) (k : α → β) : ∀ (l : List α), (∀ a ∈ l, (f a).run P w = .ok (k a) w) → (l.mapM f).run P w = .ok (l.map k) w := by
  intro l
  induction l with
  | nil => intro _; rfl
  | cons a r ih =>
    intro h
    simp only [List.mapM_cons, Sem.run_bind, h a (by simp), Result.andThen_ok, ih (fun b hb => h b (by simp [hb])), Sem.run_pure, List.map_cons]

theorem fill_build {t : TypeId} {fs : Array Field} (hu : P.underlying t = some (.struct fs)) (h : SR L N F γ C e ah ts w) : ∀ (l : List (Nat × Operand)) (ps : List (Nat × Nat × Ar)) (cs cs' : List AV) (cells : Array Value),
    cparts P t l = some ps → fill e cs ps = some cs' → cells.size = cs.length → (∀ (i : Nat) (a : AV), cs[i]? = some a → VR C γ a (cells.getD i undef) ∧ TCx a (cells.getD i undef)) →
    ∃ r, Instr.fill ((fs.map fun f => (f.offset, tsz P f.type))[·]?) cells (l.map fun (x : Nat × Operand) => (x.1, Act.eval ⟨ts, ds⟩ x.2)) = some r ∧ r.size = cs'.length ∧
      ∀ (i : Nat) (a : AV), cs'[i]? = some a → VR C γ a (r.getD i undef) ∧ TCx a (r.getD i undef) := by
  intro l
  induction l with
  | nil =>
    intro ps cs cs' cells hp hf hl hc
    simp only [cparts, Option.some.injEq] at hp
    subst hp
    simp only [fill, Option.some.injEq] at hf
    subst hf
    exact ⟨cells, rfl, hl, hc⟩
  | cons x r ih =>
    intro ps cs cs' cells hp hf hl hc
    obtain ⟨i, x⟩ := x
    simp only [cparts] at hp
    split at hp
    case h_2 => cases hp
    rename_i f hfd
    split at hp
    case h_2 => cases hp
    rename_i a as ha has
    simp only [Option.some.injEq] at hp
    subst hp
    simp only [fill] at hf
    split at hf
    case isFalse => cases hf
    rename_i hco
    obtain ⟨hcl, hok⟩ := hco
    split at hf
    case h_2 => cases hf
    rename_i cs1 hov
    obtain ⟨o1, o2, o3⟩ := over_ok hov
    obtain ⟨a1, a2⟩ := arg_ok (ds := ds) h ha
    obtain ⟨c1, c2⟩ := a1.cells hok
    have c3 := a2.cells a1 hok
    have hfi : fs[i]? = some f := by simpa [tfd, hu] using hfd
    simp only [List.length_map] at o1 o3
    obtain ⟨f1, f2⟩ := fill_one (Act.eval ⟨ts, ds⟩ x) f.offset cells (by omega)
    obtain ⟨q, q1, q2, q3⟩ := ih as cs1 cs' _ has hf (by rw [f1, o2]; exact hl) (fun j b hb => by
      rw [o3 j] at hb
      rw [f2 j]
      by_cases hin : f.offset ≤ j ∧ j < f.offset + (ev e a).cells.length
      · rw [if_pos hin, List.getElem?_map] at hb
        rw [if_pos (by omega)]
        cases hq : (ev e a).cells[j - f.offset]? with
        | none => rw [hq] at hb; simp at hb
        | some y =>
          rw [hq] at hb
          obtain rfl : y.sh1 = b := by simpa using hb
          refine ⟨(Wk.of_or (Wk.sh1 y)).vr (c2 _ y hq).1, ?_⟩
          have := c3 _ y hq
          generalize ((Act.eval ⟨ts, ds⟩ x).cells.getD (j - f.offset) undef) = v at this
          cases y with
          | sl t k xs => cases t <;> cases v <;> first | trivial | exact this
          | _ => exact this
      · rw [if_neg hin] at hb
        rw [if_neg (by omega)]
        exact hc j b hb)
    refine ⟨q, ?_, q2, q3⟩
    simp only [List.map_cons, Instr.fill]
    rw [show (fs.map fun f => (f.offset, tsz P f.type))[i]? = some (f.offset, tsz P f.type) by simp [hfi]]
    simp only
    rw [if_neg (by simp; omega)]
    exact q1

theorem op_build {t : TypeId} {fs : Array Field} {parts : Array (Nat × Operand)} {z : List AV} {ps : List (Nat × Nat × Ar)} (h : SR L N F γ C e ah ts w) (hd : ∀ x, d = some x → x < N)
    (hu : P.underlying t = some (.struct fs)) (hz : zeroOf P t = some z) (hc : cparts P t parts.toList = some ps) (hfs : fs.toList.all (fun f => (P.info? f.type).isSome) = true)
    (hev : aev L ⟨d, .build z ps, none⟩ e ah = some (e', ah')) : Done m P L N F γ C ⟨d, .build t parts, ty, pos, af, g⟩ ts ds w e' ah' := by
  obtain ⟨zv, hzr, hzs, hinfo, hzc⟩ := zeroOf_ok (C := C) (γ := γ) hz
  simp only [aev] at hev
  cases hf : fill e z ps with
  | none => rw [hf] at hev; cases hev
  | some cs =>
    rw [hf] at hev
    simp only [Option.map_some, Option.some.injEq, Prod.mk.injEq] at hev
    obtain ⟨rfl, rfl⟩ := hev
    obtain ⟨r, r1, r2, r3⟩ := fill_build (ds := ds) hu h parts.toList ps z cs zv.cells hc hf hzs (fun i a hi => ⟨(hzc i a hi).1, (hzc i a hi).2.1⟩)
    refine Done.plain h hd (v := .agg r) ?_ (.agg _ _ _ r2.symm fun i a hi => (r3 i a hi).1) (fun i a hi => (r3 i a hi).2) rfl
    intro w _
    have hplaces : (fs.mapM (fun (f : Field) => (do pure (f.offset, ← sizeOf f.type) : Sem (Nat × Nat)))).run P w = .ok (fs.map fun (f : Field) => (f.offset, tsz P f.type)) w := by
      rw [Array.mapM_eq_mapM_toList]
      have := run_mapM (P := P) (w := w) (fun f : Field => (do pure (f.offset, ← sizeOf f.type) : Sem (Nat × Nat))) (fun f => (f.offset, tsz P f.type)) fs.toList (fun f hf => by
        have := List.all_eq_true.1 hfs f hf
        simp only [Sem.run_bind, run_size this, Result.andThen_ok, Sem.run_pure])
      rw [map_eq_pure_bind]
      simp only [Sem.run_bind, this, Result.andThen_ok, Sem.run_pure, List.map_toArray]
      congr 1
      apply Array.ext'
      simp
    have hl : (parts.map fun (i, x) => (i, Act.eval ⟨ts, ds⟩ x)).toList = parts.toList.map fun (x : Nat × Operand) => (x.1, Act.eval ⟨ts, ds⟩ x.2) := by rw [Array.toList_map]
    simp only [execOp, Instr.build, Sem.run_bind, hzr, Result.andThen_ok, run_und hu, hplaces, hl]
    rw [r1]
    rfl
end
end Go.Am
