import Derived.Test.YtfnnmecilcnloaaDoorAmOps8
set_option linter.unusedSimpArgs false
set_option linter.unusedVariables false
set_option linter.unusedSectionVars false
set_option linter.defProp false
namespace Go.Am
open Go
variable [Tabs]
section
variable {P : Program} {L : List Nat} {N : Nat} {F : Nat → Prop} {γ : List Nat} {C C' : Nat → List Value} {e : Env} {ah : AH} {ts : Array Value} {ds : List Deferred} {w w' : World} {m0 : Bool}
variable {d : Option Nat} {ty ty2 : TypeId} {pos : String} {af : Array Edge} {g : Option (Nat × Bool)} {e' : Env} {ah' : AH}

theorem run_append_room' {t u el : TypeId} {du : TypeDesc} {i : TypeInfo} (ht : P.underlying t = some (.slice el)) (hu : P.underlying u = some du) (hdu : du = .string ∨ ∃ s, du = .slice s) (hi : P.info? el = some i)
    {base : Option Addr} {n c m : Nat} {x : Value} {news : List Value} (hlen : (Builtin.lenOf x).run P w = .ok m w) (hnew : (Builtin.firstCells i.size m x).run P w = .ok news.toArray w)
    (hroom : n + m ≤ c) (hst : ∀ a, base = some a → (storeCells (a.add (n * i.size)) news).run P w = .ok () w') (hnone : base = none → w' = w) :
    (Builtin.append_ #[t, u] ty #[.slice base n c, x]).run P w = .ok (.slice base (n + m) c) w' := by
  cases base with
  | none =>
    have := hnone rfl; subst this
    rcases hdu with rfl | ⟨s, rfl⟩ <;> simp [Builtin.append_, run_und ht, run_und hu, sizeOf, run_tinfo hi, hlen, hroom, hnew]
  | some a =>
    have := hst a rfl
    rcases hdu with rfl | ⟨s, rfl⟩ <;> simp [Builtin.append_, run_und ht, run_und hu, sizeOf, run_tinfo hi, hlen, hroom, hnew, this]

theorem run_append_grow' {t u el : TypeId} {du : TypeDesc} {i : TypeInfo} {z : Value} (ht : P.underlying t = some (.slice el)) (hu : P.underlying u = some du) (hdu : du = .string ∨ ∃ s, du = .slice s) (hi : P.info? el = some i)
    (hz : i.zero = some z)
    {base : Option Addr} {n c m : Nat} {x : Value} {olds news : List Value} (hlen : (Builtin.lenOf x).run P w = .ok m w) (hnew : (Builtin.firstCells i.size m x).run P w.drew = .ok news.toArray w.drew)
    (hold : (Builtin.firstCells i.size n (.slice base n c)).run P w.drew = .ok olds.toArray w.drew)
    (hg : c < n + m) (h63 : n + m ≤ 4611686018427387904) (hfit : (n + m) * i.bytes ≤ 140737488355328) :
    (Builtin.append_ #[t, u] ty #[.slice base n c, x]).run P w = .ok (.slice (some ⟨w.heap.size, 0, none⟩) (n + m) (grownCap w (n + m) c el))
      (w.drew.alloc (.cells (olds ++ news ++ (Builtin.zeroCells z.cells (grownCap w (n + m) c el - (n + m))).toList).toArray el)) := by
  have hn : ¬ (n + m ≤ c) := by omega
  have h63' : ¬ (9223372036854775807 < ((n : Int) + (m : Int))) := by omega
  have h48 := growslice_fits hg hfit
  have h48' : ¬ (281474976710656 < Builtin.nextslicecap (n + m) c * i.bytes) := by omega
  rcases hdu with rfl | ⟨s, rfl⟩ <;>
    (simp [Builtin.append_, run_und ht, run_und hu, typeInfo, sizeOf, zeroValue, hi, hz, hlen, hn, h63', h48', Question.forced, hnew, hold, newRow, grownCap]
     try (congr 2; apply Array.ext'; simp [List.append_assoc]))


/-- a row's cells, as they lie -/
theorem olds_ok (h : SR L N F γ C e ah ts w) {tg : Tg} {k n c : Nat} {xs : List AV} {ad : Option Addr} (hv : VR C γ (.sl tg k xs) (.slice ad n c)) : ∃ olds : List Value,
    olds.length = n * k ∧ (∀ v ∈ olds, v.oneCell' = true) ∧ (∀ w2 : World, w2.heap = w.heap → (Builtin.firstCells k n (.slice ad n c)).run P w2 = .ok olds.toArray w2) ∧
    (∀ (i : Nat) (a : AV), xs[i]? = some a → a.cells.length = k ∧ ∀ (j : Nat) (y : AV), a.cells[j]? = some y → VR C [] y (olds.getD (i * k + j) undef)) := by
  obtain ⟨ad', c', e1, hc, hcase⟩ := hv.sl_inv
  injection e1 with e1 e2 e3
  subst e1; subst e2; subst e3
  rcases hcase with rfl | ⟨b, o, rfl, hkk, hle, hcells⟩
  · refine ⟨[], by simp, by simp, fun w2 _ => ?_, by simp⟩
    cases ad with
    | none => rfl
    | some a => simp [Builtin.firstCells, loadCells, loadCellsFrom]
  · refine ⟨((C b).drop o).take (xs.length * k), by simp; omega, fun v hm => ?_, fun w2 hw2 => ?_, fun i a hi => ⟨hkk i a hi, fun j y hj => ?_⟩⟩
    · obtain ⟨q, hq, rfl⟩ := List.getElem_of_mem hm
      simp only [List.length_take, List.length_drop] at hq
      have := hv.sl_one (o + q) (by omega) (by omega)
      rw [List.getD_eq_getElem?_getD, List.getElem?_eq_getElem (by omega)] at this
      simpa using this
    · have hcr : ∀ j, j < xs.length * k → w2.cell? ⟨b, o + j, none⟩ = some ((C b).getD (o + j) undef) := by
        intro j hj
        have := cell_row h (b := b) (i := o + j) (by omega)
        rwa [World.cell?, hw2, ← World.cell?]
      obtain ⟨r, hr, hrs, -, hrc⟩ := run_loadFrom (P := P) (w := w2) (b := b) (o := o) (xs.length * k) 0 #[] (fun j _ hj => ⟨_, hcr j (by omega)⟩)
      have : r = (((C b).drop o).take (xs.length * k)).toArray := by
        apply Array.ext_getElem?
        intro j
        by_cases hj : j < xs.length * k
        · have e1 := hrc j hj
          simp only [List.size_toArray, List.length_nil, Nat.zero_add] at e1
          rw [e1, hcr j hj, List.getElem?_toArray, List.getElem?_take_of_lt hj, List.getElem?_drop, List.getD_eq_getElem?_getD, List.getElem?_eq_getElem (by omega)]; rfl
        · rw [Array.getElem?_eq_none (by simp at hrs; omega), Array.getElem?_eq_none (by simp; omega)]
      rw [this] at hr
      exact hr
    · have hi' := (List.getElem?_eq_some_iff.1 hi).1
      have hj' : j < k := by rw [← hkk i a hi]; exact (List.getElem?_eq_some_iff.1 hj).1
      have hm : (i + 1) * k ≤ xs.length * k := Nat.mul_le_mul_right _ hi'
      rw [Nat.succ_mul] at hm
      have := hcells i a hi j y hj
      rw [List.getD_eq_getElem?_getD, List.getElem?_take_of_lt (by omega), List.getElem?_drop, ← List.getD_eq_getElem?_getD, ← Nat.add_assoc]
      exact this

theorem app_core {t u el : TypeId} {du : TypeDesc} {i : TypeInfo} {z : Value} (ht : P.underlying t = some (.slice el)) (hu : P.underlying u = some du) (hdu : du = .string ∨ ∃ s, du = .slice s)
    (hi : P.info? el = some i) (hz : i.zero = some z) {k : Nat} (hk : i.size = k) (hzs : z.cells.size = k) (h : SR L N F γ C e ah ts w) (hd : ∀ x, d = some x → x < N)
    {ad : Option Addr} {n c m : Nat} {xs ys : List AV} {x : Value} {news : List Value} (hv : VR C γ (.sl .n k xs) (.slice ad n c)) (htc : TC w C (.sl .own k xs) (.slice ad n c))
    (hfree : ∀ b, ownB (.sl .own k xs) (.slice ad n c) = some b → ¬ F b ∧ ∀ p, ¬ blk γ e ah ts w p b)
    (hlen : ∀ w2 : World, (Builtin.lenOf x).run P w2 = .ok m w2) (hnew : ∀ w2 : World, w2.heap = w.heap → (Builtin.firstCells k m x).run P w2 = .ok news.toArray w2)
    (hnl : news.length = m * k) (hm : m = ys.length) (hone : ∀ v ∈ news, v.oneCell' = true)
    (hys : ∀ (i : Nat) (a : AV), ys[i]? = some a → a.cells.length = k ∧ ∀ (j : Nat) (y : AV), a.cells[j]? = some y → VR C [] y (news.getD (i * k + j) undef))
    (h63 : n + m ≤ 4611686018427387904) (hfit : (n + m) * i.bytes ≤ 140737488355328) :
    ∃ v' w' C', (Builtin.append_ #[t, u] ty #[.slice ad n c, x]).run P w = .ok v' w' ∧
      SR L N F γ C' (Am.putv L e d (.sl .own k (xs ++ ys))) ah (Act.put ⟨ts, ds⟩ d v').tmps w' ∧ Ext F C w C' w' ∧ ∀ (s b : Nat), γ[s]? = some b → w'.heap[b]? = w.heap[b]? := by
  have hn : n = xs.length := by obtain ⟨_, _, e1, -⟩ := hv.sl_inv; injection e1
  have hnc : n ≤ c := by obtain ⟨_, _, e1, h2, -⟩ := hv.sl_inv; injection e1 with e1 e2 e3; omega
  subst hk
  by_cases hroom : n + m ≤ c
  · by_cases hm0 : m = 0
    · have hys0 : ys = [] := List.eq_nil_of_length_eq_zero (by omega)
      have hn0 : news = [] := List.eq_nil_of_length_eq_zero (by rw [hnl, hm0]; simp)
      subst hys0; subst hn0
      have hr := run_append_room' (w' := w) (ty := ty) ht hu hdu hi (hlen w) (hnew w rfl) hroom (fun a _ => rfl) (fun _ => rfl) (base := ad)
      rw [hm0, Nat.add_zero] at hr
      refine ⟨_, w, C, hr, ?_, Ext.refl .., fun _ _ _ => rfl⟩
      rw [List.append_nil]
      exact h.putvOwn hd (hv.retag _) htc hfree
    · have hne : c ≠ n := by omega
      simp only [TC] at htc
      obtain ⟨b, o, cs, tv, fr, rfl, hh, hCl, hcs, hfrz⟩ := htc.resolve_left hne
      have hob : ownB (.sl .own i.size xs) (.slice (some ⟨b, o, none⟩) n c) = some b := by simp [ownB, hne]
      obtain ⟨hF, hno⟩ := hfree b hob
      have hmul : (n + m) * i.size ≤ c * i.size := Nat.mul_le_mul_right _ hroom
      rw [Nat.add_mul] at hmul
      have hstore := run_storeCells_cells (P := P) b (o + n * i.size) news 0 w (fun j hj => by
          rw [cell_obj hh]; simp; omega) (fun j hj => hfrz _ (by omega) (by omega)) hone
      rw [Nat.add_zero] at hstore
      have hr := run_append_room' (w' := w.setCells b (o + n * i.size) news) (ty := ty) ht hu hdu hi (hlen w) (hnew w rfl) hroom (base := some ⟨b, o, none⟩)
        (fun a ha => by injection ha with ha; subst ha; rw [add_eq]; exact hstore) (fun h => by cases h)
      obtain ⟨⟨nw, g1, g2, g3⟩, g4, g5⟩ := setCells_heap b news (o + n * i.size) w cs tv fr hh (by omega)
      obtain ⟨hs2, hx2⟩ := h.rowGrow (ho := setCells_out b news (o + n * i.size) w) (C' := fun x => if x = b then C b ++ news else C x) hno hF hh g1 g2 (by omega) hone g4 g5 (fun q => by rw [g3 q, hCl]) rfl
      generalize hC' : (fun x => if x = b then C b ++ news else C x) = C' at hs2 hx2
      have c0 : C' b = C b ++ news := by rw [← hC']; simp
      have hlen' : (C' b).length = o + (n + m) * i.size := by rw [c0, List.length_append, hCl, hnl, Nat.add_mul]; omega
      have hvx : VR C' γ (.sl .own i.size (xs ++ ys)) (.slice (some ⟨b, o, none⟩) (n + m) c) := by
        refine .sl _ _ _ _ _ _ _ _ (by simp [hn, hm]) hroom (fun q a hq => ?_) (by omega) (fun q h1 h2 => ?_) fun q a hq j y hj => ?_
        · by_cases hlt : q < xs.length
          · rw [List.getElem?_append_left hlt] at hq
            obtain ⟨_, _, -, -, hcase⟩ := hv.sl_inv
            rcases hcase with rfl | ⟨_, _, -, hkk, -⟩
            · simp at hlt
            · exact hkk q a hq
          · rw [List.getElem?_append_right (by omega)] at hq
            exact (hys _ a hq).1
        · rw [Nat.add_mul] at h2
          rw [c0, List.getD_eq_getElem?_getD]
          by_cases hlt : q < (C b).length
          · rw [List.getElem?_append_left hlt, ← List.getD_eq_getElem?_getD]
            exact hv.sl_one q h1 (by omega)
          · rw [List.getElem?_append_right (by omega), List.getElem?_eq_getElem (by omega)]
            exact hone _ (List.getElem_mem _)
        · by_cases hlt : q < xs.length
          · rw [List.getElem?_append_left hlt] at hq
            obtain ⟨_, _, e1, -, hcase⟩ := hv.sl_inv
            injection e1 with e1
            rcases hcase with rfl | ⟨b', o', e2, hkk, hle, hcells⟩
            · simp at hlt
            · rw [← e1] at e2; injection e2 with e2; injection e2 with e2 e3; subst e2; subst e3
              have hk' := hkk q a hq
              have hj' : j < i.size := by rw [← hk']; exact (List.getElem?_eq_some_iff.1 hj).1
              have hmm : (q + 1) * i.size ≤ xs.length * i.size := Nat.mul_le_mul_right _ hlt
              rw [Nat.succ_mul] at hmm
              rw [getD_prefix (hx2.pre b) (by omega)]
              exact (hcells q a hq j y hj).mono hx2.pre _ (fun _ _ h => h)
          · rw [List.getElem?_append_right (by omega)] at hq
            have := (hys _ a hq).2 j y hj
            rw [c0, List.getD_eq_getElem?_getD]
            have hge : (C b).length ≤ o + q * i.size + j := by
              have : xs.length * i.size ≤ q * i.size := Nat.mul_le_mul_right _ (by omega)
              rw [hCl, hn]; omega
            rw [List.getElem?_append_right hge, ← List.getD_eq_getElem?_getD]
            have hidx : o + q * i.size + j - (C b).length = (q - xs.length) * i.size + j := by
              rw [hCl, hn, Nat.sub_mul]
              have : xs.length * i.size ≤ q * i.size := Nat.mul_le_mul_right _ (by omega)
              omega
            rw [hidx]
            exact this.mono hx2.pre _ (fun _ _ h => h)
      refine ⟨_, _, C', hr, hs2.putvOwn hd hvx ?_ fun b' hb' => ?_, hx2, fun s b0 hb0 => g4 b0 (fun e => hno (.obj s) (e ▸ hb0))⟩
      · by_cases hcn : c = n + m
        · exact .inl hcn
        · refine .inr ⟨b, o, nw, tv, fr, rfl, g1, hlen', by omega, fun q h1 h2 => ?_⟩
          have := hfrz q (by rw [Nat.add_mul] at h1; omega) h2
          simp only [World.frozen?, hh] at this
          simp only [World.frozen?, g1]
          exact this
      · simp only [ownB] at hb'
        split at hb'
        · cases hb'
        · obtain rfl := Option.some.inj hb'
          refine ⟨hF, fun p hp => hno p ?_⟩
          cases p with
          | obj s => exact hp
          | tmp t => exact hp
          | cell s q =>
            obtain ⟨x, a, b0, h1, h2, h3, h4⟩ := hp
            have : b0 ≠ b := fun e => hno (.obj s) (e ▸ h3)
            exact ⟨x, a, b0, h1, h2, h3, by rwa [cell_same (g4 b0 this)] at h4⟩
  · obtain ⟨olds, o1, o2, o3, o4⟩ := olds_ok (P := P) h hv
    have hr := run_append_grow' (ty := ty) ht hu hdu hi hz (hlen w) (hnew w.drew rfl) (o3 w.drew rfl) (by omega) h63 hfit
    generalize hcap : grownCap w (n + m) c el = cap at hr
    have hge : n + m ≤ cap := by rw [← hcap]; exact grownCap_ge w _ _ _
    generalize hrow : (olds ++ news ++ (Builtin.zeroCells z.cells (cap - (n + m))).toList).toArray = row at hr
    have hrl : row.size = cap * i.size := by
      rw [← hrow]
      simp only [List.size_toArray, List.length_append, Array.length_toList, size_zeroCells, hzs, o1, hnl]
      rw [← Nat.add_mul, ← Nat.add_mul]; congr 1; omega
    obtain ⟨q1, q2, q3⟩ := heap_alloc w.drew (.cells row el)
    obtain ⟨C', g1, g2, -, -⟩ := new_own (ds := ds) (w' := w.drew.alloc (.cells row el)) (d := d) (con := olds ++ news) (xs := xs ++ ys) (k := i.size) (n := n + m) (c := cap)
      h hd q2 q3 q1 (by rw [← hrow]; exact List.prefix_append _ _) (fun v hv => (List.mem_append.1 hv).elim (o2 v) (hone v)) (by rw [List.length_append, o1, hnl, Nat.add_mul]) (by simp [hn, hm]) hge (by rw [hrl]; exact Nat.le_refl _)
      (fun q hq => by simp) (fun q a hq => by
        by_cases hlt : q < xs.length
        · rw [List.getElem?_append_left hlt] at hq; exact (o4 q a hq).1
        · rw [List.getElem?_append_right (by omega)] at hq; exact (hys _ a hq).1)
      (fun q a hq j y hj => by
        by_cases hlt : q < xs.length
        · rw [List.getElem?_append_left hlt] at hq
          have hk' := (o4 q a hq).1
          have hj' : j < i.size := by rw [← hk']; exact (List.getElem?_eq_some_iff.1 hj).1
          have hmm : (q + 1) * i.size ≤ xs.length * i.size := Nat.mul_le_mul_right _ hlt
          rw [Nat.succ_mul] at hmm
          rw [List.getD_eq_getElem?_getD, List.getElem?_append_left (by rw [o1, hn]; omega), ← List.getD_eq_getElem?_getD]
          exact (o4 q a hq).2 j y hj
        · rw [List.getElem?_append_right (by omega)] at hq
          have := (hys _ a hq).2 j y hj
          have hmm : xs.length * i.size ≤ q * i.size := Nat.mul_le_mul_right _ (by omega)
          rw [List.getD_eq_getElem?_getD, List.getElem?_append_right (by rw [o1, hn]; omega), ← List.getD_eq_getElem?_getD]
          have hidx : q * i.size + j - olds.length = (q - xs.length) * i.size + j := by rw [o1, hn, Nat.sub_mul]; omega
          rw [hidx]; exact this)
    exact ⟨_, _, C', hr, g1, g2, fun s b hb => q2 b (blk_lt h (p := .obj s) hb)⟩

theorem zeroOf_info {t : TypeId} (h : (zeroOf P t).map List.length = some (tsz P t)) : ∃ i z, P.info? t = some i ∧ i.zero = some z ∧ i.size = tsz P t ∧ i.bytes = tby P t ∧ z.cells.size = tsz P t := by
  cases hz : zeroOf P t with
  | none => rw [hz] at h; cases h
  | some cs =>
    rw [hz] at h
    simp only [Option.map_some, Option.some.injEq] at h
    unfold zeroOf at hz
    split at hz
    case h_2 => cases hz
    rename_i cs' z h1 h2
    split at hz
    case isFalse => cases hz
    rename_i hzz
    injection hz with hz
    subst hz
    cases hi : P.info? t with
    | none => rw [hi] at h2; cases h2
    | some i =>
      rw [hi] at h2
      simp only [Option.bind_some] at h2
      have := (zoks_ok (C := fun _ => []) (γ := []) hzz).1
      refine ⟨i, z, rfl, h2, by simp [tsz, hi], by simp [tby, hi], ?_⟩
      rw [← h]; simpa using this

theorem ownB_eq (k k' : Nat) (xs xs' : List AV) (v : Value) : ownB (.sl .own k xs) v = ownB (.sl .own k' xs') v := by
  cases v with
  | slice a n c => cases a <;> rfl
  | _ => rfl

theorem op_aapp {t u el : TypeId} {du : TypeDesc} {x y : Operand} {x' : Ar} {k b m : Nat} {ys : List AV} {news : List Value} (h : SR L N F γ C e ah ts w) (hd : ∀ x, d = some x → x < N)
    (hx : carg P t x = some x') (ht : P.underlying t = some (.slice el)) (hu : P.underlying u = some du) (hdu : du = .string ∨ ∃ s, du = .slice s) (hz : (zeroOf P el).map List.length = some (tsz P el))
    (hk : k = tsz P el) (hb : b = tby P el)
    (hlen : ∀ w2 : World, (Builtin.lenOf (Act.eval ⟨ts, ds⟩ y)).run P w2 = .ok m w2) (hnew : ∀ w2 : World, w2.heap = w.heap → (Builtin.firstCells k m (Act.eval ⟨ts, ds⟩ y)).run P w2 = .ok news.toArray w2)
    (hnl : news.length = m * k) (hm : m = ys.length) (hone : ∀ v ∈ news, v.oneCell' = true)
    (hys : ∀ (i : Nat) (a : AV), ys[i]? = some a → a.cells.length = k ∧ ∀ (j : Nat) (y : AV), a.cells[j]? = some y → VR C [] y (news.getD (i * k + j) undef))
    (hev : aapp L e ah d k b x' ys = some (e', ah')) :
    Done m0 P L N F γ C ⟨d, .call { callee := .builtin .append, args := #[x, y], argTypes := #[t, u] }, ty, pos, af, g⟩ ts ds w e' ah' := by
  obtain ⟨i, z, hi, hiz, his, hib, hzs⟩ := zeroOf_info hz
  have h1 := arg_ok (ds := ds) h hx
  unfold aapp at hev
  split at hev
  case h_2 => cases hev
  rename_i tg k' xs hxe
  split at hev
  case isFalse => cases hev
  rename_i hc
  obtain ⟨rfl, hfit, h63⟩ := hc
  rw [hxe] at h1
  obtain ⟨ad, c, hxv, hnc, -⟩ := h1.1.sl_inv
  rw [hxv] at h1
  have hcall : ∀ v' w', (Builtin.append_ #[t, u] ty #[.slice ad xs.length c, Act.eval ⟨ts, ds⟩ y]).run P w = .ok v' w' →
      (execOp (Act.eval ⟨ts, ds⟩) ⟨d, .call { callee := .builtin .append, args := #[x, y], argTypes := #[t, u] }, ty, pos, af, g⟩).run P w = .ok (.value v') w' := by
    intro v' w' hr
    simp [execOp, resolve, invoke, builtin, hxv, hr]
  have core : ∀ {e2 : Env} {ah2 : AH}, SR L N F γ C e2 ah2 ts w → TC w C (.sl .own k' xs) (.slice ad xs.length c) →
      (∀ b, ownB (.sl .own k' xs) (.slice ad xs.length c) = some b → ¬ F b ∧ ∀ p, ¬ blk γ e2 ah2 ts w p b) →
      Done m0 P L N F γ C ⟨d, .call { callee := .builtin .append, args := #[x, y], argTypes := #[t, u] }, ty, pos, af, g⟩ ts ds w (Am.putv L e2 d (.sl .own k' (xs ++ ys))) ah2 := by
    intro e2 ah2 hsr htc hfree
    obtain ⟨v', w', C', r1, r2, r3, r4⟩ := app_core (ds := ds) (ty := ty) ht hu hdu hi hiz (k := k') (by rw [his, hk]) (by rw [hzs, hk]) hsr hd (h1.1.retag _) htc hfree hlen hnew hnl hm hone hys
      (by omega) (by rw [hib, ← hb, hm]; exact hfit)
    exact ⟨v', w', γ, C', .inl (hcall _ _ r1), List.prefix_refl _, r2, r3, fun _ => r4, fun hq => by simp [quietO] at hq⟩
  cases tg with
  | n => cases hev
  | ex =>
    simp only [Option.some.injEq, Prod.mk.injEq] at hev
    obtain ⟨rfl, rfl⟩ := hev
    have hcn : c = xs.length := h1.2
    exact core h (.inl hcn) (fun b hb => by cases ad <;> simp [ownB, hcn] at hb)
  | own =>
    simp only at hev
    split at hev
    case h_2 => cases hev
    rename_i q
    simp only [Option.some.injEq, Prod.mk.injEq] at hev
    obtain ⟨rfl, rfl⟩ := hev
    have hxt := carg_t hx q rfl
    subst hxt
    simp only [ev] at hxe
    refine core (h.weakPut (by rw [hxe]; exact .n ..)) h1.2 fun b hb => ?_
    have hb0 : blk γ e ah ts w (.tmp q) b := by
      simp only [blk, hxe]; rw [show ts.getD q undef = .slice ad xs.length c from hxv]; exact hb
    refine ⟨h.nf _ _ hb0, fun p hp => ?_⟩
    have hp0 : blk γ e ah ts w p b := by
      cases p with
      | obj s => exact hp
      | cell s i => exact hp
      | tmp u =>
        simp only [blk, get_put] at hp ⊢
        by_cases hu : u = q
        · rw [if_pos hu] at hp; simp [ownB] at hp
        · rwa [if_neg hu] at hp
    have := h.excl _ _ _ hp0 hb0
    subst this
    simp [blk, get_put, ownB] at hp
  | fr l =>
    have hxt : ∃ q, x' = .t q := by
      cases x' with
      | t q => exact ⟨q, rfl⟩
      | c a => simp only [ev] at hxe; subst hxe; have := carg_c hx _ rfl; simp [AV.plain] at this
    obtain ⟨q, rfl⟩ := hxt
    have hxq := carg_t hx q rfl
    subst hxq
    simp only [ev] at hxe
    have hfr := h.fr q l k' xs hxe
    have hvq : ts.getD q undef = .slice ad xs.length c := hxv
    cases l with
    | tmp u2 =>
      simp only at hev
      split at hev
      case h_2 => cases hev
      rename_i k2 zs hgu
      split at hev
      case isFalse => cases hev
      rename_i hk2
      subst hk2
      simp only [Option.some.injEq, Prod.mk.injEq] at hev
      obtain ⟨rfl, rfl⟩ := hev
      have hval := hfr.2 (by rw [hgu]; rfl)
      rw [hvq] at hval
      have hu2 := h.env u2
      rw [hgu, hval] at hu2
      refine core (h.weakPut (by rw [hgu]; exact .n ..)) hu2.2 fun b hb => ?_
      have hb0 : blk γ e ah ts w (.tmp u2) b := by simp only [blk, hgu, hval]; rw [ownB_eq _ k2 _ xs]; exact hb
      refine ⟨h.nf _ _ hb0, fun p hp => ?_⟩
      have hp0 : blk γ e ah ts w p b := by
        cases p with
        | obj s => exact hp
        | cell s i => exact hp
        | tmp u =>
          simp only [blk, get_put] at hp ⊢
          by_cases hu : u = u2
          · rw [if_pos hu] at hp; simp [ownB] at hp
          · rwa [if_neg hu] at hp
      have := h.excl _ _ _ hp0 hb0
      subst this
      simp [blk, get_put, ownB] at hp
    | cell s o =>
      simp only at hev
      split at hev
      case h_2 => cases hev
      rename_i cs hcs
      split at hev
      case h_2 => cases hev
      rename_i k2 zs hco
      split at hev
      case isFalse => cases hev
      rename_i hk2
      subst hk2
      cases hov : over cs o [.sl .n k2 zs] with
      | none => rw [hov] at hev; cases hev
      | some cs' =>
        rw [hov] at hev
        simp only [Option.map_some, Option.some.injEq, Prod.mk.injEq] at hev
        obtain ⟨rfl, rfl⟩ := hev
        have hlt : s < γ.length := by rw [h.mem.len]; exact (List.getElem?_eq_some_iff.1 hcs).1
        have hg0 : γ[s]? = some γ[s] := List.getElem?_eq_getElem hlt
        have hval := hfr cs _ _ hcs hco rfl hg0
        rw [hvq] at hval
        obtain ⟨v, hv1, hv2, hv3⟩ := cellAt h.mem hcs hco hg0
        rw [hval] at hv1
        injection hv1 with hv1
        subst hv1
        refine core (h.weakCell hcs hco hov) hv3 fun b hb => ?_
        have hb0 : blk γ e ah ts w (.cell s o) b := ⟨cs, _, _, hcs, hco, hg0, by rw [hval, ownB_eq _ k2 _ xs]; exact hb⟩
        refine ⟨h.nf _ _ hb0, fun p hp => ?_⟩
        obtain ⟨o1, o2, o3⟩ := over_ok hov
        have hslt : s < ah.length := (List.getElem?_eq_some_iff.1 hcs).1
        have hp0 : blk γ e ah ts w p b ∧ p ≠ .cell s o := by
          cases p with
          | obj s => exact ⟨hp, by simp⟩
          | tmp t => exact ⟨hp, by simp⟩
          | cell s' i =>
            obtain ⟨x, a, b0, g1, g2, g3, g4⟩ := hp
            by_cases hs' : s' = s
            · subst hs'
              rw [List.getElem?_set_self hslt] at g1
              injection g1 with g1
              subst g1
              rw [o3 i] at g2
              by_cases hin : o ≤ i ∧ i < o + 1
              · have : i = o := by omega
                subst this
                rw [if_pos (by simp)] at g2
                obtain rfl : AV.sl .n k2 zs = a := by simpa using g2
                simp [ownB] at g4
              · rw [if_neg (by simp; omega)] at g2
                exact ⟨⟨cs, a, b0, hcs, g2, g3, g4⟩, by simp; omega⟩
            · rw [List.getElem?_set_ne (Ne.symm hs')] at g1
              exact ⟨⟨x, a, b0, g1, g2, g3, g4⟩, by simp [hs']⟩
        exact hp0.2 (h.excl _ _ _ hp0.1 hb0)

theorem op_app {t u el s : TypeId} {x y : Operand} {x' y' : Ar} (h : SR L N F γ C e ah ts w) (hd : ∀ x, d = some x → x < N)
    (hx : carg P t x = some x') (hy : carg P u y = some y') (ht : P.underlying t = some (.slice el)) (hu : P.underlying u = some (.slice s)) (hz : (zeroOf P el).map List.length = some (tsz P el))
    (hev : aev L ⟨d, .app (tsz P el) (tby P el) x' y', none⟩ e ah = some (e', ah')) :
    Done m0 P L N F γ C ⟨d, .call { callee := .builtin .append, args := #[x, y], argTypes := #[t, u] }, ty, pos, af, g⟩ ts ds w e' ah' := by
  have h2 := arg_ok (ds := ds) h hy
  simp only [aev] at hev
  split at hev
  case h_2 => cases hev
  rename_i tg k ys hye
  split at hev
  case isFalse => cases hev
  rename_i hk
  rw [hye] at h2
  obtain ⟨ad, c, hyv, -, -⟩ := h2.1.sl_inv
  rw [hyv] at h2
  obtain ⟨olds, o1, o2, o3, o4⟩ := olds_ok (P := P) h h2.1
  exact op_aapp (m := ys.length) (news := olds) h hd hx ht hu (.inr ⟨_, rfl⟩) hz rfl rfl (by rw [hyv]; intro w2; rfl) (by rw [hyv, ← hk]; exact o3) (by rw [← hk]; exact o1) rfl o2 (by rw [← hk]; exact o4) hev

theorem op_apps {t u el : TypeId} {x y : Operand} {x' y' : Ar} (h : SR L N F γ C e ah ts w) (hd : ∀ x, d = some x → x < N)
    (hx : carg P t x = some x') (hy : carg P u y = some y') (ht : P.underlying t = some (.slice el)) (hu : P.underlying u = some .string) (hz : (zeroOf P el).map List.length = some (tsz P el))
    (hsz : tsz P el = 1)
    (hev : aev L ⟨d, .apps (tby P el) x' y', none⟩ e ah = some (e', ah')) :
    Done m0 P L N F γ C ⟨d, .call { callee := .builtin .append, args := #[x, y], argTypes := #[t, u] }, ty, pos, af, g⟩ ts ds w e' ah' := by
  have h2 := arg_ok (ds := ds) h hy
  simp only [aev] at hev
  split at hev
  case h_2 => cases hev
  rename_i l hye
  rw [hye] at h2
  have hyv := h2.1.str_inv
  have hsl : (⟨l.toArray⟩ : ByteArray).size = l.length := by simp [ByteArray.size]
  refine op_aapp (m := l.length) (news := l.map fun b => Value.int .u8 b.toNat) h hd hx ht hu (.inl rfl) hz hsz.symm rfl ?_ ?_ (by simp) (by simp) (by simp [Value.oneCell']) ?_ hev
  · rw [hyv]; intro w2; simp [Builtin.lenOf, hsl]
  · rw [hyv]; intro w2 _
    simp only [Builtin.firstCells, Sem.run_pure]
    congr 1
    apply Array.ext'
    have : (⟨l.toArray⟩ : ByteArray).extract 0 (l.length * 1) = ⟨l.toArray⟩ := by
      apply ByteArray.ext; simp [ByteArray.data_extract]
    simp [ByteArray.data_extract]
  · intro i a hi
    rw [List.getElem?_map] at hi
    cases hq : l[i]? with
    | none => rw [hq] at hi; simp at hi
    | some b =>
      rw [hq] at hi
      obtain rfl : b8 b = a := by simpa using hi
      refine ⟨rfl, fun j y hj => ?_⟩
      cases j with
      | zero =>
        obtain rfl : b8 b = y := by simpa [AV.cells, b8] using hj
        simp [List.getD_eq_getElem?_getD, hq]
        exact .int ..
      | succ j => simp [AV.cells, b8] at hj
end
end Go.Am
