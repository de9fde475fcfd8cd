import Derived.Test.YtfnnmecilcnloaaDoorAmOpen
import Derived.Test.YtfnnmecilcnloaaDoorAmS
import Derived.Carry
set_option linter.unusedSimpArgs false
set_option linter.unusedVariables false
set_option linter.unusedSectionVars false
set_option linter.defProp false
namespace Go.Am
open Go Go.RowKit Go.Deep
variable [Tabs]

/-- cells and what they read as -/
def CR (W : World) (as : List AV) (vs : List Value) : Prop :=
  as.length = vs.length ∧ (∀ v ∈ vs, v.oneCell' = true) ∧ ∀ (j : Nat) (a : AV), as[j]? = some a → VR (C0 W) [] a (vs.getD j undef)
theorem CR.nil {W : World} : CR W [] [] := ⟨rfl, by simp, by simp⟩
theorem CR.one {W : World} {a : AV} {V : Value} (h : VR (C0 W) [] a V) (ho : V.oneCell' = true) : CR W [a] [V] := by
  refine ⟨rfl, by simpa using ho, fun j b hj => ?_⟩
  rcases j with _ | j
  · simp at hj; subst hj; simpa using h
  · simp at hj
theorem CR.append {W : World} {as bs : List AV} {vs ws : List Value} (h : CR W as vs) (h2 : CR W bs ws) : CR W (as ++ bs) (vs ++ ws) := by
  refine ⟨by simp [h.1, h2.1], fun v hv => ?_, fun j a hj => ?_⟩
  · rcases List.mem_append.1 hv with hv | hv
    · exact h.2.1 v hv
    · exact h2.2.1 v hv
  · rw [List.getElem?_append] at hj
    split at hj
    · rename_i hlt
      have := h.2.2 j a hj
      rw [List.getD_eq_getElem?_getD, List.getElem?_append_left (by rw [← h.1]; exact hlt), ← List.getD_eq_getElem?_getD]
      exact this
    · rename_i hlt
      have := h2.2.2 _ a hj
      rw [List.getD_eq_getElem?_getD, List.getElem?_append_right (by rw [← h.1]; omega), ← List.getD_eq_getElem?_getD, ← h.1]
      exact this

/-- a value with no tag of the moment -/
def AV.enc1 : AV → Bool
  | .sl .n _ _ => true
  | .sl _ _ _ | .agg _ | .tup _ => false
  | _ => true
def AV.encOk : AV → Bool
  | .agg cs => cs.all AV.enc1
  | a => a.enc1
theorem TC.enc {w : World} {C : Nat → List Value} {a : AV} (h : a.encOk = true) (v : Value) : TC w C a v := by
  have h1 : ∀ (a : AV) (v : Value), a.enc1 = true → TCx a v := by
    intro a v h
    cases a with
    | sl t k xs => cases t <;> first | exact TCx_n .. | cases h
    | _ => first | (cases h; done) | (cases v <;> trivial)
  cases a with
  | agg cs =>
    cases v with
    | agg vs =>
      intro i a hi
      exact h1 a _ (List.all_eq_true.1 h a (List.mem_of_getElem? hi))
    | _ => trivial
  | sl t k xs => cases t <;> first | (cases h; done) | (cases v <;> trivial)
  | _ => first | (cases h; done) | (cases v <;> trivial)
section
variable {H : Type} (enc : TypeId × Value → H) (P : Program) (W : World) (sp : Nat → Bool) (held : Bool)
/-- what is read at a type is one of such things -/
def Op (t : TypeId) {A : Type} (f : A → AV) : Prop := ∀ n cs y, DataW.trod enc P W 0 sp held n t cs = some y → ∃ x : A, CR W (f x).cells cs
end

section
variable {H : Type} {enc : TypeId × Value → H} {P : Program} {W : World} {sp : Nat → Bool} {held : Bool}

theorem Op_int {t : TypeId} {k : IntKind} (ht : P.underlying t = some (.int k)) : Op enc P W sp held t (iint k) := by
  intro n cs y h
  cases n with
  | zero => simp [DataW.trod] at h
  | succ n =>
    rcases cs with _ | ⟨V, _ | ⟨V2, r⟩⟩
    · simp [DataW.trod, ht] at h
    · cases V <;> simp [DataW.trod, ht] at h
      rename_i k' z
      obtain ⟨⟨rfl, hw⟩, -⟩ := h
      exact ⟨z, CR.one (.int ..) rfl⟩
    · simp [DataW.trod, ht] at h
theorem Op_u8 {t : TypeId} (ht : P.underlying t = some (.int .u8)) : Op enc P W sp held t b8 := by
  intro n cs y h
  cases n with
  | zero => simp [DataW.trod] at h
  | succ n =>
    rcases cs with _ | ⟨V, _ | ⟨V2, r⟩⟩
    · simp [DataW.trod, ht] at h
    · cases V <;> simp [DataW.trod, ht] at h
      rename_i k' z
      obtain ⟨⟨rfl, hw⟩, -⟩ := h
      have hz : 0 ≤ z ∧ z ≤ 255 := by
        simp [Lit.wf, IntKind.min, IntKind.max, IntKind.bits, IntKind.signed] at hw
        omega
      refine ⟨UInt8.ofNat z.toNat, CR.one ?_ rfl⟩
      have : ((UInt8.ofNat z.toNat).toNat : Int) = z := by simp [UInt8.toNat_ofNat]; omega
      simp only [b8, this]
      exact .int ..
    · simp [DataW.trod, ht] at h
theorem Op_bool {t : TypeId} (ht : P.underlying t = some .bool) : Op enc P W sp held t AV.bool := by
  intro n cs y h
  cases n with
  | zero => simp [DataW.trod] at h
  | succ n =>
    rcases cs with _ | ⟨V, _ | ⟨V2, r⟩⟩
    · simp [DataW.trod, ht] at h
    · cases V <;> simp [DataW.trod, ht] at h
      exact ⟨_, CR.one (.bool ..) rfl⟩
    · simp [DataW.trod, ht] at h
theorem Op_str {t : TypeId} (ht : P.underlying t = some .string) : Op enc P W sp held t AV.str := by
  intro n cs y h
  cases n with
  | zero => simp [DataW.trod] at h
  | succ n =>
    rcases cs with _ | ⟨V, _ | ⟨V2, r⟩⟩
    · simp [DataW.trod, ht] at h
    · cases V <;> simp [DataW.trod, ht] at h
      rename_i s
      refine ⟨s.data.toList, CR.one ?_ rfl⟩
      have : s = ⟨s.data.toList.toArray⟩ := by cases s; simp
      have h2 := VR.str (C := C0 W) [] s.data.toList
      rwa [← this] at h2
    · simp [DataW.trod, ht] at h

theorem build_list {A : Type} {p : Nat → A → Prop} : ∀ (n : Nat), (∀ i, i < n → ∃ x, p i x) → ∃ xs : List A, xs.length = n ∧ ∀ (i : Nat) (x : A), xs[i]? = some x → p i x := by
  intro n
  induction n with
  | zero => intro _; exact ⟨[], rfl, by simp⟩
  | succ n ih =>
    intro h
    obtain ⟨xs, h1, h2⟩ := ih fun i hi => h i (by omega)
    obtain ⟨x, hx⟩ := h n (by omega)
    refine ⟨xs ++ [x], by simp [h1], fun i y hy => ?_⟩
    rw [List.getElem?_append] at hy
    split at hy
    · exact h2 i y hy
    · rename_i hlt
      have : i = n := by
        have := (List.getElem?_eq_some_iff.1 hy).1
        simp at this; omega
      subst this
      rw [h1] at hy; simp at hy; subst hy; exact hx

theorem Op_sl {t e : TypeId} {k : Nat} {A : Type} {f : A → AV} (ht : P.underlying t = some (.slice e)) (hk : P.cellsOf e = k) (hk0 : 0 < k) (hop : Op enc P W sp held e f) (hf : ∀ x, (f x).cells.length = k) :
    Op enc P W sp held t (fun xs : List A => AV.sl .n k (ml f xs)) := by
  intro n cs y h
  rcases open_slice ht h with ⟨rfl, -⟩ | ⟨a, len, cap, m, fu, D, Pl, rfl, hb, hl, hm, hmm, -, hx⟩
  · exact ⟨[], CR.one (.sl0 ..) rfl⟩
  have hlm : len ≤ m := by rw [hmm]; split <;> omega
  by_cases h0 : len = 0
  · subst h0; exact ⟨[], CR.one (.sl0 ..) rfl⟩
  subst hk
  have hel : ∀ i, i < len → ∃ x : A, ∃ cs', W.cells? 0 (a.add (i * P.cellsOf e)) (P.cellsOf e) = some cs' ∧ CR W (f x).cells cs' := fun i hi => by
    obtain ⟨cs', h1, h2⟩ := hx i (by omega)
    obtain ⟨x, hc⟩ := hop _ _ _ h2
    exact ⟨x, cs', h1, hc⟩
  have hsp : a.spot = none := by
    obtain ⟨x, cs', h1, hc⟩ := hel 0 (by omega)
    obtain ⟨-, h2, h3⟩ := World.cells?_some h1
    have h4 := h3 0 hk0
    have h5 : (a.add (0 * P.cellsOf e)).add 0 = a := by simp [Addr.add]
    rw [h5, List.getElem?_eq_getElem (by omega)] at h4
    unfold World.cell? at h4
    split at h4
    · split at h4
      · cases h4
      · rename_i hq; cases hs : a.spot <;> simp_all
    · cases h4
  obtain ⟨b, o, s⟩ := a
  simp only at hsp
  subst hsp
  obtain ⟨xs, hlen, hxs⟩ := build_list len hel
  have hcell : ∀ (i : Nat) (x : A), xs[i]? = some x → ∃ cs', CR W (f x).cells cs' ∧ cs'.length = P.cellsOf e ∧ ∀ j, j < P.cellsOf e → o + i * P.cellsOf e + j < (C0 W b).length ∧ (C0 W b).getD (o + i * P.cellsOf e + j) undef = cs'.getD j undef := fun i x hi => by
    obtain ⟨cs', h1, hc⟩ := hxs i x hi
    obtain ⟨-, h2, h3⟩ := World.cells?_some h1
    refine ⟨cs', hc, h2, fun j hj => ?_⟩
    have h4 := h3 j hj
    rw [add_add, add_eq, List.getElem?_eq_getElem (by omega)] at h4
    have := C0_cell h4
    rw [Nat.add_assoc, List.getD_eq_getElem?_getD (l := cs'), List.getElem?_eq_getElem (by omega)]
    exact this
  refine ⟨xs, CR.one (.sl _ _ _ _ _ _ _ _ (by rw [len_ml, hlen]) hl (fun i a hi => ?_) ?_ (fun q h1 h2 => ?_) fun i a hi j y hj => ?_) rfl⟩
  · rw [ml, List.getElem?_map] at hi
    cases hr : xs[i]? with
    | none => rw [hr] at hi; simp at hi
    | some x => rw [hr] at hi; simp at hi; subst hi; exact hf x
  · have hlast : len - 1 < xs.length := by omega
    obtain ⟨cs', -, -, h3⟩ := hcell (len - 1) _ (List.getElem?_eq_getElem hlast)
    have := (h3 (P.cellsOf e - 1) (by omega)).1
    have h5 : len * P.cellsOf e = (len - 1) * P.cellsOf e + P.cellsOf e := by
      conv => lhs; rw [show len = (len - 1) + 1 by omega, Nat.succ_mul]
    omega
  · have hq : q - o < len * P.cellsOf e := by omega
    have hi : (q - o) / P.cellsOf e < len := Nat.div_lt_of_lt_mul (by rw [Nat.mul_comm]; exact hq)
    have hj : (q - o) % P.cellsOf e < P.cellsOf e := Nat.mod_lt _ hk0
    obtain ⟨cs', hc, h2, h3⟩ := hcell ((q - o) / P.cellsOf e) _ (List.getElem?_eq_getElem (by omega))
    have h4 := (h3 _ hj).2
    have h5 : o + (q - o) / P.cellsOf e * P.cellsOf e + (q - o) % P.cellsOf e = q := by
      have := Nat.div_add_mod (q - o) (P.cellsOf e)
      rw [Nat.mul_comm] at this
      omega
    rw [h5] at h4
    rw [h4, List.getD_eq_getElem?_getD, List.getElem?_eq_getElem (by omega)]
    exact hc.2.1 _ (List.getElem_mem ..)
  · rw [ml, List.getElem?_map] at hi
    cases hr : xs[i]? with
    | none => rw [hr] at hi; simp at hi
    | some x =>
      rw [hr] at hi; simp at hi; subst hi
      obtain ⟨cs', hc, h2, h3⟩ := hcell i x hr
      have hjl : j < P.cellsOf e := by rw [← hf x]; exact (List.getElem?_eq_some_iff.1 hj).1
      rw [(h3 j hjl).2]
      exact hc.2.2 j y hj

theorem Op_struct {t : TypeId} {fs : Array Field} {A : Type} {f : A → AV} (ht : P.underlying t = some (.struct fs))
    (hb : ∀ cs : List Value, cs.length = P.cellsOf t → (∀ (i : Nat) (fl : Field), fs[i]? = some fl → ∃ n y, DataW.trod enc P W 0 sp held n fl.type ((cs.drop fl.offset).take (P.cellsOf fl.type)) = some y) → ∃ x, CR W (f x).cells cs) :
    Op enc P W sp held t f := by
  intro n cs y h
  obtain ⟨xs, m, -, -, hl, hlen, hf⟩ := DataW.trod_struct ht h
  refine hb cs hl fun i fl hfl => ?_
  have hlt : i < xs.length := by rw [hlen]; exact (Array.getElem?_eq_some_iff.1 hfl).1
  exact ⟨m, xs[i], by rw [hf i fl hfl, List.getElem?_eq_getElem hlt]⟩
theorem seg {cs : List Value} {o k : Nat} : (cs.drop o).take k ++ cs.drop (o + k) = cs.drop o := by
  rw [← List.drop_drop, List.take_append_drop]

/-- an argument -/
theorem Op.arg1 {t : TypeId} {A : Type} {f : A → AV} (hop : Op enc P W sp held t f) (hf : ∀ x, (f x).cells = [f x]) {v : Value} {d : DataW H} {ps : List MemPlace} {r : Reach} {base : Nat} (hs : ∀ cs, ¬ Value.okWide P W r base t (.agg cs))
    (hval : Value.okWide P W r base t v) (h : DataW.Trod enc P W 0 sp held t v d ps) : ∃ x, VR (C0 W) [] (f x) v := by
  obtain ⟨fuel, h⟩ := h
  obtain ⟨x, h1, -, h3⟩ := hop _ _ _ h
  rw [hf] at h1 h3
  have hc : v.cells.toList = [v] := by
    cases v with
    | agg cs => exact absurd hval (hs cs)
    | _ => rfl
  rw [hc] at h3
  exact ⟨x, by simpa using h3 0 (f x) rfl⟩
theorem Op.argS {t : TypeId} {A : Type} {f : A → AV} (hop : Op enc P W sp held t f) {fs : Array Field} (ht : P.underlying t = some (.struct fs)) (hf : ∀ x, f x = .agg (f x).cells) {v : Value} {d : DataW H} {ps : List MemPlace} {r : Reach} {base : Nat}
    (hval : Value.okWide P W r base t v) (h : DataW.Trod enc P W 0 sp held t v d ps) : ∃ x, VR (C0 W) [] (f x) v := by
  obtain ⟨fuel, h⟩ := h
  obtain ⟨x, h1, -, h3⟩ := hop _ _ _ h
  unfold Value.okWide at hval
  rw [ht] at hval
  obtain ⟨cs, rfl, -, -⟩ := hval
  refine ⟨x, ?_⟩
  rw [hf x]
  refine .agg _ _ _ (by simpa [Value.cells] using h1) fun i a hi => ?_
  have := h3 i a hi
  simpa [Value.cells, Array.getD_eq_getD_getElem?, List.getD_eq_getElem?_getD] using this
theorem noAgg_int {t : TypeId} {k : IntKind} {r : Reach} {base : Nat} (ht : P.underlying t = some (.int k)) (cs : Array Value) : ¬ Value.okWide P W r base t (.agg cs) := by
  simp [Value.okWide, Cell.okWide, Cell.ok, ht]
theorem noAgg_bool {t : TypeId} {r : Reach} {base : Nat} (ht : P.underlying t = some .bool) (cs : Array Value) : ¬ Value.okWide P W r base t (.agg cs) := by
  simp [Value.okWide, Cell.okWide, Cell.ok, ht]
theorem noAgg_str {t : TypeId} {r : Reach} {base : Nat} (ht : P.underlying t = some .string) (cs : Array Value) : ¬ Value.okWide P W r base t (.agg cs) := by
  simp [Value.okWide, Cell.okWide, Cell.ok, ht]
theorem noAgg_sl {t e : TypeId} {r : Reach} {base : Nat} (ht : P.underlying t = some (.slice e)) (cs : Array Value) : ¬ Value.okWide P W r base t (.agg cs) := by
  simp [Value.okWide, Cell.okWide, Cell.ok, ht]

theorem trodAll_below {ts : List TypeId} (hl : laidOutB P = true) {W W' : World} (hb : Below W.heap.size W W') : ∀ {vs : List Value} {ds : List (DataW H)} {ps : List MemPlace}, (∀ t ∈ ts, P.readableRec t = true ∧ t < P.types.size) →
    DataW.TrodAll enc P W 0 (fun _ => true) true ts vs ds ps → (∀ x ∈ ps, x.block < W.heap.size) → DataW.TrodAll enc P W' 0 (fun b => decide (b < W.heap.size)) true ts vs ds ps := by
  induction ts with
  | nil =>
    intro vs ds ps _ h _
    cases vs <;> cases ds <;> simp [DataW.TrodAll] at h ⊢
    exact h
  | cons t ts ih =>
    intro vs ds ps ht h hlt
    cases vs <;> cases ds <;> simp only [DataW.TrodAll] at h ⊢
    obtain ⟨p, q, h1, h2, rfl⟩ := h
    exact ⟨p, q, Below.trod hl (ht t (by simp)).1 (ht t (by simp)).2 h1 hb (fun x hx => hlt x (by simp [hx])), ih (fun t h => ht t (by simp [h])) h2 (fun x hx => hlt x (by simp [hx])), rfl⟩
end
end Go.Am
