import Derived.Test.YtfnnmecilcnloaaDoorAmW
import Derived.Shelf.Strconv.Itoa3
set_option linter.unusedSimpArgs false
set_option linter.unusedVariables false
set_option linter.unusedSectionVars false
set_option linter.defProp false
namespace Go.Am
open Go
variable [Tabs]

theorem SR.ret1 {L : List Nat} {N : Nat} {F : Nat → Prop} {γ : List Nat} {C : Nat → List Value} {e : Env} {ah : AH} {ts : Array Value} {w : World} (h : SR L N F γ C e ah ts w) {r : AV} {v : Value} (hv : VR C γ r v) (ht : TC w C r v)
    (ho : r.isOwn = false) (hf : ∀ l k xs, r ≠ .sl (.fr l) k xs) : SR [] 1 F γ C [(0, r)] ah #[v] w := by
  have hbk : ∀ p b, blk γ [(0, r)] ah #[v] w p b → blk γ e ah ts w p b ∧ ∀ t, p ≠ .tmp t := by
    intro p b hp
    cases p with
    | obj s => exact ⟨hp, by simp⟩
    | cell s i => exact ⟨hp, by simp⟩
    | tmp t =>
      simp only [blk, get] at hp
      split at hp
      · rename_i h0; subst h0; rw [ownB_not _ ho] at hp; cases hp
      · simp [ownB] at hp
  refine ⟨h.mem, rfl, fun t => ?_, fun p q b hp hq => h.excl p q b (hbk p b hp).1 (hbk q b hq).1, fun p b hp => h.nf p b (hbk p b hp).1, h.flt, fun t l k xs htl => ?_⟩
  · by_cases h0 : 0 = t
    · subst h0; simp only [get, if_true]; exact ⟨hv, ht⟩
    · simp only [get, if_neg h0]; exact ⟨.un .., by generalize (#[v] : Array Value).getD t undef = u; cases u <;> trivial⟩
  · simp only [get] at htl
    split at htl
    · exact absurd htl (hf l k xs)
    · cases htl

/-- a function of the library, by its contract over worlds: a string comes back, the world has grown -/
theorem ACalls.libStr {P : Program} {f : Nat} {args : List AV} {ah : AH} {l : List UInt8} (hc : callable P f = true)
    (h : ∀ (F : Nat → Prop) (C : Nat → List Value) (γ : List Nat) (w : World) (vs : Array Value), FL F w → vs.size = args.length → (∀ (i : Nat) (a : AV), args[i]? = some a → VR C γ a (vs.getD i undef)) →
      Calls P f vs w fun en w' => en = .returned (.string ⟨l.toArray⟩) ∧ (∀ b, b < w.heap.size → w'.heap[b]? = w.heap[b]?) ∧ w.heap.size ≤ w'.heap.size ∧ SameOut w w') :
    ACalls P f args ah fun r ah' => r = .str l ∧ ah' = ah := by
  refine ⟨hc, fun F γ C w vs hs => ?_⟩
  refine (h F C γ w vs hs.flt hs.sz fun i a hi => ?_).mono ?_
  · have := (hs.env i).1
    rw [get_argE] at this
    simpa [hi] using this
  · rintro en w' ⟨rfl, h1, h2, h3⟩
    have hg := hs.grow (C' := C) h1 h2 (fun _ _ => rfl) (fun b hb hne => by
      exfalso
      obtain ⟨vs', ty, fr, hh, -⟩ := hs.mem.com b hne
      have : b < w.heap.size := by
        rcases Nat.lt_or_ge b w.heap.size with h4 | h4
        · exact h4
        · rw [Array.getElem?_eq_none h4] at hh; cases hh
      omega) h3
    exact ⟨.str l, .string ⟨l.toArray⟩, ah, γ, C, rfl, ⟨rfl, rfl⟩, List.prefix_refl _, hg.1.ret1 (.str ..) (by simp [TC]) rfl (by simp), hg.2⟩

/-- a function of the library, by its contract over worlds: what comes back is known, the world has grown -/
theorem ACalls.libV {P : Program} {f : Nat} {args : List AV} {ah : AH} {r : AV} (ho : r.isOwn = false) (hf : ∀ l k xs, r ≠ .sl (.fr l) k xs) (hc : callable P f = true)
    (h : ∀ (F : Nat → Prop) (C : Nat → List Value) (γ : List Nat) (w : World) (vs : Array Value), FL F w → vs.size = args.length → (∀ (i : Nat) (a : AV), args[i]? = some a → VR C γ a (vs.getD i undef)) →
      Calls P f vs w fun en w' => ∃ v, en = .returned v ∧ VR C γ r v ∧ TC w' C r v ∧ (∀ b, b < w.heap.size → w'.heap[b]? = w.heap[b]?) ∧ w.heap.size ≤ w'.heap.size ∧ SameOut w w') :
    ACalls P f args ah fun r' ah' => r' = r ∧ ah' = ah := by
  refine ⟨hc, fun F γ C w vs hs => ?_⟩
  refine (h F C γ w vs hs.flt hs.sz fun i a hi => ?_).mono ?_
  · have := (hs.env i).1
    rw [get_argE] at this
    simpa [hi] using this
  · rintro en w' ⟨v, rfl, hv, ht, h1, h2, h3⟩
    have hg := hs.grow (C' := C) h1 h2 (fun _ _ => rfl) (fun b hb hne => by
      exfalso
      obtain ⟨vs', ty, fr, hh, -⟩ := hs.mem.com b hne
      have : b < w.heap.size := by
        rcases Nat.lt_or_ge b w.heap.size with h4 | h4
        · exact h4
        · rw [Array.getElem?_eq_none h4] at hh; cases hh
      omega) h3
    exact ⟨r, v, ah, γ, C, rfl, ⟨rfl, rfl⟩, List.prefix_refl _, hg.1.ret1 hv ht ho hf, hg.2⟩
/-- a function of the library that gives a fresh row of strings -/
theorem ACalls.libStrs {P : Program} {f : Nat} {args : List AV} {ah : AH} {ps : List (List UInt8)} (hc : callable P f = true)
    (h : ∀ (F : Nat → Prop) (C : Nat → List Value) (γ : List Nat) (w : World) (vs : Array Value), FL F w → vs.size = args.length → (∀ (i : Nat) (a : AV), args[i]? = some a → VR C γ a (vs.getD i undef)) →
      Calls P f vs w fun en w' => ∃ t fr, en = .returned (.slice (some ⟨w.heap.size, 0, none⟩) ps.length ps.length) ∧ w' = w.alloc (.cells (ps.map fun l => Value.string ⟨l.toArray⟩).toArray t fr) ∧ fr.2 ≤ fr.1) :
    ACalls P f args ah fun r' ah' => r' = .sl .n 1 (ml .str ps) ∧ ah' = ah := by
  refine ⟨hc, fun F γ C w vs hs => ?_⟩
  refine (h F C γ w vs hs.flt hs.sz fun i a hi => ?_).mono ?_
  · have := (hs.env i).1
    rw [get_argE] at this
    simpa [hi] using this
  · rintro en w' ⟨t, fr, rfl, rfl, hfr⟩
    obtain ⟨C', -, he, hg, hv⟩ := new_own (w' := w.alloc (.cells (ps.map fun l => Value.string ⟨l.toArray⟩).toArray t fr)) (ds := []) hs (d := none) (by simp) (cs := (ps.map fun l => Value.string ⟨l.toArray⟩).toArray) (t := t) (fr := fr)
      (con := ps.map fun l => Value.string ⟨l.toArray⟩) (xs := ml .str ps) (k := 1) (n := ps.length) (c := ps.length)
      (fun b hb => by show (w.heap.push _)[b]? = _; rw [Array.getElem?_push_lt hb, Array.getElem?_eq_getElem hb]) (by show (w.heap.push _).size = _; simp) (by show (w.heap.push _)[w.heap.size]? = _; simp)
      (by simp) (by simp only [List.mem_map]; rintro v ⟨l, -, rfl⟩; rfl) (by simp) (by simp [ml]) (Nat.le_refl _) (by simp) (by intro i _; omega)
      (by intro i a hi; simp only [ml, List.getElem?_map, Option.map_eq_some_iff] at hi; obtain ⟨l, -, rfl⟩ := hi; rfl)
      (by
        intro i a hi j y hj
        simp only [ml, List.getElem?_map, Option.map_eq_some_iff] at hi
        obtain ⟨l, hl, rfl⟩ := hi
        cases j with
        | succ j => simp [AV.cells] at hj
        | zero =>
          simp only [AV.cells, List.getElem?_cons_zero, Option.some.injEq] at hj
          subst hj
          simp only [Nat.mul_one, Nat.add_zero, List.getD_eq_getElem?_getD, List.getElem?_map, hl, Option.map_some, Option.getD_some]
          exact .str ..)
    exact ⟨.sl .n 1 (ml .str ps), _, ah, γ, C', rfl, ⟨rfl, rfl⟩, List.prefix_refl _, hg.ret1 (hv.retag _) (by simp [TC]) rfl (by simp), he⟩

theorem itoa_calls {P : Program} {f : Nat} {ah : AH} (n : Int) (hc : callable P f = true) (htab : ∀ F w, FL F w → Lib.TabIs P w "internal/strconv.uint64pow10" .u64 Lib.pow10Tab)
    (hraw : ∀ w, Lib.TabIs P w "internal/strconv.uint64pow10" .u64 Lib.pow10Tab → Calls P f #[.int .i64 n] w fun e w' => e = .returned (.string ⟨(Lib.itoa n).toArray⟩) ∧ ∃ k os, w' = Go.Sort.grow (w.drewN k) os) :
    ACalls P f [.int .i64 n] ah fun r ah' => r = .str (Lib.itoa n) ∧ ah' = ah := by
  refine ACalls.libStr hc fun F C γ w vs hF hl hv => ?_
  have h0 := (hv 0 _ rfl).int_inv
  have hvs : vs = #[.int .i64 n] := by
    apply Array.ext
    · simpa using hl
    · intro i h1 h2
      simp at h2; subst h2
      simpa [Array.getD_eq_getD_getElem?, Array.getElem?_eq_getElem h1] using h0
  subst hvs
  refine (hraw w (htab F w hF)).mono ?_
  rintro e w' ⟨rfl, k, os, rfl⟩
  refine ⟨rfl, fun b hb => ?_, ?_, rfl, rfl, rfl⟩
  · show (w.heap ++ os)[b]? = _
    rw [Array.getElem?_append_left hb]
  · show w.heap.size ≤ (w.heap ++ os).size
    simp
/-- a table, where it stays -/
theorem tabIs_of {P : Program} {w : World} {F : Nat → Prop} {name : String} {k : IntKind} {zs : List Int} {g : Nat} (hF : FL F w) (hm : (g, fun cs => cs = (zs.map fun z => Value.int k z).toArray) ∈ Tabs.l) (hg : P.globalNamed name = some g) : Lib.TabIs P w name k zs := by
  obtain ⟨-, cs, ty, fr, h, hcs⟩ := hF.tab _ hm
  simp only at h hcs
  subst hcs
  unfold Lib.TabIs World.var?
  rw [hg]
  simp [h]
end Go.Am
