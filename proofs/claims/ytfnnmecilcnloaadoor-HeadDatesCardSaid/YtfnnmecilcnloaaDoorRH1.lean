/- What the rows' condition says of the tables that the texts read; the wrap of a row with tables and the world's shape. -/
import Derived.Test.YtfnnmecilcnloaaDoorRH0
set_option linter.unusedSimpArgs false
set_option linter.unusedVariables false
set_option linter.unusedSectionVars false
set_option linter.defProp false
namespace Go.Proofs.YtfnnmecilcnloaaDoor
open Go.ChangeShapes Go.WideShapes Go.ChangeAt Go.RowKit Go.Am Go.Proofs.HeadS

/-- a variable's block, by its name -/
theorem var_block {W : World} {name : String} {g : Nat} {cs : Array Value} (hg : Tryd.prog.globalNamed name = some g) (h : W.var? Tryd.prog name = some cs) : ∃ t fr, W.heap[g]? = some (.cells cs t fr) := by
  simp only [World.var?, hg, Option.bind_some] at h
  split at h
  · rename_i c t fr hb
    injection h with h
    subst h
    exact ⟨t, fr, hb⟩
  · cases h
theorem seat_tabs {W : World} (hs : W.ShapedOpen Tryd.prog) (h : laidMetH Tryd.prog seatLaid W) : ∀ e ∈ Tabs.l, ∃ cs ty fr, W.heap[e.1]? = some (.cells cs ty fr) ∧ e.2 cs := by
  rw [MakeChecks.laidMetH_plain _ _ _ (by kernel_rfl)] at h
  obtain ⟨ps, ⟨g0, t0, cs0, f0, p0, q0, hg0, ht0, hv0, hd0, ⟨g1, t1, cs1, f1, p1, q1, hg1, ht1, hv1, hd1, ⟨g2, t2, cs2, f2, p2, q2, hg2, ht2, hv2, hd2, _, _⟩, _⟩, _⟩, _⟩ := h
  intro e he
  simp only [Tabs.l, List.mem_cons, List.mem_nil_iff, or_false] at he
  rcases he with rfl | rfl
  · obtain ⟨cs, hh, hsz, -⟩ := hs.1 0 #[.int .i64 0] 3 (of_decide_eq_true (by kernel_rfl)) (by kernel_rfl)
    obtain ⟨m, hm⟩ := cell_of_shapedOpen_int (g := 0) (t := 3) (k := .i64) (zero := #[.int .i64 0]) hs (of_decide_eq_true (by kernel_rfl)) (by kernel_rfl) rfl (by kernel_rfl) (by kernel_rfl) (by kernel_rfl)
    refine ⟨cs, _, _, hh, m, ?_⟩
    have h1 : cs.size = 1 := hsz
    apply Array.ext
    · exact h1
    · intro i hi _
      have : i = 0 := by omega
      subst this
      simpa [World.cell?, hh, h1] using hm
  · have hg : Tryd.prog.globalNamed "internal/strconv.uint64pow10" = some 1 := by kernel_rfl
    obtain rfl := Option.some.inj (hg.symm.trans hg2)
    obtain rfl := Option.some.inj ((show (Tryd.prog.globals[1]?).map (·.type) = some 136 by kernel_rfl).symm.trans ht2)
    have hc : cs2.toList = Lib.pow10Tab.map fun z => Value.int .u64 z := Lib.cells_of_tab (n := 20) (e := 122) (k := .u64) Tryd.underlying136 (by kernel_rfl) (by kernel_rfl) (by kernel_rfl) hd2
    obtain ⟨t, fr, hb⟩ := var_block hg hv2
    refine ⟨cs2, t, fr, hb, ?_⟩
    simp only [← hc, Array.toArray_toList]

section
variable {H : Type} {enc : TypeId × Value → H}
/-- the wrap of a row that lists tables, the world's shape kept -/
theorem wrap_and_shaped {a : Assume} {C : Checked} {os : Os} {f : FuncId} {fn : Func} {s : ChangeSpec} {conds : List PathCond} {apart fresh handsOn again : Bool} {X : World → Array Value → Prop}
    (hX : ∀ (w w' : World) (args : Array Value), w.heap = w'.heap → X w args → X w' args)
    (own : ownKnob C.prog.godebug = none) (started : os.Started) (noInit : C.prog.inits.idxOf? f = none) (hfn : C.prog.funcs[f]? = some fn)
    (witness : ∃ (w : World) (tape : Tape) (i : Input), w.os = os ∧ (w.forCall tape i).Shaped C.prog ∧ i.vars = [] ∧ Input.okWide C.prog (w.forCall tape i) .any w.heap.size f i ∧
      ((s.pre enc C.prog fn conds apart (w.forCall tape i).memory i.args ∧ X (w.forCall tape i).memory i.args) ∧ sizedMet enc C.prog fn (OpenSpec.ofChange s) apart (w.forCall tape i).memory i.args) ∧ a.holds C.prog (lone (Frame.enter C.prog f i.args .normal) [] (w.forCall tape i)))
    (contract : ∀ (W : World) (base : Nat) (args : Array Value) (ds gs : List (DataW H)) (before : List MemPlace),
      (∀ (j : Nat) t v, fn.params[j]? = some t → args[j]? = some v → Value.okWide C.prog W .any base t v) →
      DataW.Whole enc C.prog fn.params.toList s.vars apart W args.toList ds gs before → W.ShapedOpen C.prog → X W args →
      Calls C.prog f args W fun e W' => ∃ v, e = .returned v ∧ s.post enc C.prog fn apart fresh handsOn again W args v W') :
    ReturnsInHanded a C os f .any (fun w args => (s.pre enc C.prog fn conds apart w args ∧ X w args) ∧ sizedMet enc C.prog fn (OpenSpec.ofChange s) apart w args) (s.post enc C.prog fn apart fresh handsOn again) := by
  refine returnsInHanded_of_calls own started noInit witness ?_
  rintro w tape i - hshape - ⟨-, -, -, fn2, hfn2, -, -, -, -, hvals⟩ ⟨⟨⟨ds, gs, before, hwhole, -⟩, hx⟩, -⟩ -
  obtain rfl : fn2 = fn := Option.some.inj (hfn2.symm.trans hfn)
  refine (contract (w.forCall tape i) _ i.args ds gs before hvals (DataW.Whole.of_heap (w' := w.forCall tape i) (by rfl) hwhole) hshape (hX _ _ _ (by rfl) hx)).mono ?_
  rintro e W' ⟨v, rfl, hp⟩
  exact ChangeSpec.post_blind hp
end
/-- a number of a kind lies in its bounds -/
theorem int_has {P : Program} {W : World} {r : Reach} {base : Nat} {t : TypeId} {k : IntKind} (ht : P.underlying t = some (.int k)) {C : Nat → List Value} {γ : List Nat} {x : Int} {v : Value} (hv : VR C γ (.int k x) v) (h : Value.okWide P W r base t v) : k.has x := by
  obtain rfl := hv.int_inv
  unfold Value.okWide at h
  rw [ht] at h
  unfold Cell.okWide Cell.ok at h
  rw [ht] at h
  exact h.2
end Go.Proofs.YtfnnmecilcnloaaDoor
