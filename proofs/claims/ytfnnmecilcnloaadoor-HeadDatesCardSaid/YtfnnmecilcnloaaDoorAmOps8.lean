import Derived.Test.YtfnnmecilcnloaaDoorAmOps7
set_option linter.unusedSimpArgs false
set_option linter.unusedVariables false
set_option linter.unusedSectionVars false
set_option linter.defProp false
namespace Go.Am
open Go
variable [Tabs]
section
variable {P : Program} {L : List Nat} {N : Nat} {F : Nat → Prop} {γ : List Nat} {C C' : Nat → List Value} {e : Env} {ah : AH} {ts : Array Value} {ds : List Deferred} {w w' : World} {m : Bool}
variable {d : Option Nat} {ty ty2 : TypeId} {pos : String} {af : Array Edge} {g : Option (Nat × Bool)} {e' : Env} {ah' : AH}

theorem over_ok {cs ws cs' : List AV} {o : Nat} (h : over cs o ws = some cs') : o + ws.length ≤ cs.length ∧ cs'.length = cs.length ∧
    ∀ i, cs'[i]? = if o ≤ i ∧ i < o + ws.length then ws[i - o]? else cs[i]? := by
  unfold over at h
  split at h
  case isFalse => cases h
  rename_i hl
  injection h with h
  subst h
  refine ⟨hl, by simp; omega, fun i => ?_⟩
  by_cases h1 : i < o
  · rw [if_neg (by omega), List.append_assoc, List.getElem?_append_left (by simp; omega), List.getElem?_take_of_lt h1]
  · by_cases h2 : i < o + ws.length
    · rw [if_pos ⟨by omega, h2⟩, List.getElem?_append_left (by simp; omega), List.getElem?_append_right (by simp; omega)]
      congr 1; simp; omega
    · rw [if_neg (by omega), List.getElem?_append_right (by simp; omega), List.getElem?_drop]
      congr 1; simp; omega

/-- storing a value's cells into an object -/
theorem run_st {t : TypeId} (ht : tok P t = true) {b p : Nat} {v : Value} {old : Array Value} {tv : TypeId × Nat × Nat} (hold : w.heap[b]? = some (.cells old tv.1 tv.2)) (hnf : ∀ j, j < v.cells.size → ¬ (tv.2.1 ≤ p + j ∧ p + j < tv.2.2)) (hsz : v.cells.size = tsz P t)
    (hl : p + v.cells.size ≤ old.size) (h1 : ∀ i, i < v.cells.size → (v.cells.getD i undef).oneCell' = true) :
    (Instr.storeAt t (.pointer (some ⟨b, p, none⟩)) v).run P w = .ok () (w.setCells b p v.cells.toList) := by
  simp only [tok, Bool.and_eq_true] at ht
  have := run_storeCells_cells (P := P) b p v.cells.toList 0 w (fun j hj => by
      rw [cell_obj hold]; simp at hj; simp; omega) (fun j hj => by have h0 := hnf j (by simpa using hj); simp only [World.frozen?, hold]; simpa using h0) (fun u hu => by
      obtain ⟨i, hi, rfl⟩ := List.getElem_of_mem hu
      have := h1 i (by simpa using hi)
      simpa [Array.getD_eq_getD_getElem?, Array.getElem?_eq_getElem (show i < v.cells.size by simpa using hi)] using this)
  simp [Instr.storeAt, Instr.sureAddr, storeVar, run_size ht.2, hsz, this]

theorem op_st {t : TypeId} {a x : Operand} {a' x' : Ar} (h : SR L N F γ C e ah ts w) (ha : carg0 a = some a') (hx : carg P t x = some x') (ht : tok P t = true)
    (hev : aev L ⟨none, .st a' x' (tsz P t), none⟩ e ah = some (e', ah')) : Done m P L N F γ C ⟨none, .store t a x, ty, pos, af, g⟩ ts ds w e' ah' := by
  have h1 := arg0_ok (ds := ds) h ha
  have h2 := arg_ok (ds := ds) h hx
  simp only [aev] at hev
  split at hev
  case h_2 => cases hev
  rename_i s p he
  split at hev
  case h_2 => cases hev
  rename_i cs hcs
  rw [he] at h1
  obtain ⟨b, hb, hv⟩ := h1.1.ptr_inv
  obtain ⟨old, tv, hold, hosz, hoc⟩ := h.mem.obj s b cs hcs hb
  have fin : ∀ {v : Value} {ws cs' : List AV} {e2 : Env}, Act.eval ⟨ts, ds⟩ x = v → SR L N F γ C e2 ah ts w → over cs p ws = some cs' → v.cells.size = ws.length → v.cells.size = tsz P t →
      (∀ i, i < v.cells.size → (v.cells.getD i undef).oneCell' = true) →
      (∀ (i : Nat) (a : AV), ws[i]? = some a → (a.isOwn = false ∧ VR C γ a (v.cells.getD i undef) ∧ TC w C a (v.cells.getD i undef)) ∨
        (i = 0 ∧ VR C γ a (v.cells.getD i undef) ∧ TC w C a (v.cells.getD i undef) ∧ (∀ b', ownB a (v.cells.getD i undef) = some b' → ¬ F b' ∧ ∀ q, ¬ blk γ e2 ah ts w q b') ∧ ∀ t k xs, get e2 t ≠ .sl (.fr (.cell s p)) k xs)) →
      Done m P L N F γ C ⟨none, .store t a x, ty, pos, af, g⟩ ts ds w e2 (ah.set s cs') := by
    intro v ws cs' e2 hxv hsr hov hvs hvt hone hws
    obtain ⟨o1, o2, o3⟩ := over_ok hov
    have hlov : p + ws.length ≤ cs.length := by unfold over at hov; split at hov <;> simp_all
    have hrun := run_st (P := P) (w := w) (p := p) ht hold (fun j hj => h.mem.frz s b cs old tv.1 tv.2 hcs hb hold _ (by omega)) hvt (by omega) hone
    obtain ⟨⟨nw, g1, g2, g3⟩, g4, g5⟩ := setCells_heap b v.cells.toList p w old tv.1 tv.2 hold (by simp; omega)
    have hset := hsr.objSet (ho := setCells_out b v.cells.toList p w) (p := p) (cs' := cs') hcs hb hold g1 g2 o2 g4 g5 (fun hz => by
        subst hz
        have hw0 : ws.length = 0 := by unfold over at hov; split at hov <;> simp_all
        apply Array.ext_getElem?
        intro i
        have hg := g3 i
        rw [if_neg (by simp; omega)] at hg
        by_cases hi : i < old.size
        · rw [Array.getElem?_eq_getElem hi, Array.getElem?_eq_getElem (by omega)]
          simpa [Array.getD_eq_getD_getElem?, Array.getElem?_eq_getElem hi, Array.getElem?_eq_getElem (show i < nw.size by omega)] using hg
        · rw [Array.getElem?_eq_none (by omega), Array.getElem?_eq_none (by omega)]) (fun i a hi => by
      rw [o3 i] at hi
      have hg := g3 i
      simp only [Array.length_toList] at hg
      by_cases hin : p ≤ i ∧ i < p + ws.length
      · rw [if_pos hin] at hi
        rw [if_pos (by omega), getD_list] at hg
        rw [hg]
        rcases hws (i - p) a hi with q | ⟨q0, q⟩
        · exact .inr (.inl q)
        · exact .inr (.inr ⟨by omega, q⟩)
      · rw [if_neg hin] at hi
        rw [if_neg (by omega)] at hg
        exact .inl ⟨hi, hg⟩)
    refine ⟨undef, _, γ, C, .inr ⟨?_, rfl⟩, List.prefix_refl _, hset.1, hset.2, fun hq => by simp [storeO] at hq, fun hq => by simp [quietO] at hq⟩
    simp [execOp, hv, hxv, hrun]
  split at hev
  · rename_i k xs y hxe
    split at hev
    case isFalse => cases hev
    rename_i hn1
    cases hov : over cs p [.sl .own k xs] with
    | none => rw [hov] at hev; cases hev
    | some cs' =>
      rw [hov] at hev
      simp only [Option.map_some, Option.some.injEq, Prod.mk.injEq] at hev
      obtain ⟨rfl, rfl⟩ := hev
      have hxt := carg_t hx y rfl
      subst hxt
      simp only [ev] at hxe
      simp only [ev, hxe] at h2
      have hw1 : SR L N F γ C (Am.put e y (.sl .n k xs)) ah ts w := h.weakPut (by rw [hxe]; exact .n ..)
      have hw2 := hw1.sweep (.cell s p)
      obtain ⟨ad, c, hval, -⟩ := h2.1.sl_inv
      refine fin (v := .slice ad xs.length c) hval hw2 hov rfl hn1.symm (fun i hi => ?_) (fun i a hi => ?_)
      · have : i = 0 := by simp [Value.cells] at hi; omega
        subst this; rfl
      · cases i with
        | succ i => simp at hi
        | zero =>
          obtain rfl : AV.sl .own k xs = a := by simpa using hi
          rw [hval] at h2
          refine .inr ⟨rfl, h2.1, h2.2, fun b' hb' => ?_, fun u k' xs' hg => ?_⟩
          · have hb0 : blk γ e ah ts w (.tmp y) b' := by
              simp only [blk, hxe]; rw [show ts.getD y undef = .slice ad xs.length c from hval]; exact hb'
            refine ⟨h.nf _ _ hb0, fun q hq => ?_⟩
            have hq0 : blk γ e ah ts w q b' := by
              cases q with
              | obj s => exact hq
              | cell s i => exact hq
              | tmp u =>
                simp only [blk, get_sweep, get_put] at hq ⊢
                by_cases hu : u = y
                · rw [if_pos hu] at hq; simp [AV.unfr, ownB] at hq
                · rw [if_neg hu] at hq; exact (Wk.unfr _ _).own hq
            have := h.excl _ _ _ hq0 hb0
            subst this
            simp only [blk, get_sweep, get_put, if_true] at hq
            simp [AV.unfr, ownB] at hq
          · rw [get_sweep] at hg
            generalize get (Am.put e y (.sl .n k xs)) u = a at hg
            cases a with
            | sl t k xs => cases t with
              | fr m => simp only [AV.unfr] at hg; split at hg
                        · simp at hg
                        · rename_i hm; simp at hg; exact hm hg.1
              | _ => simp [AV.unfr] at hg
            | _ => simp [AV.unfr] at hg
  · rename_i x' _ _ hnot
    split at hev
    case isFalse => cases hev
    rename_i hc
    obtain ⟨hcl, hok⟩ := hc
    cases hov : over cs p ((ev e x').cells.map AV.sh1) with
    | none => rw [hov] at hev; cases hev
    | some cs' =>
      rw [hov] at hev
      simp only [Option.map_some, Option.some.injEq, Prod.mk.injEq] at hev
      obtain ⟨rfl, rfl⟩ := hev
      obtain ⟨c1, c2⟩ := h2.1.cells hok
      have c3 := h2.2.cells h2.1 hok
      refine fin rfl h hov (by simp [c1]) (by omega) (fun i hi => ?_) (fun i a hi => ?_)
      · have hlt : i < (ev e x').cells.length := by omega
        exact (c2 i _ (List.getElem?_eq_getElem hlt)).2
      · rw [List.getElem?_map] at hi
        cases hq : (ev e x').cells[i]? with
        | none => rw [hq] at hi; simp at hi
        | some y =>
          rw [hq] at hi
          obtain rfl : y.sh1 = a := by simpa using hi
          exact .inl ⟨plain_own (sh1_plain y), (Wk.of_or (Wk.sh1 y)).vr (c2 i y hq).1, TCx_tc (c3 i y hq)⟩

/-- a cell's tag is given up -/
theorem SR.weakCell (h : SR L N F γ C e ah ts w) {s q k : Nat} {cs cs' zs : List AV} (hs : ah[s]? = some cs) (hq : cs[q]? = some (.sl .own k zs)) (ho : over cs q [.sl .n k zs] = some cs') :
    SR L N F γ C e (ah.set s cs') ts w := by
  have hlt : s < γ.length := by rw [h.mem.len]; exact (List.getElem?_eq_some_iff.1 hs).1
  have hb : γ[s]? = some γ[s] := List.getElem?_eq_getElem hlt
  obtain ⟨old, tv, hold, hosz, hoc⟩ := h.mem.obj s _ cs hs hb
  obtain ⟨o1, o2, o3⟩ := over_ok ho
  exact (h.objSet (w' := w) (p := q) hs hb hold hold rfl o2 (fun _ _ => rfl) rfl (fun _ => rfl) (fun i a hi => by
    rw [o3 i] at hi
    by_cases hin : q ≤ i ∧ i < q + 1
    · have : i = q := by omega
      subst this
      rw [if_pos (by simp)] at hi
      obtain rfl : AV.sl .n k zs = a := by simpa using hi
      exact .inr (.inl ⟨rfl, (hoc i _ hq).1.retag _, by generalize old.getD i undef = v; cases v <;> trivial⟩)
    · rw [if_neg (by simp; omega)] at hi
      exact .inl ⟨hi, rfl⟩)).1
end
end Go.Am
