import Derived.Test.YtfnnmecilcnloaaDoorAmWorld
import Derived.Stop.IfaceNil
set_option linter.unusedSimpArgs false
set_option linter.unusedVariables false
set_option linter.unusedSectionVars false
set_option linter.defProp false
namespace Go.Am
open Go
variable [Tabs]
section
variable {P : Program} {L : List Nat} {N : Nat} {F : Nat → Prop} {γ : List Nat} {C C' : Nat → List Value} {e : Env} {ah : AH} {ts : Array Value} {ds : List Deferred} {w w' : World} {m : Bool}
variable {d : Option Nat} {ty ty2 : TypeId} {pos : String} {af : Array Edge} {g : Option (Nat × Bool)} {e' : Env} {ah' : AH}

theorem foldl_set (off : Nat) : ∀ (l : List Value) (m : Nat) (cells : Array Value), off + m + l.length ≤ cells.size →
    ((l.zipIdx m).foldl (fun cs (x : Value × Nat) => cs.setIfInBounds (off + x.2) x.1) cells).size = cells.size ∧
    ∀ q, ((l.zipIdx m).foldl (fun cs (x : Value × Nat) => cs.setIfInBounds (off + x.2) x.1) cells).getD q undef =
      if off + m ≤ q ∧ q < off + m + l.length then l.getD (q - (off + m)) undef else cells.getD q undef := by
  intro l
  induction l with
  | nil => intro m cells h; refine ⟨rfl, fun q => ?_⟩; rw [if_neg (by simp)]; rfl
  | cons v r ih =>
    intro m cells h
    simp only [List.length_cons] at h
    simp only [List.zipIdx_cons, List.foldl_cons]
    obtain ⟨h1, h2⟩ := ih (m + 1) (cells.setIfInBounds (off + m) v) (by simp; omega)
    refine ⟨by rw [h1]; simp, fun q => ?_⟩
    rw [h2]
    by_cases hq : off + (m + 1) ≤ q ∧ q < off + (m + 1) + r.length
    · rw [if_pos hq, if_pos (by simp; omega)]
      obtain ⟨p, hp⟩ : ∃ p, q - (off + m) = p + 1 := ⟨q - (off + m) - 1, by omega⟩
      rw [hp, show q - (off + (m + 1)) = p by omega]
      simp [List.getD_eq_getElem?_getD]
    · rw [if_neg hq]
      by_cases hqm : q = off + m
      · subst hqm
        rw [if_pos (by simp), getD_set_eq v (by omega)]; simp
      · rw [if_neg (by simp; omega), getD_set_ne' v hqm]

theorem fill_one (v : Value) (off : Nat) (cells : Array Value) (h : off + v.cells.size ≤ cells.size) :
    (v.cells.zipIdx.foldl (fun cs (x : Value × Nat) => cs.setIfInBounds (off + x.2) x.1) cells).size = cells.size ∧
    ∀ q, (v.cells.zipIdx.foldl (fun cs (x : Value × Nat) => cs.setIfInBounds (off + x.2) x.1) cells).getD q undef =
      if off ≤ q ∧ q < off + v.cells.size then v.cells.getD (q - off) undef else cells.getD q undef := by
  have := foldl_set off v.cells.toList 0 cells (by simpa using h)
  rw [← Array.foldl_toList, Array.toList_zipIdx]
  simp only [Nat.add_zero, Array.length_toList] at this
  refine ⟨this.1, fun q => ?_⟩
  rw [this.2 q, getD_list]

/-- a value's cells -/
theorem VR.cells {a : AV} {v : Value} (h : VR C γ a v) (ho : allOk a.cells = true) : v.cells.size = a.cells.length ∧
    (∀ (i : Nat) (x : AV), a.cells[i]? = some x → VR C γ x (v.cells.getD i undef) ∧ (v.cells.getD i undef).oneCell' = true) := by
  have one : ∀ {x : AV} {u : Value}, VR C γ x u → x.ok1 = true → u.oneCell' = true := by
    intro x u hx hk
    cases hx <;> first | rfl | cases hk | skip
    rename_i hs
    cases u <;> first | rfl | cases hs
  cases a with
  | agg cs =>
    obtain ⟨vs, rfl, hl, hv⟩ := h.agg_inv
    refine ⟨hl.symm, fun i x hi => ⟨hv i x hi, one (hv i x hi) (allOk_get ho hi)⟩⟩
  | tup cs => simp [AV.cells, allOk, AV.ok1] at ho
  | un => simp [AV.cells, allOk, AV.ok1] at ho
  | _ =>
    have h1 := one h (by simp [AV.ok1])
    have hvc : v.cells = #[v] := by cases v <;> first | rfl | cases h1
    rw [hvc]
    refine ⟨rfl, fun i x hi => ?_⟩
    cases i with
    | zero => simp [AV.cells] at hi; subst hi; exact ⟨h, h1⟩
    | succ i => simp [AV.cells] at hi

theorem TC.cells {a : AV} {v : Value} (h : TC w C a v) (hv : VR C γ a v) (ho : allOk a.cells = true) : ∀ (i : Nat) (x : AV), a.cells[i]? = some x → TCx x (v.cells.getD i undef) := by
  intro i x hi
  cases a with
  | agg cs =>
    obtain ⟨vs, rfl, hl, -⟩ := hv.agg_inv
    exact h i x hi
  | tup cs => simp [AV.cells, allOk, AV.ok1] at ho
  | un => simp [AV.cells, allOk, AV.ok1] at ho
  | _ =>
    cases i with
    | succ i => simp [AV.cells] at hi
    | zero =>
      simp [AV.cells] at hi
      subst hi
      have h0 := (hv.cells ho).1
      have hc : v.cells.getD 0 undef = v := by
        cases v <;> first | rfl | (have := (hv.cells ho).2 0 _ rfl; cases hv; done) | skip
        all_goals (rename_i hh; cases hv <;> simp_all [sc])
      rw [hc]
      exact TC_tcx h (by simp [AV.flat])


theorem heap_alloc (w : World) (o : Obj) : (w.alloc o).heap[w.heap.size]? = some o ∧ (∀ b, b < w.heap.size → (w.alloc o).heap[b]? = w.heap[b]?) ∧ (w.alloc o).heap.size = w.heap.size + 1 := by
  have e1 : (w.alloc o).heap = w.heap.push o := rfl
  rw [e1]
  refine ⟨by simp, fun b hb => ?_, by simp⟩
  simp [Array.getElem?_push, Nat.ne_of_lt hb]

theorem C_new (h : SR L N F γ C e ah ts w) {b : Nat} (hb : w.heap.size ≤ b) : C b = [] := by
  cases hc : C b with
  | nil => rfl
  | cons x r =>
    obtain ⟨vs, ty, fr, hh, -⟩ := h.mem.com b (by rw [hc]; simp)
    have := heap_lt hh; omega

/-- a new object behind a pointer -/
theorem new_obj (h : SR L N F γ C e ah ts w) (hd : ∀ x, d = some x → x < N) {vs : Array Value} {t : TypeId} {cs : List AV} (hsz : vs.size = cs.length)
    (hc : ∀ (i : Nat) (a : AV), cs[i]? = some a → VR C γ a (vs.getD i undef) ∧ TCx a (vs.getD i undef) ∧ a.plain = true) :
    SR L N F (γ ++ [w.heap.size]) C (Am.putv L e d (.ptr ah.length 0)) (ah ++ [cs]) (Act.put ⟨ts, ds⟩ d (.pointer (some ⟨w.heap.size, 0, none⟩))).tmps (w.alloc (.cells vs t)) ∧
    Ext F C w C (w.alloc (.cells vs t)) := by
  obtain ⟨h1, h2, h3⟩ := heap_alloc w (.cells vs t)
  obtain ⟨hg, hx⟩ := h.grow (w' := w.alloc (.cells vs t)) (C' := C) h2 (by omega) (fun _ _ => rfl) (fun b hb hne => absurd (C_new h hb) hne)
  have ho := hg.addObj (b := w.heap.size) h1 (fun i _ hi => by simp at hi) (Nat.le_of_eq hsz.symm) (fun i a hi => ⟨(hc i a hi).1, ?_, plain_own (hc i a hi).2.2⟩) (C_new h (Nat.le_refl _)) (fun hF => Nat.lt_irrefl _ (h.flt.lt _ hF))
    (fun p hp => ?_)
  · refine ⟨ho.putv hd (.ptr _ _ _ _ ?_) trivial rfl (by simp), hx⟩
    rw [List.getElem?_append_right (by rw [h.mem.len]; exact Nat.le_refl _), h.mem.len]; simp
  · have := (hc i a hi).2.1
    have hp := (hc i a hi).2.2
    cases a with
    | sl t k xs => cases t <;> first | (simp [AV.plain] at hp; done) | (generalize vs.getD i undef = v at this; cases v <;> first | trivial | exact this)
    | agg cs => generalize vs.getD i undef = v at this; cases v <;> exact absurd this (by simp [TCx])
    | tup cs => generalize vs.getD i undef = v at this; cases v <;> exact absurd this (by simp [TCx])
    | _ => generalize vs.getD i undef = v; cases v <;> trivial
  · have hb0 : blk γ e ah ts w p w.heap.size := by
      cases p with
      | obj s => exact hp
      | cell s i =>
        obtain ⟨x, a, b0, g1, g2, g3, g4⟩ := hp
        have := blk_lt h (p := .obj s) (b := b0) g3
        exact ⟨x, a, b0, g1, g2, g3, by rwa [cell_same (h2 b0 this)] at g4⟩
      | tmp t => exact hp
    exact Nat.lt_irrefl _ (blk_lt h hb0)

theorem zok_ok {a : AV} {v : Value} (h : zok a v = true) : VR C γ a v ∧ TCx a v ∧ a.plain = true := by
  unfold zok at h
  split at h
  · simp only [Bool.and_eq_true, beq_iff_eq] at h
    obtain ⟨rfl, rfl⟩ := h
    exact ⟨.int .., trivial, rfl⟩
  · simp only [beq_iff_eq] at h; subst h; exact ⟨.bool .., trivial, rfl⟩
  · rename_i s
    simp only [beq_iff_eq] at h
    have : s = ⟨([] : List UInt8).toArray⟩ := by cases s with | mk d => simp at h; simp [h]
    subst this
    exact ⟨.str .., trivial, rfl⟩
  · exact ⟨.sl0 .., rfl, rfl⟩
  · exact ⟨.v _ _ rfl, trivial, rfl⟩
  · exact ⟨.v _ _ rfl, trivial, rfl⟩
  · exact ⟨.v _ _ rfl, trivial, rfl⟩
  · cases h

theorem zoks_ok : ∀ {cs : List AV} {vs : List Value}, zoks cs vs = true → vs.length = cs.length ∧ ∀ (i : Nat) (a : AV), cs[i]? = some a → VR C γ a (vs.getD i undef) ∧ TCx a (vs.getD i undef) ∧ a.plain = true := by
  intro cs
  induction cs with
  | nil => intro vs h; cases vs <;> simp [zoks] at h; simp
  | cons c r ih =>
    intro vs h
    cases vs with
    | nil => simp [zoks] at h
    | cons v s =>
      simp only [zoks, Bool.and_eq_true] at h
      obtain ⟨h1, h2⟩ := ih h.2
      refine ⟨by simp [h1], fun i a hi => ?_⟩
      cases i with
      | zero => simp at hi; subst hi; simpa using zok_ok h.1
      | succ i => simpa using h2 i a (by simpa using hi)

theorem zeroOf_ok {t : TypeId} {cs : List AV} (h : zeroOf P t = some cs) : ∃ z, (∀ w, (zeroValue t).run P w = .ok z w) ∧ z.cells.size = cs.length ∧ (P.info? t).isSome = true ∧
    ∀ (i : Nat) (a : AV), cs[i]? = some a → VR C γ a (z.cells.getD i undef) ∧ TCx a (z.cells.getD i undef) ∧ a.plain = true := by
  unfold zeroOf at h
  split at h
  case h_2 => cases h
  rename_i cs' z h1 h2
  split at h
  case isFalse => cases h
  rename_i hz
  injection h with h
  subst h
  cases hi : P.info? t with
  | none => rw [hi] at h2; cases h2
  | some i =>
    rw [hi] at h2
    simp only [Option.bind_some] at h2
    obtain ⟨g1, g2⟩ := zoks_ok (C := C) (γ := γ) hz
    refine ⟨z, fun w => by simp [zeroValue, run_tinfo hi, h2], by simpa using g1, rfl, fun i a hi => ?_⟩
    have := g2 i a hi
    rwa [getD_list] at this

theorem op_alloc {t : TypeId} {cs : List AV} (h : SR L N F γ C e ah ts w) (hd : ∀ x, d = some x → x < N) (hz : zeroOf P t = some cs)
    (hev : aev L ⟨d, .alloc cs, none⟩ e ah = some (e', ah')) : Done m P L N F γ C ⟨d, .alloc t, ty, pos, af, g⟩ ts ds w e' ah' := by
  simp only [aev, Option.some.injEq, Prod.mk.injEq] at hev
  obtain ⟨rfl, rfl⟩ := hev
  obtain ⟨z, hr, hs, -, hc⟩ := zeroOf_ok (C := C) (γ := γ) hz
  obtain ⟨h1, h2⟩ := new_obj (ds := ds) (t := t) h hd hs hc
  refine ⟨_, _, _, C, .inl ?_, List.prefix_append _ _, h1, h2, fun _ s b hb => (heap_alloc w _).2.1 b (blk_lt h (p := .obj s) hb), fun hq => by simp [quietO] at hq⟩
  simp [execOp, Instr.alloc, hr, newVar, newRow]

theorem op_box {t : TypeId} {x : Operand} {x' : Ar} (h : SR L N F γ C e ah ts w) (hd : ∀ x, d = some x → x < N) (hx : carg P t x = some x')
    (hev : aev L ⟨d, .box x', none⟩ e ah = some (e', ah')) : Done m P L N F γ C ⟨d, .box t x, ty, pos, af, g⟩ ts ds w e' ah' := by
  have h1 := arg_ok (ds := ds) h hx
  simp only [aev] at hev
  split at hev
  case isFalse => cases hev
  rename_i hok
  simp only [Option.some.injEq, Prod.mk.injEq] at hev
  obtain ⟨rfl, rfl⟩ := hev
  obtain ⟨c1, c2⟩ := h1.1.cells hok
  have c3 := h1.2.cells h1.1 hok
  obtain ⟨h1, h2⟩ := new_obj (ds := ds) (t := t) (vs := (Act.eval ⟨ts, ds⟩ x).cells) (cs := (ev e x').cells.map AV.sh1) h hd (by simpa using c1) (fun i a hi => by
    rw [List.getElem?_map] at hi
    cases hb : (ev e x').cells[i]? with
    | none => rw [hb] at hi; simp at hi
    | some b =>
      rw [hb] at hi
      obtain rfl : b.sh1 = a := by simpa using hi
      refine ⟨(Wk.of_or (Wk.sh1 b)).vr (c2 i b hb).1, ?_, sh1_plain b⟩
      have := c3 i b hb
      generalize ((Act.eval ⟨ts, ds⟩ x).cells.getD i undef) = v at this
      cases b with
      | sl t k xs => cases t <;> cases v <;> first | trivial | exact this
      | _ => exact this)
  refine ⟨_, _, _, C, .inl ?_, List.prefix_append _ _, h1, h2, fun _ s b hb => (heap_alloc w _).2.1 b (blk_lt h (p := .obj s) hb), fun hq => by simp [quietO] at hq⟩
  simp [execOp, Instr.box, newVar, newRow]

/-- a new row of one's own -/
theorem new_own (h : SR L N F γ C e ah ts w) (hd : ∀ x, d = some x → x < N) {cs : Array Value} {t : TypeId} {fr : Nat × Nat} {con : List Value} {xs : List AV} {k n c : Nat}
    (hw : ∀ b, b < w.heap.size → w'.heap[b]? = w.heap[b]?) (hsz : w'.heap.size = w.heap.size + 1) (hb : w'.heap[w.heap.size]? = some (.cells cs t fr)) (hcon : con <+: cs.toList) (hone : ∀ v ∈ con, v.oneCell' = true) (hlen : con.length = n * k)
    (hn : n = xs.length) (hnc : n ≤ c) (hc : c * k ≤ cs.size) (hfr : ∀ i, i < c * k → ¬ (fr.1 ≤ i ∧ i < fr.2)) (hk : ∀ (i : Nat) (a : AV), xs[i]? = some a → a.cells.length = k)
    (hx : ∀ (i : Nat) (a : AV), xs[i]? = some a → ∀ (j : Nat) (y : AV), a.cells[j]? = some y → VR C [] y (con.getD (i * k + j) undef)) (ho : SameOut w w' := by exact ⟨rfl, rfl, rfl⟩) :
    ∃ C', SR L N F γ C' (Am.putv L e d (.sl .own k xs)) ah (Act.put ⟨ts, ds⟩ d (.slice (some ⟨w.heap.size, 0, none⟩) n c)).tmps w' ∧ Ext F C w C' w' ∧
      SR L N F γ C' e ah ts w' ∧ VR C' γ (.sl .own k xs) (.slice (some ⟨w.heap.size, 0, none⟩) n c) := by
  refine ⟨fun x => if x = w.heap.size then con else C x, ?_⟩
  generalize hC' : (fun x => if x = w.heap.size then con else C x) = C'
  have c0 : C' w.heap.size = con := by rw [← hC']; simp
  have c1 : ∀ x, x ≠ w.heap.size → C' x = C x := fun x hx => by rw [← hC']; simp [hx]
  obtain ⟨hg, he⟩ := h.grow (ho := ho) (w' := w') (C' := C') hw (by omega) (fun b hb => c1 b (by omega)) (fun b hbx hne => by
    by_cases hx : b = w.heap.size
    · subst hx; rw [c0]; exact ⟨cs, t, fr, hb, hcon⟩
    · rw [c1 b hx, C_new h hbx] at hne; exact absurd rfl hne)
  have hv : VR C' γ (.sl .own k xs) (.slice (some ⟨w.heap.size, 0, none⟩) n c) := by
    refine .sl _ _ _ _ _ _ _ _ hn hnc hk (by rw [c0, hlen]; omega) (fun q _ hq => by rw [c0, List.getD_eq_getElem?_getD, List.getElem?_eq_getElem (by omega)]; exact hone _ (List.getElem_mem _)) fun i a hi j y hj => ?_
    rw [c0, Nat.zero_add]
    exact (hx i a hi j y hj).mono he.pre _ (fun _ _ h => h)
  have hown : ∀ b, ownB (.sl .own k xs) (.slice (some ⟨w.heap.size, 0, none⟩) n c) = some b → b = w.heap.size := by
    intro b hb
    simp only [ownB] at hb
    split at hb
    · cases hb
    · exact (Option.some.inj hb).symm
  refine ⟨hg.putvOwn hd hv ?_ fun b hb' => ?_, he, hg, hv⟩
  · by_cases hcn : c = n
    · exact .inl hcn
    · refine .inr ⟨_, 0, cs, t, fr, rfl, hb, by rw [c0, hlen, Nat.zero_add], by omega, fun i h1 h2 => ?_⟩
      have := hfr i (by omega)
      simp [World.frozen?, hb]
      omega
  · have := hown b hb'
    subst this
    refine ⟨fun hF => Nat.lt_irrefl _ (h.flt.lt _ hF), fun p hp => ?_⟩
    have hb0 : blk γ e ah ts w p w.heap.size := by
      cases p with
      | obj s => exact hp
      | cell s i =>
        obtain ⟨x, a, b0, g1, g2, g3, g4⟩ := hp
        have := blk_lt h (p := .obj s) (b := b0) g3
        exact ⟨x, a, b0, g1, g2, g3, by rwa [cell_same (hw b0 this)] at g4⟩
      | tmp t => exact hp
    exact Nat.lt_irrefl _ (blk_lt h hb0)

/-! conversions -/
theorem bytesOf_ok : ∀ {xs : List AV} {l : List UInt8}, bytesOf xs = some l → ∀ (f : Nat → Value), (∀ (i : Nat) (a : AV), xs[i]? = some a → VR C [] a (f i)) →
    ∃ ns : List Int, ns.length = xs.length ∧ (∀ i, i < xs.length → f i = .int .u8 (ns.getD i 0)) ∧ ns.map (fun n => UInt8.ofNat n.toNat) = l := by
  intro xs
  induction xs with
  | nil => intro l h f _; simp [bytesOf] at h; subst h; exact ⟨[], rfl, by simp, rfl⟩
  | cons a r ih =>
    intro l h f hf
    unfold bytesOf at h
    split at h
    · rename_i heq; cases heq
    · rename_i i r' heq
      injection heq with e1 e2
      subst e1; subst e2
      cases hb : bytesOf r with
      | none => rw [hb] at h; cases h
      | some l' =>
        rw [hb] at h
        simp only [Option.map_some, Option.some.injEq] at h
        subst h
        obtain ⟨ns, n1, n2, n3⟩ := ih hb (fun j => f (j + 1)) (fun j a hj => hf (j + 1) a (by simpa using hj))
        refine ⟨i :: ns, by simp [n1], fun j hj => ?_, by simp [n3]⟩
        cases j with
        | zero => simpa using (hf 0 _ rfl).int_inv
        | succ j => simpa using n2 j (by simpa using hj)
    · cases h

theorem op_cvt0 {s t : TypeId} {hh : Cv} {x : Operand} {x' : Ar} (h : SR L N F γ C e ah ts w) (hd : ∀ x, d = some x → x < N) (hx : carg0 x = some x') (hc : ccv P s t = some hh)
    (hev : ((acvt hh (ev e x')).map fun a => (Am.putv L e d a, ah)) = some (e', ah')) : Done m P L N F γ C ⟨d, .convert s t x, ty, pos, af, g⟩ ts ds w e' ah' := by
  have h1 := arg0_ok (ds := ds) h hx
  cases ha : acvt hh (ev e x') with
  | none => rw [ha] at hev; cases hev
  | some r =>
    rw [ha] at hev
    simp only [Option.map_some, Option.some.injEq, Prod.mk.injEq] at hev
    obtain ⟨rfl, rfl⟩ := hev
    unfold ccv at hc
    split at hc
    · rename_i k0 k hs ht
      simp only [Option.some.injEq] at hc; subst hc
      generalize hb : ev e x' = b at ha h1
      cases b <;> simp [acvt] at ha
      subst ha
      refine Done.plain h hd (v := .int k (k.wrap _)) ?_ (.int ..) trivial rfl
      simp [execOp, h1.1.int_inv, convert, run_und hs, run_und ht, Conv.intToInt]
    · rename_i hs ht
      simp only [Option.some.injEq] at hc; subst hc
      generalize hb : ev e x' = b at ha h1
      cases b <;> simp [acvt] at ha
      subst ha
      exact Done.plain h hd (v := .string ⟨_⟩) (fun w _ => by simp [execOp, h1.1.str_inv, convert, run_und hs, run_und ht]) (.str ..) trivial rfl
    · rename_i el hs ht
      split at hc
      case h_2 => cases hc
      rename_i hel
      split at hc
      case isFalse => cases hc
      rename_i hsz
      simp only [Option.some.injEq] at hc; subst hc
      generalize hb : ev e x' = b at ha h1
      cases b <;> simp [acvt] at ha
      rename_i l
      subst ha
      have hv := h1.1.str_inv
      have hrun := run_bytes_of_string (P := P) w s t el ⟨l.toArray⟩ hs ht hel
      have hlen : (⟨l.toArray⟩ : ByteArray).size = l.length := by simp [ByteArray.size]
      rw [hlen] at hrun
      generalize hcap : grownCap w l.length 0 el = cap at hrun
      have hge : l.length ≤ cap := by rw [← hcap]; exact grownCap_ge w _ _ _
      have hbr : bytesRow ⟨l.toArray⟩ cap = (l.map fun b => Value.int .u8 b.toNat).toArray ++ Array.replicate (cap - l.length) (.int .u8 0) := by
        simp [bytesRow, hlen]
      have hbs : (bytesRow ⟨l.toArray⟩ cap).size = cap := by rw [hbr]; simp; omega
      rw [hbs] at hrun
      obtain ⟨q1, q2, q3⟩ := heap_alloc w.drew (.cells (bytesRow ⟨l.toArray⟩ cap) el (cap, cap + 1))
      obtain ⟨C', g1, g2, -, -⟩ := new_own (ds := ds) (w' := w.drew.alloc (.cells (bytesRow ⟨l.toArray⟩ cap) el (cap, cap + 1))) (d := d) (con := l.map fun b => Value.int .u8 b.toNat) (xs := l.map b8) (k := 1) (n := l.length) (c := cap)
        h hd q2 q3 q1 (by rw [hbr]; simp) (by simp [Value.oneCell']) (by simp) (by simp) hge (by rw [hbs]; omega) (fun i hi => by simp; omega)
        (fun i a hi => by rw [List.getElem?_map] at hi; cases hq : l[i]? <;> rw [hq] at hi <;> simp at hi; subst hi; rfl)
        (fun i a hi j y hj => by
          rw [List.getElem?_map] at hi
          cases hq : l[i]? with
          | none => rw [hq] at hi; simp at hi
          | some b =>
            rw [hq] at hi
            obtain rfl : b8 b = a := by simpa using hi
            cases j with
            | zero =>
              obtain rfl : b8 b = y := by simpa [AV.cells, b8] using hj
              simp [List.getD_eq_getElem?_getD, hq]
              exact .int ..
            | succ j => simp [AV.cells, b8] at hj)
      refine ⟨_, _, γ, C', .inl ?_, List.prefix_refl _, g1, g2, fun _ s b hb => q2 b (blk_lt h (p := .obj s) hb), fun hq => by simp [quietO, ht] at hq⟩
      simp [execOp, hv, hrun]
    · rename_i el hs ht
      split at hc
      case h_2 => cases hc
      rename_i hel
      split at hc
      case isFalse => cases hc
      rename_i hsz
      simp only [Option.some.injEq] at hc; subst hc
      generalize hb : ev e x' = b at ha h1
      cases b <;> try (simp [acvt] at ha; done)
      rename_i tg k xs
      by_cases hk : k = 1
      case neg => simp only [acvt] at ha; split at ha <;> simp_all
      subst hk
      simp only [acvt] at ha
      cases hby : bytesOf xs with
      | none => rw [hby] at ha; cases ha
      | some l =>
        rw [hby] at ha
        simp only [Option.map_some, Option.some.injEq] at ha
        subst ha
        obtain ⟨ad, c, hv, -, hcase⟩ := h1.1.sl_inv
        refine Done.plain h hd (v := .string ⟨l.toArray⟩) ?_ (.str ..) trivial rfl
        intro w2 hka
        have key : (Conv.bytesToString (.slice ad xs.length c)).run P w2 = .ok (.string ⟨l.toArray⟩) w2 := by
          rcases hcase with rfl | ⟨b, o, rfl, hkk, hle, hcells⟩
          · simp only [bytesOf, Option.some.injEq] at hby
            subst hby
            cases ad with
            | none => rfl
            | some a => simp [Conv.bytesToString, loadCells, loadCellsFrom]; rfl
          · have h0 : ∀ (i : Nat) (a : AV), xs[i]? = some a → VR C [] a ((C b).getD (o + i) undef) := by
              intro i a hi
              have hc1 := hkk i a hi
              have hall := hcells i a hi
              cases a with
              | agg cs =>
                exfalso
                have : ∀ {xs : List AV} {l : List UInt8}, bytesOf xs = some l → ∀ (i : Nat) (cs : List AV), xs[i]? ≠ some (.agg cs) := by
                  intro xs
                  induction xs with
                  | nil => intro l _ i cs; simp
                  | cons y r ih =>
                    intro l hl i cs hi
                    unfold bytesOf at hl
                    split at hl
                    · rename_i heq; cases heq
                    · rename_i j r' heq
                      injection heq with e1 e2; subst e1; subst e2
                      cases hb : bytesOf r with
                      | none => rw [hb] at hl; cases hl
                      | some l' => cases i with
                        | zero => simp at hi
                        | succ i => exact ih hb i cs (by simpa using hi)
                    · cases hl
                exact this hby i cs hi
              | _ => have := hall 0 _ rfl; simpa using this
            obtain ⟨ns, n1, n2, n3⟩ := bytesOf_ok hby (fun i => (C b).getD (o + i) undef) h0
            have hlc : (loadCells ⟨b, o, none⟩ xs.length).run P w2 = .ok (ns.map (Value.int .u8)).toArray w2 := by
              obtain ⟨r, hr, hrs, -, hrc⟩ := run_loadFrom (P := P) (w := w2) (b := b) (o := o) xs.length 0 #[] (fun j _ hj => ⟨_, (hka.1 b (o + j) (by omega)).trans (cell_row h (by omega))⟩)
              have : r = (ns.map (Value.int .u8)).toArray := by
                apply Array.ext_getElem?
                intro j
                by_cases hj : j < xs.length
                · have e1 := hrc j hj
                  simp only [List.size_toArray, List.length_nil, Nat.zero_add] at e1
                  rw [e1, hka.1 b (o + j) (by omega), cell_row h (by omega), n2 j hj]
                  simp [List.getD_eq_getElem?_getD, n1, hj]
                · rw [Array.getElem?_eq_none (by simp at hrs; omega), Array.getElem?_eq_none (by simp; omega)]
              rw [this] at hr
              exact hr
            rw [run_bytesToString w2 _ _ _ ns hlc]
            have : ∀ (ns : List Int) (acc : List UInt8), ns.foldl (fun r n => r.push (UInt8.ofNat n.toNat)) (⟨acc.toArray⟩ : ByteArray) = ⟨(acc ++ ns.map fun n => UInt8.ofNat n.toNat).toArray⟩ := by
              intro ns
              induction ns with
              | nil => intro acc; simp
              | cons n r ih => intro acc; simp only [List.foldl_cons]; have := ih (acc ++ [UInt8.ofNat n.toNat]); simp only [List.map_cons]; rw [List.append_cons, ← this]; congr 1; simp [ByteArray.push]
            have h3 := this ns []
            rw [n3] at h3
            rw [show ByteArray.empty = (⟨([] : List UInt8).toArray⟩ : ByteArray) from rfl, h3]; rfl
        simp [execOp, hv, convert, run_und hs, run_und ht, run_und hel, key]
    · cases hc
theorem op_cvte {s t : TypeId} {x : Operand} {x' : Ar} (h : SR L N F γ C e ah ts w) (hd : ∀ x, d = some x → x < N) (hx : carg0 x = some x') (hc : ccv P s t = some .bs)
    (hev : aev L ⟨d, .cvte x', none⟩ e ah = some (e', ah')) : Done m P L N F γ C ⟨d, .convert s t x, ty, pos, af, g⟩ ts ds w e' ah' :=
  op_cvt0 h hd hx hc (by simpa only [aev] using hev)
theorem op_cvt {s t : TypeId} {hh : Cv} {x : Operand} {x' : Ar} (h : SR L N F γ C e ah ts w) (hd : ∀ x, d = some x → x < N) (hx : carg0 x = some x') (hc : ccv P s t = some hh) (hm : m = true ∨ hh ≠ .bs)
    (hev : aev L ⟨d, .cvt hh x', none⟩ e ah = some (e', ah')) : Done m P L N F γ C ⟨d, .convert s t x, ty, pos, af, g⟩ ts ds w e' ah' := by
  simp only [aev] at hev
  split at hev
  case h_2 => exact op_cvt0 h hd hx hc hev
  rename_i s0 kk p n hms
  obtain rfl : m = true := hm.resolve_right (fun q => q rfl)
  split at hev
  case isFalse => cases hev
  rename_i hk
  subst hk
  split at hev
  case h_2 => cases hev
  rename_i cs hcs
  split at hev
  case isFalse => cases hev
  rename_i hle
  cases hby : bytesOf ((cs.drop p).take n) with
  | none => rw [hby] at hev; cases hev
  | some l =>
    rw [hby] at hev
    simp only [Option.map_some, Option.some.injEq, Prod.mk.injEq] at hev
    obtain ⟨rfl, rfl⟩ := hev
    have h1 := arg0_ok (ds := ds) h hx
    rw [hms] at h1
    obtain ⟨b, c, hb, hnc, hv⟩ := h1.1.msl_inv
    obtain ⟨vs, tv, hheap, hsz, hcell⟩ := h.mem.obj s0 b cs hcs hb
    unfold ccv at hc
    split at hc
    · cases hc
    · cases hc
    · split at hc
      · split at hc <;> cases hc
      · cases hc
    · rename_i el hs ht
      split at hc
      case h_2 => cases hc
      rename_i hel
      refine Done.plain h hd (v := .string ⟨l.toArray⟩) ?_ (.str ..) trivial rfl
      intro w2 hka
      have hlen : ((cs.drop p).take n).length = n := by simp; omega
      have hw2 : w2.heap[b]? = w.heap[b]? := hka.2 rfl s0 b hb
      obtain ⟨ns, n1, n2, n3⟩ := bytesOf_ok (C := C) hby (fun i => vs.getD (p + i) undef) (fun i a hi => by
        have hin : i < n := by have := (List.getElem?_eq_some_iff.1 hi).1; rw [hlen] at this; exact this
        rw [List.getElem?_take_of_lt hin, List.getElem?_drop] at hi
        have hh := (hcell (p + i) a hi).1
        -- a byte
        have hbyte : ∀ {xs : List AV} {l : List UInt8}, bytesOf xs = some l → ∀ (i : Nat) (a : AV), xs[i]? = some a → ∃ z, a = .int .u8 z := by
          intro xs
          induction xs with
          | nil => intro l _ i a; simp
          | cons y r ih =>
            intro l hl i a hi
            unfold bytesOf at hl
            split at hl
            · rename_i heq; cases heq
            · rename_i j r' heq
              injection heq with e1 e2; subst e1; subst e2
              cases hb : bytesOf r with
              | none => rw [hb] at hl; cases hl
              | some l' => cases i with
                | zero => simp at hi; exact ⟨j, hi.symm⟩
                | succ i => exact ih hb i a (by simpa using hi)
            · cases hl
        obtain ⟨z, rfl⟩ := hbyte hby i a (by rw [List.getElem?_take_of_lt hin, List.getElem?_drop]; exact hi)
        have := hh.int_inv
        rw [this]; exact .int ..)
      rw [hlen] at n1 n2
      have hlc : (loadCells ⟨b, p, none⟩ n).run P w2 = .ok (ns.map (Value.int .u8)).toArray w2 := by
        have hcell2 : ∀ j, j < n → w2.cell? ⟨b, p + j, none⟩ = some (vs.getD (p + j) undef) := fun j hj => by
          rw [cell_same hw2, cell_obj hheap]
          have : p + j < vs.size := by omega
          simp [Array.getD_eq_getD_getElem?, Array.getElem?_eq_getElem this]
        obtain ⟨r, hr, hrs, -, hrc⟩ := run_loadFrom (P := P) (w := w2) (b := b) (o := p) n 0 #[] (fun j _ hj => ⟨_, hcell2 j (by omega)⟩)
        have : r = (ns.map (Value.int .u8)).toArray := by
          apply Array.ext_getElem?
          intro j
          by_cases hj : j < n
          · have e1 := hrc j hj
            simp only [List.size_toArray, List.length_nil, Nat.zero_add] at e1
            rw [e1, hcell2 j hj, n2 j hj]
            simp [List.getD_eq_getElem?_getD, n1, hj]
          · rw [Array.getElem?_eq_none (by simp at hrs; omega), Array.getElem?_eq_none (by simp; omega)]
        rw [this] at hr
        exact hr
      have key : (Conv.bytesToString (.slice (some ⟨b, p, none⟩) n c)).run P w2 = .ok (.string ⟨l.toArray⟩) w2 := by
        rw [run_bytesToString w2 _ _ _ ns hlc]
        have : ∀ (ns : List Int) (acc : List UInt8), ns.foldl (fun r n => r.push (UInt8.ofNat n.toNat)) (⟨acc.toArray⟩ : ByteArray) = ⟨(acc ++ ns.map fun n => UInt8.ofNat n.toNat).toArray⟩ := by
          intro ns
          induction ns with
          | nil => intro acc; simp
          | cons n r ih => intro acc; simp only [List.foldl_cons]; have := ih (acc ++ [UInt8.ofNat n.toNat]); simp only [List.map_cons]; rw [List.append_cons, ← this]; congr 1; simp [ByteArray.push]
        have h3 := this ns []
        rw [n3] at h3
        rw [show ByteArray.empty = (⟨([] : List UInt8).toArray⟩ : ByteArray) from rfl, h3]; rfl
      simp [execOp, hv, convert, run_und hs, run_und ht, run_und hel, key]
    · cases hc
/-- a string's bytes as an object -/
theorem op_cvto {s t : TypeId} {x : Operand} {x' : Ar} (h : SR L N F γ C e ah ts w) (hd : ∀ x, d = some x → x < N) (hx : carg0 x = some x') (hc : ccv P s t = some .sb)
    (hev : aev L ⟨d, .cvto x', none⟩ e ah = some (e', ah')) : Done m P L N F γ C ⟨d, .convert s t x, ty, pos, af, g⟩ ts ds w e' ah' := by
  have h1 := arg0_ok (ds := ds) h hx
  simp only [aev] at hev
  split at hev
  case h_2 => cases hev
  rename_i l hl
  simp only [Option.some.injEq, Prod.mk.injEq] at hev
  obtain ⟨rfl, rfl⟩ := hev
  rw [hl] at h1
  have hv := h1.1.str_inv
  unfold ccv at hc
  split at hc
  · cases hc
  · cases hc
  · rename_i el hs ht
    split at hc
    case h_2 => cases hc
    rename_i hel
    have hrun := run_bytes_of_string (P := P) w s t el ⟨l.toArray⟩ hs ht hel
    have hlen : (⟨l.toArray⟩ : ByteArray).size = l.length := by simp [ByteArray.size]
    rw [hlen] at hrun
    generalize hcap : grownCap w l.length 0 el = cap at hrun
    have hge : l.length ≤ cap := by rw [← hcap]; exact grownCap_ge w _ _ _
    have hbr : bytesRow ⟨l.toArray⟩ cap = (l.map fun b => Value.int .u8 b.toNat).toArray ++ Array.replicate (cap - l.length) (.int .u8 0) := by
      simp [bytesRow, hlen]
    have hbs : (bytesRow ⟨l.toArray⟩ cap).size = cap := by rw [hbr]; simp; omega
    rw [hbs] at hrun
    obtain ⟨q1, q2, q3⟩ := heap_alloc w.drew (.cells (bytesRow ⟨l.toArray⟩ cap) el (cap, cap + 1))
    have q2' : ∀ b, b < w.heap.size → (w.drew.alloc (.cells (bytesRow ⟨l.toArray⟩ cap) el (cap, cap + 1))).heap[b]? = w.heap[b]? := q2
    have q3' : (w.drew.alloc (.cells (bytesRow ⟨l.toArray⟩ cap) el (cap, cap + 1))).heap.size = w.heap.size + 1 := q3
    obtain ⟨hg, hxx⟩ := h.grow (w' := w.drew.alloc (.cells (bytesRow ⟨l.toArray⟩ cap) el (cap, cap + 1))) (C' := C) q2' (by omega) (fun _ _ => rfl) (fun b hb hne => absurd (C_new h hb) hne)
    have ho := hg.addObj (b := w.heap.size) (cs := l.map b8) q1 (fun i hi => by simp at hi ⊢; omega) (by rw [hbs]; simpa using hge) (fun i a hi => by
      rw [List.getElem?_map] at hi
      cases hq : l[i]? with
      | none => rw [hq] at hi; simp at hi
      | some u =>
        rw [hq] at hi
        obtain rfl : b8 u = a := by simpa using hi
        have hil : i < l.length := (List.getElem?_eq_some_iff.1 hq).1
        have hval : (bytesRow ⟨l.toArray⟩ cap).getD i undef = .int .u8 u.toNat := by
          rw [hbr]
          simp [Array.getD_eq_getD_getElem?, Array.getElem?_append, hil, hq]
          rw [List.getElem?_eq_getElem hil] at hq
          injection hq with hq
          rw [hq]
        rw [hval]
        exact ⟨.int .., trivial, rfl⟩) (C_new h (Nat.le_refl _)) (fun hF => Nat.lt_irrefl _ (h.flt.lt _ hF)) (fun p hp => by
      have hb0 : blk γ e ah ts w p w.heap.size := by
        cases p with
        | obj s => exact hp
        | cell s i =>
          obtain ⟨x, a, b0, g1, g2, g3, g4⟩ := hp
          have := blk_lt h (p := .obj s) (b := b0) g3
          exact ⟨x, a, b0, g1, g2, g3, by rwa [cell_same (q2' b0 this)] at g4⟩
        | tmp t => exact hp
      exact Nat.lt_irrefl _ (blk_lt h hb0))
    have hlast : (γ ++ [w.heap.size])[ah.length]? = some w.heap.size := by
      rw [List.getElem?_append_right (by rw [h.mem.len]; exact Nat.le_refl _), h.mem.len]; simp
    refine ⟨_, _, γ ++ [w.heap.size], C, .inl ?_, List.prefix_append _ _, ho.putv hd (.msl _ _ _ _ _ w.heap.size cap hlast hge) trivial rfl (by simp), hxx, fun _ s b hb => q2' b (blk_lt h (p := .obj s) hb), fun hq => by simp [quietO, ht] at hq⟩
    simp [execOp, hv, hrun]
  · split at hc
    · split at hc <;> cases hc
    · cases hc
  · cases hc

theorem op_iq {op : BinOp} {t : TypeId} {ms : Array (String × TypeId)} {x : Operand} {x' : Ar} {neq : Bool} (h : SR L N F γ C e ah ts w) (hd : ∀ x, d = some x → x < N) (hx : carg0 x = some x')
    (hu : P.underlying t = some (.interface ms)) (hop : op = if neq then .neq else .eql)
    (hev : aev L ⟨d, .iq neq x' (.c (.v .nilIface)), none⟩ e ah = some (e', ah')) : Done m P L N F γ C ⟨d, .binOp op t x (.const .nilIface) ty2, ty, pos, af, g⟩ ts ds w e' ah' := by
  have h1 := arg0_ok (ds := ds) h hx
  have hif : P.isIface t = true := by simp [Program.isIface, hu]
  have hcn : Act.eval ⟨ts, ds⟩ (.const .nilIface) = .nilIface := rfl
  simp only [aev] at hev
  rw [show ev e (.c (.v .nilIface)) = .v .nilIface from rfl] at hev
  cases hb : aiq (ev e x') (.v .nilIface) with
  | none => rw [hb] at hev; cases hev
  | some r =>
    rw [hb] at hev
    simp only [Option.map_some, Option.some.injEq, Prod.mk.injEq] at hev
    obtain ⟨rfl, rfl⟩ := hev
    unfold aiq at hb
    split at hb <;> simp only [Option.some.injEq, reduceCtorEq] at hb <;> subst hb
    · rename_i ha _
      rw [ha] at h1
      obtain ⟨u, z, e1⟩ := h1.1.ifc_inv
      refine Done.plain h hd (v := .bool (if neq then !false else false)) ?_ (.bool ..) trivial rfl
      intro w _
      cases neq <;> simp only [Bool.false_eq_true, if_false, if_true] at hop <;> subst hop
      · simp [execOp, e1, hcn, eqGuard, run_eql_iface_nil w t hif]
      · simp [execOp, e1, hcn, eqGuard, run_neq_iface_nil w t hif]
    · rename_i ha _
      rw [ha] at h1
      have e1 := h1.1.v_inv.1
      refine Done.plain h hd (v := .bool (if neq then !true else true)) ?_ (.bool ..) trivial rfl
      intro w _
      cases neq <;> simp only [Bool.false_eq_true, if_false, if_true] at hop <;> subst hop
      · simp [execOp, e1, hcn, eqGuard, run_eql_nil_nil_at w t hif]
      · simp [execOp, e1, hcn, eqGuard, run_neq_nil_nil_at w t hif]

theorem op_mm {t : TypeId} {x y : Operand} {x' y' : Ar} {mx : Bool} (h : SR L N F γ C e ah ts w) (hd : ∀ x, d = some x → x < N) (hx : carg0 x = some x') (hy : carg0 y = some y')
    (hev : aev L ⟨d, .mm mx x' y', none⟩ e ah = some (e', ah')) : Done m P L N F γ C ⟨d, .call { callee := .builtin (if mx then .max else .min), args := #[x, y], argTypes := #[t, t] }, ty, pos, af, g⟩ ts ds w e' ah' := by
  have h1 := arg0_ok (ds := ds) h hx
  have h2 := arg0_ok (ds := ds) h hy
  simp only [aev] at hev
  cases hb : amm mx (ev e x') (ev e y') with
  | none => rw [hb] at hev; cases hev
  | some r =>
    rw [hb] at hev
    simp only [Option.map_some, Option.some.injEq, Prod.mk.injEq] at hev
    obtain ⟨rfl, rfl⟩ := hev
    unfold amm at hb
    split at hb
    case h_2 => cases hb
    rename_i k i k' j hi hj
    split at hb
    case isFalse => cases hb
    rename_i hkk
    simp only [Option.some.injEq] at hb
    subst hb
    subst hkk
    rw [hi] at h1; rw [hj] at h2
    have e1 := h1.1.int_inv
    have e2 := h2.1.int_inv
    refine Done.plain h hd (v := .int k (if mx then max i j else min i j)) ?_ (.int ..) trivial rfl
    intro w _
    cases mx
    · have : min i j = if j < i then j else i := by rw [Int.min_def]; split <;> split <;> omega
      simp [execOp, resolve, invoke, builtin, Builtin.min_, Builtin.min2, e1, e2, this]
    · have : max i j = if j > i then j else i := by rw [Int.max_def]; split <;> split <;> omega
      simp [execOp, resolve, invoke, builtin, Builtin.max_, Builtin.max2, e1, e2, this]
end
end Go.Am
