import Derived.Test.YtfnnmecilcnloaaDoorAmOps6
import Derived.Laws.Append
import Derived.Laws.IdiomCopy
import Derived.Laws.IdiomStrings
import Derived.Laws.BytesString
set_option linter.unusedSimpArgs false
set_option linter.unusedVariables false
set_option linter.unusedSectionVars false
set_option linter.defProp false
namespace Go.Am
open Go
variable [Tabs]
section
variable {P : Program} {L : List Nat} {N : Nat} {F : Nat → Prop} {γ : List Nat} {C C' : Nat → List Value} {e : Env} {ah : AH} {ts : Array Value} {ds : List Deferred} {w w' : World}

theorem cell_lt {b i : Nat} {v : Value} (h : w.cell? ⟨b, i, none⟩ = some v) : b < w.heap.size := by
  unfold World.cell? at h
  rcases Nat.lt_or_ge b w.heap.size with hlt | hge
  · exact hlt
  · simp [Array.getElem?_eq_none hge] at h
theorem heap_lt {b : Nat} {o : Obj} (h : w.heap[b]? = some o) : b < w.heap.size := (Array.getElem?_eq_some_iff.1 h).1
theorem cell_same {b i : Nat} (h : w'.heap[b]? = w.heap[b]?) : w'.cell? ⟨b, i, none⟩ = w.cell? ⟨b, i, none⟩ := by simp [World.cell?, h]
theorem frozen_same {b i : Nat} (h : w'.heap[b]? = w.heap[b]?) : w'.frozen? ⟨b, i, none⟩ = w.frozen? ⟨b, i, none⟩ := by simp [World.frozen?, h]

theorem OwnAt.mono {k : Nat} {a : Option Addr} {n c : Nat} (h : OwnAt w C k a n c) (hw : ∀ ad, a = some ad → w'.heap[ad.block]? = w.heap[ad.block]? ∧ C' ad.block = C ad.block) : OwnAt w' C' k a n c := by
  obtain ⟨b, o, cs, ty, fr, rfl, h1, h2, h3, h4⟩ := h
  obtain ⟨g1, g2⟩ := hw _ rfl
  exact ⟨b, o, cs, ty, fr, rfl, by rw [g1]; exact h1, by rw [g2]; exact h2, h3, fun i hi hj => by rw [frozen_same g1]; exact h4 i hi hj⟩

/-- a tag's claim, where what is owned is as it was -/
theorem TC.mono {a : AV} {v : Value} (h : TC w C a v) (hw : ∀ b, ownB a v = some b → w'.heap[b]? = w.heap[b]? ∧ C' b = C b) : TC w' C' a v := by
  cases a with
  | sl t k xs =>
    cases t with
    | own =>
      cases v with
      | slice ad n c =>
        simp only [TC] at h ⊢
        by_cases hc : c = n
        · exact .inl hc
        · refine .inr ((h.resolve_left hc).mono fun a ha => ?_)
          subst ha
          exact hw _ (by simp [ownB, hc])
      | _ => trivial
    | ex => cases v <;> first | trivial | exact h
    | _ => cases v <;> trivial
  | agg cs => cases v <;> first | trivial | exact h
  | tup cs => cases v <;> first | trivial | exact h
  | _ => cases v <;> trivial

theorem TC.own_lt {a : AV} {v : Value} {b : Nat} (h : TC w C a v) (hb : ownB a v = some b) : b < w.heap.size ∧ ∃ cs ty fr, w.heap[b]? = some (.cells cs ty fr) := by
  obtain ⟨k, xs, ad, n, c, rfl, rfl, hc, rfl⟩ := ownB_some hb
  simp only [TC] at h
  obtain ⟨b, o, cs, ty, fr, h1, h2, -⟩ := h.resolve_left hc
  injection h1 with h1
  subst h1
  exact ⟨heap_lt h2, cs, ty, fr, h2⟩

theorem cellAt (h : Mem γ C ah w) {s i b : Nat} {cs : List AV} {a : AV} (hs : ah[s]? = some cs) (hi : cs[i]? = some a) (hb : γ[s]? = some b) :
    ∃ v, w.cell? ⟨b, i, none⟩ = some v ∧ VR C γ a v ∧ TC w C a v := by
  obtain ⟨vs, ty, hh, hsz, hc⟩ := h.obj s b cs hs hb
  have hlt : i < vs.size := Nat.lt_of_lt_of_le (List.getElem?_eq_some_iff.1 hi).1 hsz
  refine ⟨vs.getD i undef, ?_, (hc i a hi).1, (hc i a hi).2⟩
  rw [cell_obj hh]; simp [Array.getD_eq_getD_getElem?, Array.getElem?_eq_getElem hlt]

theorem blk_lt (h : SR L N F γ C e ah ts w) {p : Ow} {b : Nat} (hp : blk γ e ah ts w p b) : b < w.heap.size := by
  cases p with
  | obj s =>
    have hlt : s < ah.length := by rw [← h.mem.len]; exact (List.getElem?_eq_some_iff.1 hp).1
    obtain ⟨vs, ty, hh, -⟩ := h.mem.obj s b ah[s] (List.getElem?_eq_getElem hlt) hp
    exact heap_lt hh
  | cell s i =>
    obtain ⟨cs, a, b0, h1, h2, h3, h4⟩ := hp
    obtain ⟨v, hv, -, ht⟩ := cellAt h.mem h1 h2 h3
    rw [hv] at h4
    exact (ht.own_lt h4).1
  | tmp t => exact ((h.env t).2.own_lt hp).1

/-- the world has grown; what was is as it was -/
theorem SR.grow (h : SR L N F γ C e ah ts w) (hw : ∀ b, b < w.heap.size → w'.heap[b]? = w.heap[b]?) (hs : w.heap.size ≤ w'.heap.size) (hC : ∀ b, b < w.heap.size → C' b = C b)
    (hC' : ∀ b, w.heap.size ≤ b → C' b ≠ [] → ∃ vs ty fr, w'.heap[b]? = some (.cells vs ty fr) ∧ C' b <+: vs.toList) (ho : SameOut w w' := by exact ⟨rfl, rfl, rfl⟩) : SR L N F γ C' e ah ts w' ∧ Ext F C w C' w' := by
  have hpre : ∀ b, C b <+: C' b := by
    intro b
    rcases Nat.lt_or_ge b w.heap.size with hlt | hge
    · rw [hC b hlt]; exact List.prefix_refl _
    · have : C b = [] := by
        cases hb : C b with
        | nil => rfl
        | cons x r =>
          obtain ⟨vs, ty, fr, hh, -⟩ := h.mem.com b (by rw [hb]; simp)
          have := heap_lt hh; omega
      rw [this]; exact List.nil_prefix
  have hobj : ∀ (s b : Nat), γ[s]? = some b → b < w.heap.size := fun s b hb => blk_lt h (p := .obj s) hb
  have hcell : ∀ (s b i : Nat), γ[s]? = some b → w'.cell? ⟨b, i, none⟩ = w.cell? ⟨b, i, none⟩ := fun s b i hb => cell_same (hw b (hobj s b hb))
  have hb : ∀ p b, blk γ e ah ts w' p b → blk γ e ah ts w p b := by
    intro p b hp
    cases p with
    | obj s => exact hp
    | cell s i =>
      obtain ⟨cs, a, b0, h1, h2, h3, h4⟩ := hp
      exact ⟨cs, a, b0, h1, h2, h3, by rwa [hcell s b0 i h3] at h4⟩
    | tmp t => exact hp
  refine ⟨⟨⟨h.mem.len, fun s b cs hs1 hb1 => ?_, fun b hne => ?_, fun s b cs hs1 hne hb1 => ?_, fun s b cs vs ty fr hs1 hb1 hh => h.mem.frz s b cs vs ty fr hs1 hb1 (by rw [← hw b (hobj s b hb1)]; exact hh)⟩, h.sz, fun t => ⟨(h.env t).1.mono hpre _ (fun _ _ h => h), (h.env t).2.mono fun b hb => ?_⟩,
    fun p q b hp hq => h.excl p q b (hb p b hp) (hb q b hq), fun p b hp => h.nf p b (hb p b hp), h.flt.keep hs (fun b hb => hw b (h.flt.lt b hb)), fun t l k xs htl => ?_⟩,
    ⟨hpre, fun b hb => ⟨hw b (h.flt.lt b hb), hC b (h.flt.lt b hb)⟩, hs, ho⟩⟩
  · obtain ⟨vs, ty, hh, hsz, hc⟩ := h.mem.obj s b cs hs1 hb1
    refine ⟨vs, ty, by rw [hw b (hobj s b hb1)]; exact hh, hsz, fun i a hi => ⟨(hc i a hi).1.mono hpre _ (fun _ _ h => h), (hc i a hi).2.mono fun b' hb' => ?_⟩⟩
    have hlt := ((hc i a hi).2.own_lt hb').1
    exact ⟨hw b' hlt, hC b' hlt⟩
  · rcases Nat.lt_or_ge b w.heap.size with hlt | hge
    · rw [hC b hlt] at hne ⊢
      obtain ⟨vs, ty, fr, hh, hp⟩ := h.mem.com b hne
      exact ⟨vs, ty, fr, by rw [hw b hlt]; exact hh, hp⟩
    · exact hC' b hge hne
  · rw [hC b (hobj s b hb1)]; exact h.mem.objC s b cs hs1 hne hb1
  · have hlt := ((h.env t).2.own_lt hb).1
    exact ⟨hw b hlt, hC b hlt⟩
  · have := h.fr t l k xs htl
    cases l with
    | tmp u => exact this
    | cell s o => intro cs a b h1 h2 h3 h4; rw [hcell s b o h4]; exact this cs a b h1 h2 h3 h4

/-- a new object -/
theorem SR.addObj (h : SR L N F γ C e ah ts w) {b : Nat} {vs : Array Value} {ty : TypeId} {cs : List AV} {fr0 : Nat × Nat} (hb : w.heap[b]? = some (.cells vs ty fr0)) (hfr0 : ∀ i, i < cs.length → ¬ (fr0.1 ≤ i ∧ i < fr0.2)) (hsz : cs.length ≤ vs.size)
    (hc : ∀ (i : Nat) (a : AV), cs[i]? = some a → VR C γ a (vs.getD i undef) ∧ TC w C a (vs.getD i undef) ∧ a.isOwn = false)
    (hCb : C b = []) (hnF : ¬ F b) (hfresh : ∀ p, ¬ blk γ e ah ts w p b) : SR L N F (γ ++ [b]) C e (ah ++ [cs]) ts w := by
  have hg : ∀ (s b' : Nat), γ[s]? = some b' → (γ ++ [b])[s]? = some b' := fun s b' hs => by
    rw [List.getElem?_append_left (List.getElem?_eq_some_iff.1 hs).1]; exact hs
  have hpre : ∀ b, C b <+: C b := fun b => List.prefix_refl _
  have split : ∀ (s : Nat) (x : List AV), (ah ++ [cs])[s]? = some x → ah[s]? = some x ∨ (s = ah.length ∧ x = cs) := by
    intro s x hx
    rcases Nat.lt_or_ge s ah.length with hlt | hge
    · rw [List.getElem?_append_left hlt] at hx; exact .inl hx
    · rw [List.getElem?_append_right hge] at hx
      have : s - ah.length = 0 := by
        cases hd : s - ah.length with
        | zero => rfl
        | succ n => rw [hd] at hx; simp at hx
      rw [this] at hx; simp at hx
      exact .inr ⟨by omega, hx.symm⟩
  have gsplit : ∀ (s x : Nat), (γ ++ [b])[s]? = some x → γ[s]? = some x ∨ (s = γ.length ∧ x = b) := by
    intro s x hx
    rcases Nat.lt_or_ge s γ.length with hlt | hge
    · rw [List.getElem?_append_left hlt] at hx; exact .inl hx
    · rw [List.getElem?_append_right hge] at hx
      have : s - γ.length = 0 := by
        cases hd : s - γ.length with
        | zero => rfl
        | succ n => rw [hd] at hx; simp at hx
      rw [this] at hx; simp at hx
      exact .inr ⟨by omega, hx.symm⟩
  have gold : ∀ (s x : Nat), s < ah.length → (γ ++ [b])[s]? = some x → γ[s]? = some x := by
    intro s x hs hx
    rcases gsplit s x hx with h1 | ⟨h1, -⟩
    · exact h1
    · have := h.mem.len; omega
  have hbk : ∀ p b', blk (γ ++ [b]) e (ah ++ [cs]) ts w p b' → blk γ e ah ts w p b' ∨ (p = .obj γ.length ∧ b' = b) := by
    intro p b' hp
    cases p with
    | obj s => rcases gsplit s b' hp with h1 | ⟨rfl, rfl⟩
               · exact .inl h1
               · exact .inr ⟨rfl, rfl⟩
    | cell s i =>
      obtain ⟨x, a, b0, h1, h2, h3, h4⟩ := hp
      rcases split s x h1 with h5 | ⟨rfl, rfl⟩
      · exact .inl ⟨x, a, b0, h5, h2, gold s b0 (List.getElem?_eq_some_iff.1 h5).1 h3, h4⟩
      · rw [ownB_not _ (hc i a h2).2.2] at h4; cases h4
    | tmp t => exact .inl hp
  refine ⟨⟨by simp [h.mem.len], fun s b' x hs hb' => ?_, h.mem.com, fun s b' x hs hne hb' => ?_, fun s b' x us ty' fr hs hb' hh => ?_⟩, h.sz, fun t => ⟨(h.env t).1.mono hpre _ hg, (h.env t).2⟩, fun p q b' hp hq => ?_, fun p b' hp => ?_, h.flt,
    fun t l k xs htl => ?_⟩
  · rcases split s x hs with h1 | ⟨rfl, rfl⟩
    · obtain ⟨vs', ty', hh, hs', hc'⟩ := h.mem.obj s b' x h1 (gold s b' (List.getElem?_eq_some_iff.1 h1).1 hb')
      exact ⟨vs', ty', hh, hs', fun i a hi => ⟨(hc' i a hi).1.mono hpre _ hg, (hc' i a hi).2⟩⟩
    · rcases gsplit _ b' hb' with h1 | ⟨-, rfl⟩
      · have := (List.getElem?_eq_some_iff.1 h1).1; have := h.mem.len; omega
      · exact ⟨vs, (ty, fr0), hb, hsz, fun i a hi => ⟨(hc i a hi).1.mono hpre _ hg, (hc i a hi).2.1⟩⟩
  · rcases gsplit s b' hb' with h1 | ⟨-, rfl⟩
    · rcases split s x hs with h2 | ⟨h2, -⟩
      · exact h.mem.objC s b' x h2 hne h1
      · have := (List.getElem?_eq_some_iff.1 h1).1; have := h.mem.len; omega
    · exact hCb
  · rcases split s x hs with h2 | ⟨rfl, rfl⟩
    · exact h.mem.frz s b' x us ty' fr h2 (gold s b' (List.getElem?_eq_some_iff.1 h2).1 hb') hh
    · rcases gsplit _ b' hb' with h1 | ⟨-, rfl⟩
      · have := (List.getElem?_eq_some_iff.1 h1).1; have := h.mem.len; omega
      · rw [hb] at hh; injection hh with hh; injection hh with e1 e2 e3; subst e3; exact hfr0
  · rcases hbk p b' hp with h1 | ⟨rfl, rfl⟩ <;> rcases hbk q b' hq with h2 | ⟨rfl, h3⟩
    · exact h.excl p q b' h1 h2
    · subst h3; exact absurd h1 (hfresh p)
    · exact absurd h2 (hfresh q)
    · rfl
  · rcases hbk p b' hp with h1 | ⟨rfl, rfl⟩
    · exact h.nf p b' h1
    · exact hnF
  · have := h.fr t l k xs htl
    cases l with
    | tmp u => exact this
    | cell s o =>
      intro x a b' h1 h2 h3 h4
      rcases split s x h1 with h5 | ⟨rfl, rfl⟩
      · exact this x a b' h5 h2 h3 (gold s b' (List.getElem?_eq_some_iff.1 h5).1 h4)
      · rw [(hc o a h2).2.2] at h3; cases h3

/-! storing cells -/
theorem setCells_out (b : Nat) : ∀ (vs : List Value) (o : Nat) (w : World), SameOut w (w.setCells b o vs) := by
  intro vs
  induction vs with
  | nil => intro o w; exact ⟨rfl, rfl, rfl⟩
  | cons v r ih =>
    intro o w
    have := ih (o + 1) (w.setCell ⟨b, o, none⟩ v)
    exact ⟨this.1, this.2.1, this.2.2⟩
theorem setCells_heap (b : Nat) : ∀ (vs : List Value) (o : Nat) (w : World) (cur : Array Value) (ty : TypeId) (fr : Nat × Nat), w.heap[b]? = some (.cells cur ty fr) → o + vs.length ≤ cur.size →
    (∃ nw : Array Value, (w.setCells b o vs).heap[b]? = some (.cells nw ty fr) ∧ nw.size = cur.size ∧ ∀ i, nw.getD i undef = if o ≤ i ∧ i < o + vs.length then vs.getD (i - o) undef else cur.getD i undef) ∧
    (∀ b', b' ≠ b → (w.setCells b o vs).heap[b']? = w.heap[b']?) ∧ (w.setCells b o vs).heap.size = w.heap.size := by
  intro vs
  induction vs with
  | nil =>
    intro o w cur ty fr h hl
    refine ⟨⟨cur, h, rfl, fun i => ?_⟩, fun _ _ => rfl, rfl⟩
    rw [if_neg (by simp)]
  | cons v r ih =>
    intro o w cur ty fr h hl
    simp only [List.length_cons] at hl
    have h1 : (w.setCell ⟨b, o, none⟩ v).heap[b]? = some (.cells (cur.setIfInBounds o v) ty fr) := by
      simp [World.setCell, Array.getElem?_modify, h]
    have h2 : ∀ b', b' ≠ b → (w.setCell ⟨b, o, none⟩ v).heap[b']? = w.heap[b']? := by
      intro b' hb'
      simp [World.setCell, Array.getElem?_modify, Ne.symm hb']
    have h3 : (w.setCell ⟨b, o, none⟩ v).heap.size = w.heap.size := by simp [World.setCell]
    obtain ⟨⟨nw, g1, g2, g3⟩, g4, g5⟩ := ih (o + 1) (w.setCell ⟨b, o, none⟩ v) _ ty fr h1 (by simp; omega)
    refine ⟨⟨nw, g1, by simpa using g2, fun i => ?_⟩, fun b' hb' => (g4 b' hb').trans (h2 b' hb'), g5.trans h3⟩
    rw [g3]
    by_cases hi : o + 1 ≤ i ∧ i < o + 1 + r.length
    · rw [if_pos hi, if_pos (by simp; omega)]
      obtain ⟨q, hq⟩ : ∃ q, i - o = q + 1 := ⟨i - o - 1, by omega⟩
      rw [hq, show i - (o + 1) = q by omega]
      simp [List.getD_eq_getElem?_getD]
    · rw [if_neg hi]
      by_cases hio : i = o
      · subst hio
        rw [if_pos (by simp), getD_set_eq v (by omega)]
        simp
      · rw [if_neg (by simp; omega), getD_set_ne' v hio]

/-- an object's cells are laid anew -/
theorem SR.objSet (h : SR L N F γ C e ah ts w) {s b p : Nat} {cs cs' : List AV} {old nw : Array Value} {ty : TypeId × Nat × Nat} (hs : ah[s]? = some cs) (hb : γ[s]? = some b)
    (hold : w.heap[b]? = some (.cells old ty.1 ty.2)) (hnew : w'.heap[b]? = some (.cells nw ty.1 ty.2)) (hnsz : nw.size = old.size) (hl : cs'.length = cs.length)
    (hoth : ∀ b', b' ≠ b → w'.heap[b']? = w.heap[b']?) (hsz : w'.heap.size = w.heap.size) (hz0 : cs = [] → nw = old)
    (hcell : ∀ (i : Nat) (a : AV), cs'[i]? = some a → (cs[i]? = some a ∧ nw.getD i undef = old.getD i undef) ∨ (a.isOwn = false ∧ VR C γ a (nw.getD i undef) ∧ TC w C a (nw.getD i undef)) ∨
      (i = p ∧ VR C γ a (nw.getD i undef) ∧ TC w C a (nw.getD i undef) ∧ (∀ b', ownB a (nw.getD i undef) = some b' → ¬ F b' ∧ ∀ q, ¬ blk γ e ah ts w q b') ∧ ∀ t k xs, get e t ≠ .sl (.fr (.cell s p)) k xs)) (ho : SameOut w w' := by exact ⟨rfl, rfl, rfl⟩) :
    SR L N F γ C e (ah.set s cs') ts w' ∧ Ext F C w C w' := by
  have hslt : s < ah.length := (List.getElem?_eq_some_iff.1 hs).1
  have hbo : blk γ e ah ts w (.obj s) b := hb
  have hoz : cs.length ≤ old.size := by
    obtain ⟨vs, ty', hh, hz, -⟩ := h.mem.obj s b cs hs hb
    rw [hold] at hh; injection hh with hh; injection hh with e1 e2 e3; subst e1; exact hz
  have hoc : ∀ (i : Nat) (a : AV), cs[i]? = some a → VR C γ a (old.getD i undef) ∧ TC w C a (old.getD i undef) := by
    obtain ⟨vs, ty', hh, hz, hc⟩ := h.mem.obj s b cs hs hb
    rw [hold] at hh; injection hh with hh; injection hh with e1 e2 e3; subst e1; exact hc
  have hset : ∀ (s' : Nat), s' ≠ s → (ah.set s cs')[s']? = ah[s']? := fun s' hne => List.getElem?_set_ne (Ne.symm hne)
  have hself : (ah.set s cs')[s]? = some cs' := List.getElem?_set_self hslt
  have hginj : ∀ (s' : Nat), γ[s']? = some b → s' = s := fun s' hs' => by
    have := h.excl (.obj s') (.obj s) b hs' hb; injection this
  have hcw : ∀ (s' b' i : Nat), γ[s']? = some b' → s' ≠ s → w'.cell? ⟨b', i, none⟩ = w.cell? ⟨b', i, none⟩ := fun s' b' i h1 h2 =>
    cell_same (hoth b' fun e => h2 (hginj s' (e ▸ h1)))
  have hcell' : ∀ (i : Nat) (a : AV), cs'[i]? = some a → w'.cell? ⟨b, i, none⟩ = some (nw.getD i undef) := by
    intro i a hi
    have hlt : i < nw.size := by have := (List.getElem?_eq_some_iff.1 hi).1; omega
    rw [cell_obj hnew]; simp [Array.getD_eq_getD_getElem?, Array.getElem?_eq_getElem hlt]
  have hcello : ∀ (i : Nat) (a : AV), cs[i]? = some a → w.cell? ⟨b, i, none⟩ = some (old.getD i undef) := by
    intro i a hi
    have hlt : i < old.size := by have := (List.getElem?_eq_some_iff.1 hi).1; omega
    rw [cell_obj hold]; simp [Array.getD_eq_getD_getElem?, Array.getElem?_eq_getElem hlt]
  -- an owner behind is one ahead, or the new one
  have hbk : ∀ q b', blk γ e (ah.set s cs') ts w' q b' → blk γ e ah ts w q b' ∨ (q = .cell s p ∧ ¬ F b' ∧ ∀ r, ¬ blk γ e ah ts w r b') := by
    intro q b' hq
    cases q with
    | obj s' => exact .inl hq
    | tmp t => exact .inl hq
    | cell s' i =>
      obtain ⟨x, a, b0, h1, h2, h3, h4⟩ := hq
      by_cases hne : s' = s
      · subst hne
        rw [hself] at h1; injection h1 with h1; subst h1
        rw [hb] at h3; injection h3 with h3; subst h3
        rw [hcell' i a h2] at h4
        simp only [Option.getD_some] at h4
        rcases hcell i a h2 with ⟨g1, g2⟩ | ⟨g1, -⟩ | ⟨rfl, -, -, g4, -⟩
        · exact .inl ⟨cs, a, b, hs, g1, hb, by rw [hcello i a g1]; simp only [Option.getD_some]; rw [← g2]; exact h4⟩
        · rw [ownB_not _ g1] at h4; cases h4
        · exact .inr ⟨rfl, g4 b' h4⟩
      · rw [hset s' hne] at h1
        exact .inl ⟨x, a, b0, h1, h2, h3, by rw [hcw s' b0 i h3 hne] at h4; exact h4⟩
  have htc : ∀ (a : AV) (v : Value), TC w C a v → (∀ b', ownB a v = some b' → b' ≠ b) → TC w' C a v := fun a v ht hn => ht.mono fun b' hb' => ⟨hoth b' (hn b' hb'), rfl⟩
  refine ⟨⟨⟨by simp [h.mem.len], fun s' b' x hx hb' => ?_, fun b' hne => ?_, fun s' b' x hx hne hb' => ?_, fun s' b' x us ty' fr hx hb' hh => ?_⟩, h.sz, fun t => ⟨(h.env t).1, htc _ _ (h.env t).2 fun b' hb' e => ?_⟩, fun q r b' hq hr => ?_, fun q b' hq => ?_,
    h.flt.keep (Nat.le_of_eq hsz.symm) (fun b' hb' => hoth b' (fun e => h.nf _ _ hbo (e ▸ hb'))), fun t l k xs htl => ?_⟩, ⟨fun _ => List.prefix_refl _, fun b' hb' => ⟨hoth b' (fun e => h.nf _ _ hbo (e ▸ hb')), rfl⟩, by omega, ho⟩⟩
  · by_cases hne : s' = s
    · subst hne
      rw [hself] at hx; injection hx with hx; subst hx
      rw [hb] at hb'; injection hb' with hb'; subst hb'
      refine ⟨nw, ty, hnew, by omega, fun i a hi => ?_⟩
      rcases hcell i a hi with ⟨g1, g2⟩ | ⟨g1, g2, g3⟩ | ⟨rfl, g2, g3, g4, -⟩
      · rw [g2]
        refine ⟨(hoc i a g1).1, htc _ _ (hoc i a g1).2 fun b' hb' e => ?_⟩
        subst e
        have : blk γ e ah ts w (.cell s' i) b' := ⟨cs, a, b', hs, g1, hb, by rw [hcello i a g1]; exact hb'⟩
        have := h.excl _ _ _ this hbo
        cases this
      · exact ⟨g2, htc _ _ g3 fun b' hb' => by rw [ownB_not _ g1] at hb'; cases hb'⟩
      · exact ⟨g2, htc _ _ g3 fun b' hb' e => (g4 b' hb').2 _ (e ▸ hbo)⟩
    · rw [hset s' hne] at hx
      obtain ⟨vs, ty', hh, hz, hc⟩ := h.mem.obj s' b' x hx hb'
      have hnb : b' ≠ b := fun e => hne (hginj s' (e ▸ hb'))
      refine ⟨vs, ty', by rw [hoth b' hnb]; exact hh, hz, fun i a hi => ⟨(hc i a hi).1, htc _ _ (hc i a hi).2 fun b2 hb2 e => ?_⟩⟩
      subst e
      obtain ⟨v, hv, -, -⟩ := cellAt h.mem hx hi hb'
      have hvv : v = vs.getD i undef := by
        have hlt : i < vs.size := Nat.lt_of_lt_of_le (List.getElem?_eq_some_iff.1 hi).1 hz
        rw [cell_obj hh, Array.getElem?_eq_getElem hlt] at hv
        simp [Array.getD_eq_getD_getElem?, Array.getElem?_eq_getElem hlt, Option.some.inj hv]
      have : blk γ e ah ts w (.cell s' i) b2 := ⟨x, a, b', hx, hi, hb', by rw [hv, hvv]; exact hb2⟩
      have := h.excl _ _ _ this hbo
      cases this
  · obtain ⟨vs, ty', fr, hh, hp⟩ := h.mem.com b' hne
    by_cases hnb : b' = b
    · subst hnb
      have hcs : cs = [] := by
        cases cs with
        | nil => rfl
        | cons y r => exact absurd (h.mem.objC s b' _ hs (by simp) hb) hne
      rw [hold] at hh; injection hh with hh; injection hh with e1 e2 e3; subst e1
      exact ⟨nw, ty.1, ty.2, hnew, by rw [hz0 hcs]; exact hp⟩
    · exact ⟨vs, ty', fr, by rw [hoth b' hnb]; exact hh, hp⟩
  · by_cases hne' : s' = s
    · subst hne'
      rw [hself] at hx; injection hx with hx; subst hx
      refine h.mem.objC s' b' cs hs ?_ hb'
      rintro rfl
      exact hne (List.eq_nil_of_length_eq_zero hl)
    · rw [hset s' hne'] at hx
      exact h.mem.objC s' b' x hx hne hb'
  · by_cases hne' : s' = s
    · subst hne'
      rw [hself] at hx; injection hx with hx; subst hx
      rw [hb] at hb'; injection hb' with hb'; subst hb'
      rw [hnew] at hh; injection hh with hh; injection hh with e1 e2 e3; subst e3
      rw [hl]
      exact h.mem.frz s' b cs old ty.1 ty.2 hs hb hold
    · rw [hset s' hne'] at hx
      exact h.mem.frz s' b' x us ty' fr hx hb' (by rw [← hoth b' (fun e => hne' (hginj s' (e ▸ hb')))]; exact hh)
  · subst e
    have := h.excl (.tmp t) _ _ hb' hbo
    cases this
  · rcases hbk q b' hq with h1 | ⟨rfl, h2, h3⟩ <;> rcases hbk r b' hr with h4 | ⟨rfl, h5, h6⟩
    · exact h.excl q r b' h1 h4
    · exact absurd h1 (h6 q)
    · exact absurd h4 (h3 r)
    · rfl
  · rcases hbk q b' hq with h1 | ⟨rfl, h2, -⟩
    · exact h.nf q b' h1
    · exact h2
  · have hfr := h.fr t l k xs htl
    cases l with
    | tmp u => exact hfr
    | cell s' o =>
      intro x a b' h1 h2 h3 h4
      by_cases hne : s' = s
      · subst hne
        rw [hself] at h1; injection h1 with h1; subst h1
        rw [hb] at h4; injection h4 with h4; subst h4
        rw [hcell' o a h2]
        rcases hcell o a h2 with ⟨g1, g2⟩ | ⟨g1, -⟩ | ⟨rfl, -, -, -, g5⟩
        · have := hfr cs a b hs g1 h3 hb
          rw [hcello o a g1] at this
          rw [g2]; exact this
        · rw [g1] at h3; cases h3
        · exact absurd htl (g5 t k xs)
      · rw [hset s' hne] at h1
        rw [hcw s' b' o h4 hne]
        exact hfr x a b' h1 h2 h3 h4

/-- a row that nobody owns any more grows in its place -/
theorem SR.rowGrow (h : SR L N F γ C e ah ts w) {b : Nat} {cur nw : Array Value} {ty : TypeId} {fr : Nat × Nat} {news : List Value} (hno : ∀ p, ¬ blk γ e ah ts w p b) (hnF : ¬ F b)
    (hold : w.heap[b]? = some (.cells cur ty fr)) (hnew : w'.heap[b]? = some (.cells nw ty fr)) (hnsz : nw.size = cur.size) (hroom : (C b).length + news.length ≤ cur.size) (hone : ∀ v ∈ news, v.oneCell' = true)
    (hoth : ∀ b', b' ≠ b → w'.heap[b']? = w.heap[b']?) (hsz : w'.heap.size = w.heap.size)
    (hcell : ∀ i, nw.getD i undef = if (C b).length ≤ i ∧ i < (C b).length + news.length then news.getD (i - (C b).length) undef else cur.getD i undef)
    (hC' : C' = fun x => if x = b then C b ++ news else C x) (ho : SameOut w w' := by exact ⟨rfl, rfl, rfl⟩) : SR L N F γ C' e ah ts w' ∧ Ext F C w C' w' := by
  have hCb : C' b = C b ++ news := by rw [hC']; simp
  have hCo : ∀ x, x ≠ b → C' x = C x := fun x hx => by rw [hC']; simp [hx]
  have hpre : ∀ x, C x <+: C' x := by
    intro x
    by_cases hx : x = b
    · subst hx; rw [hCb]; exact List.prefix_append _ _
    · rw [hCo x hx]; exact List.prefix_refl _
  have hgb : ∀ (s b' : Nat), γ[s]? = some b' → b' ≠ b := fun s b' hs e => hno (.obj s) (e ▸ hs)
  have hbk : ∀ q b', blk γ e ah ts w' q b' → blk γ e ah ts w q b' := by
    intro q b' hq
    cases q with
    | obj s => exact hq
    | tmp t => exact hq
    | cell s i =>
      obtain ⟨x, a, b0, h1, h2, h3, h4⟩ := hq
      exact ⟨x, a, b0, h1, h2, h3, by rwa [cell_same (hoth b0 (hgb s b0 h3))] at h4⟩
  have htc : ∀ (a : AV) (v : Value), TC w C a v → (∀ b', ownB a v = some b' → b' ≠ b) → TC w' C' a v := fun a v ht hn => ht.mono fun b' hb' => ⟨hoth b' (hn b' hb'), hCo b' (hn b' hb')⟩
  refine ⟨⟨⟨h.mem.len, fun s b' x hx hb' => ?_, fun b' hne => ?_, fun s b' x hx hne hb' => ?_, fun s b' x us ty' fr' hx hb' hh => h.mem.frz s b' x us ty' fr' hx hb' (by rw [← hoth b' (hgb s b' hb')]; exact hh)⟩, h.sz, fun t => ⟨(h.env t).1.mono hpre _ (fun _ _ h => h), htc _ _ (h.env t).2 fun b' hb' e => ?_⟩,
    fun q r b' hq hr => h.excl q r b' (hbk q b' hq) (hbk r b' hr), fun q b' hq => h.nf q b' (hbk q b' hq), h.flt.keep (Nat.le_of_eq hsz.symm) (fun b' hb' => hoth b' (fun e => hnF (e ▸ hb'))), fun t l k xs htl => ?_⟩,
    ⟨hpre, fun b' hb' => ⟨hoth b' (fun e => hnF (e ▸ hb')), hCo b' (fun e => hnF (e ▸ hb'))⟩, by omega, ho⟩⟩
  · obtain ⟨vs, ty', hh, hz, hc⟩ := h.mem.obj s b' x hx hb'
    refine ⟨vs, ty', by rw [hoth b' (hgb s b' hb')]; exact hh, hz, fun i a hi => ⟨(hc i a hi).1.mono hpre _ (fun _ _ h => h), htc _ _ (hc i a hi).2 fun b2 hb2 e => ?_⟩⟩
    subst e
    obtain ⟨v, hv, -, -⟩ := cellAt h.mem hx hi hb'
    have hvv : v = vs.getD i undef := by
      have hlt : i < vs.size := Nat.lt_of_lt_of_le (List.getElem?_eq_some_iff.1 hi).1 hz
      rw [cell_obj hh, Array.getElem?_eq_getElem hlt] at hv
      simp [Array.getD_eq_getD_getElem?, Array.getElem?_eq_getElem hlt, Option.some.inj hv]
    exact hno (.cell s i) ⟨x, a, b', hx, hi, hb', by rw [hv, hvv]; exact hb2⟩
  · by_cases hx : b' = b
    · subst hx
      refine ⟨nw, ty, fr, hnew, ?_⟩
      rw [hCb]
      have hlen : (C b' ++ news).length ≤ nw.toList.length := by simp; omega
      have hp : C b' <+: cur.toList := by
        by_cases hne' : C b' = []
        · rw [hne']; exact List.nil_prefix
        · obtain ⟨vs, ty', fr', hh, hp⟩ := h.mem.com b' hne'
          rw [hold] at hh; injection hh with hh; injection hh with e1; subst e1; exact hp
      rw [List.prefix_iff_eq_take]
      apply List.ext_getElem?
      intro i
      by_cases hi : i < (C b' ++ news).length
      · rw [List.getElem?_take_of_lt hi]
        have hin : i < nw.size := by simp at hlen; simp at hi; omega
        have hg := hcell i
        have e0 : nw.toList[i]? = some nw[i] := by simp [hin]
        rw [e0]
        have e1 : nw.getD i undef = nw[i] := by simp [Array.getD_eq_getD_getElem?, Array.getElem?_eq_getElem hin]
        rw [← e1, hg]
        by_cases hc : (C b').length ≤ i
        · rw [if_pos ⟨hc, by simp at hi; omega⟩, List.getElem?_append_right hc]
          rw [List.getD_eq_getElem?_getD, List.getElem?_eq_getElem (by simp at hi; omega)]; rfl
        · rw [if_neg (by omega), List.getElem?_append_left (by omega), ← getD_list, getD_prefix hp (by omega), List.getD_eq_getElem?_getD, List.getElem?_eq_getElem (by omega)]; rfl
      · rw [List.getElem?_eq_none (by omega), List.getElem?_eq_none (by simp; simp at hi; omega)]
    · rw [hCo b' hx] at hne ⊢
      obtain ⟨vs, ty', fr', hh, hp⟩ := h.mem.com b' hne
      exact ⟨vs, ty', fr', by rw [hoth b' hx]; exact hh, hp⟩
  · rw [hCo b' (hgb s b' hb')]; exact h.mem.objC s b' x hx hne hb'
  · exact hno (.tmp t) (e ▸ hb')
  · have hfr := h.fr t l k xs htl
    cases l with
    | tmp u => exact hfr
    | cell s' o => intro x a b' h1 h2 h3 h4; rw [cell_same (hoth b' (hgb s' b' h4))]; exact hfr x a b' h1 h2 h3 h4
end
end Go.Am
