import Derived.Test.YtfnnmecilcnloaaDoorAmEval
set_option linter.unusedSimpArgs false
set_option linter.unusedVariables false
set_option linter.unusedSectionVars false
set_option linter.defProp false
namespace Go.Am
open Go
variable [Tabs]

def W1 (a a' : AV) : Prop := a' = a ∨ ∃ t k xs, a = .sl t k xs ∧ a' = .sl .n k xs
def W1L : List AV → List AV → Prop
  | [], [] => True
  | a :: r, a' :: r' => W1 a a' ∧ W1L r r'
  | _, _ => False
theorem W1L.len : ∀ {cs cs' : List AV}, W1L cs cs' → cs'.length = cs.length := by
  intro cs
  induction cs with
  | nil => intro cs' h; cases cs' with | nil => rfl | cons => exact h.elim
  | cons a r ih => intro cs' h; cases cs' with | nil => exact h.elim | cons a' r' => simp [ih h.2]
theorem W1L.get : ∀ {cs cs' : List AV}, W1L cs cs' → ∀ (i : Nat) (a a' : AV), cs[i]? = some a → cs'[i]? = some a' → W1 a a' := by
  intro cs
  induction cs with
  | nil => intro cs' _ i a a' h; simp at h
  | cons a r ih =>
    intro cs' h i b b' h1 h2
    cases cs' with
    | nil => exact h.elim
    | cons a' r' =>
      rcases i with _ | i
      · simp at h1 h2; subst h1; subst h2; exact h.1
      · exact ih h.2 i b b' (by simpa using h1) (by simpa using h2)
/-- an element of a tuple -/
def W2 (a a' : AV) : Prop := W1 a a' ∨ ∃ ds ds', a = .agg ds ∧ a' = .agg ds' ∧ W1L ds ds'
def W2L : List AV → List AV → Prop
  | [], [] => True
  | a :: r, a' :: r' => W2 a a' ∧ W2L r r'
  | _, _ => False
theorem W2L.len : ∀ {cs cs' : List AV}, W2L cs cs' → cs'.length = cs.length := by
  intro cs
  induction cs with
  | nil => intro cs' h; cases cs' with | nil => rfl | cons => exact h.elim
  | cons a r ih => intro cs' h; cases cs' with | nil => exact h.elim | cons a' r' => simp [ih h.2]
theorem W2L.get : ∀ {cs cs' : List AV}, W2L cs cs' → ∀ (i : Nat) (a a' : AV), cs[i]? = some a → cs'[i]? = some a' → W2 a a' := by
  intro cs
  induction cs with
  | nil => intro cs' _ i a a' h; simp at h
  | cons a r ih =>
    intro cs' h i b b' h1 h2
    cases cs' with
    | nil => exact h.elim
    | cons a' r' =>
      rcases i with _ | i
      · simp at h1 h2; subst h1; subst h2; exact h.1
      · exact ih h.2 i b b' (by simpa using h1) (by simpa using h2)
theorem W2.wk {a a' : AV} (h : W2 a a') : Wk a a' := by
  rcases h with (rfl | ⟨t, k, xs, rfl, rfl⟩) | ⟨ds, ds', rfl, rfl, h⟩
  · exact .same _
  · exact .n ..
  · exact .agg _ _ h.len h.get
theorem W2.tcy {a a' : AV} {v : Value} (h : W2 a a') (ht : TCy a v) : TCy a' v := by
  rcases h with (rfl | ⟨t, k, xs, rfl, rfl⟩) | ⟨ds, ds', rfl, rfl, h⟩
  · exact ht
  · exact TCy_n ..
  · cases v with
    | agg vs =>
      intro i a' hi
      have hlt : i < ds.length := by rw [← h.len]; exact (List.getElem?_eq_some_iff.1 hi).1
      rcases h.get i _ _ (List.getElem?_eq_getElem hlt) hi with e | ⟨t, k, xs, e1, rfl⟩
      · rw [e]; exact ht i _ (List.getElem?_eq_getElem hlt)
      · exact TCx_n ..
    | _ => trivial

/-! ### less is known; a slice whose capacity is its length is as good as one's own -/
inductive Wx : AV → AV → Prop
  | wk (a a') : Wk a a' → (∀ l k xs, a' ≠ .sl (.fr l) k xs) → Wx a a'
  | own (k xs) : Wx (.sl .ex k xs) (.sl .own k xs)
  | tup2 (cs cs') : W2L cs cs' → Wx (.tup cs) (.tup cs')

def WxC (cs cs' : List AV) : Prop := cs'.length = cs.length ∧ ∀ (i : Nat) (a a' : AV), cs[i]? = some a → cs'[i]? = some a' → Wx a a'
def WxH (ah ah' : AH) : Prop := ah'.length = ah.length ∧ ∀ (s : Nat) (cs' : List AV), ah'[s]? = some cs' → ∃ cs, ah[s]? = some cs ∧ (cs' = cs ∨ WxC cs cs')
def WS (e : Env) (ah : AH) (e1 : Env) (ah1 : AH) : Prop := (∀ t, Wx (get e t) (get e1 t)) ∧ WxH ah ah1

theorem Wx.vr {C : Nat → List Value} {γ : List Nat} {a a' : AV} {v : Value} (hw : Wx a a') (h : VR C γ a v) : VR C γ a' v := by
  cases hw with
  | wk _ _ hk => exact hk.vr h
  | own => exact h.retag _
  | tup2 cs cs' hc =>
    obtain ⟨vs, rfl, hs, hv⟩ := h.tup_inv
    refine .tup _ _ _ (by rw [hc.len]; exact hs) fun i a' hi => ?_
    have hlt : i < cs.length := by rw [← hc.len]; exact (List.getElem?_eq_some_iff.1 hi).1
    exact (hc.get i _ _ (List.getElem?_eq_getElem hlt) hi).wk.vr (hv i _ (List.getElem?_eq_getElem hlt))
theorem Wx.tc {w : World} {C : Nat → List Value} {γ : List Nat} {a a' : AV} {v : Value} (hw : Wx a a') (hv : VR C γ a v) (h : TC w C a v) : TC w C a' v := by
  cases hw with
  | wk _ _ hk => exact hk.tc h
  | own k xs =>
    obtain ⟨ad, c, rfl, -⟩ := hv.sl_inv
    exact .inl h
  | tup2 cs cs' hc =>
    obtain ⟨vs, rfl, -, -⟩ := hv.tup_inv
    intro i a' hi
    have hlt : i < cs.length := by rw [← hc.len]; exact (List.getElem?_eq_some_iff.1 hi).1
    exact (hc.get i _ _ (List.getElem?_eq_getElem hlt) hi).tcy (h i _ (List.getElem?_eq_getElem hlt))
theorem Wx.ownB {w : World} {C : Nat → List Value} {γ : List Nat} {a a' : AV} {v : Value} {b : Nat} (hw : Wx a a') (hv : VR C γ a v) (ht : TC w C a v) (h : ownB a' v = some b) : Am.ownB a v = some b := by
  cases hw with
  | wk _ _ hk => exact hk.own h
  | own k xs =>
    obtain ⟨ad, c, rfl, -⟩ := hv.sl_inv
    have hc : c = xs.length := ht
    subst hc
    cases ad <;> simp [Am.ownB] at h
  | tup2 => simp [Am.ownB] at h

theorem SR.wx {L N F γ C e ah ts w} (h : SR L N F γ C e ah ts w) {e' : Env} {ah' : AH} (hw : WS e ah e' ah') : SR L N F γ C e' ah' ts w := by
  obtain ⟨he, hl, hh⟩ := hw
  have hb : ∀ p b, blk γ e' ah' ts w p b → blk γ e ah ts w p b := by
    intro p b hp
    cases p with
    | obj s => exact hp
    | tmp t => exact (he t).ownB (h.env t).1 (h.env t).2 hp
    | cell s i =>
      obtain ⟨cs', a', b0, h1, h2, h3, h4⟩ := hp
      obtain ⟨cs, g1, g2⟩ := hh s cs' h1
      rcases g2 with rfl | ⟨g2, g3⟩
      · exact ⟨_, a', b0, g1, h2, h3, h4⟩
      · have hlt : i < cs.length := by rw [← g2]; exact (List.getElem?_eq_some_iff.1 h2).1
        have h0 : cs[i]? = some cs[i] := List.getElem?_eq_getElem hlt
        refine ⟨cs, cs[i], b0, g1, h0, h3, ?_⟩
        obtain ⟨vs, ty, q1, q2, q3⟩ := h.mem.obj s b0 cs g1 h3
        have hc : (w.cell? ⟨b0, i, none⟩).getD undef = vs.getD i undef := by
          rw [cell_obj q1]; simp [Array.getD_eq_getD_getElem?]
        rw [hc] at h4 ⊢
        exact (g3 i _ _ h0 h2).ownB (q3 i _ h0).1 (q3 i _ h0).2 h4
  refine ⟨⟨by rw [h.mem.len, hl], fun s b cs' h1 h2 => ?_, h.mem.com, fun s b cs' h1 hne h2 => ?_, fun s b cs' us ty fr h1 h2 h3 => ?_⟩, h.sz, fun t => ⟨(he t).vr (h.env t).1, (he t).tc (h.env t).1 (h.env t).2⟩, fun p q b hp hq => h.excl p q b (hb p b hp) (hb q b hq),
    fun p b hp => h.nf p b (hb p b hp), h.flt, fun t l k xs ht => ?_⟩
  · obtain ⟨cs, g1, g2⟩ := hh s cs' h1
    obtain ⟨vs, ty, q1, q2, q3⟩ := h.mem.obj s b cs g1 h2
    rcases g2 with rfl | ⟨g2, g3⟩
    · exact ⟨vs, ty, q1, q2, q3⟩
    · refine ⟨vs, ty, q1, by omega, fun i a' hi => ?_⟩
      have hlt : i < cs.length := by rw [← g2]; exact (List.getElem?_eq_some_iff.1 hi).1
      have h0 : cs[i]? = some cs[i] := List.getElem?_eq_getElem hlt
      exact ⟨(g3 i _ _ h0 hi).vr (q3 i _ h0).1, (g3 i _ _ h0 hi).tc (q3 i _ h0).1 (q3 i _ h0).2⟩
  · obtain ⟨cs, g1, g2⟩ := hh s cs' h1
    refine h.mem.objC s b cs g1 ?_ h2
    rintro rfl
    rcases g2 with rfl | ⟨g2, -⟩
    · exact hne rfl
    · exact hne (List.eq_nil_of_length_eq_zero g2)
  · obtain ⟨cs, g1, g2⟩ := hh s cs' h1
    have hl' : cs'.length = cs.length := by
      rcases g2 with rfl | ⟨g2, -⟩
      · rfl
      · exact g2
    rw [hl']
    exact h.mem.frz s b cs us ty fr g1 h2 h3
  · exfalso
    have := he t
    rw [ht] at this
    generalize get e t = a at this
    cases this with
    | wk _ _ _ hn => exact hn l k xs rfl

theorem WxH.refl (ah : AH) : WxH ah ah := ⟨rfl, fun s cs h => ⟨cs, h, .inl rfl⟩⟩
theorem WxH.set {ah : AH} {q : Nat} {cs cs' : List AV} (hq : ah[q]? = some cs) (hc : WxC cs cs') : WxH ah (ah.set q cs') := by
  refine ⟨by simp, fun s ds hs => ?_⟩
  rw [List.getElem?_set] at hs
  split at hs
  · rename_i h; subst h
    split at hs
    · injection hs with hs; subst hs; exact ⟨cs, hq, .inr hc⟩
    · cases hs
  · exact ⟨ds, hs, .inl rfl⟩

/-! the cells, one by one -/
theorem Wx.un (a : AV) : Wx a .un := .wk _ _ (.un _) (by simp)
theorem Wx.n {t : Tg} {k : Nat} {xs : List AV} : Wx (.sl t k xs) (.sl .n k xs) := .wk _ _ (.n ..) (by simp)
theorem Wx.same {a : AV} (h : ∀ l k xs, a ≠ .sl (.fr l) k xs) : Wx a a := .wk _ _ (.same _) h
theorem Wx.int {k : IntKind} {i : Int} : Wx (.int k i) (.int k i) := .same (by simp)
theorem Wx.b8 {c : UInt8} : Wx (b8 c) (b8 c) := .same (by simp [Am.b8])
theorem Wx.bool {b : Bool} : Wx (.bool b) (.bool b) := .same (by simp)
theorem Wx.str {l : List UInt8} : Wx (.str l) (.str l) := .same (by simp)
theorem Wx.ptr {s o : Nat} : Wx (.ptr s o) (.ptr s o) := .same (by simp)
theorem Wx.v {x : Value} : Wx (.v x) (.v x) := .same (by simp)
theorem Wx.fn {f : Nat} {cs : List AV} : Wx (.fn f cs) (.fn f cs) := .same (by simp)
theorem Wx.ep {a : AV} {o : Nat} : Wx (.ep a o) (.ep a o) := .same (by simp)
theorem Wx.ex {k : Nat} {xs : List AV} : Wx (.sl .ex k xs) (.sl .ex k xs) := .same (by simp)
theorem Wx.nn {k : Nat} {xs : List AV} : Wx (.sl .n k xs) (.sl .n k xs) := .same (by simp)
theorem Wx.oo {k : Nat} {xs : List AV} : Wx (.sl .own k xs) (.sl .own k xs) := .same (by simp)
theorem Wx.agg {cs cs' : List AV} (h : W1L cs cs') : Wx (.agg cs) (.agg cs') := .wk _ _ (.agg _ _ h.len h.get) (by simp)
theorem Wx.tup {cs cs' : List AV} (h : W1L cs cs') : Wx (.tup cs) (.tup cs') := .wk _ _ (.tup _ _ h.len h.get) (by simp)
theorem Wx.tupX {cs cs' : List AV} (h : W2L cs cs') : Wx (.tup cs) (.tup cs') := .tup2 _ _ h
theorem W2L.nil : W2L [] [] := trivial
theorem W2L.same {a : AV} {r r' : List AV} (h : W2L r r') : W2L (a :: r) (a :: r') := ⟨.inl (.inl rfl), h⟩
theorem W2L.n {t : Tg} {k : Nat} {xs : List AV} {r r' : List AV} (h : W2L r r') : W2L (.sl t k xs :: r) (.sl .n k xs :: r') := ⟨.inl (.inr ⟨_, _, _, rfl, rfl⟩), h⟩
theorem W2L.agg {ds ds' : List AV} {r r' : List AV} (hd : W1L ds ds') (h : W2L r r') : W2L (.agg ds :: r) (.agg ds' :: r') := ⟨.inr ⟨_, _, rfl, rfl, hd⟩, h⟩
theorem W1L.nil : W1L [] [] := trivial
theorem W1L.same {a : AV} {r r' : List AV} (h : W1L r r') : W1L (a :: r) (a :: r') := ⟨.inl rfl, h⟩
theorem W1L.n {t : Tg} {k : Nat} {xs : List AV} {r r' : List AV} (h : W1L r r') : W1L (.sl t k xs :: r) (.sl .n k xs :: r') := ⟨.inr ⟨_, _, _, rfl, rfl⟩, h⟩
theorem WxC.nil : WxC [] [] := ⟨rfl, fun i a a' h => by simp at h⟩
theorem WxC.cons {a a' : AV} {r r' : List AV} (h : Wx a a') (hr : WxC r r') : WxC (a :: r) (a' :: r') := by
  refine ⟨by simp [hr.1], fun i b b' h1 h2 => ?_⟩
  rcases i with _ | i
  · simp at h1 h2; subst h1; subst h2; exact h
  · exact hr.2 i b b' (by simpa using h1) (by simpa using h2)

/-- a frame, slot by slot -/
def WE (e e1 : Env) : Prop := ∀ p ∈ e1, Wx (Am.get e p.1) p.2
theorem WE.nil {e : Env} : WE e [] := by intro p hp; cases hp
theorem WE.cons {e r : Env} {i : Nat} {a : AV} (h : Wx (Am.get e i) a) (hr : WE e r) : WE e ((i, a) :: r) := by
  intro p hp
  rcases List.mem_cons.1 hp with rfl | hp
  · exact h
  · exact hr p hp
theorem WE.all {e e1 : Env} (h : WE e e1) : ∀ t, Wx (Am.get e t) (Am.get e1 t) := by
  intro t
  have key : ∀ e1 : Env, Am.get e1 t = .un ∨ ∃ p ∈ e1, p.1 = t ∧ Am.get e1 t = p.2 := by
    intro e1
    induction e1 with
    | nil => exact .inl rfl
    | cons p r ih =>
      obtain ⟨i, a⟩ := p
      simp only [Am.get]
      split
      · rename_i h; exact .inr ⟨(i, a), by simp, h, rfl⟩
      · rcases ih with h | ⟨p, hp, h1, h2⟩
        · exact .inl h
        · exact .inr ⟨p, List.mem_cons_of_mem _ hp, h1, h2⟩
  rcases key e1 with h0 | ⟨p, hp, rfl, h2⟩
  · rw [h0]; exact Wx.un _
  · rw [h2]; exact h p hp

section
variable {P : Program} {L : List Nat} {N n0 : Nat} {e : Env} {ah : AH} {t : List It} {Q K : Exit → Env → AH → Prop} {r : List AOper} {d : Option Nat}

theorem AW.weakx {c : Code} {e1 : Env} {ah1 : AH} (hw : WS e ah e1 ah1) (h : AW P L N n0 c Q e1 ah1) : AW P L N n0 c Q e ah :=
  fun F γ C ts w hs hn => h F γ C ts w (hs.wx hw) hn
theorem AW.closed {c : Code} (h : AW P L N n0 c (fun x e ah => Q x e ah ∨ ∃ e1 ah1, WS e ah e1 ah1 ∧ Q x e1 ah1) e ah) : AW P L N n0 c Q e ah := by
  intro F γ C ts w hs hn
  refine wp_mono (h F γ C ts w hs hn) ?_
  rintro x a w' ⟨hd, hg, e', ah', γ', C', h1, h2, h3, h4⟩
  rcases h1 with h1 | ⟨e1, ah1, hw, h1⟩
  · exact ⟨hd, hg, e', ah', γ', C', h1, h2, h3, h4⟩
  · exact ⟨hd, hg, e1, ah1, γ', C', h1, h2, h3.wx hw, h4⟩

theorem AX.weak {c : ACode} {e1 : Env} {ah1 : AH} (he : WE e e1) (hh : WxH ah ah1) (h : AX P L N n0 c Q e1 ah1) : AX P L N n0 c Q e ah :=
  fun c' hc' => AW.weakx ⟨he.all, hh⟩ (h c' hc')
theorem AX.mono {c : ACode} {Q' : Exit → Env → AH → Prop} (h : AX P L N n0 c Q e ah) (hq : ∀ x e ah, Q x e ah → Q' x e ah) : AX P L N n0 c Q' e ah :=
  fun c' hc' => (h c' hc').mono hq

/-- a piece of code; what is behind it takes whatever says more -/
theorem AX.go {m c : ACode} (hm : erase m = c) (ho : cOk N c = true)
    (h : ∀ K' : Exit → Env → AH → Prop, (∀ x e ah e1 ah1, WE e e1 → WxH ah ah1 → K x e1 ah1 → K' x e ah) → U P L N n0 [.code m] K' .normal e ah) : AX P L N n0 c K e ah := by
  subst hm
  intro c' hc'
  refine AW.closed (codeW_ok c' m _ e ah hc' ho (h _ ?_))
  intro x e ah e1 ah1 h1 h2 h3
  exact .inr ⟨e1, ah1, ⟨h1.all, h2⟩, h3⟩

theorem UX_of {c : ACode} (h : AX P L N n0 c (fun x e ah => U P L N n0 t Q x e ah) e ah) : UX P L N n0 c t Q e ah := h

/-- a round's outcome -/
inductive St (ρ τ σ : Type) where
  | ret (r : ρ)
  | brk (t : τ)
  | nxt (s : σ)

def iter {ρ τ σ : Type} (body : σ → Option (St ρ τ σ)) : Nat → σ → Option (ρ ⊕ τ)
  | 0, _ => none
  | n + 1, s => match body s with
    | none => none
    | some (.ret r) => some (.inl r)
    | some (.brk t) => some (.inr t)
    | some (.nxt s') => iter body n s'

theorem AX.iter {ρ τ σ : Type} {body : σ → Option (St ρ τ σ)} {m c : ACode} (hm : erase m = c) (ho : cOk N c = true) (J : σ → Env → AH → Prop) {F : Nat} {s0 : σ} {o : ρ ⊕ τ} (hit : Am.iter body F s0 = some o) (h0 : J s0 e ah)
    (round : ∀ (K' : Exit → Env → AH → Prop) s st e ah, J s e ah → body s = some st →
      (∀ s', st = .nxt s' → ∀ e' ah' e1 ah1, WE e' e1 → WxH ah' ah1 → J s' e1 ah1 → K' .normal e' ah') →
      (∀ t, st = .brk t → o = .inr t) → (∀ r, st = .ret r → o = .inl r) →
      (∀ x e' ah' e1 ah1, x ≠ .normal → WE e' e1 → WxH ah' ah1 → K x e1 ah1 → K' x e' ah') → U P L N n0 [.code m] K' .normal e ah) : AX P L N n0 (.loop c) K e ah := by
  subst hm
  intro c'
  induction c' with
  | loop c0 _ =>
    intro hc'
    simp only [ccode, Option.map_eq_some_iff] at hc'
    obtain ⟨a, ha, he⟩ := hc'
    injection he with he
    subst he
    refine AW.loop (fun k e ah => ∃ s e1 ah1, WS e ah e1 ah1 ∧ J s e1 ah1 ∧ Am.iter body k s = some o ∨ (J s e ah ∧ Am.iter body k s = some o)) (k0 := F) ?_ ⟨s0, e, ah, .inr ⟨h0, hit⟩⟩
    have main : ∀ k s e ah, J s e ah → Am.iter body k s = some o → AW P L N n0 c0 (fun x e' ah' => match x with
        | .normal => ∃ k', k' < k ∧ ∃ s e1 ah1, WS e' ah' e1 ah1 ∧ J s e1 ah1 ∧ Am.iter body k' s = some o ∨ (J s e' ah' ∧ Am.iter body k' s = some o) | x => K x e' ah') e ah := by
      intro k s e ah hJ hk
      cases k with
      | zero => simp [Am.iter] at hk
      | succ k =>
        cases hb : body s with
        | none => simp [Am.iter, hb] at hk
        | some st =>
          simp only [Am.iter, hb] at hk
          refine AW.closed (codeW_ok c0 m _ e ah ha ho (round _ s st e ah hJ hb ?_ ?_ ?_ ?_))
          · rintro s' rfl e' ah' e1 ah1 g1 g2 g3
            exact .inl ⟨k, Nat.lt_succ_self k, s', e1, ah1, .inl ⟨⟨g1.all, g2⟩, g3, hk⟩⟩
          · rintro t rfl; simp only [Option.some.injEq] at hk; exact hk.symm
          · rintro r rfl; simp only [Option.some.injEq] at hk; exact hk.symm
          · intro x e' ah' e1 ah1 hx g1 g2 g3
            cases x with
            | normal => exact absurd rfl hx
            | _ => exact .inr ⟨e1, ah1, ⟨g1.all, g2⟩, g3⟩
    rintro k e ah ⟨s, e1, ah1, ⟨hw, hJ, hk⟩ | ⟨hJ, hk⟩⟩
    · exact AW.weakx hw (main k s e1 ah1 hJ hk)
    · exact main k s e ah hJ hk
  | scope c0 ih => exact fun hc' => AW.scope (ih hc')
  | region id ops draw => intro hc'; simp only [ccode] at hc'; repeat' (split at hc') <;> simp at hc'
  | block i c0 => intro hc'; simp only [ccode, Option.map_eq_some_iff] at hc'; obtain ⟨a, -, h⟩ := hc'; cases h
  | seq a b => intro hc'; simp only [ccode] at hc'; split at hc' <;> simp at hc'
  | cond a b c => intro hc'; simp only [ccode] at hc'; split at hc' <;> simp at hc'
  | _ => intro hc'; simp [ccode] at hc'

theorem ACalls.wkx {f : Nat} {args : List AV} {ah : AH} {R R' : AV → AH → Prop} (h : ACalls P f args ah R) (hr : ∀ r ah', R r ah' → ∃ r' ah'', Wx r r' ∧ WxH ah' ah'' ∧ R' r' ah'') : ACalls P f args ah R' := by
  refine ⟨h.1, fun F γ C w vs hs => (h.2 F γ C w vs hs).mono ?_⟩
  rintro en w' ⟨r, v, ah', γ', C', rfl, h1, h2, h3, h4⟩
  obtain ⟨r', ah'', g1, g2, g3⟩ := hr r ah' h1
  refine ⟨r', v, ah'', γ', C', rfl, g3, h2, h3.wx ⟨fun t => ?_, g2⟩, h4⟩
  simp only [Am.get]
  split
  · exact g1
  · exact Wx.un _

def WL : List AV → List AV → Prop
  | [], [] => True
  | a :: r, a' :: r' => Wx a a' ∧ WL r r'
  | _, _ => False
theorem WL.nil : WL [] [] := trivial
theorem WL.cons {a a' : AV} {r r' : List AV} (h : Wx a a') (hr : WL r r') : WL (a :: r) (a' :: r') := ⟨h, hr⟩
theorem WL.len : ∀ {as as' : List AV}, WL as as' → as'.length = as.length := by
  intro as
  induction as with
  | nil => intro as' h; cases as' with | nil => rfl | cons => exact h.elim
  | cons a r ih => intro as' h; cases as' with | nil => exact h.elim | cons a' r' => simp [ih h.2]
theorem WL.get : ∀ {as as' : List AV}, WL as as' → ∀ (i : Nat) (a a' : AV), as[i]? = some a → as'[i]? = some a' → Wx a a' := by
  intro as
  induction as with
  | nil => intro as' _ i a a' h; simp at h
  | cons a r ih =>
    intro as' h i b b' h1 h2
    cases as' with
    | nil => exact h.elim
    | cons a' r' =>
      rcases i with _ | i
      · simp at h1 h2; subst h1; subst h2; exact h.1
      · exact ih h.2 i b b' (by simpa using h1) (by simpa using h2)

theorem ACalls.weakx {f : Nat} {args args' : List AV} {ah ah1 : AH} {R : AV → AH → Prop} (hw : WL args args') (hh : WxH ah ah1) (h : ACalls P f args' ah1 R) : ACalls P f args ah R := by
  refine ⟨h.1, fun F γ C w vs hs => h.2 F γ C w vs ?_⟩
  rw [hw.len]
  refine hs.wx ⟨fun t => ?_, hh⟩
  rw [get_argE, get_argE]
  simp only [Nat.zero_le, if_true, Nat.sub_zero]
  cases h1 : args[t]? with
  | none =>
    have : args'[t]? = none := by
      rw [List.getElem?_eq_none_iff] at h1 ⊢
      rw [hw.len]; exact h1
    rw [this]; exact Wx.un _
  | some a =>
    have hlt : t < args'.length := by rw [hw.len]; exact (List.getElem?_eq_some_iff.1 h1).1
    rw [List.getElem?_eq_getElem hlt]
    exact hw.get t a _ h1 (List.getElem?_eq_getElem hlt)

theorem UK_x {f : Nat} {as as' : List AV} {ah1 : AH} {R : AV → AH → Prop} (h : ACalls P f as' ah1 R) (hw : WL as as') (hh : WxH ah ah1) (hk : ∀ v ah', R v ah' → U P L N n0 (.ops r :: t) Q .normal (putv L (unC e) d v.df) ah') :
    UK P L N n0 f as d r t Q e ah := (h.weakx hw hh).mono hk

/-- a function: its code; its results, as far as they are told; all objects are kept, or the old ones alone -/
def FnEnd (P : Program) (ah : AH) (rs : List ResultVar) (R : AV → AH → Prop) (e' : Env) (H : AH) : Prop :=
  ∃ vs r' ah', resv P e' H rs = some vs ∧ Wx (fin vs) r' ∧ R r' ah' ∧
    ((Cl ah.length (fin vs) ∧ ClH ah.length (H.take ah.length) ∧ ah.length ≤ H.length ∧ WxH (H.take ah.length) ah') ∨ WxH H ah')

theorem ACalls.goX {f : Nat} {rs : List ResultVar} {ac m : ACode} (hF : FnOk P f N rs ac) (hm : erase m = ac) {args : List AV} {R : AV → AH → Prop} (L : List Nat)
    (ho : cOk N ac = true) (hN : args.length ≤ N)
    (h : ClH ah.length ah → ∀ K : Exit → Env → AH → Prop, (∀ x e' H, x = .normal ∨ x = .ret → FnEnd P ah rs R e' H → K x e' H) →
      AX P L N ah.length ac K (argE 0 args) ah) : ACalls P f args ah R := by
  refine ACalls.wkx (R := fun r ah' => ∃ r' ah'', Wx r r' ∧ WxH ah' ah'' ∧ R r' ah'') ?_ (fun r ah' h => h)
  obtain ⟨fn, c, h1, h2, h3, h4, rfl, rfl⟩ := hF
  refine ACalls.enterX L h1 h2 h3 h4 ho hN ?_
  intro hcl hargs
  refine h hcl _ ?_
  rintro x e' H hx ⟨vs, r', ah', g1, g2, g3, ⟨g4, g5, g6, g7⟩ | g4⟩
  · refine .inl ⟨ah.length, Nat.le_refl _, hx, ?_⟩
    rw [g1]
    exact ⟨g4, g5, g6, r', ah', g2, g7, g3⟩
  · refine .inr ⟨hx, ?_⟩
    rw [g1]
    exact ⟨r', ah', g2, g4, g3⟩
end
end Go.Am
