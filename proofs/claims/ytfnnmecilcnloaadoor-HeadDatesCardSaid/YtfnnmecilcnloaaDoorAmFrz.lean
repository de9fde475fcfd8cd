import Derived.Test.YtfnnmecilcnloaaDoorAmX
import Derived.Test.YtfnnmecilcnloaaDoorAmBuild
set_option linter.unusedSimpArgs false
set_option linter.unusedVariables false
set_option linter.unusedSectionVars false
set_option linter.defProp false
namespace Go.Am
open Go
variable [Tabs]
section
variable {P : Program} {L : List Nat} {N n0 : Nat} {F : Nat → Prop} {γ : List Nat} {C : Nat → List Value} {e e' : Env} {ah : AH} {ts : Array Value} {w : World} {Q K : Exit → Env → AH → Prop}

/-- an object that is stored to no more: its cells are laid for good, its pointers lead to a value -/
theorem SR.freeze (h : SR L N F γ C e ah ts w) {s : Nat} {cs ds : List AV} (hs : ah[s]? = some cs) (hne : cs ≠ []) (hnp : allNp cs = true) (hw : W1L cs ds)
    (he : ∀ t, get e' t = get e t ∨ ∃ o, get e t = .ptr s o ∧ get e' t = .ep (.agg ds) o) : ∃ C', SR L N F γ C' e' (ah.set s []) ts w ∧ Ext F C w C' w := by
  have hlt : s < γ.length := by rw [h.mem.len]; exact (List.getElem?_eq_some_iff.1 hs).1
  obtain ⟨b, hb⟩ : ∃ b, γ[s]? = some b := ⟨_, List.getElem?_eq_getElem hlt⟩
  obtain ⟨vs, ty, hh, hsz, hcell⟩ := h.mem.obj s b cs hs hb
  have hCb := h.mem.objC s b cs hs hne hb
  have hbo : blk γ e ah ts w (.obj s) b := hb
  refine ⟨fun x => if x = b then vs.toList else C x, ?_⟩
  generalize hC' : (fun x => if x = b then vs.toList else C x) = C'
  have c0 : C' b = vs.toList := by rw [← hC']; simp
  have c1 : ∀ x, x ≠ b → C' x = C x := fun x hx => by rw [← hC']; simp [hx]
  have hpre : ∀ x, C x <+: C' x := by
    intro x
    by_cases hx : x = b
    · subst hx; rw [hCb]; exact List.nil_prefix
    · rw [c1 x hx]; exact List.prefix_refl _
  have hset : ∀ (s' : Nat), s' ≠ s → (ah.set s [])[s']? = ah[s']? := fun s' hn => List.getElem?_set_ne (Ne.symm hn)
  have hself : (ah.set s [])[s]? = some [] := List.getElem?_set_self (by rw [← h.mem.len]; exact hlt)
  have hginj : ∀ (s' : Nat), γ[s']? = some b → s' = s := fun s' hs' => by
    have := h.excl (.obj s') (.obj s) b hs' hb; injection this
  have hbk : ∀ p x, blk γ e' (ah.set s []) ts w p x → blk γ e ah ts w p x := by
    intro p x hp
    cases p with
    | obj s' => exact hp
    | cell s' i =>
      obtain ⟨ds, a, b0, h1, h2, h3, h4⟩ := hp
      by_cases hn : s' = s
      · subst hn; rw [hself] at h1; injection h1 with h1; subst h1; simp at h2
      · rw [hset s' hn] at h1; exact ⟨ds, a, b0, h1, h2, h3, h4⟩
    | tmp t =>
      simp only [blk] at hp ⊢
      rcases he t with h1 | ⟨o, h1, h2⟩
      · rwa [h1] at hp
      · rw [h2] at hp; simp [ownB] at hp
  have htc : ∀ (a : AV) (v : Value), TC w C a v → (∀ x, ownB a v = some x → x ≠ b) → TC w C' a v := fun a v ht hn => ht.mono fun x hx => ⟨rfl, c1 x (hn x hx)⟩
  refine ⟨⟨⟨by simp [h.mem.len], fun s' x ds h1 h2 => ?_, fun x hx => ?_, fun s' x ds h1 h0 h2 => ?_, fun s' x ds us ty' fr h1 h2 h3 => ?_⟩, h.sz, fun t => ?_, fun p q x hp hq => h.excl p q x (hbk p x hp) (hbk q x hq), fun p x hp => h.nf p x (hbk p x hp), h.flt, fun t l k xs ht => ?_⟩,
    ⟨hpre, fun x hx => ⟨rfl, c1 x (fun e => h.nf _ _ hbo (e ▸ hx))⟩, Nat.le_refl _, rfl, rfl, rfl⟩⟩
  · by_cases hn : s' = s
    · subst hn
      rw [hself] at h1; injection h1 with h1; subst h1
      rw [hb] at h2; injection h2 with h2; subst h2
      exact ⟨vs, ty, hh, by simp, by simp⟩
    · rw [hset s' hn] at h1
      obtain ⟨us, ty', g1, g2, g3⟩ := h.mem.obj s' x ds h1 h2
      refine ⟨us, ty', g1, g2, fun i a hi => ⟨(g3 i a hi).1.mono hpre _ (fun _ _ h => h), htc _ _ (g3 i a hi).2 fun y hy e => ?_⟩⟩
      subst e
      obtain ⟨v, hv, -, -⟩ := cellAt h.mem h1 hi h2
      have hvv : v = us.getD i undef := by
        have hlt : i < us.size := Nat.lt_of_lt_of_le (List.getElem?_eq_some_iff.1 hi).1 g2
        rw [cell_obj g1, Array.getElem?_eq_getElem hlt] at hv
        simp [Array.getD_eq_getD_getElem?, Array.getElem?_eq_getElem hlt, Option.some.inj hv]
      have : blk γ e ah ts w (.cell s' i) y := ⟨ds, a, x, h1, hi, h2, by rw [hv, hvv]; exact hy⟩
      have := h.excl _ _ _ this hbo
      cases this
  · by_cases hxb : x = b
    · subst hxb; exact ⟨vs, ty.1, ty.2, hh, by rw [c0]; exact List.prefix_refl _⟩
    · rw [c1 x hxb] at hx ⊢; exact h.mem.com x hx
  · have hn : s' ≠ s := by
      rintro rfl
      rw [hself] at h1; injection h1 with h1; exact h0 h1.symm
    rw [hset s' hn] at h1
    rw [c1 x (fun e => hn (hginj s' (e ▸ h2)))]
    exact h.mem.objC s' x ds h1 h0 h2
  · by_cases hn : s' = s
    · subst hn
      rw [hself] at h1; injection h1 with h1; subst h1
      intro i hi; simp at hi
    · rw [hset s' hn] at h1
      exact h.mem.frz s' x ds us ty' fr h1 h2 h3
  · rcases he t with h1 | ⟨o, h1, h2⟩
    · rw [h1]
      refine ⟨(h.env t).1.mono hpre _ (fun _ _ h => h), htc _ _ (h.env t).2 fun y hy e => ?_⟩
      subst e
      have := h.excl (.tmp t) (.obj s) y hy hbo
      cases this
    · have hv := (h.env t).1
      rw [h1] at hv
      obtain ⟨b', hb', hv⟩ := hv.ptr_inv
      rw [hb] at hb'; injection hb' with hb'; subst hb'
      rw [h2, hv]
      refine ⟨?_, by trivial⟩
      have hep := VR.ep (C := C') γ (.agg ds) o b 0 (by rw [c0]; simpa [AV.cells, hw.len] using hsz) (fun j a hj => by
        have hj2 : ds[j]? = some a := hj
        have hjl : j < cs.length := by rw [← hw.len]; exact (List.getElem?_eq_some_iff.1 hj2).1
        have hj' : cs[j]? = some cs[j] := List.getElem?_eq_getElem hjl
        have := (Wk.of_or (hw.get j _ _ hj' hj2)).vr (((hcell j _ hj').1.np (allNp_get hnp hj')).mono hpre [] (fun _ _ h => h))
        rw [c0, Nat.zero_add]
        have e1 : vs.toList.getD j undef = vs.getD j undef := by simp [List.getD_eq_getElem?_getD, Array.getD_eq_getD_getElem?]
        rw [e1]; exact this)
      rwa [Nat.zero_add] at hep
  · rcases he t with h1 | ⟨o, h1, h2⟩
    · have hf := h.fr t l k xs (by rw [← h1]; exact ht)
      cases l with
      | tmp u =>
        refine ⟨hf.1, fun hu => hf.2 ?_⟩
        rcases he u with g1 | ⟨o, g1, g2⟩
        · rwa [g1] at hu
        · rw [g2] at hu; cases hu
      | cell s' o =>
        intro ds a x g1 g2 g3 g4
        by_cases hn : s' = s
        · subst hn; rw [hself] at g1; injection g1 with g1; subst g1; simp at g2
        · rw [hset s' hn] at g1; exact hf ds a x g1 g2 g3 g4
    · rw [h2] at ht; cases ht

theorem AW.freeze {c : Code} {s : Nat} {cs ds : List AV} (hs : ah[s]? = some cs) (hne : cs ≠ []) (hnp : allNp cs = true) (hw : W1L cs ds)
    (he : ∀ t, get e' t = get e t ∨ ∃ o, get e t = .ptr s o ∧ get e' t = .ep (.agg ds) o) (h : AW P L N n0 c Q e' (ah.set s [])) : AW P L N n0 c Q e ah := by
  intro F γ C ts w hsr hn
  obtain ⟨C', h1, h2⟩ := hsr.freeze hs hne hnp hw he
  refine wp_mono (h F γ C' ts w h1 hn) ?_
  rintro x a w' ⟨q1, q2, e2, ah2, γ2, C2, q3, q4, q5, q6⟩
  exact ⟨q1, q2, e2, ah2, γ2, C2, q3, q4, q5, h2.trans q6⟩

/-- two frames, slot by slot: those that are told as values -/
inductive FZ (s : Nat) (cs : List AV) : Env → Env → Prop
  | nil : FZ s cs [] []
  | same (i : Nat) (a : AV) (r r' : Env) : FZ s cs r r' → FZ s cs ((i, a) :: r) ((i, a) :: r')
  | ep (i o : Nat) (r r' : Env) : FZ s cs r r' → FZ s cs ((i, .ptr s o) :: r) ((i, .ep (.agg cs) o) :: r')
theorem FZ.get {s : Nat} {cs : List AV} {e e' : Env} (h : FZ s cs e e') (t : Nat) : Am.get e' t = Am.get e t ∨ ∃ o, Am.get e t = .ptr s o ∧ Am.get e' t = .ep (.agg cs) o := by
  induction h with
  | nil => exact .inl rfl
  | same i a r r' _ ih =>
    simp only [Am.get]
    by_cases hi : i = t
    · simp [hi]
    · simpa [hi] using ih
  | ep i o r r' _ ih =>
    simp only [Am.get]
    by_cases hi : i = t
    · exact .inr ⟨o, by simp [hi], by simp [hi]⟩
    · simpa [hi] using ih
theorem AX.freeze {c : ACode} {s : Nat} {cs ds : List AV} (hs : ah[s]? = some cs) (hw : W1L cs ds) (hne : cs ≠ []) (hnp : allNp cs = true) (he : FZ s ds e e') (h : AX P L N n0 c K e' (ah.set s [])) : AX P L N n0 c K e ah :=
  fun c' hc' => AW.freeze hs hne hnp hw he.get (h c' hc')
end
end Go.Am
