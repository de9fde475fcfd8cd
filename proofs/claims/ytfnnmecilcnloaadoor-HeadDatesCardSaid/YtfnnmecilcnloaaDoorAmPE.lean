import Derived.Test.YtfnnmecilcnloaaDoorAmLib
set_option linter.unusedSimpArgs false
set_option linter.unusedVariables false
set_option linter.unusedSectionVars false
set_option linter.defProp false
namespace Go.Am
open Go
variable [Tabs]

/-! ### a call that only reads: what its pointers lead to is told by value -/
/-- a value that names no row and no object -/
def AV.sc1 : AV → Bool
  | .int _ _ | .bool _ | .str _ | .v _ => true
  | _ => false
def allSc : List AV → Bool
  | [] => true
  | a :: r => a.sc1 && allSc r
def AV.sc2 : AV → Bool
  | .agg cs => allSc cs
  | a => a.sc1
def allSc2 : List AV → Bool
  | [] => true
  | a :: r => a.sc2 && allSc2 r
def AV.scr : AV → Bool
  | .tup cs => allSc2 cs
  | a => a.sc2
theorem allSc_get {l : List AV} (h : allSc l = true) {i : Nat} {a : AV} (hi : l[i]? = some a) : a.sc1 = true := by
  induction l generalizing i with
  | nil => simp at hi
  | cons b r ih =>
    simp only [allSc, Bool.and_eq_true] at h
    cases i with
    | zero => simp at hi; subst hi; exact h.1
    | succ i => exact ih h.2 (by simpa using hi)
theorem allSc2_get {l : List AV} (h : allSc2 l = true) {i : Nat} {a : AV} (hi : l[i]? = some a) : a.sc2 = true := by
  induction l generalizing i with
  | nil => simp at hi
  | cons b r ih =>
    simp only [allSc2, Bool.and_eq_true] at h
    cases i with
    | zero => simp at hi; subst hi; exact h.1
    | succ i => exact ih h.2 (by simpa using hi)
theorem VR.sc1 {C C' : Nat → List Value} {γ γ' : List Nat} {a : AV} {v : Value} (h : VR C γ a v) (hs : a.sc1 = true) : VR C' γ' a v := by
  cases h with
  | v _ _ hv => exact .v _ _ hv
  | int => exact .int ..
  | bool => exact .bool ..
  | str => exact .str ..
  | _ => cases hs
theorem VR.sc2 {C C' : Nat → List Value} {γ γ' : List Nat} {a : AV} {v : Value} (h : VR C γ a v) (hs : a.sc2 = true) : VR C' γ' a v := by
  cases h with
  | agg _ cs vs h1 h2 => exact .agg _ _ _ h1 fun i a hi => (h2 i a hi).sc1 (allSc_get hs hi)
  | v _ _ hv => exact .v _ _ hv
  | int => exact .int ..
  | bool => exact .bool ..
  | str => exact .str ..
  | _ => cases hs
theorem VR.scr {C C' : Nat → List Value} {γ γ' : List Nat} {a : AV} {v : Value} (h : VR C γ a v) (hs : a.scr = true) : VR C' γ' a v := by
  cases h with
  | tup _ cs vs h1 h2 => exact .tup _ _ _ h1 fun i a hi => (h2 i a hi).sc2 (allSc2_get hs hi)
  | agg _ cs vs h1 h2 => exact .agg _ _ _ h1 fun i a hi => (h2 i a hi).sc1 (allSc_get hs hi)
  | v _ _ hv => exact .v _ _ hv
  | int => exact .int ..
  | bool => exact .bool ..
  | str => exact .str ..
  | _ => cases hs
theorem TCx.sc1 {a : AV} (hs : a.sc1 = true) (v : Value) : TCx a v := by
  cases a <;> first | (cases hs; done) | (cases v <;> trivial)
theorem TCy.sc2 {a : AV} (hs : a.sc2 = true) (v : Value) : TCy a v := by
  cases a with
  | agg cs => cases v <;> first | trivial | exact fun i a hi => TCx.sc1 (allSc_get hs hi) _
  | _ => first | (cases hs; done) | (cases v <;> trivial)
theorem TC.scr {w : World} {C : Nat → List Value} {a : AV} (hs : a.scr = true) (v : Value) : TC w C a v := by
  cases a with
  | tup cs => cases v <;> first | trivial | exact fun i a hi => TCy.sc2 (allSc2_get hs hi) _
  | agg cs => cases v <;> first | trivial | exact fun i a hi => TCx.sc1 (allSc_get hs hi) _
  | _ => first | (cases hs; done) | (cases v <;> trivial)
theorem scr_own {a : AV} (hs : a.scr = true) : a.isOwn = false := by
  cases a <;> first | rfl | cases hs
theorem scr_fr {a : AV} (hs : a.scr = true) (l : Loc) (k : Nat) (xs : List AV) : a ≠ .sl (.fr l) k xs := by
  rintro rfl; cases hs

inductive PE1 (ah : AH) : AV → AV → Prop
  | same (a) : a.sc1 = true → PE1 ah a a
  | ep (a p) : PE1 ah (.ep a p) (.ep a p)
  | sl (t k xs) : PE1 ah (.sl t k xs) (.sl .n k xs)
  | ptr (s o : Nat) (cs cs' : List AV) : ah[s]? = some cs → cs'.length = cs.length → (∀ (i : Nat) (a a' : AV), cs[i]? = some a → cs'[i]? = some a' → PE1 ah a a') → PE1 ah (.ptr s o) (.ep (.agg cs') o)
inductive PE (ah : AH) : AV → AV → Prop
  | one (a a') : PE1 ah a a' → PE ah a a'
  | fn (f : Nat) (cs : List AV) : PE ah (.fn f []) (.fn f [])
  | agg (cs cs' : List AV) : cs'.length = cs.length → (∀ (i : Nat) (a a' : AV), cs[i]? = some a → cs'[i]? = some a' → PE1 ah a a') → PE ah (.agg cs) (.agg cs')

/-- an object's cells -/
def cellsAt (w : World) (b : Nat) : List Value := match w.heap[b]? with | some (.cells vs _ _) => vs.toList | _ => []
open Classical in
noncomputable def Cx (w : World) (γ : List Nat) (C : Nat → List Value) : Nat → List Value := fun b => if b ∈ γ then cellsAt w b else C b

section
variable {L : List Nat} {N : Nat} {F : Nat → Prop} {γ : List Nat} {C : Nat → List Value} {e : Env} {ah : AH} {ts : Array Value} {w : World}
theorem Cx_pre (h : Mem γ C ah w) (b : Nat) : C b <+: Cx w γ C b := by
  unfold Cx
  split
  · rename_i hb
    by_cases hne : C b = []
    · rw [hne]; exact List.nil_prefix
    · obtain ⟨vs, ty, fr, hh, hp⟩ := h.com b hne
      unfold cellsAt; rw [hh]; exact hp
  · exact List.prefix_refl _
theorem Cx_obj {s b : Nat} {vs : Array Value} {ty : TypeId} {fr : Nat × Nat} (hs : γ[s]? = some b) (hb : w.heap[b]? = some (.cells vs ty fr)) : Cx w γ C b = vs.toList := by
  unfold Cx cellsAt
  rw [if_pos (List.mem_of_getElem? hs), hb]
theorem VR.retag' {C : Nat → List Value} {γ : List Nat} {t : Tg} {k : Nat} {xs : List AV} {v : Value} (h : VR C γ (.sl t k xs) v) (γ' : List Nat) : VR C γ' (.sl .n k xs) v := by
  cases h with
  | sl0 => exact .sl0 ..
  | sl _ _ _ _ b o n c hn hc hk hl ho hx => exact .sl _ _ _ _ _ _ _ _ hn hc hk hl ho hx
theorem PE1.vr (hm : Mem γ C ah w) {a a' : AV} (hp : PE1 ah a a') : ∀ {v : Value}, VR C γ a v → VR (Cx w γ C) [] a' v := by
  induction hp with
  | same a hs => intro v h; exact h.sc1 hs
  | ep a p =>
    intro v h
    have h' := h.np rfl
    exact h'.mono (Cx_pre hm) [] (fun _ _ h => h)
  | sl t k xs =>
    intro v h
    exact (h.retag' []).mono (Cx_pre hm) [] (fun _ _ h => h)
  | ptr s o cs cs' hs hl hc ih =>
    intro v h
    obtain ⟨b, hb, rfl⟩ := h.ptr_inv
    obtain ⟨vs, ty, hh, hsz, hcell⟩ := hm.obj s b cs hs hb
    have hx : Cx w γ C b = vs.toList := Cx_obj hb hh
    suffices hS : VR (Cx w γ C) [] (.ep (.agg cs') o) (.pointer (some ⟨b, 0 + o, none⟩)) by rwa [Nat.zero_add] at hS
    refine VR.ep [] (.agg cs') o b 0 (by rw [hx]; simpa [AV.cells, hl] using hsz) fun j a' hj => ?_
    simp only [AV.cells] at hj
    have hlt : j < cs.length := by rw [← hl]; exact (List.getElem?_eq_some_iff.1 hj).1
    have h0 : cs[j]? = some cs[j] := List.getElem?_eq_getElem hlt
    have := ih j _ _ h0 hj (hcell j _ h0).1
    rw [hx, Nat.zero_add]
    have e1 : vs.toList.getD j undef = vs.getD j undef := by simp [List.getD_eq_getElem?_getD, Array.getD_eq_getD_getElem?]
    rw [e1]; exact this
theorem PE1.flat {a a' : AV} (hp : PE1 ah a a') (v : Value) : TCx a' v ∧ a'.plain = true := by
  cases hp with
  | same _ hs => exact ⟨TCx.sc1 hs v, by cases a <;> first | rfl | cases hs⟩
  | ep => exact ⟨by cases v <;> trivial, rfl⟩
  | sl => exact ⟨TCx_n .., rfl⟩
  | ptr => exact ⟨by cases v <;> trivial, rfl⟩
theorem PE.vr (hm : Mem γ C ah w) {a a' : AV} (hp : PE ah a a') {v : Value} (h : VR C γ a v) : VR (Cx w γ C) [] a' v := by
  cases hp with
  | one _ _ h1 => exact h1.vr hm h
  | fn f cs =>
    obtain ⟨vs, rfl, h1, h2⟩ := h.fn_inv
    exact .fn _ _ _ _ h1 (by simp)
  | agg cs cs' hl hc =>
    obtain ⟨vs, rfl, h1, h2⟩ := h.agg_inv
    refine .agg _ _ _ (by omega) fun i a' hi => ?_
    have hlt : i < cs.length := by rw [← hl]; exact (List.getElem?_eq_some_iff.1 hi).1
    have h0 : cs[i]? = some cs[i] := List.getElem?_eq_getElem hlt
    exact (hc i _ _ h0 hi).vr hm (h2 i _ h0)
theorem PE.tc {a a' : AV} (hp : PE ah a a') {C' : Nat → List Value} (v : Value) : TC w C' a' v ∧ a'.plain = true := by
  cases hp with
  | one _ _ h1 =>
    cases h1 with
    | same _ hs => exact ⟨by cases a <;> first | (cases hs; done) | (cases v <;> trivial), by cases a <;> first | rfl | cases hs⟩
    | ep => exact ⟨by cases v <;> trivial, rfl⟩
    | sl => exact ⟨by cases v <;> trivial, rfl⟩
    | ptr => exact ⟨by cases v <;> trivial, rfl⟩
  | fn => exact ⟨by cases v <;> trivial, rfl⟩
  | agg cs cs' hl hc =>
    refine ⟨?_, rfl⟩
    cases v with
    | agg vs =>
      intro i a' hi
      have hlt : i < cs.length := by rw [← hl]; exact (List.getElem?_eq_some_iff.1 hi).1
      exact ((hc i _ _ (List.getElem?_eq_getElem hlt) hi).flat _).1
    | _ => trivial

def PEL (ah : AH) : List AV → List AV → Prop
  | [], [] => True
  | a :: r, a' :: r' => PE ah a a' ∧ PEL ah r r'
  | _, _ => False
theorem PEL.len : ∀ {xs ys : List AV}, PEL ah xs ys → ys.length = xs.length := by
  intro xs
  induction xs with
  | nil => intro ys h; cases ys with | nil => rfl | cons => exact h.elim
  | cons a r ih => intro ys h; cases ys with | nil => exact h.elim | cons a' r' => simp [ih h.2]
theorem PEL.get : ∀ {xs ys : List AV}, PEL ah xs ys → ∀ (i : Nat) (a a' : AV), xs[i]? = some a → ys[i]? = some a' → PE ah a a' := by
  intro xs
  induction xs with
  | nil => intro ys _ i a a' h; simp at h
  | cons a r ih =>
    intro ys h i b b' h1 h2
    cases ys with
    | nil => exact h.elim
    | cons a' r' =>
      rcases i with _ | i
      · simp at h1 h2; subst h1; subst h2; exact h.1
      · exact ih h.2 i b b' (by simpa using h1) (by simpa using h2)
def PE1L (ah : AH) : List AV → List AV → Prop
  | [], [] => True
  | a :: r, a' :: r' => PE1 ah a a' ∧ PE1L ah r r'
  | _, _ => False
theorem PE1L.len : ∀ {xs ys : List AV}, PE1L ah xs ys → ys.length = xs.length := by
  intro xs
  induction xs with
  | nil => intro ys h; cases ys with | nil => rfl | cons => exact h.elim
  | cons a r ih => intro ys h; cases ys with | nil => exact h.elim | cons a' r' => simp [ih h.2]
theorem PE1L.get : ∀ {xs ys : List AV}, PE1L ah xs ys → ∀ (i : Nat) (a a' : AV), xs[i]? = some a → ys[i]? = some a' → PE1 ah a a' := by
  intro xs
  induction xs with
  | nil => intro ys _ i a a' h; simp at h
  | cons a r ih =>
    intro ys h i b b' h1 h2
    cases ys with
    | nil => exact h.elim
    | cons a' r' =>
      rcases i with _ | i
      · simp at h1 h2; subst h1; subst h2; exact h.1
      · exact ih h.2 i b b' (by simpa using h1) (by simpa using h2)
theorem PEL.nil : PEL ah [] [] := trivial
theorem PEL.cons {a a' : AV} {r r' : List AV} (h : PE ah a a') (hr : PEL ah r r') : PEL ah (a :: r) (a' :: r') := ⟨h, hr⟩
theorem PE1L.nil : PE1L ah [] [] := trivial
theorem PE1L.cons {a a' : AV} {r r' : List AV} (h : PE1 ah a a') (hr : PE1L ah r r') : PE1L ah (a :: r) (a' :: r') := ⟨h, hr⟩
theorem PE1.int {k : IntKind} {i : Int} : PE1 ah (.int k i) (.int k i) := .same _ rfl
theorem PE1.b8 {c : UInt8} : PE1 ah (Am.b8 c) (Am.b8 c) := .same _ rfl
theorem PE1.bool {b : Bool} : PE1 ah (.bool b) (.bool b) := .same _ rfl
theorem PE1.str {l : List UInt8} : PE1 ah (.str l) (.str l) := .same _ rfl
theorem PE1.v {x : Value} : PE1 ah (.v x) (.v x) := .same _ rfl
theorem PE1.ptrL {s o : Nat} {cs cs' : List AV} (hs : ah[s]? = some cs) (h : PE1L ah cs cs') : PE1 ah (.ptr s o) (.ep (.agg cs') o) := .ptr _ _ _ _ hs h.len h.get
theorem PE.aggL {cs cs' : List AV} (h : PE1L ah cs cs') : PE ah (.agg cs) (.agg cs') := .agg _ _ h.len h.get

theorem ACalls.ofE {P : Program} {f : Nat} {args args' : List AV} {R : AV → Prop} (h : ACalls P f args' [] fun r ah' => R r ∧ ah' = []) (hp : PEL ah args args') (hs : ∀ r, R r → r.scr = true) :
    ACalls P f args ah fun r ah' => R r ∧ ah' = ah := by
  refine ⟨h.1, fun F γ C w vs hsr => ?_⟩
  have hga : ∀ (l : List AV) (t : Nat), get (argE 0 l) t = (l[t]?).getD .un := fun l t => by rw [get_argE]; simp
  have harg : ∀ t, VR (Cx w γ C) [] (get (argE 0 args') t) (vs.getD t undef) ∧ TC w (Cx w γ C) (get (argE 0 args') t) (vs.getD t undef) ∧ (get (argE 0 args') t).plain = true := by
    intro t
    rw [hga]
    cases ht : args'[t]? with
    | none => exact ⟨.un .., by cases vs.getD t undef <;> trivial, rfl⟩
    | some a' =>
      have hlt : t < args.length := by rw [← hp.len]; exact (List.getElem?_eq_some_iff.1 ht).1
      have h0 : args[t]? = some args[t] := List.getElem?_eq_getElem hlt
      have h1 := (hsr.env t).1
      rw [hga, h0] at h1
      have hpe := hp.get t _ _ h0 ht
      exact ⟨hpe.vr hsr.mem h1, hpe.tc _⟩
  have hnb : ∀ p b, ¬ blk [] (argE 0 args') [] vs w p b := by
    intro p b hb
    cases p with
    | obj s => simp [blk] at hb
    | cell s i => obtain ⟨cs, a, b0, h1, -⟩ := hb; simp at h1
    | tmp t => simp only [blk] at hb; rw [ownB_not _ (plain_own (harg t).2.2)] at hb; cases hb
  have hs0 : SR [] args'.length (fun b => b < w.heap.size) [] (Cx w γ C) (argE 0 args') [] vs w := by
    refine ⟨⟨rfl, fun s b cs h1 => by simp at h1, fun b hne => ?_, fun s b cs h1 => by simp at h1, fun s b cs us ty fr h1 => by simp at h1⟩, by rw [hsr.sz, hp.len], fun t => ⟨(harg t).1, (harg t).2.1⟩, fun p q b h1 => absurd h1 (hnb p b), fun p b h1 => absurd h1 (hnb p b),
      ⟨fun b hb => hb, fun e he => ⟨hsr.flt.lt _ (hsr.flt.tab e he).1, (hsr.flt.tab e he).2⟩⟩, fun t l k xs ht => absurd ht (plain_fr (harg t).2.2 l k xs)⟩
    by_cases hb : b ∈ γ
    · obtain ⟨s, hsb⟩ := List.getElem?_of_mem hb
      have hlt : s < ah.length := by rw [← hsr.mem.len]; exact (List.getElem?_eq_some_iff.1 hsb).1
      obtain ⟨xs, ty, hh, -⟩ := hsr.mem.obj s b _ (List.getElem?_eq_getElem hlt) hsb
      exact ⟨xs, ty.1, ty.2, hh, by rw [Cx_obj hsb hh]; exact List.prefix_refl _⟩
    · have : Cx w γ C b = C b := by unfold Cx; rw [if_neg hb]
      rw [this] at hne ⊢
      exact hsr.mem.com b hne
  refine (h.2 _ [] (Cx w γ C) w vs hs0).mono ?_
  rintro en w' ⟨r, v, ah', γ', C'', rfl, ⟨hR, rfl⟩, hγ, hsr', hx⟩
  have hold : ∀ b, b < w.heap.size → w'.heap[b]? = w.heap[b]? := fun b hb => (hx.keep b hb).1
  have hg := hsr.grow (w' := w') (C' := C) hold hx.size (fun _ _ => rfl) (fun b hb hne => by
    exfalso
    obtain ⟨vs', ty, fr, hh, -⟩ := hsr.mem.com b hne
    exact absurd (heap_lt hh) (by omega)) hx.out
  have hv := (hsr'.env 0).1
  simp only [get, if_true] at hv
  have hsc := hs r hR
  exact ⟨r, v, ah, γ, C, rfl, ⟨hR, rfl⟩, List.prefix_refl _, hg.1.ret1 (hv.scr hsc) (TC.scr hsc _) (scr_own hsc) (scr_fr hsc), hg.2⟩
end
end Go.Am
