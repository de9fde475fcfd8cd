import Derived.Test.YtfnnmecilcnloaaDoorAmDefs
import Derived.Laws.Sem
set_option linter.unusedSimpArgs false
set_option linter.unusedVariables false
set_option linter.unusedSectionVars false
set_option linter.defProp false
namespace Go.Am
open Go
variable [Tabs]

theorem get_put (e : Env) (d : Nat) (a : AV) (t : Nat) : get (put e d a) t = if t = d then a else get e t := by
  induction e with
  | nil => simp only [put, get]; by_cases h : d = t <;> simp [h, eq_comm]
  | cons p r ih =>
    obtain ⟨i, b⟩ := p
    simp only [put]
    by_cases h1 : i = d
    · subst h1; simp only [if_true, get]; by_cases h : i = t
      · simp [h]
      · simp [h, Ne.symm h]
    · simp only [if_neg h1]
      by_cases h2 : d < i
      · simp only [if_pos h2, get]; by_cases h : d = t
        · simp [h]
        · simp [h, Ne.symm h]
      · simp only [if_neg h2, get, ih]
        by_cases h : i = t
        · subst h; simp [h1]
        · simp [h]

theorem get_keep (L : List Nat) (e : Env) (t : Nat) : get (keep L e) t = if L.contains t then get e t else .un := by
  induction e with
  | nil => simp [keep, get]
  | cons p r ih =>
    obtain ⟨i, b⟩ := p
    simp only [keep]
    by_cases h : L.contains i = true
    · simp only [if_pos h, get, ih]
      by_cases h2 : i = t
      · subst h2; rw [if_pos rfl, if_pos h, if_pos rfl]
      · simp only [if_neg h2]
    · simp only [if_neg h, ih, get]
      by_cases h2 : i = t
      · subst h2; rw [if_neg h, if_neg h]
      · simp only [if_neg h2]

theorem get_sweep (l : Loc) (e : Env) (t : Nat) : get (sweep l e) t = (get e t).unfr l := by
  induction e with
  | nil => rfl
  | cons p r ih =>
    obtain ⟨i, b⟩ := p
    simp only [sweep, get]
    by_cases h : i = t <;> simp [h, ih]

def sc : Value → Bool
  | .agg _ | .tuple _ => false
  | _ => true

/-- what a value is: 'C' what has been laid in rows for good, 'γ' where the objects lie -/
inductive VR (C : Nat → List Value) : List Nat → AV → Value → Prop
  | v (x γ) : sc x = true → VR C γ (.v x) x
  | un (γ v) : VR C γ .un v
  | int (γ k i) : VR C γ (.int k i) (.int k i)
  | bool (γ b) : VR C γ (.bool b) (.bool b)
  | str (γ l) : VR C γ (.str l) (.string ⟨l.toArray⟩)
  | ptr (γ s o b) : γ[s]? = some b → VR C γ (.ptr s o) (.pointer (some ⟨b, o, none⟩))
  | sl0 (γ t k a c) : VR C γ (.sl t k []) (.slice a 0 c)
  | sl (γ t k) (xs : List AV) (b o n c) : n = xs.length → n ≤ c → (∀ (i : Nat) (e : AV), xs[i]? = some e → e.cells.length = k) → o + n * k ≤ (C b).length →
      (∀ q, o ≤ q → q < o + n * k → ((C b).getD q undef).oneCell' = true) →
      (∀ (i : Nat) (e : AV), xs[i]? = some e → ∀ (j : Nat) (a : AV), e.cells[j]? = some a → VR C [] a ((C b).getD (o + i * k + j) undef)) → VR C γ (.sl t k xs) (.slice (some ⟨b, o, none⟩) n c)
  | ep (γ) (e : AV) (o b p) : p + e.cells.length ≤ (C b).length → (∀ (j : Nat) (a : AV), e.cells[j]? = some a → VR C [] a ((C b).getD (p + j) undef)) → VR C γ (.ep e o) (.pointer (some ⟨b, p + o, none⟩))
  | agg (γ) (cs : List AV) (vs : Array Value) : cs.length = vs.size → (∀ (i : Nat) (a : AV), cs[i]? = some a → VR C γ a (vs.getD i undef)) → VR C γ (.agg cs) (.agg vs)
  | tup (γ) (cs : List AV) (vs : Array Value) : cs.length = vs.size → (∀ (i : Nat) (a : AV), cs[i]? = some a → VR C γ a (vs.getD i undef)) → VR C γ (.tup cs) (.tuple vs)
  | msl (γ s k o n b c) : γ[s]? = some b → n ≤ c → VR C γ (.msl s k o n) (.slice (some ⟨b, o, none⟩) n c)
  | gsl0 (γ s k a) : VR C γ (.gsl s k 0 0) (.slice a 0 0)
  | gsl (γ s k n b c) : γ[s]? = some b → n ≤ c → VR C γ (.gsl s k n c) (.slice (some ⟨b, 0, none⟩) n c)
  | ifc (γ t x) : VR C γ .ifc (.iface t x)
  | fn (γ f) (cs : List AV) (vs : Array Value) : cs.length = vs.size → (∀ (i : Nat) (a : AV), cs[i]? = some a → VR C γ a (vs.getD i undef)) → VR C γ (.fn f cs) (.func (.func f) #[] vs)

theorem getD_prefix {l l' : List Value} (h : l <+: l') {i : Nat} (hi : i < l.length) (d : Value) : l'.getD i d = l.getD i d := by
  obtain ⟨r, rfl⟩ := h
  simp [List.getD_eq_getElem?_getD, List.getElem?_append_left hi]

theorem VR.mono {C C' : Nat → List Value} (hC : ∀ b, C b <+: C' b) {γ : List Nat} {a : AV} {v : Value} (h : VR C γ a v) :
    ∀ γ' : List Nat, (∀ (s b : Nat), γ[s]? = some b → γ'[s]? = some b) → VR C' γ' a v := by
  induction h with
  | v x γ h => intros; exact .v _ _ h
  | un => intros; exact .un ..
  | int => intros; exact .int ..
  | bool => intros; exact .bool ..
  | str => intros; exact .str ..
  | ptr γ s o b h => intro γ' hg; exact .ptr _ _ _ _ (hg _ _ h)
  | sl0 => intros; exact .sl0 ..
  | sl γ t k xs b o n c hn hc hk hl ho hx ih =>
    intro γ' hg
    refine .sl _ _ _ _ _ _ _ _ hn hc hk (Nat.le_trans hl (hC b).length_le) (fun q h1 h2 => by rw [getD_prefix (hC b) (by omega)]; exact ho q h1 h2) fun i e hi j a hj => ?_
    have hik : i < n := by rw [hn]; exact (List.getElem?_eq_some_iff.1 hi).1
    have hjk : j < k := by rw [← hk i e hi]; exact (List.getElem?_eq_some_iff.1 hj).1
    have hlt : o + i * k + j < (C b).length := by
      have : (i + 1) * k ≤ n * k := Nat.mul_le_mul_right k hik
      rw [Nat.succ_mul] at this
      omega
    rw [getD_prefix (hC b) hlt]
    exact ih i e hi j a hj [] (fun s b h => h)
  | ep γ e o b p hl hx ih =>
    intro γ' hg
    refine .ep _ _ _ _ _ (Nat.le_trans hl (hC b).length_le) fun j a hj => ?_
    have hjk : j < e.cells.length := (List.getElem?_eq_some_iff.1 hj).1
    rw [getD_prefix (hC b) (by omega)]
    exact ih j a hj [] (fun s b h => h)
  | agg γ cs vs hl hx ih => intro γ' hg; exact .agg _ _ _ hl fun i a hi => ih i a hi γ' hg
  | tup γ cs vs hl hx ih => intro γ' hg; exact .tup _ _ _ hl fun i a hi => ih i a hi γ' hg
  | fn γ f cs vs hl hx ih => intro γ' hg; exact .fn _ _ _ _ hl fun i a hi => ih i a hi γ' hg
  | msl γ s k o n b c h hn => intro γ' hg; exact .msl _ _ _ _ _ _ _ (hg _ _ h) hn
  | gsl0 => intros; exact .gsl0 ..
  | gsl γ s k n b c h hn => intro γ' hg; exact .gsl _ _ _ _ _ _ (hg _ _ h) hn
  | ifc => intros; exact .ifc ..

theorem VR.up {C : Nat → List Value} {a : AV} {v : Value} (h : VR C [] a v) (γ' : List Nat) : VR C γ' a v :=
  h.mono (fun b => List.prefix_refl _) γ' (by simp)

section
variable {C : Nat → List Value} {γ : List Nat} {v : Value}
theorem VR.bool_inv {t : Bool} (h : VR C γ (.bool t) v) : v = .bool t := by cases h; rfl
theorem VR.int_inv {k : IntKind} {i : Int} (h : VR C γ (.int k i) v) : v = .int k i := by cases h; rfl
theorem VR.str_inv {l : List UInt8} (h : VR C γ (.str l) v) : v = .string ⟨l.toArray⟩ := by cases h; rfl
theorem VR.ptr_inv {s o : Nat} (h : VR C γ (.ptr s o) v) : ∃ b, γ[s]? = some b ∧ v = .pointer (some ⟨b, o, none⟩) := by
  cases h with | ptr _ _ _ b hb => exact ⟨b, hb, rfl⟩
theorem VR.ep_inv {e : AV} {o : Nat} (h : VR C γ (.ep e o) v) : ∃ b p, v = .pointer (some ⟨b, p + o, none⟩) ∧ p + e.cells.length ≤ (C b).length ∧
    (∀ (j : Nat) (a : AV), e.cells[j]? = some a → VR C [] a ((C b).getD (p + j) undef)) := by
  cases h with | ep _ _ _ b p h1 h2 => exact ⟨b, p, rfl, h1, h2⟩
theorem VR.agg_inv {cs : List AV} (h : VR C γ (.agg cs) v) : ∃ vs : Array Value, v = .agg vs ∧ cs.length = vs.size ∧ ∀ (i : Nat) (a : AV), cs[i]? = some a → VR C γ a (vs.getD i undef) := by
  cases h with | agg _ _ vs h1 h2 => exact ⟨vs, rfl, h1, h2⟩
theorem VR.tup_inv {cs : List AV} (h : VR C γ (.tup cs) v) : ∃ vs : Array Value, v = .tuple vs ∧ cs.length = vs.size ∧ ∀ (i : Nat) (a : AV), cs[i]? = some a → VR C γ a (vs.getD i undef) := by
  cases h with | tup _ _ vs h1 h2 => exact ⟨vs, rfl, h1, h2⟩
theorem VR.fn_inv {f : Nat} {cs : List AV} (h : VR C γ (.fn f cs) v) : ∃ vs : Array Value, v = .func (.func f) #[] vs ∧ cs.length = vs.size ∧ ∀ (i : Nat) (a : AV), cs[i]? = some a → VR C γ a (vs.getD i undef) := by
  cases h with | fn _ _ _ vs h1 h2 => exact ⟨vs, rfl, h1, h2⟩
theorem VR.msl_inv {s k o n : Nat} (h : VR C γ (.msl s k o n) v) : ∃ b c, γ[s]? = some b ∧ n ≤ c ∧ v = .slice (some ⟨b, o, none⟩) n c := by
  cases h with | msl _ _ _ _ _ b c hb hn => exact ⟨b, c, hb, hn, rfl⟩
theorem VR.gsl_inv {s k n c : Nat} (h : VR C γ (.gsl s k n c) v) : ∃ a, v = .slice a n c ∧ n ≤ c ∧ ((n = 0 ∧ c = 0) ∨ ∃ b, γ[s]? = some b ∧ a = some ⟨b, 0, none⟩) := by
  cases h with
  | gsl0 _ _ _ a => exact ⟨a, rfl, Nat.le_refl _, .inl ⟨rfl, rfl⟩⟩
  | gsl _ _ _ _ b _ hb hn => exact ⟨_, rfl, hn, .inr ⟨b, hb, rfl⟩⟩
theorem VR.ifc_inv (h : VR C γ .ifc v) : ∃ t x, v = .iface t x := by
  cases h with | ifc _ t x => exact ⟨t, x, rfl⟩
theorem VR.v_inv {x : Value} (h : VR C γ (.v x) v) : v = x ∧ sc x = true := by cases h with | v _ _ h => exact ⟨rfl, h⟩
/-- a slice: its length; where its cells are -/
theorem VR.sl_inv {t : Tg} {k : Nat} {xs : List AV} (h : VR C γ (.sl t k xs) v) : ∃ a c, v = .slice a xs.length c ∧ xs.length ≤ c ∧
    (xs = [] ∨ ∃ b o, a = some ⟨b, o, none⟩ ∧ (∀ (i : Nat) (e : AV), xs[i]? = some e → e.cells.length = k) ∧ o + xs.length * k ≤ (C b).length ∧
      (∀ (i : Nat) (e : AV), xs[i]? = some e → ∀ (j : Nat) (a : AV), e.cells[j]? = some a → VR C [] a ((C b).getD (o + i * k + j) undef))) := by
  cases h with
  | sl0 _ _ _ a c => exact ⟨a, c, rfl, Nat.zero_le _, .inl rfl⟩
  | sl _ _ _ _ b o n c hn hc hk hl _ hx => subst hn; exact ⟨_, c, rfl, hc, .inr ⟨b, o, rfl, hk, hl, hx⟩⟩
end

/-- its cells are one-cell values -/
theorem VR.sl_one {C : Nat → List Value} {γ : List Nat} {t : Tg} {k n c b o : Nat} {xs : List AV} (h : VR C γ (.sl t k xs) (.slice (some ⟨b, o, none⟩) n c)) : ∀ q, o ≤ q → q < o + n * k → ((C b).getD q undef).oneCell' = true := by
  generalize hv : Value.slice (some ⟨b, o, none⟩) n c = v at h
  cases h with
  | sl0 _ _ _ a c => injection hv with h1 h2 h3; subst h2; intro q h1 h2; simp at h2; omega
  | sl _ _ _ _ b' o' n' c' hn hc hk hl ho hx =>
    injection hv with h1 h2 h3
    injection h1 with h1
    injection h1 with h1 h4
    subst h1; subst h2; subst h4
    exact ho

/-- weaker: it claims less -/
inductive Wk : AV → AV → Prop
  | same (a) : Wk a a
  | un (a) : Wk a .un
  | n (t k xs) : Wk (.sl t k xs) (.sl .n k xs)
  | agg (cs cs' : List AV) : cs'.length = cs.length → (∀ (i : Nat) (a a' : AV), cs[i]? = some a → cs'[i]? = some a' → a' = a ∨ ∃ t k xs, a = .sl t k xs ∧ a' = .sl .n k xs) → Wk (.agg cs) (.agg cs')
  | tup (cs cs' : List AV) : cs'.length = cs.length → (∀ (i : Nat) (a a' : AV), cs[i]? = some a → cs'[i]? = some a' → a' = a ∨ ∃ t k xs, a = .sl t k xs ∧ a' = .sl .n k xs) → Wk (.tup cs) (.tup cs')

theorem VR.retag {C : Nat → List Value} {γ : List Nat} {t : Tg} {k : Nat} {xs : List AV} {v : Value} (h : VR C γ (.sl t k xs) v) (t' : Tg) : VR C γ (.sl t' k xs) v := by
  cases h with
  | sl0 => exact .sl0 ..
  | sl _ _ _ _ b o n c hn hc hk hl ho hx => exact .sl _ _ _ _ _ _ _ _ hn hc hk hl ho hx

def OwnAt (w : World) (C : Nat → List Value) (k : Nat) (a : Option Addr) (n c : Nat) : Prop :=
  ∃ b o cs ty fr, a = some ⟨b, o, none⟩ ∧ w.heap[b]? = some (.cells cs ty fr) ∧ (C b).length = o + n * k ∧ o + c * k ≤ cs.size ∧
    ∀ i, o + n * k ≤ i → i < o + c * k → w.frozen? ⟨b, i, none⟩ = false

def TCx : AV → Value → Prop
  | .agg _, _ => False
  | .tup _, _ => False
  | .sl .ex _ _, .slice _ n c => c = n
  | _, _ => True
def TCy : AV → Value → Prop
  | .agg cs, .agg vs => ∀ (i : Nat) (a : AV), cs[i]? = some a → TCx a (vs.getD i undef)
  | .agg _, _ => True
  | a, v => TCx a v

/-- what the tag says -/
def TC (w : World) (C : Nat → List Value) : AV → Value → Prop
  | .sl .ex _ _, .slice _ n c => c = n
  | .sl .own k _, .slice a n c => c = n ∨ OwnAt w C k a n c
  | .agg cs, .agg vs => ∀ (i : Nat) (a : AV), cs[i]? = some a → TCx a (vs.getD i undef)
  | .tup cs, .tuple vs => ∀ (i : Nat) (a : AV), cs[i]? = some a → TCy a (vs.getD i undef)
  | _, _ => True

def ownB : AV → Value → Option Nat
  | .sl .own _ _, .slice (some ad) n c => if c = n then none else some ad.block
  | _, _ => none

inductive Ow where
  | obj (s : Nat)
  | cell (s i : Nat)
  | tmp (t : Nat)

def blk (γ : List Nat) (e : Env) (ah : AH) (ts : Array Value) (w : World) : Ow → Nat → Prop
  | .obj s, b => γ[s]? = some b
  | .cell s i, b => ∃ cs a b0, ah[s]? = some cs ∧ cs[i]? = some a ∧ γ[s]? = some b0 ∧ ownB a ((w.cell? ⟨b0, i, none⟩).getD undef) = some b
  | .tmp t, b => ownB (get e t) (ts.getD t undef) = some b

structure Mem (γ : List Nat) (C : Nat → List Value) (ah : AH) (w : World) : Prop where
  len : γ.length = ah.length
  obj : ∀ (s b : Nat) (cs : List AV), ah[s]? = some cs → γ[s]? = some b → ∃ vs, ∃ ty : TypeId × Nat × Nat, w.heap[b]? = some (.cells vs ty.1 ty.2) ∧ cs.length ≤ vs.size ∧
    ∀ i a, cs[i]? = some a → VR C γ a (vs.getD i undef) ∧ TC w C a (vs.getD i undef)
  com : ∀ b, C b ≠ [] → ∃ vs ty fr, w.heap[b]? = some (.cells vs ty fr) ∧ C b <+: vs.toList
  objC : ∀ (s b : Nat) (cs : List AV), ah[s]? = some cs → cs ≠ [] → γ[s]? = some b → C b = []
  frz : ∀ (s b : Nat) (cs : List AV) (vs : Array Value) (ty : TypeId) (fr : Nat × Nat), ah[s]? = some cs → γ[s]? = some b → w.heap[b]? = some (.cells vs ty fr) → ∀ i, i < cs.length → ¬ (fr.1 ≤ i ∧ i < fr.2)

def frOK (L : List Nat) (γ : List Nat) (e : Env) (ah : AH) (ts : Array Value) (w : World) (t : Nat) : Loc → Prop
  | .tmp u => L.contains u = true ∧ ((get e u).isOwn = true → ts.getD u undef = ts.getD t undef)
  | .cell s o => ∀ (cs : List AV) (a : AV) (b : Nat), ah[s]? = some cs → cs[o]? = some a → a.isOwn = true → γ[s]? = some b → w.cell? ⟨b, o, none⟩ = some (ts.getD t undef)

/-- what stays: its blocks are old ones; the tables are among it -/
structure FL (F : Nat → Prop) (w : World) : Prop where
  lt : ∀ b, F b → b < w.heap.size
  tab : ∀ e ∈ Tabs.l, F e.1 ∧ ∃ cs ty fr, w.heap[e.1]? = some (.cells cs ty fr) ∧ e.2 cs
theorem FL.keep {F : Nat → Prop} {w w' : World} (h : FL F w) (hs : w.heap.size ≤ w'.heap.size) (hk : ∀ b, F b → w'.heap[b]? = w.heap[b]?) : FL F w' :=
  ⟨fun b hb => Nat.lt_of_lt_of_le (h.lt b hb) hs, fun e he => by
    obtain ⟨h1, cs, ty, fr, h2, h3⟩ := h.tab e he
    exact ⟨h1, cs, ty, fr, by rw [hk _ h1]; exact h2, h3⟩⟩

structure SR (L : List Nat) (N : Nat) (F : Nat → Prop) (γ : List Nat) (C : Nat → List Value) (e : Env) (ah : AH) (ts : Array Value) (w : World) : Prop where
  mem : Mem γ C ah w
  sz : ts.size = N
  env : ∀ t, VR C γ (get e t) (ts.getD t undef) ∧ TC w C (get e t) (ts.getD t undef)
  excl : ∀ p q b, blk γ e ah ts w p b → blk γ e ah ts w q b → p = q
  nf : ∀ p b, blk γ e ah ts w p b → ¬ F b
  flt : FL F w
  fr : ∀ t l k xs, get e t = .sl (.fr l) k xs → frOK L γ e ah ts w t l

/-- what lies outside is as it was -/
def SameOut (w w' : World) : Prop := w'.os = w.os ∧ w'.tape = w.tape ∧ w'.output = w.output

/-- what a stretch of a run leaves as it was -/
structure Ext (F : Nat → Prop) (C : Nat → List Value) (w : World) (C' : Nat → List Value) (w' : World) : Prop where
  pre : ∀ b, C b <+: C' b
  keep : ∀ b, F b → w'.heap[b]? = w.heap[b]? ∧ C' b = C b
  size : w.heap.size ≤ w'.heap.size
  out : SameOut w w'

theorem Ext.refl (F : Nat → Prop) (C : Nat → List Value) (w : World) : Ext F C w C w := ⟨fun _ => List.prefix_refl _, fun _ _ => ⟨rfl, rfl⟩, Nat.le_refl _, rfl, rfl, rfl⟩
theorem Ext.trans {F : Nat → Prop} {C C' C'' : Nat → List Value} {w w' w'' : World} (h : Ext F C w C' w') (h' : Ext F C' w' C'' w'') : Ext F C w C'' w'' :=
  ⟨fun b => (h.pre b).trans (h'.pre b), fun b hb => ⟨(h'.keep b hb).1.trans (h.keep b hb).1, (h'.keep b hb).2.trans (h.keep b hb).2⟩, Nat.le_trans h.size h'.size, h'.out.1.trans h.out.1, h'.out.2.1.trans h.out.2.1, h'.out.2.2.trans h.out.2.2⟩

theorem ownB_some {a : AV} {v : Value} {b : Nat} (h : ownB a v = some b) : ∃ k xs ad n c, a = .sl .own k xs ∧ v = .slice (some ad) n c ∧ c ≠ n ∧ ad.block = b := by
  cases a with
  | sl t k xs =>
    cases t <;> try (simp [ownB] at h; done)
    cases v <;> try (simp [ownB] at h; done)
    rename_i a n c
    cases a with
    | none => simp [ownB] at h
    | some ad =>
      simp only [ownB] at h
      by_cases hc : c = n
      · simp [hc] at h
      · simp only [if_neg hc, Option.some.injEq] at h
        exact ⟨k, xs, ad, n, c, rfl, rfl, hc, h⟩
  | _ => simp [ownB] at h

theorem ownB_isOwn {a : AV} {v : Value} {b : Nat} (h : ownB a v = some b) : a.isOwn = true := by
  obtain ⟨k, xs, _, _, _, rfl, _⟩ := ownB_some h; rfl

theorem ownB_not {a : AV} (v : Value) (h : a.isOwn = false) : ownB a v = none := by
  cases hb : ownB a v with
  | none => rfl
  | some b => rw [ownB_isOwn hb] at h; cases h

theorem Wk.vr {C : Nat → List Value} {γ : List Nat} {a a' : AV} {v : Value} (hw : Wk a a') (h : VR C γ a v) : VR C γ a' v := by
  cases hw with
  | same => exact h
  | un => exact .un ..
  | n => exact h.retag _
  | agg cs cs' hl hc =>
    cases h with
    | agg _ _ vs hs hv =>
      refine .agg _ _ _ (by omega) fun i a' hi => ?_
      have hlt : i < cs.length := by rw [← hl]; exact (List.getElem?_eq_some_iff.1 hi).1
      have h0 : cs[i]? = some cs[i] := List.getElem?_eq_getElem hlt
      rcases hc i _ _ h0 hi with rfl | ⟨t, k, xs, e1, rfl⟩
      · exact hv i _ h0
      · exact (e1 ▸ hv i _ h0).retag _
  | tup cs cs' hl hc =>
    cases h with
    | tup _ _ vs hs hv =>
      refine .tup _ _ _ (by omega) fun i a' hi => ?_
      have hlt : i < cs.length := by rw [← hl]; exact (List.getElem?_eq_some_iff.1 hi).1
      have h0 : cs[i]? = some cs[i] := List.getElem?_eq_getElem hlt
      rcases hc i _ _ h0 hi with rfl | ⟨t, k, xs, e1, rfl⟩
      · exact hv i _ h0
      · exact (e1 ▸ hv i _ h0).retag _

theorem TCx_n (k : Nat) (xs : List AV) (v : Value) : TCx (.sl .n k xs) v := by cases v <;> trivial
theorem TCy_n (k : Nat) (xs : List AV) (v : Value) : TCy (.sl .n k xs) v := by cases v <;> trivial

theorem Wk.tc {w : World} {C : Nat → List Value} {a a' : AV} {v : Value} (hw : Wk a a') (h : TC w C a v) : TC w C a' v := by
  cases hw with
  | same => exact h
  | un => cases v <;> trivial
  | n => cases v <;> trivial
  | agg cs cs' hl hc =>
    cases v <;> try trivial
    intro i a' hi
    have hlt : i < cs.length := by rw [← hl]; exact (List.getElem?_eq_some_iff.1 hi).1
    have h0 : cs[i]? = some cs[i] := List.getElem?_eq_getElem hlt
    rcases hc i _ _ h0 hi with rfl | ⟨t, k, xs, e1, rfl⟩
    · exact h i _ h0
    · exact TCx_n ..
  | tup cs cs' hl hc =>
    cases v <;> try trivial
    intro i a' hi
    have hlt : i < cs.length := by rw [← hl]; exact (List.getElem?_eq_some_iff.1 hi).1
    have h0 : cs[i]? = some cs[i] := List.getElem?_eq_getElem hlt
    rcases hc i _ _ h0 hi with rfl | ⟨t, k, xs, e1, rfl⟩
    · exact h i _ h0
    · exact TCy_n ..

theorem Wk.own {a a' : AV} {v : Value} {b : Nat} (hw : Wk a a') (h : ownB a' v = some b) : ownB a v = some b := by
  cases hw with
  | same => exact h
  | un => simp [ownB] at h
  | n => simp [ownB] at h
  | agg => simp [ownB] at h
  | tup => simp [ownB] at h

/-- a weaker frame -/
theorem SR.wk {L N F γ C e ah ts w} (h : SR L N F γ C e ah ts w) {e' : Env} (hw : ∀ t, Wk (get e t) (get e' t)) : SR L N F γ C e' ah ts w := by
  have hb : ∀ p b, blk γ e' ah ts w p b → blk γ e ah ts w p b := by
    intro p b hp
    cases p with
    | obj s => exact hp
    | cell s i => exact hp
    | tmp t => exact (hw t).own hp
  have hfr : ∀ t l k xs, get e' t = .sl (.fr l) k xs → get e t = .sl (.fr l) k xs := by
    intro t l k xs ht
    have := hw t
    rw [ht] at this
    generalize he : get e t = a at this
    cases this with
    | same => rfl
  have hown : ∀ u, (get e' u).isOwn = true → (get e u).isOwn = true := by
    intro u hu
    have := hw u
    generalize get e u = a at *
    generalize get e' u = a' at *
    cases this with
    | same => exact hu
    | un => simp [AV.isOwn] at hu
    | n => simp [AV.isOwn] at hu
    | agg => simp [AV.isOwn] at hu
    | tup => simp [AV.isOwn] at hu
  refine ⟨h.mem, h.sz, fun t => ⟨(hw t).vr (h.env t).1, (hw t).tc (h.env t).2⟩, fun p q b hp hq => h.excl p q b (hb p b hp) (hb q b hq),
    fun p b hp => h.nf p b (hb p b hp), h.flt, fun t l k xs ht => ?_⟩
  have := h.fr t l k xs (hfr t l k xs ht)
  cases l with
  | tmp u => exact ⟨this.1, fun hu => this.2 (hown u hu)⟩
  | cell s o => exact this

theorem getD_set_eq {ts : Array Value} {d : Nat} (v : Value) (h : d < ts.size) : (ts.setIfInBounds d v).getD d undef = v := by
  simp [Array.getD_eq_getD_getElem?, Array.getElem?_setIfInBounds, h]
theorem getD_set_ne' {ts : Array Value} {d t : Nat} (v : Value) (h : t ≠ d) : (ts.setIfInBounds d v).getD t undef = ts.getD t undef := by
  simp [Array.getD_eq_getD_getElem?, Array.getElem?_setIfInBounds, Ne.symm h]

/-- a value into a temporary -/
theorem SR.putG {L N F γ C e ah ts w} (h : SR L N F γ C e ah ts w) {d : Nat} {a : AV} {v : Value} (hd : d < N) (hv : VR C γ a v) (ht : TC w C a v)
    (hown : ∀ b, ownB a v = some b → ¬ F b ∧ ∀ p, (∀ t, p = .tmp t → t ≠ d) → ¬ blk γ e ah ts w p b)
    (hfr : ∀ l k xs, a = .sl (.fr l) k xs → match l with
      | .tmp u => L.contains u = true ∧ u ≠ d ∧ ((get e u).isOwn = true → ts.getD u undef = v)
      | .cell s o => ∀ (cs : List AV) (x : AV) (b : Nat), ah[s]? = some cs → cs[o]? = some x → x.isOwn = true → γ[s]? = some b → w.cell? ⟨b, o, none⟩ = some v)
    (hsw : a.isOwn = true → ∀ t k xs, get e t ≠ .sl (.fr (.tmp d)) k xs) : SR L N F γ C (Am.put e d a) ah (ts.setIfInBounds d v) w := by
  have hsz : d < ts.size := by rw [h.sz]; exact hd
  have ge : ∀ t, get (Am.put e d a) t = if t = d then a else get e t := get_put e d a
  have gd : ∀ t, t ≠ d → (ts.setIfInBounds d v).getD t undef = ts.getD t undef := fun t => getD_set_ne' v
  have g0 : (ts.setIfInBounds d v).getD d undef = v := getD_set_eq v hsz
  have hb : ∀ p b, blk γ (Am.put e d a) ah (ts.setIfInBounds d v) w p b → (p = .tmp d ∧ ownB a v = some b) ∨ ((∀ t, p = .tmp t → t ≠ d) ∧ blk γ e ah ts w p b) := by
    intro p b hp
    cases p with
    | obj s => exact .inr ⟨by simp, hp⟩
    | cell s i => exact .inr ⟨by simp, hp⟩
    | tmp t =>
      by_cases htd : t = d
      · subst htd; left; simp only [blk, ge, if_true, g0] at hp; exact ⟨rfl, hp⟩
      · right; simp only [blk, ge, if_neg htd, gd t htd] at hp; exact ⟨by simpa using htd, hp⟩
  refine ⟨h.mem, by simpa using h.sz, fun t => ?_, fun p q b hp hq => ?_, fun p b hp => ?_, h.flt, fun t l k xs htl => ?_⟩
  · rw [ge]
    by_cases htd : t = d
    · subst htd; rw [if_pos rfl, g0]; exact ⟨hv, ht⟩
    · rw [if_neg htd, gd t htd]; exact h.env t
  · rcases hb p b hp with ⟨rfl, h1⟩ | ⟨h1, h2⟩ <;> rcases hb q b hq with ⟨rfl, h3⟩ | ⟨h3, h4⟩
    · rfl
    · exact absurd h4 ((hown b h1).2 q h3)
    · exact absurd h2 ((hown b h3).2 p h1)
    · exact h.excl p q b h2 h4
  · rcases hb p b hp with ⟨rfl, h1⟩ | ⟨h1, h2⟩
    · exact (hown b h1).1
    · exact h.nf p b h2
  · rw [ge] at htl
    by_cases htd : t = d
    · subst htd
      rw [if_pos rfl] at htl
      have := hfr l k xs htl
      cases l with
      | tmp u =>
        obtain ⟨h1, h2, h3⟩ := this
        refine ⟨h1, fun hu => ?_⟩
        rw [ge, if_neg h2] at hu
        rw [gd u h2, g0]
        exact h3 hu
      | cell s o => intro cs x b h1 h2 h3 h4; rw [g0]; exact this cs x b h1 h2 h3 h4
    · rw [if_neg htd] at htl
      have := h.fr t l k xs htl
      cases l with
      | tmp u =>
        refine ⟨this.1, fun hu => ?_⟩
        rw [ge] at hu
        by_cases hud : u = d
        · subst hud; rw [if_pos rfl] at hu; exact absurd htl (hsw hu t k xs)
        · rw [if_neg hud] at hu; rw [gd u hud, gd t htd]; exact this.2 hu
      | cell s o => intro cs x b h1 h2 h3 h4; rw [gd t htd]; exact this cs x b h1 h2 h3 h4

/-- the plain case -/
theorem SR.put0 {L N F γ C e ah ts w} (h : SR L N F γ C e ah ts w) {d : Nat} {a : AV} {v : Value} (hd : d < N) (hv : VR C γ a v) (ht : TC w C a v)
    (ho : a.isOwn = false) (hf : ∀ l k xs, a ≠ .sl (.fr l) k xs) : SR L N F γ C (Am.put e d a) ah (ts.setIfInBounds d v) w :=
  h.putG hd hv ht (fun b hb => by rw [ownB_not v ho] at hb; cases hb) (fun l k xs hl => absurd hl (hf l k xs)) (fun h1 => by rw [ho] at h1; cases h1)

theorem Wk.sh1 (a : AV) : a.sh1 = a ∨ ∃ t k xs, a = .sl t k xs ∧ a.sh1 = .sl .n k xs := by
  cases a with
  | sl t k xs => cases t <;> first | exact .inl rfl | exact .inr ⟨_, _, _, rfl, rfl⟩
  | _ => exact .inl rfl
theorem Wk.s1 (a : AV) : a.s1 = a ∨ ∃ t k xs, a = .sl t k xs ∧ a.s1 = .sl .n k xs := by
  cases a with
  | sl t k xs => exact .inr ⟨_, _, _, rfl, rfl⟩
  | _ => exact .inl rfl
theorem Wk.of_or {a a' : AV} (h : a' = a ∨ ∃ t k xs, a = .sl t k xs ∧ a' = .sl .n k xs) : Wk a a' := by
  rcases h with rfl | ⟨t, k, xs, rfl, rfl⟩
  · exact .same _
  · exact .n ..
theorem Wk.aggMap (f : AV → AV) (hf : ∀ a, f a = a ∨ ∃ t k xs, a = .sl t k xs ∧ f a = .sl .n k xs) (cs : List AV) : Wk (.agg cs) (.agg (cs.map f)) :=
  .agg _ _ (by simp) fun i a a' h h' => by
    rw [List.getElem?_map, h] at h'
    obtain rfl : f a = a' := by simpa using h'
    exact hf a
theorem Wk.tupMap (f : AV → AV) (hf : ∀ a, f a = a ∨ ∃ t k xs, a = .sl t k xs ∧ f a = .sl .n k xs) (cs : List AV) : Wk (.tup cs) (.tup (cs.map f)) :=
  .tup _ _ (by simp) fun i a a' h h' => by
    rw [List.getElem?_map, h] at h'
    obtain rfl : f a = a' := by simpa using h'
    exact hf a
theorem Wk.sh (a : AV) : Wk a a.sh := by
  cases a with
  | agg cs => exact .aggMap _ Wk.sh1 _
  | tup cs => exact .tupMap _ Wk.sh1 _
  | sl t k xs => exact Wk.of_or (Wk.sh1 (.sl t k xs))
  | _ => exact .same _
theorem Wk.s0 (a : AV) : Wk a a.s0 := by
  cases a with
  | agg cs => exact .aggMap _ Wk.s1 _
  | sl t k xs => exact Wk.of_or (Wk.s1 (.sl t k xs))
  | _ => exact .same _
theorem Wk.df (a : AV) : Wk a a.df := by
  cases a with
  | sl t k xs => cases t <;> first | exact .same _ | exact .n ..
  | _ => exact .same _
theorem Wk.unfr (l : Loc) (a : AV) : Wk a (a.unfr l) := by
  cases a with
  | sl t k xs =>
    cases t with
    | fr m => simp only [AV.unfr]; split
              · exact .n ..
              · exact .same _
    | _ => exact .same _
  | _ => exact .same _
theorem Wk.dis (a : AV) : Wk a a.dis := by
  cases a with
  | sl t k xs => cases t <;> first | exact .same _ | exact .n ..
  | _ => exact .same _

theorem SR.sweep {L N F γ C e ah ts w} (h : SR L N F γ C e ah ts w) (l : Loc) : SR L N F γ C (Am.sweep l e) ah ts w :=
  h.wk fun t => by rw [get_sweep]; exact Wk.unfr l _
theorem SR.keep {L N F γ C e ah ts w} (h : SR L N F γ C e ah ts w) (M : List Nat) : SR L N F γ C (Am.keep M e) ah ts w :=
  h.wk fun t => by rw [get_keep]; split
                   · exact .same _
                   · exact .un _
theorem SR.weakPut {L N F γ C e ah ts w} (h : SR L N F γ C e ah ts w) {t : Nat} {a : AV} (ha : Wk (get e t) a) : SR L N F γ C (Am.put e t a) ah ts w :=
  h.wk fun u => by rw [get_put]; split
                   · rename_i hu; subst hu; exact ha
                   · exact .same _
end Go.Am
