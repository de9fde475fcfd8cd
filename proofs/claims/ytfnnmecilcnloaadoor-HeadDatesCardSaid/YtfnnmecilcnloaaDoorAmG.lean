import Derived.Test.YtfnnmecilcnloaaDoorAmM
import Derived.Test.YtfnnmecilcnloaaDoorAmFrz
set_option linter.unusedSimpArgs false
set_option linter.unusedVariables false
set_option linter.unusedSectionVars false
set_option linter.defProp false
namespace Go.Am
open Go
variable [Tabs]

/-! ### rows that grow and are stored to -/
def EK (k : Nat) (xs : List AV) : Prop := ∀ (i : Nat) (a : AV), xs[i]? = some a → a.cells.length = k ∧ allOk a.cells = true ∧ allNp a.cells = true ∧ allFlat a.cells = true
theorem EK.ml {α : Type} {f : α → AV} {k : Nat} (h : ∀ x, (f x).cells.length = k ∧ allOk (f x).cells = true ∧ allNp (f x).cells = true ∧ allFlat (f x).cells = true) (l : List α) : EK k (ml f l) := by
  intro i a hi
  simp only [Am.ml, List.getElem?_map, Option.map_eq_some_iff] at hi
  obtain ⟨x, -, rfl⟩ := hi
  exact h x
def fla (xs : List AV) : List AV := (xs.map fun a => a.cells.map AV.s1).flatten
theorem fla_cons (a : AV) (xs : List AV) : fla (a :: xs) = a.cells.map AV.s1 ++ fla xs := rfl
theorem fla_app (xs ys : List AV) : fla (xs ++ ys) = fla xs ++ fla ys := by simp [fla]
theorem EK.tail {k : Nat} {a : AV} {xs : List AV} (h : EK k (a :: xs)) : EK k xs := fun i b hb => h (i + 1) b (by simpa using hb)
theorem fla_len {k : Nat} : ∀ {xs : List AV}, EK k xs → (fla xs).length = xs.length * k := by
  intro xs
  induction xs with
  | nil => intro _; simp [fla]
  | cons a r ih => intro h; rw [fla_cons, List.length_append, List.length_map, ih h.tail, (h 0 a rfl).1, List.length_cons, Nat.succ_mul]; omega
theorem fla_get {k : Nat} : ∀ {xs : List AV}, EK k xs → ∀ (i j : Nat) (a : AV), xs[i]? = some a → j < k → (fla xs)[i * k + j]? = (a.cells.map AV.s1)[j]? := by
  intro xs
  induction xs with
  | nil => intro _ i j a h; simp at h
  | cons y r ih =>
    intro h i j a hi hj
    have hy := (h 0 y rfl).1
    rw [fla_cons]
    cases i with
    | zero =>
      simp at hi; subst hi
      rw [List.getElem?_append_left (by simp; omega)]; simp
    | succ i =>
      rw [List.getElem?_append_right (by simp only [List.length_map, hy, Nat.succ_mul]; omega)]
      rw [show (i + 1) * k + j - (y.cells.map AV.s1).length = i * k + j by simp only [List.length_map, hy, Nat.succ_mul]; omega]
      exact ih h.tail i j a (by simpa using hi) hj
theorem fla_set {k : Nat} : ∀ {xs : List AV}, EK k xs → ∀ (i j : Nat) (a a' w : AV), xs[i]? = some a → j < k → a'.cells.map AV.s1 = (a.cells.map AV.s1).set j w → fla (xs.set i a') = (fla xs).set (i * k + j) w := by
  intro xs
  induction xs with
  | nil => intro _ i j a a' w h; simp at h
  | cons y r ih =>
    intro h i j a a' w hi hj hw
    have hy := (h 0 y rfl).1
    cases i with
    | zero =>
      simp at hi; subst hi
      rw [List.set_cons_zero, fla_cons, fla_cons, hw, List.set_append_left _ _ (by simp; omega)]; simp
    | succ i =>
      rw [List.set_cons_succ, fla_cons, fla_cons, ih h.tail i j a a' w (by simpa using hi) hj hw, List.set_append_right _ _ (by simp only [List.length_map, hy, Nat.succ_mul]; omega)]
      rw [show (i + 1) * k + j - (y.cells.map AV.s1).length = i * k + j by simp only [List.length_map, hy, Nat.succ_mul]; omega]
theorem s1_s1 (a : AV) : a.s1.s1 = a.s1 := by cases a <;> rfl
theorem fla_s1 (xs : List AV) : (fla xs).map AV.s1 = fla xs := by
  unfold fla
  rw [List.map_flatten, List.map_map]
  congr 1
  apply List.map_congr_left
  intro a _
  simp [List.map_map, Function.comp_def, s1_s1]
theorem fla_all {k : Nat} : ∀ {xs : List AV}, EK k xs → ∀ (q : Nat) (a : AV), (fla xs)[q]? = some a → a.flat = true ∧ a.np = true ∧ a.ok1 = true := by
  intro xs
  induction xs with
  | nil => intro _ q a h; simp [fla] at h
  | cons y r ih =>
    intro h q a hq
    rw [fla_cons] at hq
    by_cases hlt : q < (y.cells.map AV.s1).length
    · rw [List.getElem?_append_left hlt, List.getElem?_map, Option.map_eq_some_iff] at hq
      obtain ⟨z, hz, rfl⟩ := hq
      have h1 := allFlat_get (h 0 y rfl).2.2.2 hz
      have h2 := allNp_get (h 0 y rfl).2.2.1 hz
      have h3 : z.ok1 = true := by
        have := (h 0 y rfl).2.1
        generalize y.cells = l at this hz
        clear hlt
        induction l generalizing q with
        | nil => simp at hz
        | cons b l ihl =>
          simp only [allOk, Bool.and_eq_true] at this
          cases q with
          | zero => simp at hz; subst hz; exact this.1
          | succ q => exact ihl q this.2 (by simpa using hz)
      cases z <;> simp_all [AV.s1, AV.flat, AV.np, AV.ok1]
    · rw [List.getElem?_append_right (by omega)] at hq
      exact ih h.tail _ a hq
theorem allFlat_of {l : List AV} (h : ∀ (q : Nat) (a : AV), l[q]? = some a → a.flat = true) : allFlat l = true := by
  induction l with
  | nil => rfl
  | cons a r ih => simp only [allFlat, Bool.and_eq_true]; exact ⟨h 0 a rfl, ih fun q b hb => h (q + 1) b (by simpa using hb)⟩
theorem gcs_eq (k : Nat) (xs : List AV) (c : Nat) : gcs k xs c = fla xs ++ List.replicate ((c - xs.length) * k) .un := rfl
theorem gcs_len {k c : Nat} {xs : List AV} (h : EK k xs) (hc : xs.length ≤ c) : (gcs k xs c).length = c * k := by
  rw [gcs_eq, List.length_append, fla_len h, List.length_replicate, ← Nat.add_mul]; congr 1; omega
theorem gcs_take {k c : Nat} {xs : List AV} (h : EK k xs) : (gcs k xs c).take (xs.length * k) = fla xs := by
  rw [gcs_eq, List.take_append_of_le_length (by rw [fla_len h]; exact Nat.le_refl _), List.take_of_length_le (by rw [fla_len h]; exact Nat.le_refl _)]
theorem gcs_get {k c i j : Nat} {xs : List AV} {a : AV} (h : EK k xs) (hi : xs[i]? = some a) (hj : j < k) : (gcs k xs c)[i * k + j]? = (a.cells.map AV.s1)[j]? := by
  have hlt : i < xs.length := (List.getElem?_eq_some_iff.1 hi).1
  have : (i + 1) * k ≤ xs.length * k := Nat.mul_le_mul_right _ hlt
  rw [Nat.succ_mul] at this
  rw [gcs_eq, List.getElem?_append_left (by rw [fla_len h]; omega), fla_get h i j a hi hj]
theorem gcs_over {k c i j : Nat} {xs : List AV} {a a' w : AV} (h : EK k xs) (hi : xs[i]? = some a) (hj : j < k) (hw : a'.cells.map AV.s1 = (a.cells.map AV.s1).set j w) :
    over (gcs k xs c) (i * k + j) [w] = some (gcs k (xs.set i a') c) := by
  have hlt : i < xs.length := (List.getElem?_eq_some_iff.1 hi).1
  have hm : (i + 1) * k ≤ xs.length * k := Nat.mul_le_mul_right _ hlt
  rw [Nat.succ_mul] at hm
  have hl := fla_len h
  unfold over
  rw [if_pos (by rw [gcs_eq, List.length_append, hl, List.length_singleton]; omega)]
  congr 1
  rw [gcs_eq k (xs.set i a'), List.length_set, fla_set h i j a a' w hi hj hw, gcs_eq]
  rw [← List.set_append_left _ _ (by rw [hl]; omega)]
  rw [List.set_eq_take_append_cons_drop, if_pos (by rw [List.length_append, hl]; omega)]
  simp

/-- a growing row, as it is: n0: ahead of what is one's own -/
def GF (k n0 q : Nat) (xs : List AV) (c : Nat) (ah : AH) : Prop :=
  (c = 0 ∧ xs = []) ∨ (n0 ≤ q ∧ 0 < c ∧ xs.length ≤ c ∧ ah[q]? = some (gcs k xs c))
theorem GF.lt {k n0 q c : Nat} {xs : List AV} {ah : AH} (h : GF k n0 q xs c ah) (hc : 0 < c) : q < ah.length ∧ n0 ≤ q := by
  rcases h with ⟨h, -⟩ | ⟨h1, -, -, h2⟩
  · omega
  · exact ⟨(List.getElem?_eq_some_iff.1 h2).1, h1⟩
theorem GF.nil {k n0 q : Nat} {ah : AH} : GF k n0 q [] 0 ah := .inl ⟨rfl, rfl⟩
theorem GF.at {k n0 q c i : Nat} {xs : List AV} {ah : AH} {a : AV} (h : GF k n0 q xs c ah) (hi : xs[i]? = some a) : n0 ≤ q ∧ ah[q]? = some (gcs k xs c) := by
  rcases h with ⟨-, rfl⟩ | ⟨h1, -, -, h2⟩
  · simp at hi
  · exact ⟨h1, h2⟩
theorem GF.of {k n0 q c : Nat} {xs : List AV} {ah ah' : AH} (h : GF k n0 q xs c ah) (he : q < ah.length → n0 ≤ q → ah'[q]? = ah[q]?) : GF k n0 q xs c ah' := by
  rcases h with h | ⟨h1, h2, h3, h4⟩
  · exact .inl h
  · exact .inr ⟨h1, h2, h3, by rw [he (List.getElem?_eq_some_iff.1 h4).1 h1]; exact h4⟩
theorem GF.set {k n0 q c i : Nat} {xs : List AV} {ah : AH} {a a' : AV} (h : GF k n0 q xs c ah) (hi : xs[i]? = some a) : GF k n0 q (xs.set i a') c (ah.set q (gcs k (xs.set i a') c)) := by
  rcases h with ⟨-, rfl⟩ | ⟨h1, h2, h3, h4⟩
  · simp at hi
  · exact .inr ⟨h1, h2, by simpa using h3, List.getElem?_set_self (List.getElem?_eq_some_iff.1 h4).1⟩

section
variable {P : Program} {L : List Nat} {N n0 : Nat} {e : Env} {ah : AH} {t : List It} {Q : Exit → Env → AH → Prop} {r : List AOper} {d : Option Nat} {g : Option (Nat × Bool)}
theorem UG_appo {α : Type} {f : α → AV} {k b q c n1 : Nat} {x y : Ar} {tg : Tg} {X Y Z : List α} {ys : List AV} (hf : ∀ x, (f x).cells.length = k ∧ allOk (f x).cells = true ∧ allNp (f x).cells = true ∧ allFlat (f x).cells = true)
    (hk0 : 0 < k) (hx : ev e x = .gsl q k X.length c) (hy : ev e y = .sl tg k ys) (hys : ys = ml f Y) (hY : Y ≠ []) (hz : capp b X Y = some Z) (hG : GF k n1 q (ml f X) c ah) (hn : n1 ≤ ah.length)
    (hK : ∀ q' c' ah', GF k n1 q' (ml f Z) c' ah' → (∀ s, s < ah.length → s < n1 ∨ (0 < c → s ≠ q) → ah'[s]? = ah[s]?) → ah.length ≤ ah'.length → (q' = q ∨ ah.length ≤ q') →
      U P L N n0 (.ops r :: t) Q .normal (putv L e d (.gsl q' k Z.length c')) ah') :
    UG P L N n0 ⟨d, .appo k b x y, g⟩ r t Q e ah (some true) := by
  subst hys
  obtain ⟨hc, hZ⟩ := ifn hz
  injection hZ with hZ
  subst hZ
  have eX := EK.ml hf X
  have eY := EK.ml hf Y
  have eXY : EK k (ml f (X ++ Y)) := EK.ml hf _
  have hap : ml f (X ++ Y) = ml f X ++ ml f Y := by simp [ml]
  have lX : (ml f X).length = X.length := by simp [ml]
  have lY : (ml f Y).length = Y.length := by simp [ml]
  have hyp : 0 < Y.length := List.length_pos_iff.2 hY
  show appoW L d k b x y e ah fun e ah => U P L N n0 (.ops r :: t) Q .normal e ah
  unfold appoW
  rw [hx, hy]
  refine ⟨rfl, rfl, by simpa [ml] using hY, by rw [lY]; exact hc.1, by rw [lY]; exact hc.2, ?_⟩
  have lXY : (X ++ Y).length = X.length + Y.length := List.length_append
  rcases hG with ⟨rfl, hX⟩ | ⟨h1, h2, h3, h4⟩
  · have hX : X = [] := by simpa [ml] using hX
    subst hX
    refine .inl ⟨rfl, rfl, fun c' hc' => ?_⟩
    rw [lY] at hc' ⊢
    have := hK ah.length c' (ah ++ [gcs k (ml f Y) c']) (.inr ⟨hn, by omega, by simpa [ml] using hc', by simp⟩) (fun s hs _ => List.getElem?_append_left hs) (by simp) (.inr (Nat.le_refl _))
    simpa using this
  · rw [lX] at h3
    have hlt := (List.getElem?_eq_some_iff.1 h4).1
    refine .inr ⟨_, h4, fun h0 => ?_, gcs_len eX (by rw [lX]; exact h3), h3, ?_, fun hr => ?_, fun hr c' hc' => ?_⟩
    · have := gcs_len eX (c := c) (by rw [lX]; exact h3)
      rw [h0] at this
      have h5 := Nat.mul_pos h2 hk0
      simp at this
      omega
    · rw [← lX, gcs_take eX]; exact allFlat_of fun q a hq => (fla_all eX q a hq).1
    · rw [lY] at hr ⊢
      have e1 : (gcs k (ml f X) c).take (X.length * k) ++ ((ml f Y).map fun a => a.cells.map AV.s1).flatten ++ (gcs k (ml f X) c).drop ((X.length + Y.length) * k) = gcs k (ml f (X ++ Y)) c := by
        have t1 := gcs_take (c := c) eX
        rw [lX] at t1
        rw [t1, gcs_eq k (ml f (X ++ Y)), hap, fla_app]
        show fla (ml f X) ++ fla (ml f Y) ++ _ = _
        congr 1
        rw [gcs_eq, List.drop_append, List.drop_of_length_le (by rw [fla_len eX, lX]; exact Nat.mul_le_mul_right _ (by omega)), List.nil_append, List.drop_replicate]
        congr 1
        rw [fla_len eX, List.length_append, lX, lY, ← Nat.sub_mul, ← Nat.sub_mul]
        congr 1
        omega
      rw [e1]
      have := hK q c (ah.set q (gcs k (ml f (X ++ Y)) c)) (.inr ⟨h1, h2, by simpa [ml] using hr, List.getElem?_set_self hlt⟩) (fun s hs hq => List.getElem?_set_ne (hq.elim (fun h => by omega) (fun h => Ne.symm (h h2)))) (by simp) (.inl rfl)
      rw [lXY] at this
      exact this
    · rw [lY] at hc' hr ⊢
      have e1 : ((gcs k (ml f X) c).take (X.length * k)).map AV.s1 ++ gcs k (ml f Y) (c' - X.length) = gcs k (ml f (X ++ Y)) c' := by
        have t1 := gcs_take (c := c) eX
        rw [lX] at t1
        rw [t1, fla_s1, gcs_eq, gcs_eq, hap, fla_app, List.append_assoc]
        congr 3
        rw [List.length_append, lX, lY]; congr 1; omega
      rw [e1]
      have := hK ah.length c' (ah ++ [gcs k (ml f (X ++ Y)) c']) (.inr ⟨hn, by omega, by simpa [ml] using hc', by simp⟩) (fun s hs _ => List.getElem?_append_left hs) (by simp) (.inr (Nat.le_refl _))
      rw [lXY] at this
      exact this

theorem G_len {q k n c : Nat} : lenK L e ah d (.gsl q k n c) = some (putv L e d (.int .i64 n), ah) := rfl
theorem G_ix {q k n c : Nat} {ki : IntKind} {i : Int} : ixaK L e ah d k (.gsl q k n c) (.int ki i) = (ixm n i).map fun j => (putv L e d (.ptr q (j * k)), ah) := by
  simp only [ixaK, ixm, and_true]
  split <;> simp
theorem G_ixp {k m s p : Nat} {ki : IntKind} {i : Int} : ixpK L e ah d k m (.ptr s p) (.int ki i) = (ixm m i).map fun j => (putv L e d (.ptr s (p + j * k)), ah) := by
  simp only [ixpK, ixm]
  split <;> simp
theorem G_ixe {k m p : Nat} {a : AV} {ki : IntKind} {i : Int} : ixpK L e ah d k m (.ep a p) (.int ki i) = (ixm m i).map fun j => (putv L e d (.ep a (p + j * k)), ah) := by
  simp only [ixpK, ixm]
  split <;> simp
theorem G_aso {k : Nat} : asoK L e ah d k (.sl .ex k []) = some (putv L e d (.gsl 0 k 0 0), ah) := by simp [asoK]
theorem G_asg {s k n c j : Nat} : asoK L e ah d j (.gsl s k n c) = some (putv L e d (.gsl s k n c), ah) := rfl
end
theorem Wx.gslE {s k n m c : Nat} (h : n = m) : Wx (.gsl s k n c) (.gsl s k m c) := by subst h; exact .same (by simp)
theorem Wx.gsl {s k n c : Nat} : Wx (.gsl s k n c) (.gsl s k n c) := .same (by simp)
def WG := And.intro @C_shr1 <| And.intro @C_shl1 <| And.intro @C_shr2 <| And.intro @C_shl2 <| And.intro @C_shr3 <| And.intro @C_shl3 <| And.intro @C_shr4 <| And.intro @C_shl4 <| And.intro @C_shr5 <| And.intro @C_shl5 <| And.intro @C_shr6 <| And.intro @C_shl6 <| And.intro @C_shr7 <| And.intro @C_shl7 <| And.intro @C_shr8 <| And.intro @C_shl8 <| And.intro @C_shr16 <| And.intro @C_shl16 <| And.intro @C_shr24 <| And.intro @C_shl24 <| And.intro @G_len <| And.intro @G_ix <| And.intro @G_ixp <| And.intro @G_ixe <| And.intro @G_aso <| And.intro @G_asg <| And.intro @T_ixp <| And.intro @T_aso <| And.intro @Nat.add_zero <| And.intro @Nat.zero_add @Nat.mul_one

/-! ### laid for good -/
section
variable {P : Program} {L : List Nat} {N n0 : Nat} {F : Nat → Prop} {γ : List Nat} {C : Nat → List Value} {e e' : Env} {ah : AH} {ts : Array Value} {w : World} {Q K : Exit → Env → AH → Prop}

theorem VR.one' {x : AV} {u : Value} (hx : VR C γ x u) (hk : x.ok1 = true) : u.oneCell' = true := by
  cases hx <;> first | rfl | cases hk | skip
  rename_i hs
  cases u <;> first | rfl | cases hs
theorem SR.layG (h : SR L N F γ C e ah ts w) {s k n1 c : Nat} {xs : List AV} (hkp : 0 < k) (hk : EK k xs) (hG : GF k n1 s xs c ah)
    (he : ∀ t, get e' t = get e t ∨ (get e t = .gsl s k xs.length c ∧ get e' t = .sl .n k xs)) : ∃ C', SR L N F γ C' e' (if c = 0 then ah else ah.set s []) ts w ∧ Ext F C w C' w := by
  rcases hG with ⟨rfl, rfl⟩ | ⟨-, hc0, hcl, hs⟩
  · refine ⟨C, ?_, Ext.refl ..⟩
    rw [if_pos rfl]
    have hbk : ∀ p b, blk γ e' ah ts w p b → blk γ e ah ts w p b := by
      intro p b hp
      cases p with
      | tmp t =>
        simp only [blk] at hp ⊢
        rcases he t with h1 | ⟨h1, h2⟩
        · rwa [h1] at hp
        · rw [h2] at hp; simp [ownB] at hp
      | obj s => exact hp
      | cell s i => exact hp
    refine ⟨h.mem, h.sz, fun t => ?_, fun p q b hp hq => h.excl p q b (hbk p b hp) (hbk q b hq), fun p b hp => h.nf p b (hbk p b hp), h.flt, fun t l k' xs' ht => ?_⟩
    · rcases he t with h1 | ⟨h1, h2⟩
      · rw [h1]; exact h.env t
      · rw [h2]
        have hv := (h.env t).1
        rw [h1] at hv
        obtain ⟨a, hv, -⟩ := hv.gsl_inv
        rw [hv]
        exact ⟨.sl0 .., by simp [TC]⟩
    · rcases he t with h1 | ⟨h1, h2⟩
      · rw [h1] at ht
        have hf := h.fr t l k' xs' ht
        cases l with
        | tmp u =>
          refine ⟨hf.1, fun hu => hf.2 ?_⟩
          rcases he u with g1 | ⟨g1, g2⟩
          · rwa [g1] at hu
          · rw [g2] at hu; cases hu
        | cell s' o => exact hf
      · rw [h2] at ht; cases ht
  rw [if_neg (by omega)]
  have hlt : s < γ.length := by rw [h.mem.len]; exact (List.getElem?_eq_some_iff.1 hs).1
  obtain ⟨b, hb⟩ : ∃ b, γ[s]? = some b := ⟨_, List.getElem?_eq_getElem hlt⟩
  obtain ⟨vs, ty, hh, hsz, hcell⟩ := h.mem.obj s b _ hs hb
  have hbo : blk γ e ah ts w (.obj s) b := hb
  have hk0 : gcs k xs c ≠ [] := by
    intro h0
    have := gcs_len (c := c) hk hcl
    rw [h0] at this
    have h5 := Nat.mul_pos hc0 hkp
    simp at this
    omega
  have hCb := h.mem.objC s b _ hs hk0 hb
  refine ⟨fun x => if x = b then vs.toList.take (xs.length * k) else C x, ?_⟩
  generalize hC' : (fun x => if x = b then vs.toList.take (xs.length * k) else C x) = C'
  have c0 : C' b = vs.toList.take (xs.length * k) := by rw [← hC']; simp
  have c1 : ∀ x, x ≠ b → C' x = C x := fun x hx => by rw [← hC']; simp [hx]
  have hgl := gcs_len (c := c) hk hcl
  have hmul : xs.length * k ≤ c * k := Nat.mul_le_mul_right _ hcl
  have hvl : (C' b).length = xs.length * k := by rw [c0, List.length_take, show vs.toList.length = vs.size from Array.length_toList]; omega
  have hpre : ∀ x, C x <+: C' x := by
    intro x
    by_cases hx : x = b
    · subst hx; rw [hCb]; exact List.nil_prefix
    · rw [c1 x hx]; exact List.prefix_refl _
  have hset : ∀ (s' : Nat), s' ≠ s → (ah.set s [])[s']? = ah[s']? := fun s' hn => List.getElem?_set_ne (Ne.symm hn)
  have hself : (ah.set s [])[s]? = some [] := List.getElem?_set_self (by rw [← h.mem.len]; exact hlt)
  have hginj : ∀ (s' : Nat), γ[s']? = some b → s' = s := fun s' hs' => by
    have := h.excl (.obj s') (.obj s) b hs' hb; injection this
  have hbk : ∀ p x, blk γ e' (ah.set s []) ts w p x → blk γ e ah ts w p x := by
    intro p x hp
    cases p with
    | obj s' => exact hp
    | cell s' i =>
      obtain ⟨ds, a, b0, h1, h2, h3, h4⟩ := hp
      by_cases hn : s' = s
      · subst hn; rw [hself] at h1; injection h1 with h1; subst h1; simp at h2
      · rw [hset s' hn] at h1; exact ⟨ds, a, b0, h1, h2, h3, h4⟩
    | tmp t =>
      simp only [blk] at hp ⊢
      rcases he t with h1 | ⟨h1, h2⟩
      · rwa [h1] at hp
      · rw [h2] at hp; simp [ownB] at hp
  have htc : ∀ (a : AV) (v : Value), TC w C a v → (∀ x, ownB a v = some x → x ≠ b) → TC w C' a v := fun a v ht hn => ht.mono fun x hx => ⟨rfl, c1 x (hn x hx)⟩
  refine ⟨⟨⟨by simp [h.mem.len], fun s' x ds h1 h2 => ?_, fun x hx => ?_, fun s' x ds h1 h0 h2 => ?_, fun s' x ds us ty' fr h1 h2 h3 => ?_⟩, h.sz, fun t => ?_, fun p q x hp hq => h.excl p q x (hbk p x hp) (hbk q x hq), fun p x hp => h.nf p x (hbk p x hp), h.flt, fun t l k xs ht => ?_⟩,
    ⟨hpre, fun x hx => ⟨rfl, c1 x (fun e => h.nf _ _ hbo (e ▸ hx))⟩, Nat.le_refl _, rfl, rfl, rfl⟩⟩
  · by_cases hn : s' = s
    · subst hn
      rw [hself] at h1; injection h1 with h1; subst h1
      rw [hb] at h2; injection h2 with h2; subst h2
      exact ⟨vs, ty, hh, by simp, by simp⟩
    · rw [hset s' hn] at h1
      obtain ⟨us, ty', g1, g2, g3⟩ := h.mem.obj s' x ds h1 h2
      refine ⟨us, ty', g1, g2, fun i a hi => ⟨(g3 i a hi).1.mono hpre _ (fun _ _ h => h), htc _ _ (g3 i a hi).2 fun y hy e => ?_⟩⟩
      subst e
      obtain ⟨v, hv, -, -⟩ := cellAt h.mem h1 hi h2
      have hvv : v = us.getD i undef := by
        have hlt : i < us.size := Nat.lt_of_lt_of_le (List.getElem?_eq_some_iff.1 hi).1 g2
        rw [cell_obj g1, Array.getElem?_eq_getElem hlt] at hv
        simp [Array.getD_eq_getD_getElem?, Array.getElem?_eq_getElem hlt, Option.some.inj hv]
      have : blk γ e ah ts w (.cell s' i) y := ⟨ds, a, x, h1, hi, h2, by rw [hv, hvv]; exact hy⟩
      have := h.excl _ _ _ this hbo
      cases this
  · by_cases hxb : x = b
    · subst hxb; exact ⟨vs, ty.1, ty.2, hh, by rw [c0]; exact List.take_prefix _ _⟩
    · rw [c1 x hxb] at hx ⊢; exact h.mem.com x hx
  · have hn : s' ≠ s := by
      rintro rfl
      rw [hself] at h1; injection h1 with h1; exact h0 h1.symm
    rw [hset s' hn] at h1
    rw [c1 x (fun e => hn (hginj s' (e ▸ h2)))]
    exact h.mem.objC s' x ds h1 h0 h2
  · by_cases hn : s' = s
    · subst hn
      rw [hself] at h1; injection h1 with h1; subst h1
      intro i hi; simp at hi
    · rw [hset s' hn] at h1
      exact h.mem.frz s' x ds us ty' fr h1 h2 h3
  · rcases he t with h1 | ⟨h1, h2⟩
    · rw [h1]
      refine ⟨(h.env t).1.mono hpre _ (fun _ _ h => h), htc _ _ (h.env t).2 fun y hy e => ?_⟩
      subst e
      have := h.excl (.tmp t) (.obj s) y hy hbo
      cases this
    · have hv := (h.env t).1
      rw [h1] at hv
      obtain ⟨ad, hv, hnc, hcase⟩ := hv.gsl_inv
      have hcase : ad = some ⟨b, 0, none⟩ := by
        rcases hcase with ⟨-, h0⟩ | ⟨b', hb', e⟩
        · omega
        · rw [hb] at hb'; injection hb' with hb'; subst hb'; exact e
      subst hcase
      rw [h2, hv]
      have hval : ∀ q, q < xs.length * k → (C' b).getD q undef = vs.getD q undef := by
        intro q hq
        rw [c0]
        simp [List.getD_eq_getElem?_getD, Array.getD_eq_getD_getElem?, List.getElem?_take_of_lt hq]
      have hcv : ∀ q a, (fla xs)[q]? = some a → VR C γ a (vs.getD q undef) := by
        intro q a hq
        refine (hcell q a ?_).1
        rw [gcs_eq, List.getElem?_append_left (List.getElem?_eq_some_iff.1 hq).1]; exact hq
      have hfl := fla_len hk
      refine ⟨.sl _ _ _ _ _ _ _ _ rfl hnc (fun i a hi => (hk i a hi).1) (by omega) (fun q _ hq => ?_) (fun i a hi j y hj => ?_), by simp [TC]⟩
      · rw [Nat.zero_add] at hq
        rw [hval q hq]
        have hq' : (fla xs)[q]? = some ((fla xs)[q]'(by omega)) := List.getElem?_eq_getElem (by omega)
        have h3 := hcv q _ hq'
        have h4 := (fla_all hk q _ hq').2.2
        exact VR.one' h3 h4
      · have hlt' : i < xs.length := (List.getElem?_eq_some_iff.1 hi).1
        have hjk : j < k := by rw [← (hk i a hi).1]; exact (List.getElem?_eq_some_iff.1 hj).1
        have hm : (i + 1) * k ≤ xs.length * k := Nat.mul_le_mul_right _ hlt'
        rw [Nat.succ_mul] at hm
        rw [Nat.zero_add, hval _ (by omega)]
        have hg := fla_get hk i j a hi hjk
        rw [List.getElem?_map, hj] at hg
        have h3 := hcv _ _ hg
        have hnp := allNp_get (hk i a hi).2.2.1 hj
        have h4 : VR C [] y.s1 (vs.getD (i * k + j) undef) := h3.np (fla_all hk _ _ hg).2.1
        have h5 : VR C' [] y.s1 (vs.getD (i * k + j) undef) := h4.mono hpre [] (fun _ _ h => h)
        cases y with
        | sl t k xs => exact h5.retag _
        | _ => exact h5
  · rcases he t with h1 | ⟨h1, h2⟩
    · have hf := h.fr t l k xs (by rw [← h1]; exact ht)
      cases l with
      | tmp u =>
        refine ⟨hf.1, fun hu => hf.2 ?_⟩
        rcases he u with g1 | ⟨g1, g2⟩
        · rwa [g1] at hu
        · rw [g2] at hu; cases hu
      | cell s' o =>
        intro ds a x g1 g2 g3 g4
        by_cases hn : s' = s
        · subst hn; rw [hself] at g1; injection g1 with g1; subst g1; simp at g2
        · rw [hset s' hn] at g1; exact hf ds a x g1 g2 g3 g4
    · rw [h2] at ht; cases ht
end
end Go.Am
namespace Go.Am
open Go
variable [Tabs]
section
variable {P : Program} {L : List Nat} {N n0 : Nat} {e e' : Env} {ah : AH} {K : Exit → Env → AH → Prop}
inductive FG (s k c : Nat) (xs : List AV) : Env → Env → Prop
  | nil : FG s k c xs [] []
  | same (i : Nat) (a : AV) (r r' : Env) : FG s k c xs r r' → FG s k c xs ((i, a) :: r) ((i, a) :: r')
  | lay (i n : Nat) (r r' : Env) : n = xs.length → FG s k c xs r r' → FG s k c xs ((i, .gsl s k n c) :: r) ((i, .sl .n k xs) :: r')
theorem FG.get {s k c : Nat} {xs : List AV} {e e' : Env} (h : FG s k c xs e e') (t : Nat) : Am.get e' t = Am.get e t ∨ (Am.get e t = .gsl s k xs.length c ∧ Am.get e' t = .sl .n k xs) := by
  induction h with
  | nil => exact .inl rfl
  | same i a r r' _ ih =>
    simp only [Am.get]
    by_cases hi : i = t
    · simp [hi]
    · simpa [hi] using ih
  | lay i n r r' hn _ ih =>
    simp only [Am.get]
    by_cases hi : i = t
    · exact .inr ⟨by simp [hi, hn], by simp [hi]⟩
    · simpa [hi] using ih
theorem AX.layG {c0 : ACode} {s k n1 c : Nat} {xs : List AV} (hkp : 0 < k) (hk : EK k xs) (hG : GF k n1 s xs c ah) (he : FG s k c xs e e')
    (h : ∀ H', (∀ s', s' < n1 ∨ (0 < c → s' ≠ s) → H'[s']? = ah[s']?) → H'.length = ah.length → AX P L N n0 c0 K e' H') : AX P L N n0 c0 K e ah := by
  intro c' hc' F γ C ts w hsr hn
  obtain ⟨C', h1, h2⟩ := hsr.layG hkp hk hG he.get
  have hsame : ∀ s', s' < n1 ∨ (0 < c → s' ≠ s) → (if c = 0 then ah else ah.set s [])[s']? = ah[s']? := by
    intro s' hs'
    rcases hG with ⟨rfl, -⟩ | ⟨g1, g2, -, -⟩
    · rw [if_pos rfl]
    · rw [if_neg (by omega), List.getElem?_set_ne]
      rcases hs' with h | h
      · omega
      · exact Ne.symm (h g2)
  refine wp_mono (h _ hsame (by split <;> simp) c' hc' F γ C' ts w h1 hn) ?_
  rintro x a w' ⟨q1, q2, e2, ah2, γ2, C2, q3, q4, q5, q6⟩
  exact ⟨q1, q2, e2, ah2, γ2, C2, q3, q4, q5, h2.trans q6⟩
end
end Go.Am
namespace Go.Am
open Go
variable [Tabs]
def EF {α : Type} (k : Nat) (f : α → AV) : Prop := ∀ x, (f x).cells.length = k ∧ allOk (f x).cells = true ∧ allNp (f x).cells = true ∧ allFlat (f x).cells = true
section
variable {α : Type} {f : α → AV} {k c j o n q : Nat} {X : List α} {x x' : α} {w : AV} {ah : AH}
theorem ml_get (h : X[j]? = some x) : (ml f X)[j]? = some (f x) := by simp [ml, h]
theorem ml_set : (ml f X).set j (f x') = ml f (X.set j x') := by simp [ml, List.map_set]
theorem gcsM_get (he : EF k f) (h : X[j]? = some x) (ho : o < k) : (gcs k (ml f X) c)[j * k + o]? = ((f x).cells.map AV.s1)[o]? := gcs_get (EK.ml he X) (ml_get h) ho
theorem gcsM_get0 (he : EF k f) (h : X[j]? = some x) (ho : 0 < k) : (gcs k (ml f X) c)[j * k]? = ((f x).cells.map AV.s1)[0]? := gcsM_get (o := 0) he h ho
theorem gcsM_over (he : EF k f) (h : X[j]? = some x) (ho : o < k) (hw : (f x').cells.map AV.s1 = ((f x).cells.map AV.s1).set o w) : over (gcs k (ml f X) c) (j * k + o) [w] = some (gcs k (ml f (X.set j x')) c) := by
  rw [gcs_over (EK.ml he X) (ml_get h) ho hw, ml_set]
theorem gcsM_over0 (he : EF k f) (h : X[j]? = some x) (ho : 0 < k) (hw : (f x').cells.map AV.s1 = ((f x).cells.map AV.s1).set 0 w) : over (gcs k (ml f X) c) (j * k) [w] = some (gcs k (ml f (X.set j x')) c) := gcsM_over (o := 0) he h ho hw
theorem GF.setM (h : GF k n q (ml f X) c ah) (hj : X[j]? = some x) : GF k n q (ml f (X.set j x')) c (ah.set q (gcs k (ml f (X.set j x')) c)) := by
  have := h.set (a' := f x') (ml_get hj)
  rwa [ml_set] at this
theorem GF.atM (h : GF k n q (ml f X) c ah) (hj : X[j]? = some x) : ah[q]? = some (gcs k (ml f X) c) := (h.at (ml_get hj)).2
theorem GF.geM (h : GF k n q (ml f X) c ah) (hj : X[j]? = some x) : n ≤ q := (h.at (ml_get hj)).1
end
theorem Fr.grow {H0 H H' : AH} {S : List Nat} {n q c : Nat} (h : Fr H0 n S H) (hs : ∀ s, s < H.length → s < n ∨ (0 < c → s ≠ q) → H'[s]? = H[s]?) (hl : H.length ≤ H'.length) : Fr H0 n S H' :=
  ⟨Nat.le_trans h.le hl, fun j hj hjS => (hs j (Nat.lt_of_lt_of_le hj h.le) (.inl hj)).trans (h.eq j hj hjS)⟩
theorem Fr.lay {H0 H H' : AH} {S : List Nat} {n q c : Nat} (h : Fr H0 n S H) (hs : ∀ s, s < n ∨ (0 < c → s ≠ q) → H'[s]? = H[s]?) (hl : H'.length = H.length) : Fr H0 n S H' :=
  ⟨by rw [hl]; exact h.le, fun j hj hjS => (hs j (.inl hj)).trans (h.eq j hj hjS)⟩
end Go.Am
