import Derived.Test.YtfnnmecilcnloaaDoorHP2
import Derived.Test.YtfnnmecilcnloaaDoorHSHeadFolds
set_option linter.unusedSimpArgs false
set_option linter.unusedVariables false
set_option linter.unusedSectionVars false
set_option linter.defProp false
set_option maxRecDepth 100000
namespace Go.Proofs.HeadS
open Go Go.Am Go.Proofs

def upc (c : UInt8) : UInt8 := if (decide (97 ≤ c) && decide (c ≤ 122)) = true then c - 32 else c
def Uf (s : List UInt8) (i : Nat) : List UInt8 := (s.map upc).take i ++ s.drop i
theorem Uf_get {s : List UInt8} {i : Nat} (hi : i ≤ s.length) (j : Nat) : (Uf s i)[j]? = if j < i then (s.map upc)[j]? else s[j]? := by
  unfold Uf
  have hl : ((s.map upc).take i).length = i := by simp; omega
  by_cases h : j < i
  · rw [if_pos h, List.getElem?_append_left (by omega), List.getElem?_take_of_lt h]
  · rw [if_neg h, List.getElem?_append_right (by omega), hl, List.getElem?_drop]
    congr 1; omega
theorem Uf_len {s : List UInt8} {i : Nat} (hi : i ≤ s.length) : (Uf s i).length = s.length := by
  unfold Uf; simp; omega
theorem Uf_set {s : List UInt8} {i : Nat} (hi : i < s.length) {c : UInt8} (hc : s[i]? = some c) : (Uf s i).set i (upc c) = Uf s (i + 1) := by
  apply List.ext_getElem?
  intro j
  rw [List.getElem?_set, Uf_get (by omega), Uf_get (by omega), Uf_len (by omega)]
  by_cases h : i = j
  · subst h
    rw [if_pos rfl, if_pos hi, if_pos (by omega), List.getElem?_map, hc]; rfl
  · rw [if_neg h]
    by_cases h2 : j < i
    · rw [if_pos h2, if_pos (by omega)]
    · rw [if_neg h2, if_neg (by omega)]
theorem Uf_all (s : List UInt8) : Uf s s.length = s.map upc := by
  unfold Uf; rw [List.drop_length, List.append_nil, List.take_of_length_le (by simp)]
theorem up_id {s : List UInt8} {i : Nat} {c : UInt8} (hi : i < s.length) (hc : s[i]? = some c) (h : ¬ (decide (97 ≤ c) && decide (c ≤ 122)) = true) : Uf s i = Uf s (i + 1) := by
  rw [← Uf_set hi hc]
  have hl : upc c = c := by unfold upc; rw [if_neg h]
  rw [hl]
  apply List.ext_getElem?
  intro j
  rw [List.getElem?_set, Uf_get (by omega), Uf_len (by omega)]
  by_cases h : i = j
  · subst h; rw [if_pos rfl, if_pos hi, if_neg (by omega), hc]
  · rw [if_neg h]
theorem up_a {s : List UInt8} {F : Nat} (hs : s.length ≤ 2100) (hF : s.length < F) : law18_upper F s = some (s.map upc) := by
  have hloop : ∀ (m i G : Nat), i + m = s.length → m < G → iter (law18_upper_l1 s) G ((i : Int), Uf s i) = some (.inr (s.map upc)) := by
    intro m
    induction m with
    | zero =>
      intro i G hi hG
      obtain ⟨G, rfl⟩ := F_succ hG
      have : i = s.length := by omega
      subst this
      rw [← Uf_all s]
      exact iter_brk (by simp only [law18_upper_l1]; rw [if_neg (by simp)])
    | succ m ih =>
      intro i G hi hG
      obtain ⟨G, rfl⟩ := F_succ (show 0 < G by omega)
      have hil : i < s.length := by omega
      have hc : s[i]? = some s[i] := List.getElem?_eq_getElem hil
      have hp : law18_upper_p1 s (i : Int) (Uf s i) = some (decide (97 ≤ s[i]) && decide (s[i] ≤ 122)) := by
        unfold law18_upper_p1
        rw [ixm_ok hil, Option.bind_some, Uf_get (by omega), if_neg (by omega), hc, Option.bind_some]
        by_cases h : 97 ≤ s[i] <;> simp [h]
      have hst : law18_upper_l1 s ((i : Int), Uf s i) = some (.nxt (((i + 1 : Nat) : Int), Uf s (i + 1))) := by
        simp only [law18_upper_l1]
        rw [if_pos (by simpa using hil), hp, Option.bind_some]
        by_cases h : (decide (97 ≤ s[i]) && decide (s[i] ≤ 122)) = true
        · have hl : s[i] - 32 = upc s[i] := by unfold upc; rw [if_pos h]
          rw [if_pos h, ixm_ok hil, Option.bind_some, Uf_get (by omega), if_neg (by omega), hc, Option.bind_some, setx_ok (by rw [Uf_len (by omega)]; exact hil), hl, Uf_set hil hc, Option.bind_some, wi (by omega)]
        · rw [if_neg h, up_id hil hc h, wi (by omega)]
      rw [iter_nxt hst]
      exact ih (i + 1) G (by omega) (by omega)
  unfold law18_upper
  rw [show ((0 : Int), s) = (((0 : Nat) : Int), Uf s 0) by simp [Uf], hloop s.length 0 F (by omega) hF]
  simp only [Option.bind_some]
  rw [sub_to (j := s.length) (by simp), List.take_of_length_le (by simp)]
  rfl


/-- gathering piece by piece, with a way out -/
theorem gather {α β ρ : Type} {s : List α} {body : List β × Int → Option (St ρ (List β) (List β × Int))} {g : α → List β} {p : α → Bool} {r0 : ρ} {B : Nat}
    (h1 : ∀ (i : Nat) x acc, s[i]? = some x → p x = true → acc.length ≤ B → body (acc, (i : Int)) = some (.nxt (acc ++ g x, ((i + 1 : Nat) : Int))))
    (h2 : ∀ (i : Nat) x acc, s[i]? = some x → p x = false → acc.length ≤ B → body (acc, (i : Int)) = some (.ret r0))
    (h3 : ∀ acc, acc.length ≤ B → body (acc, (s.length : Int)) = some (.brk acc)) {F : Nat} (hF : s.length < F) {a0 : List β} {K : Nat} (hg : ∀ x, p x = true → (g x).length ≤ K) (hB : a0.length + s.length * K ≤ B) :
    (s.all p = true → iter body F (a0, 0) = some (.inr (a0 ++ s.flatMap g))) ∧ (s.all p = false → iter body F (a0, 0) = some (.inl r0)) := by
  suffices h : ∀ (r : List α) (i F : Nat) (a0 : List β), s.drop i = r → i + r.length = s.length → r.length < F → a0.length + r.length * K ≤ B →
      (r.all p = true → iter body F (a0, (i : Int)) = some (.inr (a0 ++ r.flatMap g))) ∧ (r.all p = false → iter body F (a0, (i : Int)) = some (.inl r0)) from h s 0 F a0 rfl (by simp) hF hB
  intro r
  induction r with
  | nil =>
    intro i F a0 hd hl hF hB
    obtain ⟨G, rfl⟩ := F_succ hF
    have : i = s.length := by simpa using hl
    subst this
    exact ⟨fun _ => by rw [iter_brk (h3 a0 (by omega))]; simp, fun h => by simp at h⟩
  | cons x r ih =>
    intro i F a0 hd hl hF hB
    obtain ⟨G, rfl⟩ := F_succ hF
    obtain ⟨hi, hx, hr⟩ := drop_cons hd
    simp only [List.length_cons] at hl hF hB
    rw [Nat.succ_mul] at hB
    cases hp : p x with
    | true =>
      rw [iter_nxt (h1 i x a0 hx hp (by omega))]
      have := hg x hp
      have := ih (i + 1) G (a0 ++ g x) hr (by omega) (by omega) (by simp; omega)
      simpa [hp] using this
    | false =>
      rw [iter_ret (h2 i x a0 hx hp (by omega))]
      exact ⟨fun h => by simp [hp] at h, fun _ => rfl⟩

/-! ### the parts of the text -/
def lo (c : UInt8) : UInt8 := 97 + c % 26
def qu (c : UInt8) : UInt8 := 32 + c % 95
theorem lo_ok (c : UInt8) : good (lo c) = true ∧ lo c ≠ 58 ∧ lo c ≠ 13 ∧ good (upc (lo c)) = true ∧ upc (lo c) ≠ 58 ∧ upc (lo c) ≠ 13 ∧ upc (lo c) ≠ 32 ∧ upc (lo c) ≠ 9 ∧ low (upc (lo c)) = low (lo c) := by
  have := u8_all (p := fun c => good (lo c) && (lo c != 58) && (lo c != 13) && good (upc (lo c)) && (upc (lo c) != 58) && (upc (lo c) != 13) && (upc (lo c) != 32) && (upc (lo c) != 9) && (low (upc (lo c)) == low (lo c))) (by kernel_rfl) c
  simp only [Bool.and_eq_true, bne_iff_ne, beq_iff_eq] at this
  obtain ⟨⟨⟨⟨⟨⟨⟨⟨h1, h2⟩, h3⟩, h4⟩, h5⟩, h6⟩, h7⟩, h8⟩, h9⟩ := this
  exact ⟨h1, h2, h3, h4, h5, h6, h7, h8, h9⟩
theorem qu_ok (c : UInt8) : qu c ≠ 13 := by
  have := u8_all (p := fun c => qu c != 13) (by kernel_rfl) c
  simpa using this
theorem cg_nl {x more : List UInt8} (h : ∀ c ∈ x, c ≠ 13) : cg nl (x ++ (nl ++ more)) = some (x, more) := by
  induction x with
  | nil => simp [cg, List.isPrefixOf]
  | cons c x ih =>
    have h1 : ¬ (13 : UInt8) = c := fun e => h c (by simp) e.symm
    have hne : ∀ l, nl.isPrefixOf (c :: l) = false := fun l => by simp [List.isPrefixOf, h1]
    rw [List.cons_append, cg, hne, if_neg (by simp), ih (fun d hd => h d (by simp [hd]))]
    rfl
theorem cg_colon {x more : List UInt8} (h : ∀ c ∈ x, c ≠ 58) : cg [58] (x ++ 58 :: more) = some (x, more) := by
  induction x with
  | nil => simp [cg, List.isPrefixOf]
  | cons c x ih =>
    have h1 : ¬ (58 : UInt8) = c := fun e => h c (by simp) e.symm
    have hne : ∀ l, ([58] : List UInt8).isPrefixOf (c :: l) = false := fun l => by simp [List.isPrefixOf, h1]
    rw [List.cons_append, cg, hne, if_neg (by simp), ih (fun d hd => h d (by simp [hd]))]
    rfl
theorem spl_cont {x more : List UInt8} {s : List FieldV} (n : Nat) (h : ∀ c ∈ x, c ≠ 13) (hc : contd s x = true) : spl (n + 1) (x ++ (nl ++ more)) s = spl n more (ext s x) := by
  simp only [spl, cg_nl h]
  rw [if_pos hc]
theorem spl_fld {x more : List UInt8} {s : List FieldV} {f : FieldV} (n : Nat) (h : ∀ c ∈ x, c ≠ 13) (hc : contd s x = false) (hf : fldo x = some f) : spl (n + 1) (x ++ (nl ++ more)) s = spl n more (s ++ [f]) := by
  simp only [spl, cg_nl h]
  rw [if_neg (by simp [hc]), hf]
theorem spl_end {more : List UInt8} {s : List FieldV} (n : Nat) : spl (n + 1) (nl ++ more) s = (s, more) := by
  have := cg_nl (x := []) (more := more) (by simp)
  simp only [List.nil_append] at this
  simp only [spl, this]
  rw [if_neg (by simp [contd])]
  simp [fldo, cg]
theorem fldo_ok {a b : List UInt8} (h : ∀ c ∈ a, c ≠ 58) (hn : nmok a = true) : fldo (a ++ 58 :: b) = some ⟨a, b⟩ := by
  unfold fldo
  rw [cg_colon h]
  simp [hn]

/-- a part as a line -/
def lin (p : List UInt8) : List UInt8 := 9 :: p.map qu
theorem lin13 (p : List UInt8) : ∀ c ∈ lin p, c ≠ 13 := by
  intro c hc
  simp only [lin, List.mem_cons, List.mem_map] at hc
  rcases hc with rfl | ⟨d, -, rfl⟩
  · decide
  · exact qu_ok d
theorem conts (N more : List UInt8) (n : Nat) : ∀ (ps : List (List UInt8)) (v : List UInt8), spl (n + ps.length) (ps.flatMap (fun p => lin p ++ nl) ++ more) [⟨N, v⟩] = spl n more [⟨N, v ++ ps.flatMap (fun p => nl ++ lin p)⟩] := by
  intro ps
  induction ps with
  | nil => intro v; simp
  | cons p ps ih =>
    intro v
    have e : (p :: ps).flatMap (fun p => lin p ++ nl) ++ more = lin p ++ (nl ++ (ps.flatMap (fun p => lin p ++ nl) ++ more)) := by simp [List.flatMap_cons]
    rw [e, List.length_cons, ← Nat.add_assoc, spl_cont _ (lin13 p) (by simp [contd, lin])]
    have e2 : ext [⟨N, v⟩] (lin p) = [⟨N, v ++ (nl ++ lin p)⟩] := rfl
    rw [e2, ih]
    simp [List.flatMap_cons]
def ag : List UInt8 := [32, 97, 103, 97, 105, 110]
theorem reps (U more : List UInt8) (n : Nat) (h58 : ∀ c ∈ U, c ≠ 58) (h13 : ∀ c ∈ U, c ≠ 13) (hn : nmok U = true) (hh : ∀ s, contd s (U ++ 58 :: ag) = false) : ∀ (l : List Unit) (s : List FieldV),
    spl (n + l.length) (l.flatMap (fun _ => U ++ [58, 32, 97, 103, 97, 105, 110, 13, 10]) ++ more) s = spl n more (s ++ l.map (fun _ => ⟨U, ag⟩)) := by
  intro l
  induction l with
  | nil => intro s; simp
  | cons u l ih =>
    intro s
    have e : (u :: l).flatMap (fun _ => U ++ [58, 32, 97, 103, 97, 105, 110, 13, 10]) ++ more = (U ++ 58 :: ag) ++ (nl ++ (l.flatMap (fun _ => U ++ [58, 32, 97, 103, 97, 105, 110, 13, 10]) ++ more)) := by simp [List.flatMap_cons, ag]
    rw [e, List.length_cons, ← Nat.add_assoc, spl_fld _ ?_ (hh s) (fldo_ok h58 hn), ih]
    · simp
    · intro c hc
      simp only [ag, List.mem_append, List.mem_cons, List.mem_nil_iff, or_false] at hc
      rcases hc with hc | rfl | rfl | rfl | rfl | rfl | rfl | rfl <;> first | exact h13 c hc | decide
theorem rot (l : List (List UInt8)) : l.flatMap (fun p => nl ++ lin p) ++ nl = nl ++ l.flatMap (fun p => lin p ++ nl) := by
  induction l with
  | nil => rfl
  | cons p l ih => simp only [List.flatMap_cons, List.append_assoc, ih]
theorem fm_len {α : Type} {g : α → List UInt8} (h : ∀ x, 1 ≤ (g x).length) : ∀ l : List α, l.length ≤ (l.flatMap g).length
  | [] => by simp
  | x :: l => by have := fm_len h l; have := h x; simp only [List.flatMap_cons, List.length_append, List.length_cons]; omega
theorem fm_le {α : Type} {g : α → List UInt8} {K : Nat} : ∀ l : List α, (∀ x ∈ l, (g x).length ≤ K) → (l.flatMap g).length ≤ l.length * K
  | [], _ => by simp
  | x :: l, h => by have := fm_le l (fun y hy => h y (by simp [hy])); have := h x (by simp); simp only [List.flatMap_cons, List.length_append, List.length_cons, Nat.succ_mul]; omega
theorem gets (U v : List UInt8) : ∀ (l : List Unit) (m : Nat), (l.map fun _ => (⟨U, ag⟩ : FieldV)).foldl (gst U) (v, m + 1) = (v, m + 1 + l.length)
  | [], m => rfl
  | _ :: l, m => by
    have h1 : gst U (v, m + 1) ⟨U, ag⟩ = (v, m + 1 + 1) := by simp [gst]
    simp only [List.map_cons, List.foldl_cons, h1, gets U v l (m + 1), List.length_cons]
    congr 1; omega

/-! ### the law -/
theorem fm_one {α β : Type} (f : α → β) : ∀ l : List α, l.flatMap (fun c => [f c]) = l.map f
  | [] => rfl
  | x :: l => by simp [List.flatMap_cons, fm_one f l]
def fst0 : List UInt8 := [32, 102, 105, 114, 115, 116]
def vOf (parts : List (List UInt8)) : List UInt8 := fst0 ++ parts.flatMap (fun p => nl ++ lin p)
def endB : List UInt8 := [98, 111, 100, 121, 13, 10]
theorem loop1 {name : List UInt8} {F : Nat} (h : name.length ≤ 40) (hF : 50 < F) : iter (law18_HeadFolds_l1 name) F (([] : List UInt8), 0) = some (.inr (name.map lo)) := by
  have := (gather (s := name) (body := law18_HeadFolds_l1 name) (g := fun c => [lo c]) (p := fun _ => true) (r0 := true) (B := 100) ?_ ?_ ?_ (F := F) (by omega) (a0 := []) (K := 1) (by simp) (by simp; omega)).1 (by simp)
  · rw [this, List.nil_append, fm_one]
  · intro i x acc hx _ ha
    have hi : i < name.length := (List.getElem?_eq_some_iff.1 hx).1
    simp only [law18_HeadFolds_l1]
    rw [if_pos (by simpa using hi), idx_get hx]
    simp only [Option.bind_some]
    rw [cat_ok (by simp; omega), wi (by omega)]
    rfl
  · intro i x acc hx h; cases h
  · intro acc _
    simp only [law18_HeadFolds_l1]
    rw [if_neg (by simp)]
theorem loop2 {parts : List (List UInt8)} {i : Nat} {x : List UInt8} {F : Nat} (hx : parts[i]? = some x) (h : x.length ≤ 100) (hF : 200 < F) : iter (law18_HeadFolds_l2 parts (i : Int)) F (([9] : List UInt8), 0) = some (.inr (lin x)) := by
  have := (gather (s := x) (body := law18_HeadFolds_l2 parts (i : Int)) (g := fun c => [qu c]) (p := fun _ => true) (r0 := true) (B := 200) ?_ ?_ ?_ (F := F) (by omega) (a0 := [9]) (K := 1) (by simp) (by simp; omega)).1 (by simp)
  · rw [this, fm_one]; rfl
  · intro j c acc hc _ ha
    have hj : j < x.length := (List.getElem?_eq_some_iff.1 hc).1
    simp only [law18_HeadFolds_l2]
    rw [idx_get hx]
    simp only [Option.bind_some]
    rw [if_pos (by simpa using hj), idx_get hc]
    simp only [Option.bind_some]
    rw [cat_ok (by simp; omega), wi (by omega)]
    rfl
  · intro i x acc hx h; cases h
  · intro acc _
    simp only [law18_HeadFolds_l2]
    rw [idx_get hx]
    simp only [Option.bind_some]
    rw [if_neg (by simp)]
theorem loop3 {parts : List (List UInt8)} {F : Nat} (h : parts.length ≤ 20) (hF : 200 < F) :
    (parts.all (fun x => decide (x.length ≤ 100)) = true → iter (law18_HeadFolds_l3 F parts) F (fst0, 0) = some (.inr (vOf parts))) ∧
    (parts.all (fun x => decide (x.length ≤ 100)) = false → iter (law18_HeadFolds_l3 F parts) F (fst0, 0) = some (.inl true)) := by
  refine gather (s := parts) (body := law18_HeadFolds_l3 F parts) (g := fun p => nl ++ lin p) (r0 := true) (B := 3000) ?_ ?_ ?_ (F := F) (by omega) (a0 := fst0) (K := 103) (fun x hx => ?_) (by simp [fst0]; omega)
  · intro i x acc hx hp ha
    have hi : i < parts.length := (List.getElem?_eq_some_iff.1 hx).1
    have hl : x.length ≤ 100 := by simpa using hp
    simp only [law18_HeadFolds_l3]
    rw [if_pos (by simpa using hi), idx_get hx]
    simp only [Option.bind_some]
    rw [if_neg (by simp; omega), loop2 hx hl hF]
    simp only [Option.bind_some]
    rw [cat_ok (by simp; omega)]
    simp only [Option.bind_some]
    rw [cat_ok (by simp [lin]; omega), wi (by omega)]
    simp only [Option.bind_some, List.append_assoc]
  · intro i x acc hx hp ha
    have hi : i < parts.length := (List.getElem?_eq_some_iff.1 hx).1
    have hl : ¬ x.length ≤ 100 := by simpa using hp
    simp only [law18_HeadFolds_l3]
    rw [if_pos (by simpa using hi), idx_get hx]
    simp only [Option.bind_some]
    rw [if_pos (by simp; omega)]
  · intro acc _
    simp only [law18_HeadFolds_l3]
    rw [if_neg (by simp)]
  · have hl : x.length ≤ 100 := by simpa using hx
    simp [lin]; omega
theorem loop4 {N : List UInt8} {times : Int} {k F : Nat} (hk : times = (k : Int)) (h : k ≤ 20) (hN : N.length ≤ 40) (hF : 200 < F) {a0 : List UInt8} (ha : a0.length ≤ 4000) :
    iter (law18_HeadFolds_l4 F times N) F (a0, 0) = some (.inr (a0 ++ (List.replicate k ()).flatMap (fun _ => N.map upc ++ [58, 32, 97, 103, 97, 105, 110, 13, 10]))) := by
  refine (gather (s := List.replicate k ()) (body := law18_HeadFolds_l4 F times N) (g := fun _ => N.map upc ++ [58, 32, 97, 103, 97, 105, 110, 13, 10]) (p := fun _ => true) (r0 := true) (B := 6000) ?_ ?_ ?_ (F := F) (by simp; omega) (a0 := a0) (K := 50) (fun x hx => by simp; omega) (by simp; omega)).1 (by simp)
  · intro i x acc hx hp ha
    have hi : i < k := by have := (List.getElem?_eq_some_iff.1 hx).1; simpa using this
    simp only [law18_HeadFolds_l4]
    rw [if_pos (by simp; omega), up_a (by omega) (by omega)]
    simp only [Option.bind_some]
    rw [cat_ok (by simp; omega)]
    simp only [Option.bind_some]
    rw [cat_ok (by simp; omega), wi (by omega)]
    simp only [Option.bind_some, List.append_assoc]
  · intro i x acc hx h; cases h
  · intro acc _
    simp only [law18_HeadFolds_l4]
    rw [if_neg (by simp; omega)]

theorem splw_x {name : List UInt8} {parts : List (List UInt8)} {k : Nat} (h0 : name ≠ []) (h1 : name.length ≤ 40) :
    splw ((name.map lo ++ [58] ++ vOf parts ++ [13, 10] ++ (List.replicate k ()).flatMap (fun _ => (name.map lo).map upc ++ [58, 32, 97, 103, 97, 105, 110, 13, 10])) ++ [13, 10, 98, 111, 100, 121]) =
      (⟨name.map lo, vOf parts⟩ :: (List.replicate k ()).map (fun _ => ⟨(name.map lo).map upc, ag⟩), endB) := by
  obtain ⟨R, hR⟩ : ∃ R, R = (List.replicate k ()).flatMap (fun _ => (name.map lo).map upc ++ [58, 32, 97, 103, 97, 105, 110, 13, 10]) := ⟨_, rfl⟩
  have hRl : k ≤ R.length := by
    have := fm_len (g := fun _ : Unit => (name.map lo).map upc ++ [58, 32, 97, 103, 97, 105, 110, 13, 10]) (by simp) (List.replicate k ())
    rw [hR]; simpa using this
  rw [← hR]
  have hnN : ∀ c ∈ name.map lo, c ≠ 58 ∧ c ≠ 13 ∧ good c = true := by
    intro c hc
    obtain ⟨d, -, rfl⟩ := List.mem_map.1 hc
    have := lo_ok d
    exact ⟨this.2.1, this.2.2.1, this.1⟩
  have hnU : ∀ c ∈ (name.map lo).map upc, c ≠ 58 ∧ c ≠ 13 ∧ good c = true ∧ c ≠ 32 ∧ c ≠ 9 := by
    intro c hc
    obtain ⟨e, he, rfl⟩ := List.mem_map.1 hc
    obtain ⟨d, -, rfl⟩ := List.mem_map.1 he
    obtain ⟨-, -, -, h4, h5, h6, h7, h8, -⟩ := lo_ok d
    exact ⟨h5, h6, h4, h7, h8⟩
  have nN : nmok (name.map lo) = true := by
    unfold nmok
    have : (name.map lo).all good = true := List.all_eq_true.2 fun c hc => (hnN c hc).2.2
    rw [this]; simp [h0]; omega
  have nU : nmok ((name.map lo).map upc) = true := by
    unfold nmok
    have : ((name.map lo).map upc).all good = true := List.all_eq_true.2 fun c hc => (hnU c hc).2.2.1
    rw [this]; simp [h0]; omega
  obtain ⟨X, hX⟩ : ∃ X, X = (name.map lo ++ [58] ++ vOf parts ++ [13, 10] ++ R) ++ [13, 10, 98, 111, 100, 121] := ⟨_, rfl⟩
  rw [← hX]
  have hw : whole X = X ++ nl := by
    unfold whole
    rw [if_neg]
    rintro (h | h)
    · rw [hX] at h; simp at h
    · obtain ⟨w, hw⟩ := List.isSuffixOf_iff_suffix.1 h
      have e1 : X = (name.map lo ++ [58] ++ vOf parts ++ [13, 10] ++ R ++ [13, 10, 98, 111, 100]) ++ [121] := by rw [hX]; simp
      have e2 : w ++ nl = (w ++ [13]) ++ [10] := by simp
      have := congrArg List.getLast? hw
      rw [e1, e2, List.getLast?_concat, List.getLast?_concat] at this
      simp at this
  have hform : X ++ nl = (name.map lo ++ 58 :: fst0) ++ (nl ++ (parts.flatMap (fun p => lin p ++ nl) ++ (R ++ (nl ++ endB)))) := by
    have := rot parts
    have e : X ++ nl = (name.map lo ++ 58 :: fst0) ++ ((parts.flatMap (fun p => nl ++ lin p) ++ nl) ++ (R ++ (nl ++ endB))) := by
      rw [hX]; simp [vOf, endB]
    rw [e, this]; simp
  have hlen : k + parts.length + 1 ≤ (X ++ nl).length := by
    have := fm_len (g := fun p => lin p ++ nl) (by simp) parts
    rw [hform]
    simp only [List.length_append, List.length_cons] at *
    omega
  obtain ⟨m, hm⟩ : ∃ m, (X ++ nl).length + 1 = m + 1 + k + parts.length + 1 := ⟨(X ++ nl).length - (k + parts.length + 1), by omega⟩
  unfold splw
  rw [hw, hm, hform, spl_fld _ ?_ (by simp [contd]) (fldo_ok (fun c hc => (hnN c hc).1) nN), List.nil_append, conts]
  · have hk : m + 1 + k = m + 1 + (List.replicate k ()).length := by simp
    rw [hk, hR, reps _ _ _ (fun c hc => (hnU c hc).1) (fun c hc => (hnU c hc).2.1) nU ?_, spl_end]
    · rfl
    · intro s
      unfold contd
      cases name with
      | nil => exact absurd rfl h0
      | cons d r =>
        obtain ⟨-, -, -, h4, h5⟩ := hnU (upc (lo d)) (by simp)
        simp [h4, h5]
  · intro c hc
    simp only [fst0, List.mem_append, List.mem_cons, List.mem_nil_iff, or_false] at hc
    rcases hc with hc | rfl | rfl | rfl | rfl | rfl | rfl | rfl <;> first | exact (hnN c hc).2.1 | decide
theorem headFolds_law (parts : List (List UInt8)) (name : List UInt8) (times : Int) : ∃ F, law18_HeadFolds F parts name times = some true := by
  refine ⟨29900 + 100, ?_⟩
  unfold law18_HeadFolds
  rw [known_a]
  simp only [Option.bind_some, Bool.not_true, Bool.false_eq_true, if_false]
  by_cases h : 20 < parts.length ∨ name.length = 0 ∨ 40 < name.length ∨ times < 0 ∨ 20 < times
  · rw [if_pos (by simp only [Bool.or_eq_true, decide_eq_true_eq]; omega)]
  · rw [if_neg (by simp only [Bool.or_eq_true, decide_eq_true_eq]; omega)]
    have hp : parts.length ≤ 20 := by omega
    have hn0 : name ≠ [] := fun e => h (.inr (.inl (by rw [e]; rfl)))
    have hn : name.length ≤ 40 := by omega
    obtain ⟨k, hk⟩ : ∃ k : Nat, times = (k : Int) := ⟨times.toNat, by omega⟩
    have hk2 : k ≤ 20 := by omega
    rw [loop1 hn (by omega)]
    simp only [Option.bind_some]
    have h3 := loop3 (F := 29900 + 100) hp (by omega)
    cases hall : parts.all (fun x => decide (x.length ≤ 100)) with
    | false =>
      have := h3.2 hall
      rw [show fst0 = [32, 102, 105, 114, 115, 116] from rfl] at this
      rw [this]; rfl
    | true =>
      have := h3.1 hall
      rw [show fst0 = [32, 102, 105, 114, 115, 116] from rfl] at this
      rw [this]
      simp only [Option.bind_some]
      have hv : (vOf parts).length ≤ 2066 := by
        have := fm_le (g := fun p => nl ++ lin p) (K := 103) parts (fun x hx => by
          have := List.all_eq_true.1 hall x hx
          simp [lin] at this ⊢; omega)
        simp only [vOf, List.length_append, fst0, List.length_cons, List.length_nil]
        omega
      have hR : ((List.replicate k ()).flatMap (fun _ => (name.map lo).map upc ++ [58, 32, 97, 103, 97, 105, 110, 13, 10])).length ≤ 20 * 50 := by
        have := fm_le (g := fun _ : Unit => (name.map lo).map upc ++ [58, 32, 97, 103, 97, 105, 110, 13, 10]) (K := 50) (List.replicate k ()) (fun x hx => by simp; omega)
        simp only [List.length_replicate] at this
        omega
      rw [cat_ok (by simp; omega)]
      simp only [Option.bind_some]
      rw [cat_ok (by simp only [List.length_append, List.length_map, List.length_cons, List.length_nil]; omega)]
      simp only [Option.bind_some]
      rw [cat_ok (by simp only [List.length_append, List.length_map, List.length_cons, List.length_nil]; omega)]
      simp only [Option.bind_some]
      rw [loop4 (k := k) hk hk2 (by simpa using hn) (by omega) (by simp only [List.length_append, List.length_map, List.length_cons, List.length_nil]; omega)]
      simp only [Option.bind_some]
      rw [cat_ok (by simp only [List.length_append, List.length_map, List.length_cons, List.length_nil]; omega)]
      simp only [Option.bind_some]
      rw [Split_a (by simp only [List.length_append, List.length_map, List.length_cons, List.length_nil]; omega) (by omega), splw_x hn0 hn]
      simp only [Option.bind_some]
      rw [up_a (by simp; omega) (by simp; omega)]
      simp only [Option.bind_some]
      rw [get_a (by simp; omega) (by simp; omega) ?_ (by omega) (by simp; omega)]
      · have hg : getf (⟨name.map lo, vOf parts⟩ :: (List.replicate k ()).map (fun _ => ⟨(name.map lo).map upc, ag⟩)) ((name.map lo).map upc) = (vOf parts, 1 + k) := by
          unfold getf
          have e : (name.map lo).map low = ((name.map lo).map upc).map low := by
            simp only [List.map_map]
            apply List.map_congr_left
            intro c _
            exact (lo_ok c).2.2.2.2.2.2.2.2.symm
          have h1 : gst ((name.map lo).map upc) ([], 0) ⟨name.map lo, vOf parts⟩ = (vOf parts, 0 + 1) := by
            unfold gst
            rw [if_pos e]; rfl
          rw [List.foldl_cons, h1, gets]
          simp
        rw [hg]
        simp only [Option.bind_some]
        unfold law18_HeadFolds_p2
        have ew : IntKind.wrap .i64 (1 + times) = ((1 + k : Nat) : Int) := by rw [wr (by omega) (by omega)]; omega
        rw [ew, if_pos (by simp; omega), show ∀ (a : FieldV) (l : List FieldV), idx (a :: l) 0 = some a from fun a l => by simp [idx]]
        simp only [Option.bind_some]
        simp [endB]
      · intro f hf
        simp only [List.mem_cons, List.mem_map] at hf
        rcases hf with rfl | ⟨u, -, rfl⟩
        · simp; omega
        · simp; omega
end Go.Proofs.HeadS
