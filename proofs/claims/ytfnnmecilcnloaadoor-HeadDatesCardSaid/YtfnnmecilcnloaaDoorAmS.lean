import Derived.Test.YtfnnmecilcnloaaDoorAmX
set_option linter.unusedSimpArgs false
set_option linter.unusedVariables false
set_option linter.unusedSectionVars false
set_option linter.defProp false
namespace Go.Am
open Go
variable [Tabs]

/-! ### the words of plain functions -/
def idx {α : Type} (l : List α) (i : Int) : Option α := if 0 ≤ i then l[i.toNat]? else none
def sub {α : Type} (l : List α) (i j : Int) : Option (List α) := if 0 ≤ i ∧ i ≤ j ∧ j ≤ l.length then some ((l.take j.toNat).drop i.toNat) else none
def capp {α : Type} (b : Nat) (xs ys : List α) : Option (List α) := if (xs.length + ys.length) * b ≤ 140737488355328 ∧ xs.length + ys.length ≤ 4611686018427387904 then some (xs ++ ys) else none
def cat (l m : List UInt8) : Option (List UInt8) := if l.length + m.length ≤ 9223372036854775807 then some (l ++ m) else none
def ml {α : Type} (f : α → AV) (xs : List α) : List AV := xs.map f
def dv (k : IntKind) (i j : Int) : Option Int := if j = 0 then none else some (k.wrap (i.tdiv j))
def rm (k : IntKind) (i j : Int) : Option Int := if j = 0 then none else some (i.tmod j)
def shl (k : IntKind) (i j : Int) : Int := k.wrap (i * 2 ^ (min j.toNat k.bits))
def shr (k : IntKind) (i j : Int) : Int := i.fdiv (2 ^ (min j.toNat k.bits))
def iand (k : IntKind) (i j : Int) : Int := k.wrap (BitVec.ofInt k.bits i &&& BitVec.ofInt k.bits j).toNat
def ior (k : IntKind) (i j : Int) : Int := k.wrap (BitVec.ofInt k.bits i ||| BitVec.ofInt k.bits j).toNat
def ixor (k : IntKind) (i j : Int) : Int := k.wrap (BitVec.ofInt k.bits i ^^^ BitVec.ofInt k.bits j).toNat
def iint (k : IntKind) (i : Int) : AV := .int k i

theorem bnd' {α β : Type} {o : Option α} {f : α → Option β} {r : β} (h : o.bind f = some r) : ∃ x, o = some x ∧ f x = some r := Option.bind_eq_some_iff.1 h
theorem ifb {β : Type} {B : Bool} {x y : Option β} {r : β} (h : (if B = true then x else y) = some r) : (B = true ∧ x = some r) ∨ (B = false ∧ y = some r) := by
  cases B
  · exact .inr ⟨rfl, h⟩
  · exact .inl ⟨rfl, h⟩
theorem ifn {β : Type} {p : Prop} [Decidable p] {x : Option β} {r : β} (h : (if p then x else none) = some r) : p ∧ x = some r := by
  split at h
  · exact ⟨by assumption, h⟩
  · cases h

theorem idx_ml {α : Type} (f : α → AV) (l : List α) (i : Int) : idx (ml f l) i = (idx l i).map f := by
  unfold idx ml; split <;> simp
theorem sub_ml {α : Type} (f : α → AV) (l : List α) (i j : Int) : sub (ml f l) i j = (sub l i j).map (ml f) := by
  unfold sub ml; simp only [List.length_map]; split <;> simp [List.map_take, List.map_drop, ml]
theorem len_ml {α : Type} (f : α → AV) (l : List α) : (ml f l).length = l.length := by simp [ml]
theorem capp_m {α : Type} {f : α → AV} {b : Nat} {xs ys zs : List α} (h : capp b xs ys = some zs) : capp b (ml f xs) (ml f ys) = some (ml f zs) := by
  unfold capp at h ⊢
  simp only [len_ml]
  obtain ⟨hc, h⟩ := ifn h
  rw [if_pos hc]
  injection h with h
  subst h
  simp [ml]
theorem bytesOf_ml (l : List UInt8) : bytesOf (ml b8 l) = some l := bytesOf_b8 l

section
variable {P : Program} {L : List Nat} {N n0 : Nat} {e : Env} {ah : AH} {t : List It} {Q : Exit → Env → AH → Prop} {r : List AOper} {d : Option Nat} {g : Option (Nat × Bool)}
theorem S_lit {y : Nat} {bs : List UInt8} : UG P L N n0 ⟨d, .lit y bs, g⟩ r t Q e ah (some true) = U P L N n0 (It.ops r :: t) Q Exit.normal (put (putv L e d (.sl .ex 1 (ml b8 bs))) y .un) ah := rfl
theorem ixsK_s {l : List UInt8} {k : IntKind} {i : Int} : ixsK L e ah d (.str l) (.int k i) = (idx l i).map fun c => (putv L e d (b8 c), ah) := by
  simp only [ixsK, idx]
  split
  · cases l[i.toNat]? <;> rfl
  · rfl
theorem ixaK_s {tg : Tg} {k : Nat} {xs : List AV} {ki : IntKind} {i : Int} : ixaK L e ah d k (.sl tg k xs) (.int ki i) = (idx xs i).map fun a => (putv L e d (.ep a 0), ah) := by
  simp only [ixaK, idx]
  split
  · cases xs[i.toNat]? <;> simp [ixaB]
  · rfl
/-- a bound of a slice -/
def bI (e : Env) (dflt : Int) : Option Ar → AV
  | none => .int .i64 dflt
  | some x => ev e x
def slsI (L : List Nat) (e : Env) (ah : AH) (d : Option Nat) (l : List UInt8) : AV → AV → Option (Env × AH)
  | .int _ i, .int _ j => (sub l i j).map fun m => (putv L e d (.str m), ah)
  | _, _ => none
theorem bI_bnd {n : Nat} {x : Option Ar} : bnd e n x = bndI (bI e n x) := by
  cases x with
  | none => simp [bnd, bI, bndI]
  | some x => simp only [bnd_s, bI]
theorem bI_bnd0 {x : Option Ar} : bnd e 0 x = bndI (bI e 0 x) := bI_bnd (n := 0)
theorem bndI_int {k : IntKind} {i : Int} : bndI (.int k i) = if 0 ≤ i then some i.toNat else none := rfl
theorem sub_nat {α : Type} (l : List α) (i j : Int) : sub l i j = if 0 ≤ i then if 0 ≤ j then if i.toNat ≤ j.toNat ∧ j.toNat ≤ l.length then some ((l.take j.toNat).drop i.toNat) else none else none else none := by
  unfold sub
  by_cases h1 : 0 ≤ i
  · by_cases h2 : 0 ≤ j
    · simp only [if_pos h1, if_pos h2]
      have : (0 ≤ i ∧ i ≤ j ∧ j ≤ (l.length : Int)) ↔ (i.toNat ≤ j.toNat ∧ j.toNat ≤ l.length) := by omega
      simp only [this]
    · rw [if_neg (by omega)]; simp [h2]
  · rw [if_neg (by omega)]; simp [h1]
theorem slsK_s {l : List UInt8} {lo hi : Option Ar} : slsK L e ah d lo hi (.str l) = slsI L e ah d l (bI e 0 lo) (bI e l.length hi) := by
  simp only [slsK, bI_bnd0, bI_bnd]
  generalize bI e 0 lo = a
  generalize bI e l.length hi = b
  cases a with
  | int k i =>
    cases b with
    | int k' j =>
      simp only [bndI, slsI, sub_nat]
      by_cases h1 : 0 ≤ i <;> by_cases h2 : 0 ≤ j <;> simp only [h1, h2, if_true, if_false, slsB, Option.map_none]
      split <;> rfl
    | _ => simp only [bndI, slsI]; split <;> rfl
  | _ => cases b <;> rfl
def slcI (L : List Nat) (e : Env) (ah : AH) (d : Option Nat) (k : Nat) (xs : List AV) : AV → AV → Option (Env × AH)
  | .int _ i, .int _ j => (sub xs i j).map fun ys => (putv L e d (.sl .n k ys), ah)
  | _, _ => none
theorem slcK_s {tg : Tg} {k : Nat} {xs : List AV} {lo hi : Option Ar} : slcK L e ah d k lo hi (.sl tg k xs) = slcI L e ah d k xs (bI e 0 lo) (bI e xs.length hi) := by
  simp only [slcK, bI_bnd0, bI_bnd]
  generalize bI e 0 lo = a
  generalize bI e xs.length hi = b
  cases a with
  | int k i =>
    cases b with
    | int k' j =>
      simp only [bndI, slcI, sub_nat]
      by_cases h1 : 0 ≤ i <;> by_cases h2 : 0 ≤ j <;> simp only [h1, h2, if_true, if_false, slcB, Option.map_none, true_and]
      split <;> rfl
    | _ => simp only [bndI, slcI]; split <;> rfl
  | _ => cases b <;> rfl
/-- three bounds: the second is the third -/
def sub3 {α : Type} (l : List α) (i j m : Int) : Option (List α) := if j = m then sub l i j else none
theorem sub3_ml {α : Type} (f : α → AV) (l : List α) (i j m : Int) : sub3 (ml f l) i j m = (sub3 l i j m).map (ml f) := by
  unfold sub3; split
  · exact sub_ml ..
  · rfl
def slc3I (L : List Nat) (e : Env) (ah : AH) (d : Option Nat) (k : Nat) (xs : List AV) : AV → AV → AV → Option (Env × AH)
  | .int _ i, .int _ j, .int _ m => (sub3 xs i j m).map fun ys => (putv L e d (.sl .ex k ys), ah)
  | _, _, _ => none
theorem slc3K_s {tg : Tg} {k : Nat} {xs : List AV} {lo : Option Ar} {hi m : Ar} : slc3K L e ah d k lo hi m (.sl tg k xs) = slc3I L e ah d k xs (bI e 0 lo) (ev e hi) (ev e m) := by
  simp only [slc3K, bI_bnd0, bnd_s]
  generalize bI e 0 lo = a
  generalize ev e hi = b
  generalize ev e m = c
  cases a with
  | int k i =>
    cases b with
    | int k' j =>
      cases c with
      | int k'' l =>
        simp only [bndI, slc3I, sub3, sub_nat]
        by_cases h1 : 0 ≤ i <;> by_cases h2 : 0 ≤ j <;> by_cases h3 : 0 ≤ l <;> by_cases h4 : j = l <;> simp only [h1, h2, h3, h4, if_true, if_false, slc3B, Option.map_none, true_and]
        all_goals first
          | rfl
          | (exfalso; omega)
          | (subst h4; split <;> rename_i q <;> split <;> rename_i q2 <;> first | rfl | (exfalso; omega))
          | (split <;> first | rfl | (exfalso; omega))
      | _ => simp only [bndI, slc3I]; repeat' split
             all_goals first | rfl | skip
    | _ => simp only [bndI, slc3I]; repeat' split
           all_goals first | rfl | skip
  | _ => cases b <;> cases c <;> rfl
theorem appK_s {tg : Tg} {k b : Nat} {x : Ar} {ys : List AV} : appK L e ah d k b x (.sl tg k ys) = aapp L e ah d k b x ys := by simp [appK]
theorem appsK_s {b : Nat} {x : Ar} {l : List UInt8} : appsK L e ah d b x (.str l) = aapp L e ah d 1 b x (ml b8 l) := rfl
def aappT (L : List Nat) (e : Env) (ah : AH) (d : Option Nat) (k : Nat) (x : Ar) (xs zs : List AV) : Tg → Option (Env × AH)
  | .ex => some (putv L e d (.sl .own k zs), ah)
  | .own => match x with
    | .t x => some (putv L (put e x (.sl .n k xs)) d (.sl .own k zs), ah)
    | _ => none
  | .fr (.tmp t) => match get e t with
    | .sl .own k' us => if k' = k then some (putv L (put e t (.sl .n k' us)) d (.sl .own k zs), ah) else none
    | _ => none
  | .fr (.cell s q) => match ah[s]? with
    | some cs => match cs[q]? with
      | some (.sl .own k' us) => if k' = k then (over cs q [.sl .n k' us]).map fun cs => (putv L e d (.sl .own k zs), ah.set s cs) else none
      | _ => none
    | none => none
  | .n => none
def aappO (L : List Nat) (e : Env) (ah : AH) (d : Option Nat) (k : Nat) (x : Ar) (xs : List AV) (tg : Tg) : Option (List AV) → Option (Env × AH)
  | some zs => aappT L e ah d k x xs zs tg
  | none => none
theorem aappO_s {L : List Nat} {e : Env} {ah : AH} {d : Option Nat} {k : Nat} {x : Ar} {xs zs : List AV} {tg : Tg} : aappO L e ah d k x xs tg (some zs) = aappT L e ah d k x xs zs tg := rfl
def aappV (L : List Nat) (e : Env) (ah : AH) (d : Option Nat) (k b : Nat) (x : Ar) (ys : List AV) : AV → Option (Env × AH)
  | .sl tg k' xs => if k' = k then aappO L e ah d k x xs tg (capp b xs ys) else none
  | _ => none
theorem aapp_s {k b : Nat} {x : Ar} {ys : List AV} : aapp L e ah d k b x ys = aappV L e ah d k b x ys (ev e x) := by
  simp only [aapp]
  cases ev e x with
  | sl tg k' xs =>
    simp only [aappV, capp]
    by_cases h1 : k' = k
    · subst h1
      simp only [true_and, if_true]
      by_cases h2 : (xs.length + ys.length) * b ≤ 140737488355328 ∧ xs.length + ys.length ≤ 4611686018427387904
      · simp only [if_pos h2, aappO]
        cases tg with
        | fr l => cases l with
          | tmp u =>
            simp only [aappT]
            cases get e u with
            | sl tg2 k2 zs => cases tg2 <;> rfl
            | _ => rfl
          | cell s q =>
            simp only [aappT]
            cases ah[s]? with
            | none => rfl
            | some cs =>
              simp only []
              cases cs[q]? with
              | none => rfl
              | some a => cases a with
                | sl tg2 k2 zs => cases tg2 <;> rfl
                | _ => rfl
        | own => cases x <;> rfl
        | _ => rfl
      · simp only [if_neg h2, aappO]
    · simp [h1]
  | _ => rfl
end

/-! ### numbers -/
theorem B_add {k : IntKind} {i j : Int} : abin .add (.int k i) (.int k j) = some (.int k (k.wrap (i + j))) := by simp [abin, iarith]
theorem B_sub {k : IntKind} {i j : Int} : abin .sub (.int k i) (.int k j) = some (.int k (k.wrap (i - j))) := by simp [abin, iarith]
theorem B_mul {k : IntKind} {i j : Int} : abin .mul (.int k i) (.int k j) = some (.int k (k.wrap (i * j))) := by simp [abin, iarith]
theorem B_quo {k : IntKind} {i j : Int} : abin .quo (.int k i) (.int k j) = (dv k i j).map (.int k) := by simp [abin, iarith, dv]; split <;> rfl
theorem B_rem {k : IntKind} {i j : Int} : abin .rem (.int k i) (.int k j) = (rm k i j).map (.int k) := by simp [abin, iarith, rm]; split <;> rfl
theorem B_and {k : IntKind} {i j : Int} : abin .and (.int k i) (.int k j) = some (.int k (iand k i j)) := by simp [abin, iarith, iand]
theorem B_or {k : IntKind} {i j : Int} : abin .or (.int k i) (.int k j) = some (.int k (ior k i j)) := by simp [abin, iarith, ior]
theorem B_xor {k : IntKind} {i j : Int} : abin .xor (.int k i) (.int k j) = some (.int k (ixor k i j)) := by simp [abin, iarith, ixor]
theorem B_shl {k k' : IntKind} {i j : Int} : abin .shl (.int k i) (.int k' j) = if j < 0 then none else some (.int k (shl k i j)) := by simp [abin, shl]
theorem B_shr {k k' : IntKind} {i j : Int} : abin .shr (.int k i) (.int k' j) = if j < 0 then none else some (.int k (shr k i j)) := by simp [abin, shr]
theorem B_eql {k : IntKind} {i j : Int} : abin .eql (.int k i) (.int k j) = some (.bool (decide (i = j))) := by simp [abin, iarith]
theorem B_neq {k : IntKind} {i j : Int} : abin .neq (.int k i) (.int k j) = some (.bool (!decide (i = j))) := by simp [abin, iarith]
theorem B_lss {k : IntKind} {i j : Int} : abin .lss (.int k i) (.int k j) = some (.bool (decide (i < j))) := by simp [abin, iarith]
theorem B_leq {k : IntKind} {i j : Int} : abin .leq (.int k i) (.int k j) = some (.bool (decide (i ≤ j))) := by simp [abin, iarith]
theorem B_gtr {k : IntKind} {i j : Int} : abin .gtr (.int k i) (.int k j) = some (.bool (decide (j < i))) := by simp [abin, iarith]
theorem B_geq {k : IntKind} {i j : Int} : abin .geq (.int k i) (.int k j) = some (.bool (decide (j ≤ i))) := by simp [abin, iarith]
theorem C_shr1 {k k' : IntKind} {i : Int} : abin .shr (.int k i) (.int k' 1) = some (.int k (shr k i 1)) := by simp [abin, shr]
theorem C_shl1 {k k' : IntKind} {i : Int} : abin .shl (.int k i) (.int k' 1) = some (.int k (shl k i 1)) := by simp [abin, shl]
theorem C_shr2 {k k' : IntKind} {i : Int} : abin .shr (.int k i) (.int k' 2) = some (.int k (shr k i 2)) := by simp [abin, shr]
theorem C_shl2 {k k' : IntKind} {i : Int} : abin .shl (.int k i) (.int k' 2) = some (.int k (shl k i 2)) := by simp [abin, shl]
theorem C_shr3 {k k' : IntKind} {i : Int} : abin .shr (.int k i) (.int k' 3) = some (.int k (shr k i 3)) := by simp [abin, shr]
theorem C_shl3 {k k' : IntKind} {i : Int} : abin .shl (.int k i) (.int k' 3) = some (.int k (shl k i 3)) := by simp [abin, shl]
theorem C_shr4 {k k' : IntKind} {i : Int} : abin .shr (.int k i) (.int k' 4) = some (.int k (shr k i 4)) := by simp [abin, shr]
theorem C_shl4 {k k' : IntKind} {i : Int} : abin .shl (.int k i) (.int k' 4) = some (.int k (shl k i 4)) := by simp [abin, shl]
theorem C_shr5 {k k' : IntKind} {i : Int} : abin .shr (.int k i) (.int k' 5) = some (.int k (shr k i 5)) := by simp [abin, shr]
theorem C_shl5 {k k' : IntKind} {i : Int} : abin .shl (.int k i) (.int k' 5) = some (.int k (shl k i 5)) := by simp [abin, shl]
theorem C_shr6 {k k' : IntKind} {i : Int} : abin .shr (.int k i) (.int k' 6) = some (.int k (shr k i 6)) := by simp [abin, shr]
theorem C_shl6 {k k' : IntKind} {i : Int} : abin .shl (.int k i) (.int k' 6) = some (.int k (shl k i 6)) := by simp [abin, shl]
theorem C_shr7 {k k' : IntKind} {i : Int} : abin .shr (.int k i) (.int k' 7) = some (.int k (shr k i 7)) := by simp [abin, shr]
theorem C_shl7 {k k' : IntKind} {i : Int} : abin .shl (.int k i) (.int k' 7) = some (.int k (shl k i 7)) := by simp [abin, shl]
theorem C_shr8 {k k' : IntKind} {i : Int} : abin .shr (.int k i) (.int k' 8) = some (.int k (shr k i 8)) := by simp [abin, shr]
theorem C_shl8 {k k' : IntKind} {i : Int} : abin .shl (.int k i) (.int k' 8) = some (.int k (shl k i 8)) := by simp [abin, shl]
theorem C_shr16 {k k' : IntKind} {i : Int} : abin .shr (.int k i) (.int k' 16) = some (.int k (shr k i 16)) := by simp [abin, shr]
theorem C_shl16 {k k' : IntKind} {i : Int} : abin .shl (.int k i) (.int k' 16) = some (.int k (shl k i 16)) := by simp [abin, shl]
theorem C_shr24 {k k' : IntKind} {i : Int} : abin .shr (.int k i) (.int k' 24) = some (.int k (shr k i 24)) := by simp [abin, shr]
theorem C_shl24 {k k' : IntKind} {i : Int} : abin .shl (.int k i) (.int k' 24) = some (.int k (shl k i 24)) := by simp [abin, shl]
theorem B_cat {l m : List UInt8} : abin .add (.str l) (.str m) = (cat l m).map .str := by simp only [abin, cat]; split <;> rfl
theorem B_seq {l m : List UInt8} : abin .eql (.str l) (.str m) = some (.bool (decide (l = m))) := rfl
theorem B_sne {l m : List UInt8} : abin .neq (.str l) (.str m) = some (.bool (!decide (l = m))) := rfl

theorem u8_wrap (n : Int) : IntKind.wrap .u8 n = ((UInt8.ofInt n).toNat : Int) := by
  have : (UInt8.ofInt n).toNat = (n % 256).toNat := by
    rw [UInt8.ofInt]
    simp
    omega
  rw [this]
  simp only [IntKind.wrap, IntKind.bits, IntKind.signed, Bool.false_and, if_false, Bool.false_eq_true]
  omega
theorem u8_add (a b : UInt8) : IntKind.wrap .u8 ((a.toNat : Int) + b.toNat) = ((a + b).toNat : Int) := by
  have h1 := a.toNat_lt
  have h2 := b.toNat_lt
  simp only [IntKind.wrap, IntKind.bits, IntKind.signed, Bool.false_and, if_false, Bool.false_eq_true, UInt8.toNat_add]
  omega
theorem u8_sub (a b : UInt8) : IntKind.wrap .u8 ((a.toNat : Int) - b.toNat) = ((a - b).toNat : Int) := by
  have h1 := a.toNat_lt
  have h2 := b.toNat_lt
  simp only [IntKind.wrap, IntKind.bits, IntKind.signed, Bool.false_and, if_false, Bool.false_eq_true, UInt8.toNat_sub]
  omega
theorem u8_id (a : UInt8) : IntKind.wrap .u8 (a.toNat : Int) = (a.toNat : Int) := by
  have h1 := a.toNat_lt
  simp only [IntKind.wrap, IntKind.bits, IntKind.signed, Bool.false_and, if_false, Bool.false_eq_true]
  omega
theorem ofInt8 (a : UInt8) : BitVec.ofInt 8 (a.toNat : Int) = a.toBitVec := by
  apply BitVec.eq_of_toNat_eq; simp
theorem C_add {a b : UInt8} : abin .add (b8 a) (b8 b) = some (b8 (a + b)) := by simp only [b8]; rw [B_add, u8_add]
theorem C_sub {a b : UInt8} : abin .sub (b8 a) (b8 b) = some (b8 (a - b)) := by simp only [b8]; rw [B_sub, u8_sub]
theorem C_and {a b : UInt8} : abin .and (b8 a) (b8 b) = some (b8 (a &&& b)) := by
  simp only [b8]; rw [B_and, iand]
  have : ((BitVec.ofInt IntKind.u8.bits (a.toNat : Int) &&& BitVec.ofInt IntKind.u8.bits (b.toNat : Int)).toNat : Int) = ((a &&& b).toNat : Int) := by
    simp only [IntKind.bits, ofInt8]; rfl
  rw [this, u8_id]
theorem C_or {a b : UInt8} : abin .or (b8 a) (b8 b) = some (b8 (a ||| b)) := by
  simp only [b8]; rw [B_or, ior]
  have : ((BitVec.ofInt IntKind.u8.bits (a.toNat : Int) ||| BitVec.ofInt IntKind.u8.bits (b.toNat : Int)).toNat : Int) = ((a ||| b).toNat : Int) := by
    simp only [IntKind.bits, ofInt8]; rfl
  rw [this, u8_id]
theorem C_xor {a b : UInt8} : abin .xor (b8 a) (b8 b) = some (b8 (a ^^^ b)) := by
  simp only [b8]; rw [B_xor, ixor]
  have : ((BitVec.ofInt IntKind.u8.bits (a.toNat : Int) ^^^ BitVec.ofInt IntKind.u8.bits (b.toNat : Int)).toNat : Int) = ((a ^^^ b).toNat : Int) := by
    simp only [IntKind.bits, ofInt8]; rfl
  rw [this, u8_id]
theorem C_rem {a b : UInt8} : abin .rem (b8 a) (b8 b) = if b = 0 then none else some (b8 (a % b)) := by
  simp only [b8]; rw [B_rem, rm]
  by_cases h : b = 0
  · subst h; simp
  · have h2 : ¬ (b.toNat : Int) = 0 := by
      intro h0; apply h; apply UInt8.toNat_inj.1; simp; omega
    rw [if_neg h, if_neg h2]
    simp only [Option.map_some, UInt8.toNat_mod]
    rw [Int.tmod_eq_emod_of_nonneg (by omega)]
    simp
theorem C_eql {a b : UInt8} : abin .eql (b8 a) (b8 b) = some (.bool (decide (a = b))) := by
  simp only [b8]; rw [B_eql]; simp [← UInt8.toNat_inj, Int.ofNat_inj]
theorem C_neq {a b : UInt8} : abin .neq (b8 a) (b8 b) = some (.bool (!decide (a = b))) := by
  simp only [b8]; rw [B_neq]; simp [← UInt8.toNat_inj, Int.ofNat_inj]
theorem C_lss {a b : UInt8} : abin .lss (b8 a) (b8 b) = some (.bool (decide (a < b))) := by
  simp only [b8]; rw [B_lss]; simp [UInt8.lt_iff_toNat_lt]
theorem C_leq {a b : UInt8} : abin .leq (b8 a) (b8 b) = some (.bool (decide (a ≤ b))) := by
  simp only [b8]; rw [B_leq]; simp [UInt8.le_iff_toNat_le]
theorem C_gtr {a b : UInt8} : abin .gtr (b8 a) (b8 b) = some (.bool (decide (b < a))) := by
  simp only [b8]; rw [B_gtr]; simp [UInt8.lt_iff_toNat_lt]
theorem C_geq {a b : UInt8} : abin .geq (b8 a) (b8 b) = some (.bool (decide (b ≤ a))) := by
  simp only [b8]; rw [B_geq]; simp [UInt8.le_iff_toNat_le]
theorem V_ci {k : IntKind} {c : UInt8} : acvt (.int k) (b8 c) = some (.int k (k.wrap c.toNat)) := rfl
theorem V_ic {k : IntKind} {i : Int} : acvt (.int .u8) (.int k i) = some (b8 (UInt8.ofInt i)) := by simp only [acvt, b8, u8_wrap]
theorem V_cc {c : UInt8} : acvt (.int .u8) (b8 c) = some (b8 c) := by simp only [acvt, b8, u8_id]
theorem V_i8 {k' : IntKind} {i : Int} : acvt (.int .i8) (.int k' i) = some (.int .i8 (IntKind.wrap .i8 i)) := rfl
theorem V_i16 {k' : IntKind} {i : Int} : acvt (.int .i16) (.int k' i) = some (.int .i16 (IntKind.wrap .i16 i)) := rfl
theorem V_i32 {k' : IntKind} {i : Int} : acvt (.int .i32) (.int k' i) = some (.int .i32 (IntKind.wrap .i32 i)) := rfl
theorem V_i64 {k' : IntKind} {i : Int} : acvt (.int .i64) (.int k' i) = some (.int .i64 (IntKind.wrap .i64 i)) := rfl
theorem V_u16 {k' : IntKind} {i : Int} : acvt (.int .u16) (.int k' i) = some (.int .u16 (IntKind.wrap .u16 i)) := rfl
theorem V_u32 {k' : IntKind} {i : Int} : acvt (.int .u32) (.int k' i) = some (.int .u32 (IntKind.wrap .u32 i)) := rfl
theorem V_u64 {k' : IntKind} {i : Int} : acvt (.int .u64) (.int k' i) = some (.int .u64 (IntKind.wrap .u64 i)) := rfl
theorem V_ss {l : List UInt8} : acvt .same (.str l) = some (.str l) := rfl
theorem V_sb {l : List UInt8} : acvt .sb (.str l) = some (.sl .own 1 (ml b8 l)) := rfl
theorem V_bs {tg : Tg} {xs : List AV} : acvt .bs (.sl tg 1 xs) = (bytesOf xs).map .str := rfl
theorem N_neg {k : IntKind} {i : Int} : aun .neg (.int k i) = some (.int k (k.wrap (0 - i))) := rfl
theorem N_not {b : Bool} : aun .not (.bool b) = some (.bool !b) := rfl
def icom (k : IntKind) (i : Int) : Int := k.wrap (BitVec.ofInt k.bits (if k.signed then -1 else k.max) ^^^ BitVec.ofInt k.bits i).toNat
theorem N_xor {k : IntKind} {i : Int} : aun .xor (.int k i) = some (.int k (icom k i)) := rfl
theorem bytesOf_nil : bytesOf [] = some [] := rfl
theorem bytesOf_c {c : UInt8} {r : List AV} : bytesOf (b8 c :: r) = (bytesOf r).map (c :: ·) := by
  simp [b8, bytesOf]
theorem Q_i {ks : List Pk} {k : IntKind} {i j : Int} {as bs : List AV} : seqb (.i :: ks) (.int k i :: as) (.int k j :: bs) = (seqb ks as bs).map (decide (i = j) && ·) := by simp [seqb]
theorem Q_s {ks : List Pk} {l m : List UInt8} {as bs : List AV} : seqb (.s :: ks) (.str l :: as) (.str m :: bs) = (seqb ks as bs).map (decide (l = m) && ·) := rfl
theorem Q_b {ks : List Pk} {x y : Bool} {as bs : List AV} : seqb (.b :: ks) (.bool x :: as) (.bool y :: bs) = (seqb ks as bs).map ((x == y) && ·) := rfl
theorem Q_n : seqb [] [] [] = some true := rfl
theorem Q_bq {x y : Bool} : abq (.bool x) (.bool y) = some (x == y) := rfl
theorem Q_p1 {s o : Nat} : apq (.ptr s o) (.v (.pointer none)) = some false := rfl
theorem Q_p2 {s o : Nat} : apq (.v (.pointer none)) (.ptr s o) = some false := rfl
theorem Q_p3 : apq (.v (.pointer none)) (.v (.pointer none)) = some true := rfl

/-! ### a byte, as it stands -/
section
variable {P : Program} {L : List Nat} {N n0 : Nat} {e : Env} {ah : AH} {t : List It} {Q : Exit → Env → AH → Prop} {r : List AOper} {d : Option Nat}
theorem b_sh1 {c : UInt8} : (b8 c).sh1 = b8 c := rfl
theorem b_sh {c : UInt8} : (b8 c).sh = b8 c := rfl
theorem b_s1 {c : UInt8} : (b8 c).s1 = b8 c := rfl
theorem b_s0 {c : UInt8} : (b8 c).s0 = b8 c := rfl
theorem b_df {c : UInt8} : (b8 c).df = b8 c := rfl
theorem b_unc {c : UInt8} : (b8 c).unc = b8 c := rfl
theorem b_dis {c : UInt8} : (b8 c).dis = b8 c := rfl
theorem b_unfr {c : UInt8} {l : Loc} : (b8 c).unfr l = b8 c := rfl
theorem b_own {c : UInt8} : (b8 c).isOwn = false := rfl
theorem b_flat {c : UInt8} : (b8 c).flat = true := rfl
theorem b_ok1 {c : UInt8} : (b8 c).ok1 = true := rfl
theorem b_np {c : UInt8} : (b8 c).np = true := rfl
theorem b_cells {c : UInt8} : (b8 c).cells = [b8 c] := rfl
theorem b_tup {c : UInt8} : (b8 c).isTup = false := rfl
theorem b_cp {c : UInt8} {x : Ar} : cp L x (b8 c) = b8 c := rfl
theorem b_asg {c : UInt8} {x : Ar} : asgK P L N n0 e ah d r t Q x (b8 c) = U P L N n0 (.ops r :: t) Q .normal (putv L e d (b8 c)) ah := rfl
theorem b_Cl {n : Nat} {c : UInt8} : Cl n (b8 c) := .int ..
theorem b_ixs {l : List UInt8} {c : UInt8} : ixsK L e ah d (.str l) (b8 c) = (idx l c.toNat).map fun c => (putv L e d (b8 c), ah) := ixsK_s
theorem b_ixa {tg : Tg} {k : Nat} {xs : List AV} {c : UInt8} : ixaK L e ah d k (.sl tg k xs) (b8 c) = (idx xs c.toNat).map fun a => (putv L e d (.ep a 0), ah) := ixaK_s
theorem b_ld1 {s o : Nat} {c : UInt8} : ld1 s o (some (b8 c)) = some (b8 c) := rfl
theorem b_ldE {c : UInt8} : ldE L d e ah (some (b8 c)) = some (putv L e d (b8 c), ah) := rfl
end

/-! ### the heap -/
theorem h_eq {H : AH} {q : Nat} {c : List AV} (h : q < H.length) : (H.set q c)[q]? = some c := List.getElem?_set_self h
theorem h_ne {H : AH} {s q : Nat} {c : List AV} (h : s ≠ q) : (H.set s c)[q]? = H[q]? := List.getElem?_set_ne h
theorem h_app {H T : AH} {q : Nat} (h : q < H.length) : (H ++ T)[q]? = H[q]? := List.getElem?_append_left h
theorem h_new {H : AH} {c : List AV} : (H ++ [c])[H.length]? = some c := by simp
theorem h_new' {H : AH} {q : Nat} {c : List AV} (h : q = H.length) : (H ++ [c])[q]? = some c := by subst h; simp
theorem h_lt {H : AH} {q : Nat} {c : List AV} (h : H[q]? = some c) : q < H.length := (List.getElem?_eq_some_iff.1 h).1
theorem h_sl {H : AH} {q : Nat} {c : List AV} : (H.set q c).length = H.length := List.length_set
theorem h_al {H : AH} {c : List AV} : (H ++ [c]).length = H.length + 1 := by simp
/-- what stood when the function began, but for some objects, is as it was -/
structure Fr (ah : AH) (n0 : Nat) (S : List Nat) (H : AH) : Prop where
  le : n0 ≤ H.length
  eq : ∀ j, j < n0 → j ∉ S → H[j]? = ah[j]?
theorem Fr.refl (ah : AH) (S : List Nat) : Fr ah ah.length S ah := ⟨Nat.le_refl _, fun _ _ _ => rfl⟩
theorem Fr.set {ah H : AH} {n0 s : Nat} {S : List Nat} {c : List AV} (h : Fr ah n0 S H) (hs : s ∈ S ∨ n0 ≤ s) : Fr ah n0 S (H.set s c) := by
  refine ⟨by simpa using h.le, fun j hj hjS => ?_⟩
  rw [List.getElem?_set_ne, h.eq j hj hjS]
  rintro rfl
  rcases hs with hs | hs
  · exact hjS hs
  · omega
theorem Fr.app {ah H T : AH} {n0 : Nat} {S : List Nat} (h : Fr ah n0 S H) : Fr ah n0 S (H ++ T) := by
  have := h.le
  exact ⟨by simp; omega, fun j hj hjS => by rw [List.getElem?_append_left (by omega), h.eq j hj hjS]⟩
theorem Fr.end0 {ah H : AH} (h : Fr ah ah.length [] H) : H.take ah.length = ah := by
  apply List.ext_getElem?
  intro j
  by_cases hj : j < ah.length
  · rw [List.getElem?_take_of_lt hj, h.eq j hj (by simp)]
  · rw [List.getElem?_eq_none (by simp; omega), List.getElem?_eq_none (by omega)]
theorem Fr.end1 {ah H : AH} {s : Nat} {c : List AV} (h : Fr ah ah.length [s] H) (hs : H[s]? = some c) (hl : s < ah.length) : H.take ah.length = ah.set s c := by
  apply List.ext_getElem?
  intro j
  by_cases hj : j < ah.length
  · rw [List.getElem?_take_of_lt hj]
    by_cases he : j = s
    · subst he; rw [hs, List.getElem?_set_self hl]
    · rw [List.getElem?_set_ne (Ne.symm he), h.eq j hj (by simpa using he)]
  · rw [List.getElem?_eq_none (by simp; omega), List.getElem?_eq_none (by simp; omega)]
theorem Fr.end2 {ah H : AH} {s s2 : Nat} {c c2 : List AV} (h : Fr ah ah.length [s, s2] H) (hs : H[s]? = some c) (hs2 : H[s2]? = some c2) (hl : s < ah.length) (hl2 : s2 < ah.length) (hne : s ≠ s2) : H.take ah.length = (ah.set s c).set s2 c2 := by
  apply List.ext_getElem?
  intro j
  by_cases hj : j < ah.length
  · rw [List.getElem?_take_of_lt hj]
    by_cases he : j = s2
    · subst he; rw [hs2, List.getElem?_set_self (by simpa using hl2)]
    · rw [List.getElem?_set_ne (Ne.symm he)]
      by_cases he1 : j = s
      · subst he1; rw [hs, List.getElem?_set_self hl]
      · rw [List.getElem?_set_ne (Ne.symm he1), h.eq j hj (by simp; exact ⟨he1, he⟩)]
  · rw [List.getElem?_eq_none (by simp; omega), List.getElem?_eq_none (by simp; omega)]
end Go.Am
