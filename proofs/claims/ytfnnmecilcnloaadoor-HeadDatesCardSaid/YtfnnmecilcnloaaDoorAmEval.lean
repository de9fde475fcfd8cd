import Derived.Test.YtfnnmecilcnloaaDoorAmEnter
set_option linter.unusedSimpArgs false
set_option linter.unusedVariables false
set_option linter.unusedSectionVars false
set_option linter.defProp false
namespace Go.Am
open Go
variable [Tabs]

/-- a function of the program: its code, compiled -/
def FnOk (P : Program) (f N : Nat) (rs : List ResultVar) (ac : ACode) : Prop :=
  ∃ fn c, P.funcs[f]? = some fn ∧ fn.name ≠ "runtime.NumGoroutine" ∧ fn.body = some c ∧ ccode P c = some ac ∧ fn.ntmps = N ∧ fn.results.toList = rs

theorem ACalls.go {P : Program} {f N : Nat} {rs : List ResultVar} {ac : ACode} (hF : FnOk P f N rs ac) {args : List AV} {ah : AH} {R : AV → AH → Prop} (L : List Nat) (m : Nat)
    (ho : cOk N ac = true) (hN : args.length ≤ N) (hm : ah.length ≤ m)
    (h : ClH ah.length ah → (∀ a ∈ args, ∀ s o, a = .ptr s o → s < ah.length) → U P L N ah.length [.code ac] (Ret P m rs R) .normal (argE 0 args) ah) : ACalls P f args ah R := by
  obtain ⟨fn, c, h1, h2, h3, h4, rfl, rfl⟩ := hF
  exact ACalls.enter L m h1 h2 h3 h4 ho hN hm h

section
variable {P : Program} {L : List Nat} {N n0 : Nat} {e : Env} {ah : AH} {t : List It} {Q : Exit → Env → AH → Prop} {r : List AOper} {d : Option Nat} {g : Option (Nat × Bool)}

def gOf (want : Bool) : AV → Option Bool
  | .bool b => some (b == want)
  | .tup [] => some false
  | _ => none
theorem g_none {op : AOp} : guardOk e ⟨d, op, none⟩ = some true := rfl
theorem g_some {op : AOp} {x : Nat} {want : Bool} : guardOk e ⟨d, op, some (x, want)⟩ = gOf want (get e x) := by
  simp only [guardOk]
  cases get e x with
  | tup cs => cases cs <;> rfl
  | _ => rfl
theorem gOf_un {want : Bool} : gOf want (.tup []) = some false := rfl
theorem gOf_bool {b want : Bool} : gOf want (.bool b) = some (b == want) := rfl


theorem T_mv {x : Ar} : UG P L N n0 ⟨d, .mv x, g⟩ r t Q e ah (some true) = U P L N n0 (It.ops r :: t) Q Exit.normal (putv L e d (cp L x (ev e x))) ah := rfl
def asgK (P : Program) (L : List Nat) (N n0 : Nat) (e : Env) (ah : AH) (d : Option Nat) (r : List AOper) (t : List It) (Q : Exit → Env → AH → Prop) (x : Ar) : AV → Prop
  | .sl .own k xs => match x with
    | .t y => U P L N n0 (.ops r :: t) Q .normal (putv L (put e y (.sl .n k xs)) d (.sl .own k xs)) ah
    | .c a => U P L N n0 (.ops r :: t) Q .normal (putv L e d (cp L (.c a) (.sl .own k xs))) ah
  | a => U P L N n0 (.ops r :: t) Q .normal (putv L e d (cp L x a)) ah
theorem T_asg {x : Ar} : UG P L N n0 ⟨d, .asg x, g⟩ r t Q e ah (some true) = asgK P L N n0 e ah d r t Q x (ev e x) := by
  simp only [UG, aev]
  cases h : ev e x with
  | sl tg k xs => cases tg <;> cases x <;> rfl
  | _ => rfl
def pickK (L : List Nat) (e : Env) (ah : AH) (d : Option Nat) (a b : Ar) : AV → Option (Env × AH)
  | .bool t => some (putv L e d (if t then (ev e a).sh else (ev e b).sh), ah)
  | _ => none
theorem T_pick {c a b : Ar} : UG P L N n0 ⟨d, .pick c a b, g⟩ r t Q e ah (some true) = US P L N n0 r t Q (pickK L e ah d a b (ev e c)) := by
  simp only [UG, aev]; cases ev e c <;> rfl
theorem T_alloc {cs : List AV} : UG P L N n0 ⟨d, .alloc cs, g⟩ r t Q e ah (some true) = U P L N n0 (.ops r :: t) Q .normal (putv L e d (.ptr ah.length 0)) (ah ++ [cs]) := rfl
theorem T_box {x : Ar} : UG P L N n0 ⟨d, .box x, g⟩ r t Q e ah (some true) = US P L N n0 r t Q (if allOk (ev e x).cells then some (putv L e d (.ptr ah.length 0), ah ++ [(ev e x).cells.map AV.sh1]) else none) := rfl
theorem T_build {z : List AV} {ps : List (Nat × Nat × Ar)} : UG P L N n0 ⟨d, .build z ps, g⟩ r t Q e ah (some true) = US P L N n0 r t Q ((fill e z ps).map fun cs => (putv L e d (.agg cs), ah)) := rfl
theorem T_bsl {k : Nat} {ps : List Ar} : UG P L N n0 ⟨d, .bsl k ps, g⟩ r t Q e ah (some true) = US P L N n0 r t Q (if ps.all (fun p => (ev e p).cells.length = k && allOk (ev e p).cells && allNp (ev e p).cells) then some (putv L e d (.sl .ex k (ps.map fun p => (ev e p).s0)), ah) else none) := rfl
theorem T_lit {y : Nat} {bs : List UInt8} : UG P L N n0 ⟨d, .lit y bs, g⟩ r t Q e ah (some true) = U P L N n0 (It.ops r :: t) Q Exit.normal (put (putv L e d (.sl .ex 1 (bs.map b8))) y .un) ah := rfl
def nckK (L : List Nat) (e : Env) (ah : AH) (d : Option Nat) : AV → Option (Env × AH)
  | .ptr s p => some (putv L e d (.ptr s p), ah)
  | .ep a p => some (putv L e d (.ep a p), ah)
  | _ => none
theorem T_nck {x : Ar} : UG P L N n0 ⟨d, .nck x, g⟩ r t Q e ah (some true) = US P L N n0 r t Q (nckK L e ah d (ev e x)) := by
  simp only [UG, aev]; cases ev e x <;> rfl
def fldK (L : List Nat) (e : Env) (ah : AH) (d : Option Nat) (q : Nat) : AV → Option (Env × AH)
  | .ptr s p => some (putv L e d (.ptr s (p + q)), ah)
  | .ep a p => some (putv L e d (.ep a (p + q)), ah)
  | _ => none
theorem T_fld {x : Ar} {q : Nat} : UG P L N n0 ⟨d, .fld x q, g⟩ r t Q e ah (some true) = US P L N n0 r t Q (fldK L e ah d q (ev e x)) := by
  simp only [UG, aev]; cases ev e x <;> rfl
theorem T_fldv {x : Ar} {q : Nat} {n : Option Nat} : UG P L N n0 ⟨d, .fldv x q n, g⟩ r t Q e ah (some true) = US P L N n0 r t Q (aev L ⟨d, .fldv x q n, none⟩ e ah) := by simp only [UG, aev_g L d _ g]
def ldH (L : List Nat) (d : Option Nat) (n : Option Nat) (s p : Nat) (e : Env) (ah : AH) : Option (List AV) → Option (Env × AH)
  | some cs => (loadc n s p cs).map fun a => (putv L e d a, ah)
  | none => none
def ldE (L : List Nat) (d : Option Nat) (e : Env) (ah : AH) : Option AV → Option (Env × AH)
  | some c => if c.flat then some (putv L e d c.s1, ah) else none
  | none => none
def ldK (L : List Nat) (d : Option Nat) (n : Option Nat) (e : Env) (ah : AH) : AV → Option (Env × AH)
  | .ptr s p => ldH L d n s p e ah (ah[s]?)
  | .ep a p => match n with
    | some n => if p + n ≤ a.cells.length ∧ allFlat ((a.cells.drop p).take n) then some (putv L e d (.agg (((a.cells.drop p).take n).map AV.s1)), ah) else none
    | none => ldE L d e ah (a.cells[p]?)
  | _ => none
theorem T_ld {x : Ar} {n : Option Nat} : UG P L N n0 ⟨d, .ld x n, g⟩ r t Q e ah (some true) = US P L N n0 r t Q (ldK L d n e ah (ev e x)) := by
  simp only [UG, aev]
  cases ev e x with
  | ptr s p => simp only [ldK, ldH]; cases ah[s]? <;> rfl
  | ep a p => cases n with
    | some n => rfl
    | none => simp only [ldK, ldE]; cases a.cells[p]? <;> rfl
  | _ => rfl
def ld1 (s o : Nat) : Option AV → Option AV
  | some (.sl .own k xs) => some (.sl (.fr (.cell s o)) k xs)
  | some a => if a.flat then some a.sh1 else none
  | none => none
theorem loadc_1 {s o : Nat} {cs : List AV} : loadc none s o cs = ld1 s o (cs[o]?) := by
  simp only [loadc, ld1]
  cases cs[o]? with
  | none => rfl
  | some a => cases a with
    | sl t k xs => cases t <;> rfl
    | _ => rfl
theorem loadc_n {n s o : Nat} {cs : List AV} : loadc (some n) s o cs = if o + n ≤ cs.length ∧ allFlat ((cs.drop o).take n) then some (.agg (((cs.drop o).take n).map AV.sh1)) else none := rfl
theorem T_lde {x : Ar} {n : Option Nat} : UG P L N n0 ⟨d, .lde x n, g⟩ r t Q e ah (some true) = US P L N n0 r t Q (aev L ⟨d, .lde x n, none⟩ e ah) := by simp only [UG, aev_g L d _ g]
theorem T_st {a x : Ar} {n : Nat} : UG P L N n0 ⟨d, .st a x n, g⟩ r t Q e ah (some true) = US P L N n0 r t Q (aev L ⟨none, .st a x n, none⟩ e ah) := by simp only [UG, aev]
theorem T_bin {op : BinOp} {x y : Ar} : UG P L N n0 ⟨d, .bin op x y, g⟩ r t Q e ah (some true) = US P L N n0 r t Q ((abin op (ev e x) (ev e y)).map fun a => (putv L e d a, ah)) := rfl
theorem T_bq {neq : Bool} {x y : Ar} : UG P L N n0 ⟨d, .bq neq x y, g⟩ r t Q e ah (some true) = US P L N n0 r t Q ((abq (ev e x) (ev e y)).map fun b => (putv L e d (.bool (if neq then !b else b)), ah)) := rfl
theorem T_pq {neq : Bool} {x y : Ar} : UG P L N n0 ⟨d, .pq neq x y, g⟩ r t Q e ah (some true) = US P L N n0 r t Q ((apq (ev e x) (ev e y)).map fun b => (putv L e d (.bool (if neq then !b else b)), ah)) := rfl
def seqK (L : List Nat) (e : Env) (ah : AH) (d : Option Nat) (ks : List Pk) (neq : Bool) : AV → AV → Option (Env × AH)
  | .agg as, .agg bs => (seqb ks as bs).map fun b => (putv L e d (.bool (if neq then !b else b)), ah)
  | _, _ => none
theorem T_seq {ks : List Pk} {neq : Bool} {x y : Ar} : UG P L N n0 ⟨d, .seq ks neq x y, g⟩ r t Q e ah (some true) = US P L N n0 r t Q (seqK L e ah d ks neq (ev e x) (ev e y)) := by
  simp only [UG, aev]; cases ev e x <;> cases ev e y <;> rfl
theorem T_un {op : UnOp} {x : Ar} : UG P L N n0 ⟨d, .un op x, g⟩ r t Q e ah (some true) = US P L N n0 r t Q ((aun op (ev e x)).map fun a => (putv L e d a, ah)) := rfl
def mslT (L : List Nat) (e : Env) (ah : AH) (d : Option Nat) (p n : Nat) (cs : List AV) : Option (Env × AH) :=
  if p + n ≤ cs.length then (bytesOf ((cs.drop p).take n)).map fun l => (putv L e d (.str l), ah) else none
def mslS (L : List Nat) (e : Env) (ah : AH) (d : Option Nat) (p n : Nat) : Option (List AV) → Option (Env × AH)
  | some cs => mslT L e ah d p n cs
  | none => none
def cvtK (L : List Nat) (e : Env) (ah : AH) (d : Option Nat) (h : Cv) : AV → Option (Env × AH)
  | .msl s k p n => match h with
    | .bs => if k = 1 then mslS L e ah d p n (ah[s]?) else none
    | h => (acvt h (.msl s k p n)).map fun a => (putv L e d a, ah)
  | a => (acvt h a).map fun a => (putv L e d a, ah)
theorem T_cvt {h : Cv} {x : Ar} : UG P L N n0 ⟨d, .cvt h x, g⟩ r t Q e ah (some true) = US P L N n0 r t Q (cvtK L e ah d h (ev e x)) := by
  simp only [UG, aev]
  congr 1
  cases ev e x with
  | msl s k p n =>
    cases h with
    | bs =>
      simp only [cvtK]
      split
      · cases ah[s]? <;> rfl
      · rfl
    | _ => rfl
  | _ => cases h <;> rfl
theorem T_cvte {x : Ar} : UG P L N n0 ⟨d, .cvte x, g⟩ r t Q e ah (some true) = US P L N n0 r t Q ((acvt .bs (ev e x)).map fun a => (putv L e d a, ah)) := rfl
def cvtoK (L : List Nat) (e : Env) (ah : AH) (d : Option Nat) : AV → Option (Env × AH)
  | .str l => some (putv L e d (.msl ah.length 1 0 l.length), ah ++ [l.map b8])
  | _ => none
theorem T_cvto {x : Ar} : UG P L N n0 ⟨d, .cvto x, g⟩ r t Q e ah (some true) = US P L N n0 r t Q (cvtoK L e ah d (ev e x)) := by
  simp only [UG, aev]; cases ev e x <;> rfl
theorem T_iq {neq : Bool} {x y : Ar} : UG P L N n0 ⟨d, .iq neq x y, g⟩ r t Q e ah (some true) = US P L N n0 r t Q ((aiq (ev e x) (ev e y)).map fun b => (putv L e d (.bool (if neq then !b else b)), ah)) := rfl
theorem T_mm {mx : Bool} {x y : Ar} : UG P L N n0 ⟨d, .mm mx x y, g⟩ r t Q e ah (some true) = US P L N n0 r t Q ((amm mx (ev e x) (ev e y)).map fun a => (putv L e d a, ah)) := rfl
theorem T_mkf {f : Nat} {cs : List Ar} : UG P L N n0 ⟨d, .mkf f cs, g⟩ r t Q e ah (some true) = U P L N n0 (It.ops r :: t) Q Exit.normal (putv L e d (.fn f (cs.map (ev e)))) ah := rfl
def bndI : AV → Option Nat
  | .int _ i => if 0 ≤ i then some i.toNat else none
  | _ => none
theorem bnd_n {dflt : Nat} : bnd e dflt none = some dflt := rfl
theorem bnd_s {dflt : Nat} {x : Ar} : bnd e dflt (some x) = bndI (ev e x) := by
  simp only [bnd]; cases ev e x <;> rfl
def slsB (L : List Nat) (e : Env) (ah : AH) (d : Option Nat) (l : List UInt8) : Option Nat → Option Nat → Option (Env × AH)
  | some i, some j => if i ≤ j ∧ j ≤ l.length then some (putv L e d (.str ((l.take j).drop i)), ah) else none
  | _, _ => none
def slsK (L : List Nat) (e : Env) (ah : AH) (d : Option Nat) (lo hi : Option Ar) : AV → Option (Env × AH)
  | .str l => slsB L e ah d l (bnd e 0 lo) (bnd e l.length hi)
  | _ => none
theorem T_sls {x : Ar} {lo hi : Option Ar} : UG P L N n0 ⟨d, .sls x lo hi, g⟩ r t Q e ah (some true) = US P L N n0 r t Q (slsK L e ah d lo hi (ev e x)) := by
  simp only [UG, aev]
  cases ev e x with
  | str l => simp only [slsK, slsB]; cases bnd e 0 lo <;> cases bnd e l.length hi <;> rfl
  | _ => rfl
def slcB (L : List Nat) (e : Env) (ah : AH) (d : Option Nat) (k k' : Nat) (xs : List AV) : Option Nat → Option Nat → Option (Env × AH)
  | some i, some j => if k' = k ∧ i ≤ j ∧ j ≤ xs.length then some (putv L e d (.sl .n k ((xs.take j).drop i)), ah) else none
  | _, _ => none
def slcK (L : List Nat) (e : Env) (ah : AH) (d : Option Nat) (k : Nat) (lo hi : Option Ar) : AV → Option (Env × AH)
  | .sl _ k' xs => slcB L e ah d k k' xs (bnd e 0 lo) (bnd e xs.length hi)
  | _ => none
theorem T_slc {k : Nat} {x : Ar} {lo hi : Option Ar} : UG P L N n0 ⟨d, .slc k x lo hi none, g⟩ r t Q e ah (some true) = US P L N n0 r t Q (slcK L e ah d k lo hi (ev e x)) := by
  simp only [UG, aev]
  cases ev e x with
  | sl t k' xs => simp only [slcK, slcB]; cases bnd e 0 lo <;> cases bnd e xs.length hi <;> rfl
  | _ => rfl
def slc3B (L : List Nat) (e : Env) (ah : AH) (d : Option Nat) (k k' : Nat) (xs : List AV) : Option Nat → Option Nat → Option Nat → Option (Env × AH)
  | some i, some j, some m => if k' = k ∧ i ≤ j ∧ j = m ∧ m ≤ xs.length then some (putv L e d (.sl .ex k ((xs.take j).drop i)), ah) else none
  | _, _, _ => none
def slc3K (L : List Nat) (e : Env) (ah : AH) (d : Option Nat) (k : Nat) (lo : Option Ar) (hi m : Ar) : AV → Option (Env × AH)
  | .sl _ k' xs => slc3B L e ah d k k' xs (bnd e 0 lo) (bnd e xs.length (some hi)) (bnd e 0 (some m))
  | _ => none
theorem T_slc3 {k : Nat} {x : Ar} {lo : Option Ar} {hi m : Ar} : UG P L N n0 ⟨d, .slc k x lo (some hi) (some m), g⟩ r t Q e ah (some true) = US P L N n0 r t Q (slc3K L e ah d k lo hi m (ev e x)) := by
  simp only [UG, aev]
  cases ev e x with
  | sl t k' xs =>
    simp only [slc3K, slc3B]
    cases bnd e 0 lo with
    | none => rfl
    | some i =>
      cases bnd e xs.length (some hi) with
      | none => rfl
      | some j =>
        simp only [Option.isNone_some, Bool.false_eq_true, if_false]
        cases bnd e 0 (some m) <;> rfl
  | _ => rfl
def ixaB (L : List Nat) (e : Env) (ah : AH) (d : Option Nat) (k k' : Nat) : Option AV → Option (Env × AH)
  | some a => if k' = k then some (putv L e d (.ep a 0), ah) else none
  | none => none
def ixaK (L : List Nat) (e : Env) (ah : AH) (d : Option Nat) (k : Nat) : AV → AV → Option (Env × AH)
  | .sl _ k' xs, .int _ i => if 0 ≤ i then ixaB L e ah d k k' (xs[i.toNat]?) else none
  | .msl s k' p n, .int _ i => if 0 ≤ i ∧ i < n ∧ k' = k then some (putv L e d (.ptr s (p + i.toNat * k)), ah) else none
  | .gsl s k' n _, .int _ i => if 0 ≤ i ∧ i < n ∧ k' = k then some (putv L e d (.ptr s (i.toNat * k)), ah) else none
  | _, _ => none
def ixpK (L : List Nat) (e : Env) (ah : AH) (d : Option Nat) (k m : Nat) : AV → AV → Option (Env × AH)
  | .ptr s p, .int _ i => if 0 ≤ i ∧ i < m then some (putv L e d (.ptr s (p + i.toNat * k)), ah) else none
  | .ep a p, .int _ i => if 0 ≤ i ∧ i < m then some (putv L e d (.ep a (p + i.toNat * k)), ah) else none
  | _, _ => none
theorem T_ixp {k m : Nat} {x i : Ar} : UG P L N n0 ⟨d, .ixp k m x i, g⟩ r t Q e ah (some true) = US P L N n0 r t Q (ixpK L e ah d k m (ev e x) (ev e i)) := by
  simp only [UG, aev]
  cases ev e x with
  | ptr s p => cases ev e i <;> rfl
  | ep a p => cases ev e i <;> rfl
  | _ => cases ev e i <;> rfl
def asoK (L : List Nat) (e : Env) (ah : AH) (d : Option Nat) (k : Nat) : AV → Option (Env × AH)
  | .sl .ex k' [] => if k' = k then some (putv L e d (.gsl 0 k 0 0), ah) else none
  | .gsl s k' n c => some (putv L e d (.gsl s k' n c), ah)
  | _ => none
theorem T_aso {k : Nat} {x : Ar} : UG P L N n0 ⟨d, .aso k x, g⟩ r t Q e ah (some true) = US P L N n0 r t Q (asoK L e ah d k (ev e x)) := by
  simp only [UG, aev]
  cases ev e x with
  | sl t k' xs => cases t <;> cases xs <;> rfl
  | _ => rfl
theorem T_ixa {k : Nat} {x i : Ar} : UG P L N n0 ⟨d, .ixa k x i, g⟩ r t Q e ah (some true) = US P L N n0 r t Q (ixaK L e ah d k (ev e x) (ev e i)) := by
  simp only [UG, aev]
  cases ev e x with
  | sl t k' xs => cases ev e i with
    | int ki n => simp only [ixaK, ixaB]; cases xs[n.toNat]? <;> rfl
    | _ => rfl
  | msl s k' p n => cases ev e i <;> rfl
  | gsl s k' n c => cases ev e i <;> rfl
  | _ => cases ev e i <;> rfl
def ixsB (L : List Nat) (e : Env) (ah : AH) (d : Option Nat) : Option UInt8 → Option (Env × AH)
  | some c => some (putv L e d (b8 c), ah)
  | none => none
def ixsK (L : List Nat) (e : Env) (ah : AH) (d : Option Nat) : AV → AV → Option (Env × AH)
  | .str l, .int _ i => if 0 ≤ i then ixsB L e ah d (l[i.toNat]?) else none
  | _, _ => none
theorem T_ixs {x i : Ar} : UG P L N n0 ⟨d, .ixs x i, g⟩ r t Q e ah (some true) = US P L N n0 r t Q (ixsK L e ah d (ev e x) (ev e i)) := by
  simp only [UG, aev]
  cases ev e x with
  | str l => cases ev e i with
    | int ki n => simp only [ixsK, ixsB]; cases l[n.toNat]? <;> rfl
    | _ => rfl
  | _ => cases ev e i <;> rfl
theorem slsB_s {l : List UInt8} {i j : Nat} : slsB L e ah d l (some i) (some j) = if i ≤ j ∧ j ≤ l.length then some (putv L e d (.str ((l.take j).drop i)), ah) else none := rfl
theorem slcB_s {k k' i j : Nat} {xs : List AV} : slcB L e ah d k k' xs (some i) (some j) = if k' = k ∧ i ≤ j ∧ j ≤ xs.length then some (putv L e d (.sl .n k ((xs.take j).drop i)), ah) else none := rfl
theorem slc3B_s {k k' i j m : Nat} {xs : List AV} : slc3B L e ah d k k' xs (some i) (some j) (some m) = if k' = k ∧ i ≤ j ∧ j = m ∧ m ≤ xs.length then some (putv L e d (.sl .ex k ((xs.take j).drop i)), ah) else none := rfl
theorem ixaB_s {k k' : Nat} {a : AV} : ixaB L e ah d k k' (some a) = if k' = k then some (putv L e d (.ep a 0), ah) else none := rfl
theorem ixsB_s {c : UInt8} : ixsB L e ah d (some c) = some (putv L e d (b8 c), ah) := rfl
theorem ldH_s {n : Option Nat} {s p : Nat} {cs : List AV} : ldH L d n s p e ah (some cs) = (loadc n s p cs).map fun a => (putv L e d a, ah) := rfl
theorem ldE_s {c : AV} : ldE L d e ah (some c) = if c.flat then some (putv L e d c.s1, ah) else none := rfl
theorem opt_if {α : Type} {c : Prop} [Decidable c] {x : Option α} (h : c) : (if c then x else none) = x := by rw [if_pos h]
theorem opt_ifn {α : Type} {c : Prop} [Decidable c] {x : Option α} (h : ¬ c) : (if c then none else x) = x := by rw [if_neg h]
theorem T_ext {x : Ar} {i : Nat} : UG P L N n0 ⟨d, .ext x i, g⟩ r t Q e ah (some true) = US P L N n0 r t Q (aev L ⟨d, .ext x i, none⟩ e ah) := by simp only [UG, aev_g L d _ g]
theorem T_len {x : Ar} : UG P L N n0 ⟨d, .len x, g⟩ r t Q e ah (some true) = US P L N n0 r t Q (aev L ⟨d, .len x, none⟩ e ah) := by simp only [UG, aev_g L d _ g]
theorem T_lens {x : Ar} : UG P L N n0 ⟨d, .lens x, g⟩ r t Q e ah (some true) = US P L N n0 r t Q (aev L ⟨d, .lens x, none⟩ e ah) := by simp only [UG, aev_g L d _ g]
def appK (L : List Nat) (e : Env) (ah : AH) (d : Option Nat) (k b : Nat) (x : Ar) : AV → Option (Env × AH)
  | .sl _ k' ys => if k' = k then aapp L e ah d k b x ys else none
  | _ => none
theorem T_app {k b : Nat} {x y : Ar} : UG P L N n0 ⟨d, .app k b x y, g⟩ r t Q e ah (some true) = US P L N n0 r t Q (appK L e ah d k b x (ev e y)) := by
  simp only [UG, aev]; cases ev e y <;> rfl
def appsK (L : List Nat) (e : Env) (ah : AH) (d : Option Nat) (b : Nat) (x : Ar) : AV → Option (Env × AH)
  | .str l => aapp L e ah d 1 b x (l.map b8)
  | _ => none
theorem T_apps {b : Nat} {x y : Ar} : UG P L N n0 ⟨d, .apps b x y, g⟩ r t Q e ah (some true) = US P L N n0 r t Q (appsK L e ah d b x (ev e y)) := by
  simp only [UG, aev]; cases ev e y <;> rfl
theorem T_call {f : Ar} {as : List Ar} : UG P L N n0 ⟨d, .call f as, g⟩ r t Q e ah (some true) = UF P L N n0 as d r t Q e ah (ev e f) := rfl
theorem UG_bool {o : AOper} {b : Bool} : UG P L N n0 o r t Q e ah (some b) = if b then (UG P L N n0 o r t Q e ah (some true)) else U P L N n0 (.ops r :: t) Q .normal (drop? e o.d) ah := by
  cases b <;> rfl
theorem UG_split {o : AOper} {b : Bool} (h1 : b = true → UG P L N n0 o r t Q e ah (some true)) (h2 : b = false → U P L N n0 (.ops r :: t) Q .normal (drop? e o.d) ah) : UG P L N n0 o r t Q e ah (some b) := by
  cases b
  · exact h2 rfl
  · exact h1 rfl
end
end Go.Am
namespace Go.Am
open Go
variable [Tabs]
theorem ClH.set {n : Nat} {ah : AH} (h : ClH n ah) {s : Nat} {cs : List AV} (hc : ∀ a ∈ cs, Cl n a) : ClH n (ah.set s cs) := by
  intro t ds ht a ha
  rw [List.getElem?_set] at ht
  split at ht
  · split at ht
    · injection ht with ht; subst ht; exact hc a ha
    · cases ht
  · exact h t ds ht a ha
/-- the end of a function, no object being new -/
theorem Ret.old {P : Program} {n : Nat} {rs : List ResultVar} {R : AV → AH → Prop} {x : Exit} {e : Env} {ah : AH} {vs : List AV} (hx : x = .normal ∨ x = .ret) (hr : resv P e ah rs = some vs)
    (hc : Cl n (fin vs)) (hh : ClH n ah) (hn : ah.length = n) (h : R (fin vs) ah) : Ret P n rs R x e ah := by
  refine ⟨hx, ?_⟩
  rw [hr]
  have : ah.take n = ah := List.take_of_length_le (by omega)
  simp only [this]
  exact ⟨hc, hh, by omega, h⟩

theorem w64 {n : Int} (h1 : -9223372036854775808 ≤ n) (h2 : n ≤ 9223372036854775807) : IntKind.wrap .i64 n = n := by
  simp only [IntKind.wrap, IntKind.bits, IntKind.signed, Bool.true_and, decide_eq_true_eq, Int.reducePow, Nat.reduceSub, ge_iff_le]
  split <;> omega
theorem w8 {n : Int} (h1 : 0 ≤ n) (h2 : n ≤ 255) : IntKind.wrap .u8 n = n := by
  simp only [IntKind.wrap, IntKind.bits, IntKind.signed, Bool.false_and, if_false, Bool.false_eq_true]
  omega
theorem toNat_succ {j : Nat} : ((j : Int) + 1).toNat = j + 1 := by omega
theorem US_if {P : Program} {L : List Nat} {N n0 : Nat} {t : List It} {Q : Exit → Env → AH → Prop} {r : List AOper} {c : Prop} [Decidable c] {x : Option (Env × AH)} (h : c) :
    US P L N n0 r t Q (if c then x else none) = US P L N n0 r t Q x := by rw [if_pos h]
theorem map_if {α β : Type} {f : α → β} {c : Prop} [Decidable c] {x : Option α} (h : c) : Option.map f (if c then x else none) = Option.map f x := by rw [if_pos h]

theorem appoW_mono {L : List Nat} {d : Option Nat} {k b : Nat} {x y : Ar} {e : Env} {ah : AH} {K K' : Env → AH → Prop} (h : appoW L d k b x y e ah K) (hk : ∀ e ah, K e ah → K' e ah) : appoW L d k b x y e ah K' := by
  unfold appoW at h ⊢
  split at h
  · obtain ⟨h1, h2, h3, h4, h5, h6⟩ := h
    refine ⟨h1, h2, h3, h4, h5, ?_⟩
    rcases h6 with ⟨g1, g2, g3⟩ | ⟨cs, g1, g2, g3, g4, g5, g6, g7⟩
    · exact .inl ⟨g1, g2, fun c hc => hk _ _ (g3 c hc)⟩
    · exact .inr ⟨cs, g1, g2, g3, g4, g5, fun h => hk _ _ (g6 h), fun h c hc => hk _ _ (g7 h c hc)⟩
  · exact h
theorem nqW_mono {L : List Nat} {d : Option Nat} {n : Bool} {x : Ar} {e : Env} {ah : AH} {K K' : Env → AH → Prop} (h : nqW L d n x e ah K) (hk : ∀ e ah, K e ah → K' e ah) : nqW L d n x e ah K' := by
  unfold nqW at h ⊢
  split at h
  · exact ⟨fun h0 b => hk _ _ (h.1 h0 b), fun h0 => hk _ _ (h.2 h0)⟩
  · exact h
theorem opsW_mono {P : Program} {L : List Nat} : ∀ (l : List AOper) {K K' : Env → AH → Prop} {e : Env} {ah : AH}, opsW P L l e ah K → (∀ e ah, K e ah → K' e ah) → opsW P L l e ah K' := by
  intro l
  induction l with
  | nil => intro K K' e ah h hk; exact hk _ _ h
  | cons o r ih =>
    intro K K' e ah h hk
    simp only [opsW] at h ⊢
    split at h
    · rename_i hg
      obtain ⟨d, op, g⟩ := o
      cases op with
      | call f as =>
        simp only [opW] at h ⊢
        split at h
        · exact ⟨h.1, h.2.mono fun v ah' h => ih h hk⟩
        · exact h
      | appo k b x y =>
        have h' : appoW L d k b x y e ah (fun e ah => opsW P L r e ah K) := h
        exact appoW_mono h' fun e ah h => ih h hk
      | nq n x =>
        have h' : nqW L d n x e ah (fun e ah => opsW P L r e ah K) := h
        exact nqW_mono h' fun e ah h => ih h hk
      | _ =>
        simp only [opW] at h ⊢
        split at h
        · exact ih h hk
        · exact h
    · exact ih h hk
    · exact h
theorem codeW_mono {P : Program} {L : List Nat} {N n0 : Nat} : ∀ (c : ACode) {Q Q' : Exit → Env → AH → Prop} {e : Env} {ah : AH}, codeW P L N n0 c Q e ah → (∀ x e ah, Q x e ah → Q' x e ah) → codeW P L N n0 c Q' e ah := by
  intro c
  induction c with
  | skip => intro Q Q' e ah h hq; exact hq _ _ _ h
  | ret => intro Q Q' e ah h hq; exact hq _ _ _ h
  | exit i => intro Q Q' e ah h hq; exact hq _ _ _ h
  | rg ops => intro Q Q' e ah h hq; exact opsW_mono ops h fun e ah h => hq _ _ _ h
  | seq a b iha ihb =>
    intro Q Q' e ah h hq
    refine iha h fun x e ah h => ?_
    cases x with
    | normal => exact ihb h hq
    | _ => exact hq _ _ _ h
  | cond c a b iha ihb =>
    intro Q Q' e ah h hq
    simp only [codeW] at h ⊢
    split at h
    · split at h
      · rename_i h1; rw [if_pos h1]; exact iha h hq
      · rename_i h1; rw [if_neg h1]; exact ihb h hq
    · exact h.elim
  | blk i c ih =>
    intro Q Q' e ah h hq
    refine ih h fun x e ah h => ?_
    cases x with
    | exit j =>
      simp only at h ⊢
      split at h
      · rename_i h1; rw [if_pos h1]; exact hq _ _ _ h
      · rename_i h1; rw [if_neg h1]; exact hq _ _ _ h
    | _ => exact hq _ _ _ h
  | loop c ih =>
    intro Q Q' e ah h hq
    exact fun c' hc' => (h c' hc').mono hq
  | sem c ih =>
    intro Q Q' e ah h hq
    exact fun c' hc' => (h c' hc').mono hq
theorem U_mono {P : Program} {L : List Nat} {N n0 : Nat} {c : ACode} {Q Q' : Exit → Env → AH → Prop} {e : Env} {ah : AH} (h : U P L N n0 [.code c] Q .normal e ah) (hq : ∀ x e ah, Q x e ah → Q' x e ah) : U P L N n0 [.code c] Q' .normal e ah :=
  codeW_mono c h hq

theorem wk_of {e e2 : Env} (h : ∀ p ∈ e2, p.2 = .un ∨ Am.get e p.1 = p.2 ∨ ∃ t k xs, Am.get e p.1 = .sl t k xs ∧ p.2 = .sl .n k xs) : ∀ t, Wk (Am.get e t) (Am.get e2 t) := by
  intro t
  have key : ∀ e2 : Env, Am.get e2 t = .un ∨ ∃ p ∈ e2, p.1 = t ∧ Am.get e2 t = p.2 := by
    intro e2
    induction e2 with
    | nil => exact .inl rfl
    | cons p r ih =>
      obtain ⟨i, a⟩ := p
      simp only [Am.get]
      split
      · rename_i h; exact .inr ⟨(i, a), by simp, h, rfl⟩
      · rcases ih with h | ⟨p, hp, h1, h2⟩
        · exact .inl h
        · exact .inr ⟨p, List.mem_cons_of_mem _ hp, h1, h2⟩
  rcases key e2 with h0 | ⟨p, hp, rfl, h2⟩
  · rw [h0]; exact .un _
  · rw [h2]
    rcases h p hp with h3 | h3 | ⟨tg, k, xs, h3, h4⟩
    · rw [h3]; exact .un _
    · rw [h3]; exact .same _
    · rw [h3, h4]; exact .n ..

def WkE (e e2 : Env) : Prop := ∀ p ∈ e2, p.2 = .un ∨ Am.get e p.1 = p.2 ∨ ∃ t k xs, Am.get e p.1 = .sl t k xs ∧ p.2 = .sl .n k xs

/-- a loop: the frame at its head in one form -/
theorem UX_loopW {P : Program} {L : List Nat} {N n0 : Nat} {e : Env} {ah : AH} {t : List It} {Q : Exit → Env → AH → Prop} {c : ACode} (J : Nat → Env → AH → Prop) (k0 : Nat) (e0 : Env) (ho : cOk N c = true)
    (hw : ∀ p ∈ e0, p.2 = .un ∨ Am.get e p.1 = p.2 ∨ ∃ t k xs, Am.get e p.1 = .sl t k xs ∧ p.2 = .sl .n k xs) (h0 : J k0 e0 ah)
    (round : ∀ k e ah, J k e ah → U P L N n0 [.code c] (fun x e' ah' => match x with
      | .normal => ∃ k' e2, k' < k ∧ (∀ p ∈ e2, p.2 = .un ∨ Am.get e' p.1 = p.2 ∨ ∃ t k xs, Am.get e' p.1 = .sl t k xs ∧ p.2 = .sl .n k xs) ∧ J k' e2 ah'
      | x => U P L N n0 t Q x e' ah') .normal e ah) :
    UX P L N n0 (.loop c) t Q e ah := by
  intro c'
  induction c' with
  | loop c0 _ =>
    intro hc'
    simp only [ccode, Option.map_eq_some_iff] at hc'
    obtain ⟨a, ha, he⟩ := hc'
    injection he with he
    subst he
    refine AW.loop (fun k e ah => ∃ e1, (∀ t, Wk (Am.get e t) (Am.get e1 t)) ∧ J k e1 ah) (k0 := k0) ?_ ⟨e0, wk_of hw, h0⟩
    rintro k e ah ⟨e1, hw1, hJ⟩
    refine AW.weak hw1 (codeW_ok c0 a _ e1 ah (by rw [ccode_erase c0 a ha]; exact ha) (by rw [ccode_erase c0 a ha]; exact ho) ?_)
    have := round k e1 ah hJ
    refine U_mono this fun x e' ah' h => ?_
    cases x with
    | normal => obtain ⟨k', e2, h1, h2, h3⟩ := h; exact ⟨k', h1, e2, wk_of h2, h3⟩
    | _ => exact h
  | scope c0 ih => exact fun hc' => AW.scope (ih hc')
  | region id ops draw => intro hc'; simp only [ccode] at hc'; repeat' (split at hc') <;> simp at hc'
  | block i c0 => intro hc'; simp only [ccode, Option.map_eq_some_iff] at hc'; obtain ⟨a, -, h⟩ := hc'; cases h
  | seq a b => intro hc'; simp only [ccode] at hc'; split at hc' <;> simp at hc'
  | cond a b c => intro hc'; simp only [ccode] at hc'; split at hc' <;> simp at hc'
  | _ => intro hc'; simp [ccode] at hc'

/-- the same, with what comes behind a round as a variable -/
theorem UX_loopK {P : Program} {L : List Nat} {N n0 : Nat} {e : Env} {ah : AH} {t : List It} {Q : Exit → Env → AH → Prop} {c : ACode} (J : Nat → Env → AH → Prop) (k0 : Nat) (e0 : Env) (ho : cOk N c = true)
    (hw : WkE e e0) (h0 : J k0 e0 ah)
    (round : ∀ (K : Exit → Env → AH → Prop) k e ah, J k e ah → (∀ k' e' e2 ah', k' < k → WkE e' e2 → J k' e2 ah' → K .normal e' ah') → (∀ e' ah', U P L N n0 t Q .ret e' ah' → K .ret e' ah') →
      (∀ i e' ah', U P L N n0 t Q (.exit i) e' ah' → K (.exit i) e' ah') → U P L N n0 [.code c] K .normal e ah) : UX P L N n0 (.loop c) t Q e ah :=
  UX_loopW J k0 e0 ho hw h0 fun k e ah hJ => round _ k e ah hJ (fun k' e' e2 ah' h1 h2 h3 => ⟨k', e2, h1, h2, h3⟩) (fun _ _ h => h) (fun _ _ _ h => h)

theorem WkE.nil {e : Env} : WkE e [] := by intro p hp; cases hp
theorem WkE.same {e r : Env} {i : Nat} {a : AV} (h : Am.get e i = a) (hr : WkE e r) : WkE e ((i, a) :: r) := by
  intro p hp
  rcases List.mem_cons.1 hp with rfl | hp
  · exact .inr (.inl h)
  · exact hr p hp
theorem WkE.un {e r : Env} {i : Nat} (hr : WkE e r) : WkE e ((i, .un) :: r) := by
  intro p hp
  rcases List.mem_cons.1 hp with rfl | hp
  · exact .inl rfl
  · exact hr p hp
theorem WkE.sl {e r : Env} {i k : Nat} {tg : Tg} {xs : List AV} (h : Am.get e i = .sl tg k xs) (hr : WkE e r) : WkE e ((i, .sl .n k xs) :: r) := by
  intro p hp
  rcases List.mem_cons.1 hp with rfl | hp
  · exact .inr (.inr ⟨_, _, _, h, rfl⟩)
  · exact hr p hp

theorem ACalls.weak {P : Program} {f : Nat} {args args' : List AV} {ah : AH} {R : AV → AH → Prop} (hl : args'.length = args.length) (hw : ∀ (i : Nat) (a a' : AV), args[i]? = some a → args'[i]? = some a' → Wk a a') (h : ACalls P f args' ah R) :
    ACalls P f args ah R := by
  refine ⟨h.1, fun F γ C w vs hs => h.2 F γ C w vs ?_⟩
  rw [hl]
  refine hs.wk fun t => ?_
  rw [get_argE, get_argE]
  simp only [Nat.zero_le, if_true, Nat.sub_zero]
  cases h1 : args[t]? with
  | none =>
    have : args'[t]? = none := by
      rw [List.getElem?_eq_none_iff] at h1 ⊢
      omega
    rw [this]; exact .same _
  | some a =>
    have hlt : t < args'.length := by rw [hl]; exact (List.getElem?_eq_some_iff.1 h1).1
    rw [List.getElem?_eq_getElem hlt]
    exact hw t a _ h1 (List.getElem?_eq_getElem hlt)
theorem bytesOf_b8 : ∀ l : List UInt8, bytesOf (l.map b8) = some l := by
  intro l
  induction l with
  | nil => rfl
  | cons c r ih =>
    simp only [List.map_cons, b8, bytesOf]
    rw [ih]
    simp
theorem set_same {ah : AH} {i : Nat} {x : List AV} (h : ah[i]? = some x) : ah.set i x = ah := by
  have hlt := (List.getElem?_eq_some_iff.1 h).1
  apply List.ext_getElem?
  intro j
  rw [List.getElem?_set]
  split
  · rename_i hj; subst hj; simp only [h, ite_eq_left_iff]; try exact fun h0 => absurd hlt h0
  · rfl
/-- the end of a function that has made one object and more -/
theorem Ret.new {P : Program} {n : Nat} {rs : List ResultVar} {R : AV → AH → Prop} {x : Exit} {e : Env} {ah ah' : AH} {vs : List AV} (hx : x = .normal ∨ x = .ret) (hr : resv P e ah rs = some vs) (ht : ah.take n = ah')
    (hc : Cl n (fin vs)) (hh : ClH n ah') (hn : n ≤ ah.length) (h : R (fin vs) ah') : Ret P n rs R x e ah := by
  refine ⟨hx, ?_⟩
  rw [hr]
  simp only [ht]
  exact ⟨hc, hh, hn, h⟩

theorem resv_nil {P : Program} {e : Env} {ah : AH} : resv P e ah [] = some [] := rfl
theorem resv_tmp {P : Program} {e : Env} {ah : AH} {t : Nat} {rs : List ResultVar} {a : AV} {vs : List AV} (h : Am.get e t = a) (ht : a.isTup = false) (hr : resv P e ah rs = some vs) : resv P e ah (.tmp t :: rs) = some (a :: vs) := by
  subst h
  simp only [resv, ht, hr, Bool.false_eq_true, if_false]
theorem resv_cell {P : Program} {e : Env} {ah : AH} {a : Nat} {ty : TypeId} {n : Option Nat} {rs : List ResultVar} {s o : Nat} {cs vs : List AV} {v : AV} (ht : tok P ty = true) (hn : tn P ty = n) (h : Am.get e a = .ptr s o) (hs : ah[s]? = some cs)
    (hl : loadc n s o cs = some v) (hr : resv P e ah rs = some vs) : resv P e ah (.cell a ty :: rs) = some (v.sh :: vs) := by
  subst hn
  simp only [resv, ht, if_true, h, hs, hl, hr]

/-- less is said of what comes back -/
theorem ACalls.wkR {P : Program} {f : Nat} {args : List AV} {ah : AH} {R R' : AV → AH → Prop} (h : ACalls P f args ah R) (hr : ∀ r ah', R r ah' → ∃ r', Wk r r' ∧ R' r' ah') : ACalls P f args ah R' := by
  refine ⟨h.1, fun F γ C w vs hs => (h.2 F γ C w vs hs).mono ?_⟩
  rintro en w' ⟨r, v, ah', γ', C', rfl, h1, h2, h3, h4⟩
  obtain ⟨r', g1, g2⟩ := hr r ah' h1
  refine ⟨r', v, ah', γ', C', rfl, g2, h2, h3.wk fun t => ?_, h4⟩
  simp only [Am.get]
  split
  · exact g1
  · exact .same _

theorem Cl.up {n : Nat} {a : AV} (h : Cl n a) {m : Nat} (hm : n ≤ m) : Cl m a := by
  induction h with
  | ptr s o hs => exact .ptr _ _ (by omega)
  | fn f cs _ ih => exact .fn _ _ fun a ha => ih a ha
  | agg cs _ ih => exact .agg _ fun a ha => ih a ha
  | tup cs _ ih => exact .tup _ fun a ha => ih a ha
  | v => exact .v _
  | int => exact .int ..
  | bool => exact .bool _
  | str => exact .str _
  | sl => exact .sl ..
  | ep => exact .ep ..
  | msl s k o n hs => exact .msl _ _ _ _ (by omega)
  | gsl0 => exact .gsl0 ..
  | gsl s k o n hs => exact .gsl _ _ _ _ (by omega)
  | ifc => exact .ifc
  | un => exact .un
theorem ClH.up {n m : Nat} {ah : AH} (h : ClH n ah) (hm : n ≤ m) : ClH m ah := fun s cs hs a ha => (h s cs hs a ha).up hm
theorem ClH.app {n : Nat} {ah ah2 : AH} (h : ClH n ah) (h2 : ClH n ah2) : ClH n (ah ++ ah2) := by
  intro s cs hs a ha
  rw [List.getElem?_append] at hs
  split at hs
  · exact h s cs hs a ha
  · exact h2 _ cs hs a ha
theorem ClH.one {n : Nat} {cs : List AV} (h : ∀ a ∈ cs, Cl n a) : ClH n [cs] := by
  intro s ds hs a ha
  rcases s with _ | s
  · simp at hs; subst hs; exact h a ha
  · simp at hs
end Go.Am
