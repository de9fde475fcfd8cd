import Derived.Deep.LoopGhost
import Derived.Orders
import Derived.KernelRfl
set_option linter.unusedSimpArgs false
set_option linter.unusedVariables false
set_option linter.unusedSectionVars false
set_option linter.defProp false
namespace Go.Am
open Go

/-- where a row of one's own is held -/
inductive Loc where
  | tmp (t : Nat)
  | cell (s o : Nat)
  deriving DecidableEq

/-- what may be done with a slice: n: read; ex: its capacity is its length; own: the row's end is its end, and nobody else's; fr l: as what lies at l -/
inductive Tg where
  | n | ex | own
  | fr (l : Loc)
  deriving DecidableEq

inductive AV where
  | v (x : Value)
  | int (k : IntKind) (i : Int)
  | bool (b : Bool)
  | str (l : List UInt8)
  | ptr (s o : Nat)
  | sl (t : Tg) (k : Nat) (xs : List AV)
  | ep (e : AV) (o : Nat)
  | agg (cs : List AV)
  | tup (cs : List AV)
  | fn (f : Nat) (cs : List AV)
  | msl (s k o n : Nat)
  | gsl (s k n c : Nat)
  | ifc
  | un

abbrev Env := List (Nat × AV)
abbrev AH := List (List AV)

def get : Env → Nat → AV
  | [], _ => .un
  | (i, a) :: r, t => if i = t then a else get r t

def put : Env → Nat → AV → Env
  | [], d, a => [(d, a)]
  | (i, b) :: r, d, a => if i = d then (d, a) :: r else if d < i then (d, a) :: (i, b) :: r else (i, b) :: put r d a

def keep (L : List Nat) : Env → Env
  | [] => []
  | (i, a) :: r => if L.contains i then (i, a) :: keep L r else keep L r

def Tg.sh : Tg → Tg
  | .ex => .ex
  | _ => .n
/-- as a copy elsewhere: nothing is owned -/
def AV.sh1 : AV → AV
  | .sl t k xs => .sl t.sh k xs
  | a => a
def AV.sh : AV → AV
  | .agg cs => .agg (cs.map AV.sh1)
  | .tup cs => .tup (cs.map AV.sh1)
  | a => a.sh1
/-- an element of a row: nothing is said of it but what it reads as -/
def AV.s1 : AV → AV
  | .sl _ k xs => .sl .n k xs
  | a => a
def AV.s0 : AV → AV
  | .agg cs => .agg (cs.map AV.s1)
  | a => a.s1
/-- 'fr' becomes nothing -/
def AV.df : AV → AV
  | .sl (.fr _) k xs => .sl .n k xs
  | a => a
def AV.isOwn : AV → Bool
  | .sl .own _ _ => true
  | _ => false
def AV.dis : AV → AV
  | .sl .own k xs => .sl .n k xs
  | a => a
def AV.unfr (l : Loc) : AV → AV
  | .sl (.fr m) k xs => if m = l then .sl .n k xs else .sl (.fr m) k xs
  | a => a
def sweep (l : Loc) : Env → Env
  | [] => []
  | (i, a) :: r => (i, a.unfr l) :: sweep l r

def AV.cells : AV → List AV
  | .agg cs => cs
  | a => [a]

/-- one cell's value -/
def AV.ok1 : AV → Bool
  | .agg _ | .tup _ | .un => false
  | _ => true
def AV.flat : AV → Bool
  | .agg _ | .tup _ => false
  | _ => true
def allFlat : List AV → Bool
  | [] => true
  | a :: r => a.flat && allFlat r
def allOk : List AV → Bool
  | [] => true
  | a :: r => a.ok1 && allOk r

/-- no object is named -/
def AV.np : AV → Bool
  | .ptr _ _ | .agg _ | .tup _ | .msl _ _ _ _ | .gsl _ _ _ _ => false
  | .fn _ cs => cs.isEmpty
  | _ => true
def allNp : List AV → Bool
  | [] => true
  | a :: r => a.np && allNp r

/-! ### types -/
def tok (P : Program) (t : TypeId) : Bool := (P.underlying t).isSome && (P.info? t).isSome
def tsz (P : Program) (t : TypeId) : Nat := ((P.info? t).map (·.size)).getD 0
def tby (P : Program) (t : TypeId) : Nat := ((P.info? t).map (·.bytes)).getD 0
def tagg (P : Program) (t : TypeId) : Bool := match P.underlying t with | some (.struct _) | some (.array _ _) => true | _ => false
def tel (P : Program) (t : TypeId) : Option TypeId := match P.underlying t with | some (.slice e) => some e | _ => none
def tfd (P : Program) (t : TypeId) (f : Nat) : Option Field := match P.underlying t with | some (.struct fs) => fs[f]? | _ => none
/-- a variable's cells: none: one; some n: n, as a struct -/
def tn (P : Program) (t : TypeId) : Option Nat := if tagg P t then some (tsz P t) else none

inductive Ar where
  | t (n : Nat)
  | c (a : AV)

inductive Cv where
  | int (k : IntKind) | sb | bs | same

/-- a plain cell's kind -/
inductive Pk where
  | i | s | b

inductive AOp where
  | mv (x : Ar)
  | asg (x : Ar)
  | pick (c a b : Ar)
  | alloc (cs : List AV)
  | box (x : Ar)
  | build (zero : List AV) (parts : List (Nat × Nat × Ar))
  | bsl (k : Nat) (parts : List Ar)
  | ld (x : Ar) (n : Option Nat)
  | lde (x : Ar) (n : Option Nat)
  | st (a x : Ar) (n : Nat)
  | nck (x : Ar)
  | fld (x : Ar) (q : Nat)
  | fldv (x : Ar) (q : Nat) (n : Option Nat)
  | bin (op : BinOp) (x y : Ar)
  | bq (neq : Bool) (x y : Ar)
  | pq (neq : Bool) (x y : Ar)
  | seq (ks : List Pk) (neq : Bool) (x y : Ar)
  | un (op : UnOp) (x : Ar)
  | cvt (h : Cv) (x : Ar)
  | cvto (x : Ar)
  | cvte (x : Ar)
  | iq (neq : Bool) (x y : Ar)
  | mm (mx : Bool) (x y : Ar)
  | mkf (f : Nat) (cs : List Ar)
  | sls (x : Ar) (lo hi : Option Ar)
  | slc (k : Nat) (x : Ar) (lo hi mx : Option Ar)
  | ixa (k : Nat) (x i : Ar)
  | ixp (k m : Nat) (x i : Ar)
  | ixs (x i : Ar)
  | ext (x : Ar) (i : Nat)
  | len (x : Ar)
  | lens (x : Ar)
  | app (k b : Nat) (x y : Ar)
  | apps (b : Nat) (x y : Ar)
  | appo (k b : Nat) (x y : Ar)
  | aso (k : Nat) (x : Ar)
  | nq (neq : Bool) (x : Ar)
  | bad
  | lit (y : Nat) (bs : List UInt8)
  | call (f : Ar) (as : List Ar)

structure AOper where
  d : Option Nat
  op : AOp
  g : Option (Nat × Bool)

inductive ACode where
  | skip
  | rg (ops : List AOper)
  | seq (a b : ACode)
  | cond (c : Ar) (a b : ACode)
  | blk (i : Nat) (c : ACode)
  | loop (c : ACode)
  | exit (i : Nat)
  | ret
  | sem (c : ACode)

/-- an operation without its mark -/
def AOp.er : AOp → AOp
  | .cvto x => .cvt .sb x
  | .appo k b x y => .app k b x y
  | .aso _ x => .asg x
  | op => op
def AOper.er (o : AOper) : AOper := ⟨o.d, o.op.er, o.g⟩
/-- without marks -/
def erase : ACode → ACode
  | .rg ops => .rg (ops.map AOper.er)
  | .seq a b => .seq (erase a) (erase b)
  | .cond c a b => .cond c (erase a) (erase b)
  | .blk i c => .blk i (erase c)
  | .sem c => c
  | c => c

/-- package-level variables that stay as they are: a block, what its cells are -/
class Tabs where
  l : List (Nat × (Array Value → Prop))

/-! ### the machine -/
def ev (e : Env) : Ar → AV
  | .t n => get e n
  | .c a => a

def cp (L : List Nat) (x : Ar) (a : AV) : AV :=
  match a with
  | .sl .own k xs => (match x with | .t t => if L.contains t then .sl (.fr (.tmp t)) k xs else .sl .n k xs | _ => .sl .n k xs)
  | .agg cs => .agg (cs.map AV.sh1)
  | .tup cs => .tup (cs.map AV.sh1)
  | a => a

def putv (L : List Nat) (e : Env) (d : Option Nat) (a : AV) : Env :=
  match d with
  | none => e
  | some d => if L.contains d then (if a.isOwn then put (sweep (.tmp d) e) d a else put e d a.df) else put e d a

def iarith (op : BinOp) (k : IntKind) (a b : Int) : Option AV :=
  match op with
  | .add => some (.int k (k.wrap (a + b)))
  | .sub => some (.int k (k.wrap (a - b)))
  | .mul => some (.int k (k.wrap (a * b)))
  | .quo => if b = 0 then none else some (.int k (k.wrap (a.tdiv b)))
  | .rem => if b = 0 then none else some (.int k (a.tmod b))
  | .and => some (.int k (k.wrap (BitVec.ofInt k.bits a &&& BitVec.ofInt k.bits b).toNat))
  | .or => some (.int k (k.wrap (BitVec.ofInt k.bits a ||| BitVec.ofInt k.bits b).toNat))
  | .xor => some (.int k (k.wrap (BitVec.ofInt k.bits a ^^^ BitVec.ofInt k.bits b).toNat))
  | .andNot => some (.int k (k.wrap (BitVec.ofInt k.bits a &&& ~~~(BitVec.ofInt k.bits b)).toNat))
  | .eql => some (.bool (decide (a = b)))
  | .neq => some (.bool (!decide (a = b)))
  | .lss => some (.bool (decide (a < b)))
  | .leq => some (.bool (decide (a ≤ b)))
  | .gtr => some (.bool (decide (b < a)))
  | .geq => some (.bool (decide (b ≤ a)))
  | _ => none

def abin (op : BinOp) (a b : AV) : Option AV :=
  match a, b with
  | .int k i, .int k' j =>
    match op with
    | .shl => if j < 0 then none else some (.int k (k.wrap (i * 2 ^ (min j.toNat k.bits))))
    | .shr => if j < 0 then none else some (.int k (i.fdiv (2 ^ (min j.toNat k.bits))))
    | op => if k = k' then iarith op k i j else none
  | .str l, .str m =>
    match op with
    | .add => if l.length + m.length ≤ 9223372036854775807 then some (.str (l ++ m)) else none
    | .eql => some (.bool (decide (l = m)))
    | .neq => some (.bool (!decide (l = m)))
    | _ => none
  | _, _ => none

def abq (a b : AV) : Option Bool :=
  match a, b with
  | .bool a, .bool b => some (a == b)
  | _, _ => none

def apq (a b : AV) : Option Bool :=
  match a, b with
  | .ptr _ _, .v (.pointer none) => some false
  | .v (.pointer none), .ptr _ _ => some false
  | .v (.pointer none), .v (.pointer none) => some true
  | _, _ => none

/-- two structs of plain cells -/
def seqb : List Pk → List AV → List AV → Option Bool
  | [], [], [] => some true
  | k :: ks, a :: as, b :: bs =>
    match k, a, b with
    | .i, .int k i, .int k' j => if k = k' then (seqb ks as bs).map (decide (i = j) && ·) else none
    | .s, .str l, .str m => (seqb ks as bs).map (decide (l = m) && ·)
    | .b, .bool x, .bool y => (seqb ks as bs).map ((x == y) && ·)
    | _, _, _ => none
  | _, _, _ => none

/-- an interface's value and nil -/
def aiq (a b : AV) : Option Bool :=
  match a, b with
  | .ifc, .v .nilIface => some false
  | .v .nilIface, .v .nilIface => some true
  | _, _ => none
def amm (mx : Bool) (a b : AV) : Option AV :=
  match a, b with
  | .int k i, .int k' j => if k = k' then some (.int k (if mx then max i j else min i j)) else none
  | _, _ => none

def aun (op : UnOp) (a : AV) : Option AV :=
  match op, a with
  | .neg, .int k i => some (.int k (k.wrap (0 - i)))
  | .xor, .int k i => some (.int k (k.wrap (BitVec.ofInt k.bits (if k.signed then -1 else k.max) ^^^ BitVec.ofInt k.bits i).toNat))
  | .not, .bool b => some (.bool !b)
  | _, _ => none

def b8 (c : UInt8) : AV := .int .u8 c.toNat
def bytesOf : List AV → Option (List UInt8)
  | [] => some []
  | .int .u8 i :: r => (bytesOf r).map (UInt8.ofNat i.toNat :: ·)
  | _ :: _ => none

def acvt (h : Cv) (a : AV) : Option AV :=
  match h, a with
  | .int k, .int _ i => some (.int k (k.wrap i))
  | .same, .str l => some (.str l)
  | .sb, .str l => some (.sl .own 1 (l.map b8))
  | .bs, .sl _ 1 xs => (bytesOf xs).map .str
  | _, _ => none

def loadc (n : Option Nat) (s o : Nat) (cs : List AV) : Option AV :=
  match n with
  | some n => if o + n ≤ cs.length ∧ allFlat ((cs.drop o).take n) then some (.agg (((cs.drop o).take n).map AV.sh1)) else none
  | none => match cs[o]? with
    | some (.sl .own k xs) => some (.sl (.fr (.cell s o)) k xs)
    | some a => if a.flat then some a.sh1 else none
    | none => none

def over (cs : List AV) (o : Nat) (ws : List AV) : Option (List AV) :=
  if o + ws.length ≤ cs.length then some (cs.take o ++ ws ++ cs.drop (o + ws.length)) else none

def fill (e : Env) : List AV → List (Nat × Nat × Ar) → Option (List AV)
  | cs, [] => some cs
  | cs, (o, n, x) :: r => if (ev e x).cells.length = n ∧ allOk (ev e x).cells then match over cs o ((ev e x).cells.map AV.sh1) with
    | some cs => fill e cs r
    | none => none else none

def bnd (e : Env) (dflt : Nat) : Option Ar → Option Nat
  | none => some dflt
  | some x => match ev e x with
    | .int _ i => if 0 ≤ i then some i.toNat else none
    | _ => none

/-- behind a slice -/
def aapp (L : List Nat) (e : Env) (ah : AH) (d : Option Nat) (k b : Nat) (x : Ar) (ys : List AV) : Option (Env × AH) :=
  match ev e x with
  | .sl tg k' xs =>
    if k' = k ∧ (xs.length + ys.length) * b ≤ 140737488355328 ∧ xs.length + ys.length ≤ 4611686018427387904 then
      match tg with
      | .ex => some (putv L e d (.sl .own k (xs ++ ys)), ah)
      | .own => match x with
        | .t x => some (putv L (put e x (.sl .n k xs)) d (.sl .own k (xs ++ ys)), ah)
        | _ => none
      | .fr (.tmp t) => match get e t with
        | .sl .own k' zs => if k' = k then some (putv L (put e t (.sl .n k' zs)) d (.sl .own k (xs ++ ys)), ah) else none
        | _ => none
      | .fr (.cell s q) => match ah[s]? with
        | some cs => match cs[q]? with
          | some (.sl .own k' zs) => if k' = k then (over cs q [.sl .n k' zs]).map fun cs => (putv L e d (.sl .own k (xs ++ ys)), ah.set s cs) else none
          | _ => none
        | none => none
      | .n => none
    else none
  | _ => none

def aev (L : List Nat) (o : AOper) (e : Env) (ah : AH) : Option (Env × AH) :=
  match o.op with
  | .mv x => some (putv L e o.d (cp L x (ev e x)), ah)
  | .asg x =>
    match ev e x, x with
    | .sl .own k xs, .t t => some (putv L (put e t (.sl .n k xs)) o.d (.sl .own k xs), ah)
    | a, _ => some (putv L e o.d (cp L x a), ah)
  | .pick c a b =>
    match ev e c with
    | .bool t => some (putv L e o.d (if t then (ev e a).sh else (ev e b).sh), ah)
    | _ => none
  | .alloc cs => some (putv L e o.d (.ptr ah.length 0), ah ++ [cs])
  | .box x => if allOk (ev e x).cells then some (putv L e o.d (.ptr ah.length 0), ah ++ [(ev e x).cells.map AV.sh1]) else none
  | .build zero parts => (fill e zero parts).map fun cs => (putv L e o.d (.agg cs), ah)
  | .bsl k parts => if parts.all (fun p => (ev e p).cells.length = k && allOk (ev e p).cells && allNp (ev e p).cells) then some (putv L e o.d (.sl .ex k (parts.map fun p => (ev e p).s0)), ah) else none
  | .nck x =>
    match ev e x with
    | .ptr s p => some (putv L e o.d (.ptr s p), ah)
    | .ep a p => some (putv L e o.d (.ep a p), ah)
    | _ => none
  | .fld x q =>
    match ev e x with
    | .ptr s p => some (putv L e o.d (.ptr s (p + q)), ah)
    | .ep a p => some (putv L e o.d (.ep a (p + q)), ah)
    | _ => none
  | .fldv x q n =>
    match ev e x with
    | .agg cs => match n with
      | some n => if q + n ≤ cs.length then some (putv L e o.d (.agg (((cs.drop q).take n).map AV.sh1)), ah) else none
      | none => match cs[q]? with
        | some c => some (putv L e o.d c.sh1, ah)
        | none => none
    | _ => none
  | .ld x n =>
    match ev e x with
    | .ptr s p => match ah[s]? with
      | some cs => (loadc n s p cs).map fun a => (putv L e o.d a, ah)
      | none => none
    | .ep a p => match n with
      | some n => if p + n ≤ a.cells.length ∧ allFlat ((a.cells.drop p).take n) then some (putv L e o.d (.agg (((a.cells.drop p).take n).map AV.s1)), ah) else none
      | none => match a.cells[p]? with
        | some c => if c.flat then some (putv L e o.d c.s1, ah) else none
        | none => none
    | _ => none
  | .lde x n =>
    match ev e x with
    | .ep a p => match n with
      | some n => if p + n ≤ a.cells.length ∧ allFlat ((a.cells.drop p).take n) then some (putv L e o.d (.agg (((a.cells.drop p).take n).map AV.s1)), ah) else none
      | none => match a.cells[p]? with
        | some c => if c.flat then some (putv L e o.d c.s1, ah) else none
        | none => none
    | _ => none
  | .st a x n =>
    match ev e a with
    | .ptr s p => match ah[s]? with
      | some cs =>
        match ev e x, x with
        | .sl .own k xs, .t y => if n = 1 then (over cs p [.sl .own k xs]).map fun cs => (sweep (.cell s p) (put e y (.sl .n k xs)), ah.set s cs) else none
        | w, _ => if w.cells.length = n ∧ allOk w.cells then (over cs p (w.cells.map AV.sh1)).map fun cs => (e, ah.set s cs) else none
      | none => none
    | _ => none
  | .bin op x y => (abin op (ev e x) (ev e y)).map fun a => (putv L e o.d a, ah)
  | .bq neq x y => (abq (ev e x) (ev e y)).map fun b => (putv L e o.d (.bool (if neq then !b else b)), ah)
  | .pq neq x y => (apq (ev e x) (ev e y)).map fun b => (putv L e o.d (.bool (if neq then !b else b)), ah)
  | .seq ks neq x y =>
    match ev e x, ev e y with
    | .agg as, .agg bs => (seqb ks as bs).map fun b => (putv L e o.d (.bool (if neq then !b else b)), ah)
    | _, _ => none
  | .un op x => (aun op (ev e x)).map fun a => (putv L e o.d a, ah)
  | .cvt h x => match h, ev e x with
    | .bs, .msl s k p n => if k = 1 then match ah[s]? with
      | some cs => if p + n ≤ cs.length then (bytesOf ((cs.drop p).take n)).map fun l => (putv L e o.d (.str l), ah) else none
      | none => none else none
    | h, a => (acvt h a).map fun a => (putv L e o.d a, ah)
  | .cvte x => (acvt .bs (ev e x)).map fun a => (putv L e o.d a, ah)
  | .cvto x => match ev e x with
    | .str l => some (putv L e o.d (.msl ah.length 1 0 l.length), ah ++ [l.map b8])
    | _ => none
  | .iq neq x y => (aiq (ev e x) (ev e y)).map fun b => (putv L e o.d (.bool (if neq then !b else b)), ah)
  | .mm mx x y => (amm mx (ev e x) (ev e y)).map fun a => (putv L e o.d a, ah)
  | .mkf f cs => some (putv L e o.d (.fn f (cs.map (ev e))), ah)
  | .sls x lo hi =>
    match ev e x with
    | .str l => match bnd e 0 lo, bnd e l.length hi with
      | some i, some j => if i ≤ j ∧ j ≤ l.length then some (putv L e o.d (.str ((l.take j).drop i)), ah) else none
      | _, _ => none
    | _ => none
  | .slc k x lo hi mx =>
    match ev e x with
    | .sl _ k' xs => match bnd e 0 lo, bnd e xs.length hi, mx with
      | some i, some j, none => if k' = k ∧ i ≤ j ∧ j ≤ xs.length then some (putv L e o.d (.sl .n k ((xs.take j).drop i)), ah) else none
      | some i, some j, some m => if hi.isNone then none else match bnd e 0 (some m) with
        | some m => if k' = k ∧ i ≤ j ∧ j = m ∧ m ≤ xs.length then some (putv L e o.d (.sl .ex k ((xs.take j).drop i)), ah) else none
        | none => none
      | _, _, _ => none
    | _ => none
  | .ixa k x i =>
    match ev e x, ev e i with
    | .sl _ k' xs, .int _ i => if 0 ≤ i then match xs[i.toNat]? with
      | some a => if k' = k then some (putv L e o.d (.ep a 0), ah) else none
      | none => none else none
    | .msl s k' p n, .int _ i => if 0 ≤ i ∧ i < n ∧ k' = k then some (putv L e o.d (.ptr s (p + i.toNat * k)), ah) else none
    | .gsl s k' n _, .int _ i => if 0 ≤ i ∧ i < n ∧ k' = k then some (putv L e o.d (.ptr s (i.toNat * k)), ah) else none
    | _, _ => none
  | .ixp k m x i =>
    match ev e x, ev e i with
    | .ptr s p, .int _ i => if 0 ≤ i ∧ i < m then some (putv L e o.d (.ptr s (p + i.toNat * k)), ah) else none
    | .ep a p, .int _ i => if 0 ≤ i ∧ i < m then some (putv L e o.d (.ep a (p + i.toNat * k)), ah) else none
    | _, _ => none
  | .ixs x i =>
    match ev e x, ev e i with
    | .str l, .int _ i => if 0 ≤ i then match l[i.toNat]? with
      | some c => some (putv L e o.d (b8 c), ah)
      | none => none else none
    | _, _ => none
  | .ext x i =>
    match ev e x with
    | .tup cs => match cs[i]? with
      | some a => some (putv L e o.d a.sh, ah)
      | none => none
    | _ => none
  | .len x =>
    match ev e x with
    | .sl _ _ xs => some (putv L e o.d (.int .i64 xs.length), ah)
    | .msl _ _ _ n => some (putv L e o.d (.int .i64 n), ah)
    | .gsl _ _ n _ => some (putv L e o.d (.int .i64 n), ah)
    | _ => none
  | .lens x =>
    match ev e x with
    | .str l => some (putv L e o.d (.int .i64 l.length), ah)
    | _ => none
  | .app k b x y =>
    match ev e y with
    | .sl _ k' ys => if k' = k then aapp L e ah o.d k b x ys else none
    | _ => none
  | .apps b x y =>
    match ev e y with
    | .str l => aapp L e ah o.d 1 b x (l.map b8)
    | _ => none
  | .lit y bs => some (put (putv L e o.d (.sl .ex 1 (bs.map b8))) y .un, ah)
  | .aso k x => match ev e x with
    | .sl .ex k' [] => if k' = k then some (putv L e o.d (.gsl 0 k 0 0), ah) else none
    | .gsl s k' n c => some (putv L e o.d (.gsl s k' n c), ah)
    | _ => none
  | .appo _ _ _ _ => none
  | .nq _ _ => none
  | .bad => none
  | .call _ _ => none

/-- a slice and nil: of an empty one it is not known -/
def nqW (L : List Nat) (d : Option Nat) (neq : Bool) (x : Ar) (e : Env) (ah : AH) (K : Env → AH → Prop) : Prop :=
  match ev e x with
  | .sl _ _ xs => (xs = [] → ∀ b, K (putv L e d (.bool b)) ah) ∧ (xs ≠ [] → K (putv L e d (.bool neq)) ah)
  | _ => False
/-- a row's cells as an object's, and room behind -/
def gcs (k : Nat) (xs : List AV) (c : Nat) : List AV := (xs.map fun a => a.cells.map AV.s1).flatten ++ List.replicate ((c - xs.length) * k) .un
/-- behind a row that is an object: in its place, or as a new one -/
def appoW (L : List Nat) (d : Option Nat) (k b : Nat) (x y : Ar) (e : Env) (ah : AH) (K : Env → AH → Prop) : Prop :=
  match ev e y, ev e x with
  | .sl _ k1 ys, .gsl s k2 n c => k1 = k ∧ k2 = k ∧ ys ≠ [] ∧ (n + ys.length) * b ≤ 140737488355328 ∧ n + ys.length ≤ 4611686018427387904 ∧
      ((c = 0 ∧ n = 0 ∧ ∀ c', ys.length ≤ c' → K (putv L e d (.gsl ah.length k ys.length c')) (ah ++ [gcs k ys c'])) ∨
       (∃ cs, ah[s]? = some cs ∧ cs ≠ [] ∧ cs.length = c * k ∧ n ≤ c ∧ allFlat (cs.take (n * k)) = true ∧
        (n + ys.length ≤ c → K (putv L e d (.gsl s k (n + ys.length) c)) (ah.set s (cs.take (n * k) ++ (ys.map fun a => a.cells.map AV.s1).flatten ++ cs.drop ((n + ys.length) * k)))) ∧
        (c < n + ys.length → ∀ c', n + ys.length ≤ c' → K (putv L e d (.gsl ah.length k (n + ys.length) c')) (ah ++ [(cs.take (n * k)).map AV.s1 ++ gcs k ys (c' - n)]))))
  | _, _ => False

def guardOk (e : Env) (o : AOper) : Option Bool :=
  match o.g with
  | none => some true
  | some (t, want) => match get e t with
    | .bool b => some (b == want)
    | .tup [] => some false
    | .un => none
    | _ => none

/-! ### the compiler -/
def carg (P : Program) (ty : TypeId) : Operand → Option Ar
  | .tmp t => some (.t t)
  | .const (.slice none 0 0) => (tel P ty).map fun e => .c (.sl .ex (tsz P e) [])
  | .const (.int k i) => some (.c (.int k i))
  | .const (.string s) => some (.c (.str s.data.toList))
  | .const (.bool b) => some (.c (.bool b))
  | .const (.pointer none) => some (.c (.v (.pointer none)))
  | .const .nilFunc => some (.c (.v .nilFunc))
  | .const .nilIface => some (.c (.v .nilIface))
  | .const (.map none) => some (.c (.v (.map none)))
  | .const _ => none
  | .func f => some (.c (.fn f []))
  | .global _ => none

/-- without regard to a type: where nil does not stand -/
def carg0 : Operand → Option Ar
  | .tmp t => some (.t t)
  | .const (.int k i) => some (.c (.int k i))
  | .const (.string s) => some (.c (.str s.data.toList))
  | .const (.bool b) => some (.c (.bool b))
  | .const (.pointer none) => some (.c (.v (.pointer none)))
  | .const .nilFunc => some (.c (.v .nilFunc))
  | .func f => some (.c (.fn f []))
  | _ => none

def cargs0 : List Operand → Option (List Ar)
  | [] => some []
  | x :: r => match carg0 x, cargs0 r with
    | some a, some as => some (a :: as)
    | _, _ => none

def cargs (P : Program) : List TypeId → List Operand → Option (List Ar)
  | _, [] => some []
  | t :: ts, x :: r => match carg P t x, cargs P ts r with
    | some a, some as => some (a :: as)
    | _, _ => none
  | [], _ :: _ => none

def copt : Option Operand → Option (Option Ar)
  | none => some none
  | some x => (carg0 x).map some

/-- zero values -/
def zl (P : Program) : Nat → TypeId → Option (List AV)
  | 0, _ => none
  | n + 1, t => match P.underlying t with
    | some (.int k) => some [.int k 0]
    | some .bool => some [.bool false]
    | some .string => some [.str []]
    | some (.slice e) => some [.sl .ex (tsz P e) []]
    | some (.pointer _) => some [.v (.pointer none)]
    | some (.func _ _ _) => some [.v .nilFunc]
    | some (.map _ _) => some [.v (.map none)]
    | some (.struct fs) => fs.toList.foldr (fun f r => match zl P n f.type, r with | some a, some b => some (a ++ b) | _, _ => none) (some [])
    | some (.array m e) => match zl P n e with
      | some a => some (List.replicate m a).flatten
      | none => none
    | _ => none

def zok : AV → Value → Bool
  | .int k i, .int k' j => k == k' && i == j
  | .bool a, .bool b => a == b
  | .str [], .string s => s.data.size == 0
  | .sl .ex _ [], .slice none 0 0 => true
  | .v (.pointer none), .pointer none => true
  | .v .nilFunc, .nilFunc => true
  | .v (.map none), .map none => true
  | _, _ => false

def zoks : List AV → List Value → Bool
  | [], [] => true
  | a :: as, v :: vs => zok a v && zoks as vs
  | _, _ => false

def zeroOf (P : Program) (t : TypeId) : Option (List AV) :=
  match zl P 20 t, (P.info? t).bind (·.zero) with
  | some cs, some z => if zoks cs z.cells.toList then some cs else none
  | _, _ => none

/-- parts of a struct: offsets; each part has its field's size -/
def cparts (P : Program) (t : TypeId) : List (Nat × Operand) → Option (List (Nat × Nat × Ar))
  | [] => some []
  | (i, x) :: r => match tfd P t i with
    | some f => match carg P f.type x, cparts P t r with
      | some a, some as => some ((f.offset, tsz P f.type, a) :: as)
      | _, _ => none
    | none => none

def constP : Nat × Nat × Ar → Bool
  | (_, _, .c _) => true
  | _ => false
/-- parts of an array -/
def aparts (P : Program) (el : TypeId) : List (Nat × Operand) → Option (List (Nat × Nat × Ar))
  | [] => some []
  | (i, x) :: r => match carg P el x, aparts P el r with
    | some a, some as => some ((i * tsz P el, tsz P el, a) :: as)
    | _, _ => none

/-- a slice's parts, all of them, in order -/
def cslice (P : Program) (e : TypeId) : Nat → List (Nat × Operand) → Option (List Ar)
  | _, [] => some []
  | n, (i, x) :: r => if i = n then (match carg P e x, cslice P e (n + 1) r with
      | some a, some as => some (a :: as)
      | _, _ => none) else none

/-- do a struct's fields lie one behind the other, each one plain cell? their kinds -/
def plainKs (P : Program) : Nat → List Field → Option (List Pk)
  | _, [] => some []
  | i, f :: r => if f.offset = i ∧ f.name ≠ "_" ∧ tsz P f.type = 1 then
      match P.underlying f.type, plainKs P (i + 1) r with
      | some (.int _), some ks => some (.i :: ks)
      | some .string, some ks => some (.s :: ks)
      | some .bool, some ks => some (.b :: ks)
      | _, _ => none
    else none

/-- the same, where a field may be such a struct -/
def nestKs (P : Program) : Nat → List Field → Option (List Pk)
  | _, [] => some []
  | i, f :: r => if f.offset = i ∧ f.name ≠ "_" then
      match P.underlying f.type with
      | some (.struct gs) => if P.stoodInHeld f.type = false ∧ (P.info? f.type).isSome then match plainKs P 0 gs.toList with
          | some k1 => if tsz P f.type = k1.length then (nestKs P (i + k1.length) r).map (k1 ++ ·) else none
          | none => none else none
      | some (.int _) => if tsz P f.type = 1 then (nestKs P (i + 1) r).map (.i :: ·) else none
      | some .string => if tsz P f.type = 1 then (nestKs P (i + 1) r).map (.s :: ·) else none
      | some .bool => if tsz P f.type = 1 then (nestKs P (i + 1) r).map (.b :: ·) else none
      | _ => none
    else none

def plainEq (P : Program) (t : TypeId) (fs : Array Field) : Option (List Pk) :=
  if P.stoodInHeld t = false ∧ P.eqGuardType P.depth t = false then (match plainKs P 0 fs.toList with | some ks => some ks | none => nestKs P 0 fs.toList) else none

def ccv (P : Program) (s d : TypeId) : Option Cv :=
  match P.underlying s, P.underlying d with
  | some (.int _), some (.int k) => some (.int k)
  | some .string, some .string => some .same
  | some .string, some (.slice e) => (match P.underlying e with | some (.int .u8) => if tsz P e = 1 then some .sb else none | _ => none)
  | some (.slice e), some .string => (match P.underlying e with | some (.int .u8) => if tsz P e = 1 then some .bs else none | _ => none)
  | _, _ => none

def cop (P : Program) (o : Oper) : Option AOp :=
  match o.op with
  | .move x => (carg P o.type x).map .mv
  | .assign x => (carg P o.type x).map .asg
  | .pick c a b => match carg0 c, carg P o.type a, carg P o.type b with
    | some c, some a, some b => some (.pick c a b)
    | _, _, _ => none
  | .alloc t => (zeroOf P t).map .alloc
  | .box t x => (carg P t x).map .box
  | .build t parts => match P.underlying t with
    | some (.struct fs) => match zeroOf P t, cparts P t parts.toList with
      | some z, some ps => if fs.toList.all (fun f => (P.info? f.type).isSome) then some (.build z ps) else none
      | _, _ => none
    | some (.array _ el) => match zeroOf P t, aparts P el parts.toList with
      | some z, some ps => if (P.info? el).isSome then (if ps.all constP then (fill [] z ps).map fun z' => .build z' [] else some (.build z ps)) else none
      | _, _ => none
    | _ => none
  | .buildSlice t n parts => match tel P t with
    | some e => if parts.size = n ∧ n * tsz P e ≤ 16777216 ∧ (zeroOf P e).isSome then (cslice P e 0 parts.toList).map (.bsl (tsz P e)) else none
    | none => none
  | .load t x => if tok P t then (carg0 x).map fun x => .ld x (tn P t) else none
  | .store t a x => match carg0 a, carg P t x with
    | some a, some x => if tok P t && o.dst.isNone then some (.st a x (tsz P t)) else none
    | _, _ => none
  | .nilCheck x => (carg0 x).map .nck
  | .fieldAddr t x f => match carg0 x, tfd P t f with
    | some x, some f => if tsz P f.type = 0 then none else some (.fld x f.offset)
    | _, _ => none
  | .field t x f => match carg0 x, tfd P t f with
    | some x, some f => if tok P f.type then some (.fldv x f.offset (tn P f.type)) else none
    | _, _ => none
  | .binOp op t x y _ => match carg0 x, carg0 y with
    | some x, some y =>
      match P.underlying t with
      | some (.struct fs) => match plainEq P t fs with
        | some ks => (match op with | .eql => some (.seq ks false x y) | .neq => some (.seq ks true x y) | _ => none)
        | none => none
      | some (.int _) | some .string => some (.bin op x y)
      | some .bool => (match op with | .eql => some (.bq false x y) | .neq => some (.bq true x y) | _ => none)
      | some (.pointer _) => (match op with | .eql => some (.pq false x y) | .neq => some (.pq true x y) | _ => none)
      | _ => none
    | some x', none => (match P.underlying t, op, y with
      | some (.interface _), .eql, .const .nilIface => some (.iq false x' (.c (.v .nilIface)))
      | some (.interface _), .neq, .const .nilIface => some (.iq true x' (.c (.v .nilIface)))
      | some (.slice _), .eql, .const (.slice none 0 0) => some (.nq false x')
      | some (.slice _), .neq, .const (.slice none 0 0) => some (.nq true x')
      | _, _, _ => none)
    | _, _ => none
  | .unOp op _ x => (carg0 x).map (.un op)
  | .convert s d x => match ccv P s d, carg0 x with
    | some h, some x => some (.cvt h x)
    | _, _ => none
  | .makeFunc (.func f) first cs => if first.size = 0 then (cargs0 cs.toList).map (.mkf f) else none
  | .slice t x lo hi mx => match carg0 x, copt lo, copt hi, copt mx with
    | some x, some lo, some hi, some mx =>
      match P.underlying t with
      | some .string => (match mx with | none => some (.sls x lo hi) | _ => none)
      | some (.slice e) => if tok P e then some (.slc (tsz P e) x lo hi mx) else none
      | _ => none
    | _, _, _, _ => none
  | .indexAddr t x i => match tel P t, carg0 x, carg0 i with
    | some e, some x, some i => if tok P e then some (.ixa (tsz P e) x i) else none
    | none, some x, some i => (match P.underlying t with
      | some (.array m e) => if tok P e then some (.ixp (tsz P e) m x i) else none
      | _ => none)
    | _, _, _ => none
  | .index t x i => match P.underlying t, carg0 x, carg0 i with
    | some .string, some x, some i => some (.ixs x i)
    | _, _, _ => none
  | .extract x i => (carg0 x).map (.ext · i)
  | .call c =>
    match c.callee, c.args.toList, c.argTypes.toList with
    | .builtin .len, [x], [t] => match P.underlying t, carg P t x with
      | some .string, some x => some (.lens x)
      | some (.slice _), some x => some (.len x)
      | _, _ => none
    | .builtin .max, [x, y], [t, u] => (match P.underlying t, P.underlying o.type, carg0 x, carg0 y with
      | some (.int _), some (.int _), some x, some y => if t = u ∧ o.type = t then some (.mm true x y) else none
      | _, _, _, _ => none)
    | .builtin .min, [x, y], [t, u] => (match P.underlying t, P.underlying o.type, carg0 x, carg0 y with
      | some (.int _), some (.int _), some x, some y => if t = u ∧ o.type = t then some (.mm false x y) else none
      | _, _, _, _ => none)
    | .builtin .append, [x, y], [t, u] =>
      match tel P t, carg P t x with
      | some e, some x =>
        match P.underlying u, carg P u y with
        | some (.slice _), some y => if (zeroOf P e).map List.length = some (tsz P e) then some (.app (tsz P e) (tby P e) x y) else none
        | some .string, some y => if tsz P e = 1 ∧ (zeroOf P e).map List.length = some (tsz P e) then some (.apps (tby P e) x y) else none
        | _, _ => none
      | _, _ => none
    | .value f, as, ts => match carg0 f, cargs P ts as with
      | some f, some as => some (.call f as)
      | _, _ => none
    | _, _, _ => none
  | _ => none

def cguard (ops : Array Oper) : Option (Nat × Bool) → Option (Option (Nat × Bool))
  | none => some none
  | some (j, w) => ((ops[j]?).bind (·.dst)).map fun t => some (t, w)

/-- '[]byte("..")': a row, and its mark -/
def litB : List Ar → Option (List UInt8)
  | [] => some []
  | .c (.int .u8 i) :: r => if 0 ≤ i ∧ i < 256 then (litB r).map (UInt8.ofNat i.toNat :: ·) else none
  | _ :: _ => none
def litOf (P : Program) (o o2 : Oper) : Option AOper :=
  match o.op, o2.op, o.dst with
  | .buildSlice t n parts, .convert s d (.tmp x), some y =>
    if x = y ∧ s = t ∧ d = t ∧ o.guard.isNone ∧ o2.guard.isNone ∧ o2.dst ≠ some y ∧ parts.size = n ∧ n ≤ 16777216 then
      match tel P t with
      | some e => match P.underlying e with
        | some (.int .u8) => if tsz P e = 1 ∧ (zeroOf P e).isSome then match cslice P e 0 parts.toList with
          | some as => (litB as).map fun bs => ⟨o2.dst, .lit y bs, none⟩
          | none => none else none
        | _ => none
      | none => none
    else none
  | _, _, _ => none

def bare (o : Oper) : Oper := { o with guard := none }
/-- the same, where both wait for a condition -/
def litG (P : Program) (ops : Array Oper) (o o2 : Oper) : Option (List AOper) :=
  if o.guard = o2.guard then match o.guard, cguard ops o.guard, litOf P (bare o) (bare o2) with
    | some _, some (some (t, w)), some ⟨d, .lit y bs, _⟩ => if t = y then none else some [⟨some y, .mv (.c .un), some (t, w)⟩, ⟨d, .lit y bs, some (t, w)⟩]
    | _, _, _ => none
  else none
/-- what has no word here is a way that is not gone -/
def copB (P : Program) (o : Oper) : Option AOp := match cop P o with | some a => some a | none => some .bad
def cops (P : Program) (ops : Array Oper) : List Oper → Option (List AOper)
  | [] => some []
  | [o] => match copB P o, cguard ops o.guard with
    | some a, some g => some [⟨o.dst, a, g⟩]
    | _, _ => none
  | o :: o2 :: r => match litOf P o o2 with
    | some a => (cops P ops r).map (a :: ·)
    | none => match litG P ops o o2 with
    | some as => (cops P ops r).map (as ++ ·)
    | none => match copB P o, cguard ops o.guard, cops P ops (o2 :: r) with
      | some a, some g, some as => some (⟨o.dst, a, g⟩ :: as)
      | _, _, _ => none

/-! ### regions whose order is drawn: one order for all -/
def storeO : Op → Bool
  | .store .. => true
  | .call c => (match c.callee with | .builtin .append => true | _ => false)
  | _ => false
/-- it looks at the world, at most, and yields a value -/
def quietO (P : Program) : Op → Bool
  | .move _ | .assign _ | .pick .. | .nilCheck _ | .fieldAddr .. | .field .. | .load .. | .binOp .. | .unOp .. | .makeFunc .. | .slice .. | .indexAddr .. | .index .. | .extract .. => true
  | .build t _ => match P.underlying t with | some (.struct _) => true | _ => false
  | .convert _ d _ => match P.underlying d with | some (.slice _) => false | _ => true
  | .call c => match c.callee with | .builtin .len => true | _ => false
  | _ => false

def isCallV : Op → Bool
  | .call c => match c.callee with | .value _ => true | _ => false
  | _ => false
/-- a load of an element of a row, and of nothing else -/
def AOp.toE : AOp → AOp
  | .ld x n => .lde x n
  | .cvt .bs x => .cvte x
  | op => op
def copM (P : Program) (m : Bool) (o : Oper) : Option AOp := if m then cop P o else (cop P o).map AOp.toE
def copsM (P : Program) (ops : Array Oper) : List (Bool × Nat) → Option (List AOper)
  | [] => some []
  | (m, i) :: r => match ops[i]? with
    | some o => match copM P m o, cguard ops o.guard, copsM P ops r with
      | some a, some g, some as => some (⟨o.dst, a, g⟩ :: as)
      | _, _, _ => none
    | none => none
def stOk (P : Program) (m : Bool) (o : Oper) : Bool := quietO P o.op || !m || (!storeO o.op && !isCallV o.op)
/-- those that wait for i -/
def waitsOn (ops : Array Oper) (i : Nat) : List Nat :=
  (List.range ops.size).foldl (fun W j => match ops[j]? with
    | some oj => if oj.after.any (fun e => Region.binds .any e && (e.on == i || W.contains e.on)) then j :: W else W
    | none => W) []
/-- while i is pending, none of D may come up -/
def holdsW (ops : Array Oper) (D : Nat → Bool) (listed : Array Bool) (i : Nat) (W : List Nat) : Bool :=
  W.all (fun j => !listed.getD j true && match ops[j]? with
    | some oj => oj.after.any fun e => Region.binds .any e && (e.on == i || W.contains e.on)
    | none => false) &&
  (List.range ops.size).all fun j => !D j || listed.getD j true || W.contains j
def holdsD (ops : Array Oper) (D : Nat → Bool) (listed : Array Bool) (i : Nat) : Bool := holdsW ops D listed i (waitsOn ops i)
def stageOk (P : Program) (ops : Array Oper) (m : Bool) (D : Nat → Bool) : List Nat → Array Bool → Bool
  | [], _ => true
  | i :: r, listed => (match ops[i]? with
    | some o => ((quietO P o.op && !D i && (Region.ready .any ops listed).contains i && Region.free .any ops listed i && holdsD ops D listed i) || (stOk P m o && Region.ready .any ops listed == [i]))
    | none => false) && stageOk P ops m D r (listed.setIfInBounds i true)
def stagesOk (P : Program) (ops : Array Oper) : List (Bool × List Nat) → Array Bool → Bool
  | [], listed => Region.ready .any ops listed == []
  | (m, l) :: r, listed => (match l with
    | [i] => m && Region.ready .any ops listed == [i]
    | l => stageOk P ops m (fun j => !l.contains j) l listed) && stagesOk P ops r (l.foldl (fun a i => a.setIfInBounds i true) listed)
def flatS : List (Bool × List Nat) → List (Bool × Nat)
  | [] => []
  | (m, l) :: r => l.map (fun i => (m, i)) ++ flatS r
def finS (ops : Array Oper) : List Nat → List (Bool × List Nat) → List (Bool × List Nat)
  | [], r => r
  | [i], r => (true, [i]) :: r
  | l, r => (!l.any (fun i => ((ops[i]?).map fun o => isCallV o.op || storeO o.op).getD false), l.reverse) :: r
def greedy (P : Program) (ops : Array Oper) (m : Bool) : Nat → Array Bool → List Nat → List (Bool × List Nat) → Option (List (Bool × List Nat))
  | 0, _, cur, acc => some (finS ops cur acc).reverse
  | n + 1, listed, cur, acc =>
    let rs := Region.ready .any ops listed
    match rs with
    | [] => some (finS ops cur acc).reverse
    | [i] =>
      match ops[i]? with
      | some o => if !quietO P o.op && (m && (storeO o.op || isCallV o.op)) then greedy P ops m n (listed.setIfInBounds i true) [] ((true, [i]) :: finS ops cur acc)
        else greedy P ops m n (listed.setIfInBounds i true) (i :: cur) acc
      | none => none
    | rs => match rs.find? (fun i => ((ops[i]?).map fun o => quietO P o.op).getD false && Region.free .any ops listed i) with
      | some i => greedy P ops m n (listed.setIfInBounds i true) (i :: cur) acc
      | none => none
def schedOk (P : Program) (ops : Array Oper) (st : List (Bool × List Nat)) : Bool :=
  stagesOk P ops st (Array.replicate ops.size false) && (flatS st).length == ops.size
def sched (P : Program) (ops : Array Oper) : Option (List (Bool × List Nat)) :=
  match (greedy P ops true ops.size (Array.replicate ops.size false) [] []).filter (schedOk P ops) with
  | some st => some st
  | none => (greedy P ops false ops.size (Array.replicate ops.size false) [] []).filter (schedOk P ops)

def ccode (P : Program) : Code → Option ACode
  | .skip => some .skip
  | .label _ => some .skip
  | .ret => some .ret
  | .exit i => some (.exit i)
  | .region _ ops draw =>
    if draw then
      if P.follows .mixedOrders && Region.noSelect ops then match sched P ops with
        | some st => (copsM P ops (flatS st)).map .rg
        | none => none
      else none
    else (cops P ops ops.toList).map .rg
  | .seq a b => match ccode P a, ccode P b with
    | some a, some b => some (.seq a b)
    | _, _ => none
  | .cond c a b => match carg0 c, ccode P a, ccode P b with
    | some c, some a, some b => some (.cond c a b)
    | _, _, _ => none
  | .block i c => (ccode P c).map (.blk i)
  | .loop c => (ccode P c).map .loop
  | .scope c => ccode P c
  | _ => none
end Go.Am
