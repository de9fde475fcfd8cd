import Derived.Deep.LoopGhost
import Derived.Orders
import Derived.KernelRfl
import Derived.Laws.Sem
import Derived.Tactics
import Derived.Laws.Strings
import Derived.Laws.StructEq
import Derived.Laws.Append
import Derived.Laws.IdiomCopy
import Derived.Laws.IdiomStrings
import Derived.Laws.BytesString
import Derived.Stop.IfaceNil
set_option linter.unusedSimpArgs false
set_option linter.unusedVariables false
set_option linter.unusedSectionVars false
set_option linter.defProp false
section
namespace Go.Am
open Go
inductive Loc where
 |tmp (t:Nat)
 |cell (s o:Nat)
 deriving DecidableEq
inductive Tg where
 |n|ex|own
 |fr (l:Loc)
 deriving DecidableEq
inductive AV where
 |v (x:Value)
 |int (k:IntKind) (i:Int)
 |bool (b:Bool)
 |str (l:List UInt8)
 |ptr (s o:Nat)
 |sl (t:Tg) (k:Nat) (xs:List AV)
 |ep (e:AV) (o:Nat)
 |agg (cs:List AV)
 |bz (cs:List AV)
 |fn (f:Nat) (cs:List AV)
 |cN (s k o n:Nat)
 |cr (s k n c:Nat)
 |eG
 |dy (t:TypeId)
 |dn (e:TypeId) (l:List UInt8)
 |un
abbrev Env:=List (Nat×AV)
abbrev AH:=List (List AV)
def get:Env→Nat→AV
 |[],_=> .un
 |(i,a)::r,t=>if i=t then a else get r t
def put:Env→Nat→AV→Env
 |[],d,a=>[(d,a)]
 |(i,b)::r,d,a=>if i=d then (d,a)::r else if d<i then (d,a)::(i,b)::r else (i,b)::put r d a
def keep (L:List Nat):Env→Env
 |[]=>[]
 |(i,a)::r=>if L.contains i then (i,a)::keep L r else keep L r
def Tg.sh:Tg→Tg
 | .ex=> .ex
 |_=> .n
def AV.bN:AV→AV
 | .sl t k xs=> .sl t.sh k xs
 | .dy _=> .un
 | .dn _ _=> .un
 |a=>a
def AV.sh:AV→AV
 | .agg cs=> .agg (cs.map AV.bN)
 | .bz cs=> .bz (cs.map AV.bN)
 |a=>a.bN
def AV.s1:AV→AV
 | .sl _ k xs=> .sl .n k xs
 | .dy _=> .un
 | .dn _ _=> .un
 |a=>a
def AV.s0:AV→AV
 | .agg cs=> .agg (cs.map AV.s1)
 |a=>a.s1
def AV.df:AV→AV
 | .sl (.fr _) k xs=> .sl .n k xs
 | .dy _=> .un
 | .dn _ _=> .un
 |a=>a
def AV.bY:AV→Bool
 | .sl .own _ _=>true
 | .dy _=>true
 | .dn _ _=>true
 |_=>false
def AV.DN:AV→Bool
 | .sl .own _ _=>true
 |_=>false
def AV.rE:AV→AV
 | .sl .own k xs=> .sl .n k xs
 |a=>a
def AV.e5 (l:Loc):AV→AV
 | .sl (.fr m) k xs=>if m=l then .sl .n k xs else .sl (.fr m) k xs
 |a=>a
def lR (l:Loc):Env→Env
 |[]=>[]
 |(i,a)::r=>(i,a.e5 l)::lR l r
def AV.cells:AV→List AV
 | .agg cs=>cs
 |a=>[a]
def AV.iR:AV→Bool
 | .agg _| .bz _| .un| .dy _| .dn _ _=>false
 |_=>true
def AV.flat:AV→Bool
 | .agg _| .bz _=>false
 |_=>true
def bP:List AV→Bool
 |[]=>true
 |a::r=>a.flat&&bP r
def bU:List AV→Bool
 |[]=>true
 |a::r=>a.iR&&bU r
def AV.np:AV→Bool
 | .ptr _ _| .agg _| .bz _| .cN _ _ _ _| .cr _ _ _ _| .dy _| .dn _ _=>false
 | .fn _ cs=>cs.isEmpty
 | .ep _ _=>false
 |_=>true
def gz:List AV→Bool
 |[]=>true
 |a::r=>a.np&&gz r
def tok (P:Program) (t:TypeId):Bool:=(P.underlying t).isSome&&(P.info? t).isSome
def cP (P:Program) (t:TypeId):Nat:=((P.info? t).map (·.size)).getD 0
def IX (P:Program) (t:TypeId):Nat:=((P.info? t).map (·.bytes)).getD 0
def E6 (P:Program) (t:TypeId):Bool:=match P.underlying t with|some (.struct _)|some (.array _ _)=>true|_=>false
def E7 (P:Program) (t:TypeId):Option TypeId:=match P.underlying t with|some (.slice e)=>some e|_=>none
def KY (P:Program) (t:TypeId) (f:Nat):Option Field:=match P.underlying t with|some (.struct fs)=>fs[f]? |_=>none
def tn (P:Program) (t:TypeId):Option Nat:=if E6 P t then some (cP P t) else none
inductive Ar where
 |t (n:Nat)
 |c (a:AV)
inductive Cv where
 |int (k:IntKind)|sb|bs|same
inductive Pk where
 |i|s|b
inductive fV where
 |mv (x:Ar)
 |aO (x:Ar)
 |pick (c a b:Ar)
 |alloc (cs:List AV)
 |box (x:Ar)
 |build (zero:List AV) (parts:List (Nat×Nat×Ar))
 |gA (k:Nat) (parts:List Ar)
 |nv (k:Nat) (parts:List Ar)
 |ld (x:Ar) (n:Option Nat)
 |Bh (x:Ar) (n:Option Nat)
 |st (a x:Ar) (n:Nat)
 |jy (x:Ar)
 |cj (x:Ar) (q:Nat)
 |Ik (x:Ar) (q:Nat) (n:Option Nat)
 |bin (op:BinOp) (x y:Ar)
 |bq (neq:Bool) (x y:Ar)
 |pq (neq:Bool) (x y:Ar)
 |seq (ks:List Pk) (neq:Bool) (x y:Ar)
 |un (op:UnOp) (x:Ar)
 |iS (h:Cv) (x:Ar)
 |um (x:Ar)
 |KZ (x:Ar)
 |iq (neq:Bool) (x y:Ar)
 |mm (mx:Bool) (x y:Ar)
 |Uk (f:Nat) (cs:List Ar)
 |mh (x:Ar) (lo hi:Option Ar)
 |slc (k:Nat) (x:Ar) (lo hi mx:Option Ar)
 |mj (k:Nat) (x i:Ar)
 |Ul (k m:Nat) (x i:Ar)
 |ixs (x i:Ar)
 |ext (x:Ar) (i:Nat)
 |len (x:Ar)
 |lens (x:Ar)
 |app (k b:Nat) (x y:Ar)
 |apps (b:Nat) (x y:Ar)
 |mu (k b:Nat) (x y:Ar)
 |yJ (k:Nat) (x:Ar)
 |nq (neq:Bool) (x:Ar)
 |bad
 |lit (y:Nat) (bs:List UInt8)
 |call (f:Ar) (zq:List Ar)
structure aM where
 d:Option Nat
 op:fV
 g:Option (Nat×Bool)
inductive av where
 |skip
 |rg (ops:List aM)
 |seq (a b:av)
 |cond (c:Ar) (a b:av)
 |blk (i:Nat) (c:av)
 |loop (c:av)
 |exit (i:Nat)
 |ret
 |sem (c:av)
def fV.er:fV→fV
 | .um x=> .iS .sb x
 | .mu k b x y=> .app k b x y
 | .yJ _ x=> .aO x
 | .nv k parts=> .gA k parts
 |op=>op
def aM.er (o:aM):aM:=⟨o.d,o.op.er,o.g⟩
def erase:av→av
 | .rg ops=> .rg (ops.map aM.er)
 | .seq a b=> .seq (erase a) (erase b)
 | .cond c a b=> .cond c (erase a) (erase b)
 | .blk i c=> .blk i (erase c)
 | .sem c=>c
 |c=>c
class Tabs where
 l:List (Nat×(Array Value→Prop))
def ev (e:Env):Ar→AV
 | .t n=>get e n
 | .c a=>a
def cp (L:List Nat) (x:Ar) (a:AV):AV:=
 match a with
 | .sl .own k xs=>(match x with| .t t=>if L.contains t then .sl (.fr (.tmp t)) k xs else .sl .n k xs|_=> .sl .n k xs)
 | .agg cs=> .agg (cs.map AV.bN)
 | .bz cs=> .bz (cs.map AV.bN)
 | .dy _=> .un
 | .dn _ _=> .un
 |a=>a
def aF (L:List Nat) (e:Env) (d:Option Nat) (a:AV):Env:=
 match d with
 |none=>e
 |some d=>if L.contains d then (if a.bY then put (lR (.tmp d) e) d a else put e d a.df) else put e d a
def cU (op:BinOp) (k:IntKind) (a b:Int):Option AV:=
 match op with
 | .add=>some (.int k (k.wrap (a+b)))
 | .sub=>some (.int k (k.wrap (a - b)))
 | .mul=>some (.int k (k.wrap (a*b)))
 | .quo=>if b=0 then none else some (.int k (k.wrap (a.tdiv b)))
 | .rem=>if b=0 then none else some (.int k (a.tmod b))
 | .and=>some (.int k (k.wrap (BitVec.ofInt k.bits a &&& BitVec.ofInt k.bits b).toNat))
 | .or=>some (.int k (k.wrap (BitVec.ofInt k.bits a ||| BitVec.ofInt k.bits b).toNat))
 | .xor=>some (.int k (k.wrap (BitVec.ofInt k.bits a ^^^ BitVec.ofInt k.bits b).toNat))
 | .andNot=>some (.int k (k.wrap (BitVec.ofInt k.bits a &&& ~~~(BitVec.ofInt k.bits b)).toNat))
 | .eql=>some (.bool (decide (a=b)))
 | .neq=>some (.bool (!decide (a=b)))
 | .lss=>some (.bool (decide (a<b)))
 | .leq=>some (.bool (decide (a≤b)))
 | .gtr=>some (.bool (decide (b<a)))
 | .geq=>some (.bool (decide (b≤a)))
 |_=>none
def bl (op:BinOp) (a b:AV):Option AV:=
 match a,b with
 | .int k i, .int k' j=>
   match op with
   | .shl=>if j<0 then none else some (.int k (k.wrap (i*2 ^ (min j.toNat k.bits))))
   | .shr=>if j<0 then none else some (.int k (i.fdiv (2 ^ (min j.toNat k.bits))))
   |op=>if k=k' then cU op k i j else none
 | .str l, .str m=>
   match op with
   | .add=>if l.length+m.length≤9223372036854775807 then some (.str (l++m)) else none
   | .eql=>some (.bool (decide (l=m)))
   | .neq=>some (.bool (!decide (l=m)))
   |_=>none
 |_,_=>none
def Np (a b:AV):Option Bool:=
 match a,b with
 | .bool a, .bool b=>some (a==b)
 |_,_=>none
def Nq (a b:AV):Option Bool:=
 match a,b with
 | .ptr _ _, .v (.pointer none)=>some false
 | .v (.pointer none), .ptr _ _=>some false
 | .v (.pointer none), .v (.pointer none)=>some true
 |_,_=>none
def cC:List Pk→List AV→List AV→Option Bool
 |[],[],[]=>some true
 |k::ks,a::zq,b::bs=>
  match k,a,b with
  | .i, .int k i, .int k' j=>if k=k' then (cC ks zq bs).map (decide (i=j)&& ·) else none
  | .s, .str l, .str m=>(cC ks zq bs).map (decide (l=m)&& ·)
  | .b, .bool x, .bool y=>(cC ks zq bs).map ((x==y)&& ·)
  |_,_,_=>none
 |_,_,_=>none
def Nr (a b:AV):Option Bool:=
 match a,b with
 | .eG, .v .nilIface=>some false
 | .v .nilIface, .v .nilIface=>some true
 |_,_=>none
def K1 (mx:Bool) (a b:AV):Option AV:=
 match a,b with
 | .int k i, .int k' j=>if k=k' then some (.int k (if mx then max i j else min i j)) else none
 |_,_=>none
def Ns (op:UnOp) (a:AV):Option AV:=
 match op,a with
 | .neg, .int k i=>some (.int k (k.wrap (0 - i)))
 | .xor, .int k i=>some (.int k (k.wrap (BitVec.ofInt k.bits (if k.signed then -1 else k.max) ^^^ BitVec.ofInt k.bits i).toNat))
 | .not, .bool b=>some (.bool !b)
 |_,_=>none
def b8 (c:UInt8):AV:= .int .u8 c.toNat
def bytesOf:List AV→Option (List UInt8)
 |[]=>some []
 | .int .u8 i::r=>(bytesOf r).map (UInt8.ofNat i.toNat:: ·)
 |_::_=>none
def fS (h:Cv) (a:AV):Option AV:=
 match h,a with
 | .int k, .int _ i=>some (.int k (k.wrap i))
 | .same, .str l=>some (.str l)
 | .sb, .str l=>some (.sl .own 1 (l.map b8))
 | .bs, .sl _ 1 xs=>(bytesOf xs).map .str
 |_,_=>none
def mw (n:Option Nat) (s o:Nat) (cs:List AV):Option AV:=
 match n with
 |some n=>if o+n≤cs.length∧bP ((cs.drop o).take n) then some (.agg (((cs.drop o).take n).map AV.bN)) else none
 |none=>match cs[o]? with
  |some (.sl .own k xs)=>some (.sl (.fr (.cell s o)) k xs)
  |some a=>if a.flat then some a.bN else none
  |none=>none
def over (cs:List AV) (o:Nat) (ws:List AV):Option (List AV):=
 if o+ws.length≤cs.length then some (cs.take o++ws++cs.drop (o+ws.length)) else none
def fill (e:Env):List AV→List (Nat×Nat×Ar)→Option (List AV)
 |cs,[]=>some cs
 |cs,(o,n,x)::r=>if (ev e x).cells.length=n∧bU (ev e x).cells then match over cs o ((ev e x).cells.map AV.bN) with
  |some cs=>fill e cs r
  |none=>none else none
def nr (e:Env) (dflt:Nat):Option Ar→Option Nat
 |none=>some dflt
 |some x=>match ev e x with
  | .int _ i=>if 0≤i then some i.toNat else none
  |_=>none
def zm (L:List Nat) (e:Env) (ah:AH) (d:Option Nat) (k b:Nat) (x:Ar) (ys:List AV):Option (Env×AH):=
 match ev e x with
 | .sl tg k' xs=>
   if k'=k∧(xs.length+ys.length)*b≤140737488355328∧xs.length+ys.length≤4611686018427387904 then
    match tg with
    | .ex=>some (aF L e d (.sl .own k (xs++ys)),ah)
    | .own=>match x with
      | .t x=>some (aF L (put e x (.sl .n k xs)) d (.sl .own k (xs++ys)),ah)
      |_=>none
    | .fr (.tmp t)=>match get e t with
      | .sl .own k' zs=>if k'=k then some (aF L (put e t (.sl .n k' zs)) d (.sl .own k (xs++ys)),ah) else none
      |_=>none
    | .fr (.cell s q)=>match ah[s]? with
      |some cs=>match cs[q]? with
       |some (.sl .own k' zs)=>if k'=k then (over cs q [.sl .n k' zs]).map fun cs=>(aF L e d (.sl .own k (xs++ys)),ah.set s cs) else none
       |_=>none
      |none=>none
    | .n=>none
   else none
 |_=>none
def bK (L:List Nat) (o:aM) (e:Env) (ah:AH):Option (Env×AH):=
 match o.op with
 | .mv x=>some (aF L e o.d (cp L x (ev e x)),ah)
 | .aO x=>
   match ev e x,x with
   | .sl .own k xs, .t t=>some (aF L (put e t (.sl .n k xs)) o.d (.sl .own k xs),ah)
   |a,_=>some (aF L e o.d (cp L x a),ah)
 | .pick c a b=>
   match ev e c with
   | .bool t=>some (aF L e o.d (if t then (ev e a).sh else (ev e b).sh),ah)
   |_=>none
 | .alloc cs=>some (aF L e o.d (.ptr ah.length 0),ah++[cs])
 | .box x=>if bU (ev e x).cells then some (aF L e o.d (.ptr ah.length 0),ah++[(ev e x).cells.map AV.bN]) else none
 | .build zero parts=>(fill e zero parts).map fun cs=>(aF L e o.d (.agg cs),ah)
 | .gA k parts=>if parts.all (fun p=>(ev e p).cells.length=k&&bU (ev e p).cells&&gz (ev e p).cells) then some (aF L e o.d (.sl .ex k (parts.map fun p=>(ev e p).s0)),ah) else none
 | .jy x=>
   match ev e x with
   | .ptr s p=>some (aF L e o.d (.ptr s p),ah)
   | .ep a p=>some (aF L e o.d (.ep a p),ah)
   |_=>none
 | .cj x q=>
   match ev e x with
   | .ptr s p=>some (aF L e o.d (.ptr s (p+q)),ah)
   | .ep a p=>some (aF L e o.d (.ep a (p+q)),ah)
   |_=>none
 | .Ik x q n=>
   match ev e x with
   | .agg cs=>match n with
     |some n=>if q+n≤cs.length then some (aF L e o.d (.agg (((cs.drop q).take n).map AV.bN)),ah) else none
     |none=>match cs[q]? with
      |some c=>some (aF L e o.d c.bN,ah)
      |none=>none
   |_=>none
 | .nv k []=>some (aF L e o.d (.cr 0 k 0 0),ah)
 | .nv k (z::Yi)=>let parts:=z::Yi;if parts.all (fun p=>(ev e p).cells.length=k&&bU (ev e p).cells&&gz (ev e p).cells) then some (aF L e o.d (.cN ah.length k 0 parts.length),ah++[(parts.map fun p=>(ev e p).cells.map AV.s1).flatten]) else none
 | .ld x n=>
   match ev e x with
   | .ptr s p=>match ah[s]? with
     |some cs=>(mw n s p cs).map fun a=>(aF L e o.d a,ah)
     |none=>none
   | .ep a p=>match n with
     |some n=>if p+n≤a.cells.length∧bP ((a.cells.drop p).take n) then some (aF L e o.d (.agg (((a.cells.drop p).take n).map AV.s1)),ah) else none
     |none=>match a.cells[p]? with
      |some c=>if c.flat then some (aF L e o.d c.s1,ah) else none
      |none=>none
   |_=>none
 | .Bh x n=>
   match ev e x with
   | .ep a p=>match n with
     |some n=>if p+n≤a.cells.length∧bP ((a.cells.drop p).take n) then some (aF L e o.d (.agg (((a.cells.drop p).take n).map AV.s1)),ah) else none
     |none=>match a.cells[p]? with
      |some c=>if c.flat then some (aF L e o.d c.s1,ah) else none
      |none=>none
   |_=>none
 | .st a x n=>
   match ev e a with
   | .ptr s p=>match ah[s]? with
     |some cs=>
      match ev e x,x with
      | .sl .own k xs, .t y=>if n=1 then (over cs p [.sl .own k xs]).map fun cs=>(lR (.cell s p) (put e y (.sl .n k xs)),ah.set s cs) else none
      |w,_=>if w.cells.length=n∧bU w.cells then (over cs p (w.cells.map AV.bN)).map fun cs=>(e,ah.set s cs) else none
     |none=>none
   |_=>none
 | .bin op x y=>(bl op (ev e x) (ev e y)).map fun a=>(aF L e o.d a,ah)
 | .bq neq x y=>(Np (ev e x) (ev e y)).map fun b=>(aF L e o.d (.bool (if neq then !b else b)),ah)
 | .pq neq x y=>(Nq (ev e x) (ev e y)).map fun b=>(aF L e o.d (.bool (if neq then !b else b)),ah)
 | .seq ks neq x y=>
   match ev e x,ev e y with
   | .agg zq, .agg bs=>(cC ks zq bs).map fun b=>(aF L e o.d (.bool (if neq then !b else b)),ah)
   |_,_=>none
 | .un op x=>(Ns op (ev e x)).map fun a=>(aF L e o.d a,ah)
 | .iS h x=>match h,ev e x with
   | .bs, .cN s k p n=>if k=1 then match ah[s]? with
     |some cs=>if p+n≤cs.length then (bytesOf ((cs.drop p).take n)).map fun l=>(aF L e o.d (.str l),ah) else none
     |none=>none else none
   |h,a=>(fS h a).map fun a=>(aF L e o.d a,ah)
 | .KZ x=>(fS .bs (ev e x)).map fun a=>(aF L e o.d a,ah)
 | .um x=>match ev e x with
   | .str l=>some (aF L e o.d (.cN ah.length 1 0 l.length),ah++[l.map b8])
   |_=>none
 | .iq neq x y=>(Nr (ev e x) (ev e y)).map fun b=>(aF L e o.d (.bool (if neq then !b else b)),ah)
 | .mm mx x y=>(K1 mx (ev e x) (ev e y)).map fun a=>(aF L e o.d a,ah)
 | .Uk f cs=>some (aF L e o.d (.fn f (cs.map (ev e))),ah)
 | .mh x lo hi=>
   match ev e x with
   | .str l=>match nr e 0 lo,nr e l.length hi with
     |some i,some j=>if i≤j∧j≤l.length then some (aF L e o.d (.str ((l.take j).drop i)),ah) else none
     |_,_=>none
   |_=>none
 | .slc k x lo hi mx=>
   match ev e x with
   | .sl _ k' xs=>match nr e 0 lo,nr e xs.length hi,mx with
     |some i,some j,none=>if k'=k∧i≤j∧j≤xs.length then some (aF L e o.d (.sl .n k ((xs.take j).drop i)),ah) else none
     |some i,some j,some m=>if hi.isNone then none else match nr e 0 (some m) with
      |some m=>if k'=k∧i≤j∧j=m∧m≤xs.length then some (aF L e o.d (.sl .ex k ((xs.take j).drop i)),ah) else none
      |none=>none
     |_,_,_=>none
   |_=>none
 | .mj k x i=>
   match ev e x,ev e i with
   | .sl _ k' xs, .int _ i=>if 0≤i then match xs[i.toNat]? with
     |some a=>if k'=k then some (aF L e o.d (.ep a 0),ah) else none
     |none=>none else none
   | .cN s k' p n, .int _ i=>if 0≤i∧i<n∧k'=k then some (aF L e o.d (.ptr s (p+i.toNat*k)),ah) else none
   | .cr s k' n _, .int _ i=>if 0≤i∧i<n∧k'=k then some (aF L e o.d (.ptr s (i.toNat*k)),ah) else none
   |_,_=>none
 | .Ul k m x i=>
   match ev e x,ev e i with
   | .ptr s p, .int _ i=>if 0≤i∧i<m then some (aF L e o.d (.ptr s (p+i.toNat*k)),ah) else none
   | .ep a p, .int _ i=>if 0≤i∧i<m then some (aF L e o.d (.ep a (p+i.toNat*k)),ah) else none
   |_,_=>none
 | .ixs x i=>
   match ev e x,ev e i with
   | .str l, .int _ i=>if 0≤i then match l[i.toNat]? with
     |some c=>some (aF L e o.d (b8 c),ah)
     |none=>none else none
   |_,_=>none
 | .ext x i=>
   match ev e x with
   | .bz cs=>match cs[i]? with
     |some a=>some (aF L e o.d a.sh,ah)
     |none=>none
   |_=>none
 | .len x=>
   match ev e x with
   | .sl _ _ xs=>some (aF L e o.d (.int .i64 xs.length),ah)
   | .cN _ _ _ n=>some (aF L e o.d (.int .i64 n),ah)
   | .cr _ _ n _=>some (aF L e o.d (.int .i64 n),ah)
   |_=>none
 | .lens x=>
   match ev e x with
   | .str l=>some (aF L e o.d (.int .i64 l.length),ah)
   |_=>none
 | .app k b x y=>
   match ev e y with
   | .sl _ k' ys=>if k'=k then zm L e ah o.d k b x ys else none
   |_=>none
 | .apps b x y=>
   match ev e y with
   | .str l=>zm L e ah o.d 1 b x (l.map b8)
   |_=>none
 | .lit y bs=>some (put (aF L e o.d (.sl .ex 1 (bs.map b8))) y .un,ah)
 | .yJ k x=>match ev e x with
   | .sl .ex k' []=>if k'=k then some (aF L e o.d (.cr 0 k 0 0),ah) else none
   | .cr s k' n c=>some (aF L e o.d (.cr s k' n c),ah)
   | .sl (.fr (.tmp u)) k' xs=>match get e u with
     | .sl .own k2 zs=>if k2=k' then some (aF L (put e u (.sl .n k2 zs)) o.d (.sl .own k' xs),ah) else none
     |_=>none
   |_=>none
 | .mu _ _ _ _=>none
 | .nq _ _=>none
 | .bad=>none
 | .call _ _=>none
def E8 (L:List Nat) (d:Option Nat) (neq:Bool) (x:Ar) (e:Env) (ah:AH) (K:Env→AH→Prop):Prop:=
 match ev e x with
 | .sl _ _ xs=>(xs=[]→∀b,K (aF L e d (.bool b)) ah)∧(xs≠[]→K (aF L e d (.bool neq)) ah)
 |_=>False
def j4 (k:Nat) (xs:List AV) (c:Nat):List AV:=(xs.map fun a=>a.cells.map AV.s1).flatten++List.replicate ((c - xs.length)*k) .un
def pX (L:List Nat) (d:Option Nat) (k b:Nat) (x y:Ar) (e:Env) (ah:AH) (K:Env→AH→Prop):Prop:=
 match ev e y,ev e x with
 | .sl _ k1 ys, .cr s k2 n c=>k1=k∧k2=k∧ys≠[]∧(n+ys.length)*b≤140737488355328∧n+ys.length≤4611686018427387904∧
  ((c=0∧n=0∧∀c',ys.length≤c'→K (aF L e d (.cr ah.length k ys.length c')) (ah++[j4 k ys c']))∨
   (∃cs,ah[s]? =some cs∧cs≠[]∧cs.length=c*k∧n≤c∧bP (cs.take (n*k))=true∧
    (n+ys.length≤c→K (aF L e d (.cr s k (n+ys.length) c)) (ah.set s (cs.take (n*k)++(ys.map fun a=>a.cells.map AV.s1).flatten++cs.drop ((n+ys.length)*k))))∧
    (c<n+ys.length→∀c',n+ys.length≤c'→K (aF L e d (.cr ah.length k (n+ys.length) c')) (ah++[(cs.take (n*k)).map AV.s1++j4 k ys (c' - n)]))))
 |_,_=>False
def gV (e:Env) (o:aM):Option Bool:=
 match o.g with
 |none=>some true
 |some (t,want)=>match get e t with
  | .bool b=>some (b==want)
  | .bz []=>some false
  | .un=>none
  |_=>none
def dB (P:Program) (ty:TypeId):Operand→Option Ar
 | .tmp t=>some (.t t)
 | .const (.slice none 0 0)=>(E7 P ty).map fun e=> .c (.sl .ex (cP P e) [])
 | .const (.int k i)=>some (.c (.int k i))
 | .const (.string s)=>some (.c (.str s.data.toList))
 | .const (.bool b)=>some (.c (.bool b))
 | .const (.pointer none)=>some (.c (.v (.pointer none)))
 | .const .nilFunc=>some (.c (.v .nilFunc))
 | .const .nilIface=>some (.c (.v .nilIface))
 | .const (.map none)=>some (.c (.v (.map none)))
 | .const _=>none
 | .func f=>some (.c (.fn f []))
 | .global _=>none
def bA:Operand→Option Ar
 | .tmp t=>some (.t t)
 | .const (.int k i)=>some (.c (.int k i))
 | .const (.string s)=>some (.c (.str s.data.toList))
 | .const (.bool b)=>some (.c (.bool b))
 | .const (.pointer none)=>some (.c (.v (.pointer none)))
 | .const .nilFunc=>some (.c (.v .nilFunc))
 | .func f=>some (.c (.fn f []))
 |_=>none
def yu:List Operand→Option (List Ar)
 |[]=>some []
 |x::r=>match bA x,yu r with
  |some a,some zq=>some (a::zq)
  |_,_=>none
def zL (P:Program):List TypeId→List Operand→Option (List Ar)
 |_,[]=>some []
 |t::ts,x::r=>match dB P t x,zL P ts r with
  |some a,some zq=>some (a::zq)
  |_,_=>none
 |[],_::_=>none
def pY:Option Operand→Option (Option Ar)
 |none=>some none
 |some x=>(bA x).map some
def zl (P:Program):Nat→TypeId→Option (List AV)
 |0,_=>none
 |n+1,t=>match P.underlying t with
  |some (.int k)=>some [.int k 0]
  |some .bool=>some [.bool false]
  |some .string=>some [.str []]
  |some (.slice e)=>some [.sl .ex (cP P e) []]
  |some (.pointer _)=>some [.v (.pointer none)]
  |some (.func _ _ _)=>some [.v .nilFunc]
  |some (.map _ _)=>some [.v (.map none)]
  |some (.struct fs)=>fs.toList.foldr (fun f r=>match zl P n f.type,r with|some a,some b=>some (a++b)|_,_=>none) (some [])
  |some (.array m e)=>match zl P n e with
   |some a=>some (List.replicate m a).flatten
   |none=>none
  |_=>none
def zok:AV→Value→Bool
 | .int k i, .int k' j=>k==k'&&i==j
 | .bool a, .bool b=>a==b
 | .str [], .string s=>s.data.size==0
 | .sl .ex _ [], .slice none 0 0=>true
 | .v (.pointer none), .pointer none=>true
 | .v .nilFunc, .nilFunc=>true
 | .v (.map none), .map none=>true
 |_,_=>false
def Il:List AV→List Value→Bool
 |[],[]=>true
 |a::zq,v::vs=>zok a v&&Il zq vs
 |_,_=>false
def zeroOf (P:Program) (t:TypeId):Option (List AV):=
 match zl P 20 t,(P.info? t).bind (·.zero) with
 |some cs,some z=>if Il cs z.cells.toList then some cs else none
 |_,_=>none
def yw (P:Program) (t:TypeId):List (Nat×Operand)→Option (List (Nat×Nat×Ar))
 |[]=>some []
 |(i,x)::r=>match KY P t i with
  |some f=>match dB P f.type x,yw P t r with
   |some a,some zq=>some ((f.offset,cP P f.type,a)::zq)
   |_,_=>none
  |none=>none
def IY:Nat×Nat×Ar→Bool
 |(_,_, .c _)=>true
 |_=>false
def yx (P:Program) (el:TypeId):List (Nat×Operand)→Option (List (Nat×Nat×Ar))
 |[]=>some []
 |(i,x)::r=>match dB P el x,yx P el r with
  |some a,some zq=>some ((i*cP P el,cP P el,a)::zq)
  |_,_=>none
def mz (P:Program) (e:TypeId):Nat→List (Nat×Operand)→Option (List Ar)
 |_,[]=>some []
 |n,(i,x)::r=>if i=n then (match dB P e x,mz P e (n+1) r with
  |some a,some zq=>some (a::zq)
  |_,_=>none) else none
def pZ (P:Program):Nat→List Field→Option (List Pk)
 |_,[]=>some []
 |i,f::r=>if f.offset=i∧f.name≠ "_" ∧cP P f.type=1 then
  match P.underlying f.type,pZ P (i+1) r with
  |some (.int _),some ks=>some (.i::ks)
  |some .string,some ks=>some (.s::ks)
  |some .bool,some ks=>some (.b::ks)
  |_,_=>none
  else none
def pg (P:Program):Nat→List Field→Option (List Pk)
 |_,[]=>some []
 |i,f::r=>if f.offset=i∧f.name≠ "_" then
  match P.underlying f.type with
  |some (.struct gs)=>if P.stoodInHeld f.type=false∧(P.info? f.type).isSome then match pZ P 0 gs.toList with
   |some k1=>if cP P f.type=k1.length then (pg P (i+k1.length) r).map (k1++ ·) else none
   |none=>none else none
  |some (.int _)=>if cP P f.type=1 then (pg P (i+1) r).map (.i:: ·) else none
  |some .string=>if cP P f.type=1 then (pg P (i+1) r).map (.s:: ·) else none
  |some .bool=>if cP P f.type=1 then (pg P (i+1) r).map (.b:: ·) else none
  |_=>none
  else none
def E9 (P:Program) (t:TypeId) (fs:Array Field):Option (List Pk):=
 if P.stoodInHeld t=false∧P.eqGuardType P.depth t=false then (match pZ P 0 fs.toList with|some ks=>some ks|none=>pg P 0 fs.toList) else none
def IZ (P:Program) (s d:TypeId):Option Cv:=
 match P.underlying s,P.underlying d with
 |some (.int _),some (.int k)=>some (.int k)
 |some .string,some .string=>some .same
 |some .string,some (.slice e)=>(match P.underlying e with|some (.int .u8)=>if cP P e=1 then some .sb else none|_=>none)
 |some (.slice e),some .string=>(match P.underlying e with|some (.int .u8)=>if cP P e=1 then some .bs else none|_=>none)
 |_,_=>none
def aau (P:Program) (t:TypeId):Option TypeId:=
 match P.underlying t,(P.info? t).bind (·.zero) with
 |some (.struct fs),some z=>
  match fs.toList,z.cells.toList with
  |[f,g],[.pointer none, .slice none 0 0]=>
   match P.underlying f.type,P.underlying g.type with
   |some (.pointer t'),some (.slice e)=>match P.underlying e with
    |some (.int .u8)=>if t'=t then some e else none
    |_=>none
   |_,_=>none
  |_,_=>none
 |_,_=>none
def Nt (P:Program) (t:TypeId):Option (List AV):=
 match zeroOf P t with
 |none=>none
 |some cs=>match aau P t with
  |some e=>some [.dy t, .dn e []]
  |none=>some cs
def cop (P:Program) (o:Oper):Option fV:=
 match o.op with
 | .move x=>(dB P o.type x).map .mv
 | .assign x=>(dB P o.type x).map .aO
 | .pick c a b=>match bA c,dB P o.type a,dB P o.type b with
   |some c,some a,some b=>some (.pick c a b)
   |_,_,_=>none
 | .alloc t=>(Nt P t).map .alloc
 | .box t x=>(dB P t x).map .box
 | .build t parts=>match P.underlying t with
   |some (.struct fs)=>match zeroOf P t,yw P t parts.toList with
    |some z,some ps=>if fs.toList.all (fun f=>(P.info? f.type).isSome) then some (.build z ps) else none
    |_,_=>none
   |some (.array _ el)=>match zeroOf P t,yx P el parts.toList with
    |some z,some ps=>if (P.info? el).isSome then (if ps.all IY then (fill [] z ps).map fun z'=> .build z' [] else some (.build z ps)) else none
    |_,_=>none
   |_=>none
 | .buildSlice t n parts=>match E7 P t with
   |some e=>if parts.size=n∧n*cP P e≤16777216∧(zeroOf P e).isSome then (mz P e 0 parts.toList).map (.gA (cP P e)) else none
   |none=>none
 | .load t x=>if tok P t then (bA x).map fun x=> .ld x (tn P t) else none
 | .store t a x=>match bA a,dB P t x with
   |some a,some x=>if tok P t&&o.dst.isNone then some (.st a x (cP P t)) else none
   |_,_=>none
 | .nilCheck x=>(bA x).map .jy
 | .fieldAddr t x f=>match bA x,KY P t f with
   |some x,some f=>if cP P f.type=0 then none else some (.cj x f.offset)
   |_,_=>none
 | .field t x f=>match bA x,KY P t f with
   |some x,some f=>if tok P f.type then some (.Ik x f.offset (tn P f.type)) else none
   |_,_=>none
 | .binOp op t x y _=>match bA x,bA y with
   |some x,some y=>
    match P.underlying t with
    |some (.struct fs)=>match E9 P t fs with
     |some ks=>(match op with| .eql=>some (.seq ks false x y)| .neq=>some (.seq ks true x y)|_=>none)
     |none=>none
    |some (.int _)|some .string=>some (.bin op x y)
    |some .bool=>(match op with| .eql=>some (.bq false x y)| .neq=>some (.bq true x y)|_=>none)
    |some (.pointer _)=>(match op with| .eql=>some (.pq false x y)| .neq=>some (.pq true x y)|_=>none)
    |_=>none
   |some x',none=>(match P.underlying t,op,y with
    |some (.interface _), .eql, .const .nilIface=>some (.iq false x' (.c (.v .nilIface)))
    |some (.interface _), .neq, .const .nilIface=>some (.iq true x' (.c (.v .nilIface)))
    |some (.slice _), .eql, .const (.slice none 0 0)=>some (.nq false x')
    |some (.slice _), .neq, .const (.slice none 0 0)=>some (.nq true x')
    |_,_,_=>none)
   |_,_=>none
 | .unOp op _ x=>(bA x).map (.un op)
 | .convert s d x=>match IZ P s d,bA x with
   |some h,some x=>some (.iS h x)
   |_,_=>none
 | .makeFunc (.func f) first cs=>if first.size=0 then (yu cs.toList).map (.Uk f) else none
 | .slice t x lo hi mx=>match bA x,pY lo,pY hi,pY mx with
   |some x,some lo,some hi,some mx=>
    match P.underlying t with
    |some .string=>(match mx with|none=>some (.mh x lo hi)|_=>none)
    |some (.slice e)=>if tok P e then some (.slc (cP P e) x lo hi mx) else none
    |_=>none
   |_,_,_,_=>none
 | .indexAddr t x i=>match E7 P t,bA x,bA i with
   |some e,some x,some i=>if tok P e then some (.mj (cP P e) x i) else none
   |none,some x,some i=>(match P.underlying t with
    |some (.array m e)=>if tok P e then some (.Ul (cP P e) m x i) else none
    |_=>none)
   |_,_,_=>none
 | .index t x i=>match P.underlying t,bA x,bA i with
   |some .string,some x,some i=>some (.ixs x i)
   |_,_,_=>none
 | .extract x i=>(bA x).map (.ext · i)
 | .call c=>
   match c.callee,c.args.toList,c.argTypes.toList with
   | .builtin .len,[x],[t]=>match P.underlying t,dB P t x with
     |some .string,some x=>some (.lens x)
     |some (.slice _),some x=>some (.len x)
     |_,_=>none
   | .builtin .max,[x,y],[t,u]=>(match P.underlying t,P.underlying o.type,bA x,bA y with
     |some (.int _),some (.int _),some x,some y=>if t=u∧o.type=t then some (.mm true x y) else none
     |_,_,_,_=>none)
   | .builtin .min,[x,y],[t,u]=>(match P.underlying t,P.underlying o.type,bA x,bA y with
     |some (.int _),some (.int _),some x,some y=>if t=u∧o.type=t then some (.mm false x y) else none
     |_,_,_,_=>none)
   | .builtin .append,[x,y],[t,u]=>
     match E7 P t,dB P t x with
     |some e,some x=>
      match P.underlying u,dB P u y with
      |some (.slice _),some y=>if (zeroOf P e).map List.length=some (cP P e) then some (.app (cP P e) (IX P e) x y) else none
      |some .string,some y=>if cP P e=1∧(zeroOf P e).map List.length=some (cP P e) then some (.apps (IX P e) x y) else none
      |_,_=>none
     |_,_=>none
   | .value f,zq,ts=>match bA f,zL P ts zq with
     |some f,some zq=>some (.call f zq)
     |_,_=>none
   |_,_,_=>none
 |_=>none
def iE (ops:Array Oper):Option (Nat×Bool)→Option (Option (Nat×Bool))
 |none=>some none
 |some (j,w)=>((ops[j]?).bind (·.dst)).map fun t=>some (t,w)
def Im:List Ar→Option (List UInt8)
 |[]=>some []
 | .c (.int .u8 i)::r=>if 0≤i∧i<256 then (Im r).map (UInt8.ofNat i.toNat:: ·) else none
 |_::_=>none
def nN (P:Program) (o o2:Oper):Option aM:=
 match o.op,o2.op,o.dst with
 | .buildSlice t n parts, .convert s d (.tmp x),some y=>
   if x=y∧s=t∧d=t∧o.guard.isNone∧o2.guard.isNone∧o2.dst≠some y∧parts.size=n∧n≤16777216 then
    match E7 P t with
    |some e=>match P.underlying e with
     |some (.int .u8)=>if cP P e=1∧(zeroOf P e).isSome then match mz P e 0 parts.toList with
      |some zq=>(Im zq).map fun bs=>⟨o2.dst, .lit y bs,none⟩
      |none=>none else none
     |_=>none
    |none=>none
   else none
 |_,_,_=>none
def bare (o:Oper):Oper:= {o with guard:=none}
def K2 (P:Program) (ops:Array Oper) (o o2:Oper):Option (List aM):=
 if o.guard=o2.guard then match o.guard,iE ops o.guard,nN P (bare o) (bare o2) with
  |some _,some (some (t,w)),some ⟨d, .lit y bs,_⟩=>if t=y then none else some [⟨some y, .mv (.c .un),some (t,w)⟩,⟨d, .lit y bs,some (t,w)⟩]
  |_,_,_=>none
 else none
def Qh (P:Program) (o:Oper):Option fV:=match cop P o with|some a=>some a|none=>some .bad
def kW (P:Program) (ops:Array Oper):List Oper→Option (List aM)
 |[]=>some []
 |[o]=>match Qh P o,iE ops o.guard with
  |some a,some g=>some [⟨o.dst,a,g⟩]
  |_,_=>none
 |o::o2::r=>match nN P o o2 with
  |some a=>(kW P ops r).map (a:: ·)
  |none=>match K2 P ops o o2 with
  |some zq=>(kW P ops r).map (zq++ ·)
  |none=>match Qh P o,iE ops o.guard,kW P ops (o2::r) with
   |some a,some g,some zq=>some (⟨o.dst,a,g⟩::zq)
   |_,_,_=>none
def iF:Op→Bool
 | .store .. =>true
 | .call c=>(match c.callee with| .builtin .append=>true|_=>false)
 |_=>false
def dV (P:Program):Op→Bool
 | .move _| .assign _| .pick .. | .nilCheck _| .fieldAddr .. | .field .. | .load .. | .binOp .. | .unOp .. | .makeFunc .. | .slice .. | .indexAddr .. | .index .. | .extract .. =>true
 | .build t _=>match P.underlying t with|some (.struct _)=>true|_=>false
 | .convert _ d _=>match P.underlying d with|some (.slice _)=>false|_=>true
 | .call c=>match c.callee with| .builtin .len=>true|_=>false
 |_=>false
def Bi:Op→Bool
 | .call c=>match c.callee with| .value _=>true|_=>false
 |_=>false
def fV.K3:fV→fV
 | .ld x n=> .Bh x n
 | .iS .bs x=> .KZ x
 |op=>op
def dO (P:Program) (m:Bool) (o:Oper):Option fV:=if m then cop P o else (cop P o).map fV.K3
def ga (P:Program) (ops:Array Oper):List (Bool×Nat)→Option (List aM)
 |[]=>some []
 |(m,i)::r=>match ops[i]? with
  |some o=>match dO P m o,iE ops o.guard,ga P ops r with
   |some a,some g,some zq=>some (⟨o.dst,a,g⟩::zq)
   |_,_,_=>none
  |none=>none
def Io (P:Program) (m:Bool) (o:Oper):Bool:=dV P o.op|| !m||(!iF o.op&& !Bi o.op)
def K4 (ops:Array Oper) (i:Nat):List Nat:=
 (List.range ops.size).foldl (fun W j=>match ops[j]? with
  |some oj=>if oj.after.any (fun e=>Region.binds .any e&&(e.on==i||W.contains e.on)) then j::W else W
  |none=>W) []
def I0 (ops:Array Oper) (D:Nat→Bool) (listed:Array Bool) (i:Nat) (W:List Nat):Bool:=
 W.all (fun j=> !listed.getD j true&&match ops[j]? with
  |some oj=>oj.after.any fun e=>Region.binds .any e&&(e.on==i||W.contains e.on)
  |none=>false)&&
 (List.range ops.size).all fun j=> !D j||listed.getD j true||W.contains j
def I1 (ops:Array Oper) (D:Nat→Bool) (listed:Array Bool) (i:Nat):Bool:=I0 ops D listed i (K4 ops i)
def xl (P:Program) (ops:Array Oper) (m:Bool) (D:Nat→Bool):List Nat→Array Bool→Bool
 |[],_=>true
 |i::r,listed=>(match ops[i]? with
  |some o=>((dV P o.op&& !D i&&(Region.ready .any ops listed).contains i&&Region.free .any ops listed i&&I1 ops D listed i)||(Io P m o&&Region.ready .any ops listed==[i]))
  |none=>false)&&xl P ops m D r (listed.setIfInBounds i true)
def pT (P:Program) (ops:Array Oper):List (Bool×List Nat)→Array Bool→Bool
 |[],listed=>Region.ready .any ops listed==[]
 |(m,l)::r,listed=>(match l with
  |[i]=>m&&Region.ready .any ops listed==[i]
  |l=>xl P ops m (fun j=> !l.contains j) l listed)&&pT P ops r (l.foldl (fun a i=>a.setIfInBounds i true) listed)
def tB:List (Bool×List Nat)→List (Bool×Nat)
 |[]=>[]
 |(m,l)::r=>l.map (fun i=>(m,i))++tB r
def Um (ops:Array Oper):List Nat→List (Bool×List Nat)→List (Bool×List Nat)
 |[],r=>r
 |[i],r=>(true,[i])::r
 |l,r=>(!l.any (fun i=>((ops[i]?).map fun o=>Bi o.op||iF o.op).getD false),l.reverse)::r
def Bj (P:Program) (ops:Array Oper) (m:Bool):Nat→Array Bool→List Nat→List (Bool×List Nat)→Option (List (Bool×List Nat))
 |0,_,cur,acc=>some (Um ops cur acc).reverse
 |n+1,listed,cur,acc=>
  let rs:=Region.ready .any ops listed
  match rs with
  |[]=>some (Um ops cur acc).reverse
  |[i]=>
   match ops[i]? with
   |some o=>if !dV P o.op&&(m&&(iF o.op||Bi o.op)) then Bj P ops m n (listed.setIfInBounds i true) [] ((true,[i])::Um ops cur acc)
    else Bj P ops m n (listed.setIfInBounds i true) (i::cur) acc
   |none=>none
  |rs=>match rs.find? (fun i=>((ops[i]?).map fun o=>dV P o.op).getD false&&Region.free .any ops listed i) with
   |some i=>Bj P ops m n (listed.setIfInBounds i true) (i::cur) acc
   |none=>none
def Bk (P:Program) (ops:Array Oper) (st:List (Bool×List Nat)):Bool:=
 pT P ops st (Array.replicate ops.size false)&&(tB st).length==ops.size
def sched (P:Program) (ops:Array Oper):Option (List (Bool×List Nat)):=
 match (Bj P ops true ops.size (Array.replicate ops.size false) [] []).filter (Bk P ops) with
 |some st=>some st
 |none=>(Bj P ops false ops.size (Array.replicate ops.size false) [] []).filter (Bk P ops)
def bR (P:Program):Code→Option av
 | .skip=>some .skip
 | .label _=>some .skip
 | .ret=>some .ret
 | .exit i=>some (.exit i)
 | .region _ ops draw=>
   if draw then
    if P.follows .mixedOrders&&Region.noSelect ops then match sched P ops with
     |some st=>(ga P ops (tB st)).map .rg
     |none=>none
    else none
   else (kW P ops ops.toList).map .rg
 | .seq a b=>match bR P a,bR P b with
   |some a,some b=>some (.seq a b)
   |_,_=>none
 | .cond c a b=>match bA c,bR P a,bR P b with
   |some c,some a,some b=>some (.cond c a b)
   |_,_,_=>none
 | .block i c=>(bR P c).map (.blk i)
 | .loop c=>(bR P c).map .loop
 | .scope c=>bR P c
 |_=>none
end Go.Am
end
section
namespace Go.Am
open Go
variable [Tabs]
theorem fK (e:Env) (d:Nat) (a:AV) (t:Nat):get (put e d a) t=if t=d then a else get e t:=by
 induction e with
 |nil=>simp only [put,get];by_cases h:d=t<;>simp [h,eq_comm]
 |cons p r ih=>
  obtain ⟨i,b⟩:=p
  simp only [put]
  by_cases h1:i=d
  · subst h1;simp only [if_true,get];by_cases h:i=t
    · simp [h]
    · simp [h,Ne.symm h]
  · simp only [if_neg h1]
    by_cases h2:d<i
    · simp only [if_pos h2,get];by_cases h:d=t
      · simp [h]
      · simp [h,Ne.symm h]
    · simp only [if_neg h2,get,ih]
      by_cases h:i=t
      · subst h;simp [h1]
      · simp [h]
theorem Q7 (L:List Nat) (e:Env) (t:Nat):get (keep L e) t=if L.contains t then get e t else .un:=by
 induction e with
 |nil=>simp [keep,get]
 |cons p r ih=>
  obtain ⟨i,b⟩:=p
  simp only [keep]
  by_cases h:L.contains i=true
  · simp only [if_pos h,get,ih]
    by_cases h2:i=t
    · subst h2;rw [if_pos rfl,if_pos h,if_pos rfl]
    · simp only [if_neg h2]
  · simp only [if_neg h,ih,get]
    by_cases h2:i=t
    · subst h2;rw [if_neg h,if_neg h]
    · simp only [if_neg h2]
theorem nO (l:Loc) (e:Env) (t:Nat):get (lR l e) t=(get e t).e5 l:=by
 induction e with
 |nil=>rfl
 |cons p r ih=>
  obtain ⟨i,b⟩:=p
  simp only [lR,get]
  by_cases h:i=t<;>simp [h,ih]
def sc:Value→Bool
 | .agg _| .tuple _=>false
 |_=>true
inductive VR (C:Nat→List Value):List Nat→AV→Value→Prop
 |v (x γ):sc x=true→VR C γ (.v x) x
 |un (γ v):VR C γ .un v
 |int (γ k i):VR C γ (.int k i) (.int k i)
 |bool (γ b):VR C γ (.bool b) (.bool b)
 |str (γ l):VR C γ (.str l) (.string ⟨l.toArray⟩)
 |ptr (γ s o b):γ[s]? =some b→VR C γ (.ptr s o) (.pointer (some ⟨b,o,none⟩))
 |tC (γ t k a c):VR C γ (.sl t k []) (.slice a 0 c)
 |sl (γ t k) (xs:List AV) (b o n c):n=xs.length→n≤c→(∀(i:Nat) (e:AV),xs[i]? =some e→e.cells.length=k)→o+n*k≤(C b).length→
  (∀q,o≤q→q<o+n*k→((C b).getD q undef).oneCell'=true)→
  (∀(i:Nat) (e:AV),xs[i]? =some e→∀(j:Nat) (a:AV),e.cells[j]? =some a→VR C [] a ((C b).getD (o+i*k+j) undef))→VR C γ (.sl t k xs) (.slice (some ⟨b,o,none⟩) n c)
 |ep (γ) (e:AV) (o b p):p+e.cells.length≤(C b).length→(∀(j:Nat) (a:AV),e.cells[j]? =some a→VR C γ a ((C b).getD (p+j) undef))→VR C γ (.ep e o) (.pointer (some ⟨b,p+o,none⟩))
 |agg (γ) (cs:List AV) (vs:Array Value):cs.length=vs.size→(∀(i:Nat) (a:AV),cs[i]? =some a→VR C γ a (vs.getD i undef))→VR C γ (.agg cs) (.agg vs)
 |bz (γ) (cs:List AV) (vs:Array Value):cs.length=vs.size→(∀(i:Nat) (a:AV),cs[i]? =some a→VR C γ a (vs.getD i undef))→VR C γ (.bz cs) (.tuple vs)
 |cN (γ s k o n b c):γ[s]? =some b→n≤c→VR C γ (.cN s k o n) (.slice (some ⟨b,o,none⟩) n c)
 |p6 (γ s k a):VR C γ (.cr s k 0 0) (.slice a 0 0)
 |cr (γ s k n b c):γ[s]? =some b→n≤c→VR C γ (.cr s k n c) (.slice (some ⟨b,0,none⟩) n c)
 |eG (γ t x):VR C γ .eG (.iface t x)
 |dy (γ t p):VR C γ (.dy t) (.pointer p)
 |dn (γ e l a n c):VR C γ (.dn e l) (.slice a n c)
 |fn (γ f) (cs:List AV) (vs:Array Value):cs.length=vs.size→(∀(i:Nat) (a:AV),cs[i]? =some a→VR C γ a (vs.getD i undef))→VR C γ (.fn f cs) (.func (.func f) #[] vs)
theorem iG {l l':List Value} (h:l <+: l') {i:Nat} (hi:i<l.length) (d:Value):l'.getD i d=l.getD i d:=by
 obtain ⟨r,rfl⟩:=h
 simp [List.getD_eq_getElem?_getD,List.getElem?_append_left hi]
theorem VR.mono {C C':Nat→List Value} (hC:∀b,C b <+: C' b) {γ:List Nat} {a:AV} {v:Value} (h:VR C γ a v):
 ∀γ':List Nat,(∀(s b:Nat),γ[s]? =some b→γ'[s]? =some b)→VR C' γ' a v:=by
 induction h with
 |v x γ h=>intros;exact .v _ _ h
 |un=>intros;exact .un ..
 |int=>intros;exact .int ..
 |bool=>intros;exact .bool ..
 |str=>intros;exact .str ..
 |ptr γ s o b h=>intro γ' hg;exact .ptr _ _ _ _ (hg _ _ h)
 |tC=>intros;exact .tC ..
 |sl γ t k xs b o n c hn hc hk hl ho hx ih=>
  intro γ' hg
  refine .sl _ _ _ _ _ _ _ _ hn hc hk (Nat.le_trans hl (hC b).length_le) (fun q h1 h2=>by rw [iG (hC b) (by omega)];exact ho q h1 h2) fun i e hi j a hj=> ?_
  have hik:i<n:=by rw [hn];exact (List.getElem?_eq_some_iff.1 hi).1
  have I2:j<k:=by rw [←hk i e hi];exact (List.getElem?_eq_some_iff.1 hj).1
  have hlt:o+i*k+j<(C b).length:=by
   have:(i+1)*k≤n*k:=Nat.mul_le_mul_right k hik
   rw [Nat.succ_mul] at this
   omega
  rw [iG (hC b) hlt]
  exact ih i e hi j a hj [] (fun s b h=>h)
 |ep γ e o b p hl hx ih=>
  intro γ' hg
  refine .ep _ _ _ _ _ (Nat.le_trans hl (hC b).length_le) fun j a hj=> ?_
  have I2:j<e.cells.length:=(List.getElem?_eq_some_iff.1 hj).1
  rw [iG (hC b) (by omega)]
  exact ih j a hj γ' hg
 |agg γ cs vs hl hx ih=>intro γ' hg;exact .agg _ _ _ hl fun i a hi=>ih i a hi γ' hg
 |bz γ cs vs hl hx ih=>intro γ' hg;exact .bz _ _ _ hl fun i a hi=>ih i a hi γ' hg
 |fn γ f cs vs hl hx ih=>intro γ' hg;exact .fn _ _ _ _ hl fun i a hi=>ih i a hi γ' hg
 |cN γ s k o n b c h hn=>intro γ' hg;exact .cN _ _ _ _ _ _ _ (hg _ _ h) hn
 |p6=>intros;exact .p6 ..
 |cr γ s k n b c h hn=>intro γ' hg;exact .cr _ _ _ _ _ _ (hg _ _ h) hn
 |eG=>intros;exact .eG ..
 |dy=>intros;exact .dy ..
 |dn=>intros;exact .dn ..
theorem VR.up {C:Nat→List Value} {a:AV} {v:Value} (h:VR C [] a v) (γ':List Nat):VR C γ' a v:=
 h.mono (fun b=>List.prefix_refl _) γ' (by simp)
section
variable {C:Nat→List Value} {γ:List Nat} {v:Value}
theorem VR.gW {t:Bool} (h:VR C γ (.bool t) v):v= .bool t:=by cases h;rfl
theorem VR.dh {k:IntKind} {i:Int} (h:VR C γ (.int k i) v):v= .int k i:=by cases h;rfl
theorem VR.dJ {l:List UInt8} (h:VR C γ (.str l) v):v= .string ⟨l.toArray⟩:=by cases h;rfl
theorem VR.gb {s o:Nat} (h:VR C γ (.ptr s o) v):∃b,γ[s]? =some b∧v= .pointer (some ⟨b,o,none⟩):=by
 cases h with|ptr _ _ _ b hb=>exact ⟨b,hb,rfl⟩
theorem VR.EY {e:AV} {o:Nat} (h:VR C γ (.ep e o) v):∃b p,v= .pointer (some ⟨b,p+o,none⟩)∧p+e.cells.length≤(C b).length∧
 (∀(j:Nat) (a:AV),e.cells[j]? =some a→VR C γ a ((C b).getD (p+j) undef)):=by
 cases h with|ep _ _ _ b p h1 h2=>exact ⟨b,p,rfl,h1,h2⟩
theorem VR.og {cs:List AV} (h:VR C γ (.agg cs) v):∃vs:Array Value,v= .agg vs∧cs.length=vs.size∧∀(i:Nat) (a:AV),cs[i]? =some a→VR C γ a (vs.getD i undef):=by
 cases h with|agg _ _ vs h1 h2=>exact ⟨vs,rfl,h1,h2⟩
theorem VR.xm {cs:List AV} (h:VR C γ (.bz cs) v):∃vs:Array Value,v= .tuple vs∧cs.length=vs.size∧∀(i:Nat) (a:AV),cs[i]? =some a→VR C γ a (vs.getD i undef):=by
 cases h with|bz _ _ vs h1 h2=>exact ⟨vs,rfl,h1,h2⟩
theorem VR.Bl {f:Nat} {cs:List AV} (h:VR C γ (.fn f cs) v):∃vs:Array Value,v= .func (.func f) #[] vs∧cs.length=vs.size∧∀(i:Nat) (a:AV),cs[i]? =some a→VR C γ a (vs.getD i undef):=by
 cases h with|fn _ _ _ vs h1 h2=>exact ⟨vs,rfl,h1,h2⟩
theorem VR.xo {s k o n:Nat} (h:VR C γ (.cN s k o n) v):∃b c,γ[s]? =some b∧n≤c∧v= .slice (some ⟨b,o,none⟩) n c:=by
 cases h with|cN _ _ _ _ _ b c hb hn=>exact ⟨b,c,hb,hn,rfl⟩
theorem VR.xp {s k n c:Nat} (h:VR C γ (.cr s k n c) v):∃a,v= .slice a n c∧n≤c∧((n=0∧c=0)∨∃b,γ[s]? =some b∧a=some ⟨b,0,none⟩):=by
 cases h with
 |p6 _ _ _ a=>exact ⟨a,rfl,Nat.le_refl _, .inl ⟨rfl,rfl⟩⟩
 |cr _ _ _ _ b _ hb hn=>exact ⟨_,rfl,hn, .inr ⟨b,hb,rfl⟩⟩
theorem VR.Un (h:VR C γ .eG v):∃t x,v= .iface t x:=by
 cases h with|eG _ t x=>exact ⟨t,x,rfl⟩
theorem VR.Fa {x:Value} (h:VR C γ (.v x) v):v=x∧sc x=true:=by cases h with|v _ _ h=>exact ⟨rfl,h⟩
theorem VR.ff {t:Tg} {k:Nat} {xs:List AV} (h:VR C γ (.sl t k xs) v):∃a c,v= .slice a xs.length c∧xs.length≤c∧
 (xs=[]∨∃b o,a=some ⟨b,o,none⟩∧(∀(i:Nat) (e:AV),xs[i]? =some e→e.cells.length=k)∧o+xs.length*k≤(C b).length∧
  (∀(i:Nat) (e:AV),xs[i]? =some e→∀(j:Nat) (a:AV),e.cells[j]? =some a→VR C [] a ((C b).getD (o+i*k+j) undef))):=by
 cases h with
 |tC _ _ _ a c=>exact ⟨a,c,rfl,Nat.zero_le _, .inl rfl⟩
 |sl _ _ _ _ b o n c hn hc hk hl _ hx=>subst hn;exact ⟨_,c,rfl,hc, .inr ⟨b,o,rfl,hk,hl,hx⟩⟩
end
theorem VR.I3 {C:Nat→List Value} {γ:List Nat} {t:Tg} {k n c b o:Nat} {xs:List AV} (h:VR C γ (.sl t k xs) (.slice (some ⟨b,o,none⟩) n c)):∀q,o≤q→q<o+n*k→((C b).getD q undef).oneCell'=true:=by
 generalize hv:Value.slice (some ⟨b,o,none⟩) n c=v at h
 cases h with
 |tC _ _ _ a c=>injection hv with h1 h2 h3;subst h2;intro q h1 h2;simp at h2;omega
 |sl _ _ _ _ b' o' n' c' hn hc hk hl ho hx=>
  injection hv with h1 h2 h3
  injection h1 with h1
  injection h1 with h1 h4
  subst h1;subst h2;subst h4
  exact ho
inductive Wk:AV→AV→Prop
 |same (a):Wk a a
 |un (a):Wk a .un
 |n (t k xs):Wk (.sl t k xs) (.sl .n k xs)
 |agg (cs cs':List AV):cs'.length=cs.length→(∀(i:Nat) (a a':AV),cs[i]? =some a→cs'[i]? =some a'→a'=a∨(∃t k xs,a= .sl t k xs∧a'= .sl .n k xs)∨a'= .un)→Wk (.agg cs) (.agg cs')
 |bz (cs cs':List AV):cs'.length=cs.length→(∀(i:Nat) (a a':AV),cs[i]? =some a→cs'[i]? =some a'→a'=a∨(∃t k xs,a= .sl t k xs∧a'= .sl .n k xs)∨a'= .un)→Wk (.bz cs) (.bz cs')
theorem VR.kR {C:Nat→List Value} {γ:List Nat} {t:Tg} {k:Nat} {xs:List AV} {v:Value} (h:VR C γ (.sl t k xs) v) (t':Tg):VR C γ (.sl t' k xs) v:=by
 cases h with
 |tC=>exact .tC ..
 |sl _ _ _ _ b o n c hn hc hk hl ho hx=>exact .sl _ _ _ _ _ _ _ _ hn hc hk hl ho hx
def I4 (w:World) (C:Nat→List Value) (k:Nat) (a:Option Addr) (n c:Nat):Prop:=
 ∃b o cs ty fr,a=some ⟨b,o,none⟩∧w.heap[b]? =some (.cells cs ty fr)∧(C b).length=o+n*k∧o+c*k≤cs.size∧
  ∀i,o+n*k≤i→i<o+c*k→w.frozen? ⟨b,i,none⟩=false
def vp (w:World) (C:Nat→List Value) (e:TypeId) (l:List UInt8) (v:Value):Prop:=
 (v= .slice none 0 0∧l=[])∨∃g cap cur fz,v= .slice (some ⟨g,0,none⟩) l.length cap∧w.heap[g]? =some (.cells cur e fz)∧C g=[]∧fz.2≤l.length∧l.length≤cap∧cap≤9223372036854775807∧cur.size=cap∧
  cur.toList.take l.length=l.map fun b=>Value.int .u8 b.toNat
def mo:AV→Value→Prop
 | .agg _,_=>False
 | .bz _,_=>False
 | .sl .ex _ _, .slice _ n c=>c=n
 |_,_=>True
def I5:AV→Value→Prop
 | .agg cs, .agg vs=>∀(i:Nat) (a:AV),cs[i]? =some a→mo a (vs.getD i undef)
 | .agg _,_=>True
 |a,v=>mo a v
def TC (w:World) (C:Nat→List Value):AV→Value→Prop
 | .sl .ex _ _, .slice _ n c=>c=n
 | .sl .own k _, .slice a n c=>c=n∨I4 w C k a n c
 | .dn e l,v=>vp w C e l v
 | .agg cs, .agg vs=>∀(i:Nat) (a:AV),cs[i]? =some a→mo a (vs.getD i undef)
 | .bz cs, .tuple vs=>∀(i:Nat) (a:AV),cs[i]? =some a→I5 a (vs.getD i undef)
 |_,_=>True
def bG:AV→Value→Option Nat
 | .sl .own _ _, .slice (some ad) n c=>if c=n then none else some ad.block
 | .dn _ _, .slice (some ad) _ _=>some ad.block
 |_,_=>none
inductive Ow where
 |obj (s:Nat)
 |cell (s i:Nat)
 |tmp (t:Nat)
def blk (γ:List Nat) (e:Env) (ah:AH) (ts:Array Value) (w:World):Ow→Nat→Prop
 | .obj s,b=>γ[s]? =some b
 | .cell s i,b=>∃cs a b0,ah[s]? =some cs∧cs[i]? =some a∧γ[s]? =some b0∧bG a ((w.cell? ⟨b0,i,none⟩).getD undef)=some b
 | .tmp t,b=>bG (get e t) (ts.getD t undef)=some b
structure Mem (γ:List Nat) (C:Nat→List Value) (ah:AH) (w:World):Prop where
 len:γ.length=ah.length
 obj:∀(s b:Nat) (cs:List AV),ah[s]? =some cs→γ[s]? =some b→∃vs,∃ty:TypeId×Nat×Nat,w.heap[b]? =some (.cells vs ty.1 ty.2)∧cs.length≤vs.size∧
  ∀i a,cs[i]? =some a→VR C γ a (vs.getD i undef)∧TC w C a (vs.getD i undef)
 pn:∀b,C b≠[]→∃vs ty fr,w.heap[b]? =some (.cells vs ty fr)∧C b <+: vs.toList
 lZ:∀(s b:Nat) (cs:List AV),ah[s]? =some cs→cs≠[]→γ[s]? =some b→C b=[]
 xq:∀(s b:Nat) (cs:List AV) (vs:Array Value) (ty:TypeId) (fr:Nat×Nat),ah[s]? =some cs→γ[s]? =some b→w.heap[b]? =some (.cells vs ty fr)→∀i,i<cs.length→¬(fr.1≤i∧i<fr.2)
 zM:∀(s b:Nat) (cs:List AV) (T:TypeId),ah[s]? =some cs→γ[s]? =some b→cs[0]? =some (.dy T)→∃p v,w.heap[b]? =some (.cells #[p,v] T (0,0))∧(p= .pointer none∨p= .pointer (some ⟨b,0,none⟩))
def adi (L:List Nat) (γ:List Nat) (e:Env) (ah:AH) (ts:Array Value) (w:World) (t:Nat):Loc→Prop
 | .tmp u=>L.contains u=true∧((get e u).bY=true→ts.getD u undef=ts.getD t undef)
 | .cell s o=>∀(cs:List AV) (a:AV) (b:Nat),ah[s]? =some cs→cs[o]? =some a→a.DN=true→γ[s]? =some b→w.cell? ⟨b,o,none⟩=some (ts.getD t undef)
structure FL (F:Nat→Prop) (w:World):Prop where
 lt:∀b,F b→b<w.heap.size
 K5:∀e∈Tabs.l,F e.1∧∃cs ty fr,w.heap[e.1]? =some (.cells cs ty fr)∧e.2 cs
theorem FL.keep {F:Nat→Prop} {w w':World} (h:FL F w) (hs:w.heap.size≤w'.heap.size) (hk:∀b,F b→w'.heap[b]? =w.heap[b]?):FL F w':=
 ⟨fun b hb=>Nat.lt_of_lt_of_le (h.lt b hb) hs,fun e he=>by
  obtain ⟨h1,cs,ty,fr,h2,h3⟩:=h.K5 e he
  exact ⟨h1,cs,ty,fr,by rw [hk _ h1];exact h2,h3⟩⟩
structure SR (L:List Nat) (N:Nat) (F:Nat→Prop) (γ:List Nat) (C:Nat→List Value) (e:Env) (ah:AH) (ts:Array Value) (w:World):Prop where
 mem:Mem γ C ah w
 sz:ts.size=N
 env:∀t,VR C γ (get e t) (ts.getD t undef)∧TC w C (get e t) (ts.getD t undef)
 dD:∀p q b,blk γ e ah ts w p b→blk γ e ah ts w q b→p=q
 nf:∀p b,blk γ e ah ts w p b→¬F b
 iT:FL F w
 fr:∀t l k xs,get e t= .sl (.fr l) k xs→adi L γ e ah ts w t l
def jH (w w':World):Prop:=w'.os=w.os∧w'.tape=w.tape∧w'.output=w.output
structure Ext (F:Nat→Prop) (C:Nat→List Value) (w:World) (C':Nat→List Value) (w':World):Prop where
 pre:∀b,C b <+: C' b
 keep:∀b,F b→w'.heap[b]? =w.heap[b]? ∧C' b=C b
 size:w.heap.size≤w'.heap.size
 out:jH w w'
theorem Ext.refl (F:Nat→Prop) (C:Nat→List Value) (w:World):Ext F C w C w:=⟨fun _=>List.prefix_refl _,fun _ _=>⟨rfl,rfl⟩,Nat.le_refl _,rfl,rfl,rfl⟩
theorem Ext.trans {F:Nat→Prop} {C C' C'':Nat→List Value} {w w' w'':World} (h:Ext F C w C' w') (h':Ext F C' w' C'' w''):Ext F C w C'' w'':=
 ⟨fun b=>(h.pre b).trans (h'.pre b),fun b hb=>⟨(h'.keep b hb).1.trans (h.keep b hb).1,(h'.keep b hb).2.trans (h.keep b hb).2⟩,Nat.le_trans h.size h'.size,h'.out.1.trans h.out.1,h'.out.2.1.trans h.out.2.1,h'.out.2.2.trans h.out.2.2⟩
theorem Fb {a:AV} {v:Value} {b:Nat} (h:bG a v=some b):(∃k xs ad n c,a= .sl .own k xs∧v= .slice (some ad) n c∧c≠n∧ad.block=b)∨∃e l ad n c,a= .dn e l∧v= .slice (some ad) n c∧ad.block=b:=by
 cases a with
 |sl t k xs=>
  cases t<;>try (simp [bG] at h;done)
  cases v<;>try (simp [bG] at h;done)
  rename_i a n c
  cases a with
  |none=>simp [bG] at h
  |some ad=>
   simp only [bG] at h
   by_cases hc:c=n
   · simp [hc] at h
   · simp only [if_neg hc,Option.some.injEq] at h
     exact .inl ⟨k,xs,ad,n,c,rfl,rfl,hc,h⟩
 |dn e l=>
  cases v<;>try (simp [bG] at h;done)
  rename_i a n c
  cases a with
  |none=>simp [bG] at h
  |some ad=>
   simp only [bG,Option.some.injEq] at h
   exact .inr ⟨e,l,ad,n,c,rfl,rfl,h⟩
 |_=>simp [bG] at h
theorem K6 {a:AV} {v:Value} {b:Nat} (h:bG a v=some b):a.bY=true:=by
 rcases Fb h with ⟨k,xs,_,_,_,rfl,_⟩|⟨_,_,_,_,_,rfl,_⟩<;>rfl
theorem Qi {a:AV} (h:a.DN=true):a.bY=true:=by
 cases a with
 |sl t k xs=>cases t<;>first|rfl|cases h
 |_=>cases h
theorem jr {a:AV} (v:Value) (h:a.bY=false):bG a v=none:=by
 cases hb:bG a v with
 |none=>rfl
 |some b=>rw [K6 hb] at h;cases h
theorem Wk.vr {C:Nat→List Value} {γ:List Nat} {a a':AV} {v:Value} (hw:Wk a a') (h:VR C γ a v):VR C γ a' v:=by
 cases hw with
 |same=>exact h
 |un=>exact .un ..
 |n=>exact h.kR _
 |agg cs cs' hl hc=>
  cases h with
  |agg _ _ vs hs hv=>
   refine .agg _ _ _ (by omega) fun i a' hi=> ?_
   have hlt:i<cs.length:=by rw [←hl];exact (List.getElem?_eq_some_iff.1 hi).1
   have h0:cs[i]? =some cs[i]:=List.getElem?_eq_getElem hlt
   rcases hc i _ _ h0 hi with rfl|⟨t,k,xs,e1,rfl⟩|rfl
   · exact hv i _ h0
   · exact (e1▸hv i _ h0).kR _
   · exact .un ..
 |bz cs cs' hl hc=>
  cases h with
  |bz _ _ vs hs hv=>
   refine .bz _ _ _ (by omega) fun i a' hi=> ?_
   have hlt:i<cs.length:=by rw [←hl];exact (List.getElem?_eq_some_iff.1 hi).1
   have h0:cs[i]? =some cs[i]:=List.getElem?_eq_getElem hlt
   rcases hc i _ _ h0 hi with rfl|⟨t,k,xs,e1,rfl⟩|rfl
   · exact hv i _ h0
   · exact (e1▸hv i _ h0).kR _
   · exact .un ..
theorem I6 (k:Nat) (xs:List AV) (v:Value):mo (.sl .n k xs) v:=by cases v<;>trivial
theorem Uo (k:Nat) (xs:List AV) (v:Value):I5 (.sl .n k xs) v:=by cases v<;>trivial
theorem Wk.tc {w:World} {C:Nat→List Value} {a a':AV} {v:Value} (hw:Wk a a') (h:TC w C a v):TC w C a' v:=by
 cases hw with
 |same=>exact h
 |un=>cases v<;>trivial
 |n=>cases v<;>trivial
 |agg cs cs' hl hc=>
  cases v<;>try trivial
  intro i a' hi
  have hlt:i<cs.length:=by rw [←hl];exact (List.getElem?_eq_some_iff.1 hi).1
  have h0:cs[i]? =some cs[i]:=List.getElem?_eq_getElem hlt
  rcases hc i _ _ h0 hi with rfl|⟨t,k,xs,e1,rfl⟩|e1
  · exact h i _ h0
  · exact I6 ..
  · rw [e1];trivial
 |bz cs cs' hl hc=>
  cases v<;>try trivial
  intro i a' hi
  have hlt:i<cs.length:=by rw [←hl];exact (List.getElem?_eq_some_iff.1 hi).1
  have h0:cs[i]? =some cs[i]:=List.getElem?_eq_getElem hlt
  rcases hc i _ _ h0 hi with rfl|⟨t,k,xs,e1,rfl⟩|e1
  · exact h i _ h0
  · exact Uo ..
  · rw [e1];trivial
theorem Wk.own {a a':AV} {v:Value} {b:Nat} (hw:Wk a a') (h:bG a' v=some b):bG a v=some b:=by
 cases hw with
 |same=>exact h
 |un=>simp [bG] at h
 |n=>simp [bG] at h
 |agg=>simp [bG] at h
 |bz=>simp [bG] at h
theorem SR.wk {L N F γ C e ah ts w} (h:SR L N F γ C e ah ts w) {e':Env} (hw:∀t,Wk (get e t) (get e' t)):SR L N F γ C e' ah ts w:=by
 have hb:∀p b,blk γ e' ah ts w p b→blk γ e ah ts w p b:=by
  intro p b hp
  cases p with
  |obj s=>exact hp
  |cell s i=>exact hp
  |tmp t=>exact (hw t).own hp
 have hfr:∀t l k xs,get e' t= .sl (.fr l) k xs→get e t= .sl (.fr l) k xs:=by
  intro t l k xs ht
  have:=hw t
  rw [ht] at this
  generalize he:get e t=a at this
  cases this with
  |same=>rfl
 have hown:∀u,(get e' u).bY=true→(get e u).bY=true:=by
  intro u hu
  have:=hw u
  generalize get e u=a at*
  generalize get e' u=a' at*
  cases this with
  |same=>exact hu
  |un=>simp [AV.bY] at hu
  |n=>simp [AV.bY] at hu
  |agg=>simp [AV.bY] at hu
  |bz=>simp [AV.bY] at hu
 refine ⟨h.mem,h.sz,fun t=>⟨(hw t).vr (h.env t).1,(hw t).tc (h.env t).2⟩,fun p q b hp hq=>h.dD p q b (hb p b hp) (hb q b hq),
  fun p b hp=>h.nf p b (hb p b hp),h.iT,fun t l k xs ht=> ?_⟩
 have:=h.fr t l k xs (hfr t l k xs ht)
 cases l with
 |tmp u=>exact ⟨this.1,fun hu=>this.2 (hown u hu)⟩
 |cell s o=>exact this
theorem vq {ts:Array Value} {d:Nat} (v:Value) (h:d<ts.size):(ts.setIfInBounds d v).getD d undef=v:=by
 simp [Array.getD_eq_getD_getElem?,Array.getElem?_setIfInBounds,h]
theorem tD {ts:Array Value} {d t:Nat} (v:Value) (h:t≠d):(ts.setIfInBounds d v).getD t undef=ts.getD t undef:=by
 simp [Array.getD_eq_getD_getElem?,Array.getElem?_setIfInBounds,Ne.symm h]
theorem SR.Qj {L N F γ C e ah ts w} (h:SR L N F γ C e ah ts w) {d:Nat} {a:AV} {v:Value} (hd:d<N) (hv:VR C γ a v) (ht:TC w C a v)
 (hown:∀b,bG a v=some b→¬F b∧∀p,(∀t,p= .tmp t→t≠d)→¬blk γ e ah ts w p b)
 (hfr:∀l k xs,a= .sl (.fr l) k xs→match l with
  | .tmp u=>L.contains u=true∧u≠d∧((get e u).bY=true→ts.getD u undef=v)
  | .cell s o=>∀(cs:List AV) (x:AV) (b:Nat),ah[s]? =some cs→cs[o]? =some x→x.DN=true→γ[s]? =some b→w.cell? ⟨b,o,none⟩=some v)
 (hsw:a.bY=true→∀t k xs,get e t≠ .sl (.fr (.tmp d)) k xs):SR L N F γ C (Am.put e d a) ah (ts.setIfInBounds d v) w:=by
 have hsz:d<ts.size:=by rw [h.sz];exact hd
 have ge:∀t,get (Am.put e d a) t=if t=d then a else get e t:=fK e d a
 have gd:∀t,t≠d→(ts.setIfInBounds d v).getD t undef=ts.getD t undef:=fun t=>tD v
 have g0:(ts.setIfInBounds d v).getD d undef=v:=vq v hsz
 have hb:∀p b,blk γ (Am.put e d a) ah (ts.setIfInBounds d v) w p b→(p= .tmp d∧bG a v=some b)∨((∀t,p= .tmp t→t≠d)∧blk γ e ah ts w p b):=by
  intro p b hp
  cases p with
  |obj s=>exact .inr ⟨by simp,hp⟩
  |cell s i=>exact .inr ⟨by simp,hp⟩
  |tmp t=>
   by_cases wT:t=d
   · subst wT;left;simp only [blk,ge,if_true,g0] at hp;exact ⟨rfl,hp⟩
   · right;simp only [blk,ge,if_neg wT,gd t wT] at hp;exact ⟨by simpa using wT,hp⟩
 refine ⟨h.mem,by simpa using h.sz,fun t=> ?_,fun p q b hp hq=> ?_,fun p b hp=> ?_,h.iT,fun t l k xs htl=> ?_⟩
 · rw [ge]
   by_cases wT:t=d
   · subst wT;rw [if_pos rfl,g0];exact ⟨hv,ht⟩
   · rw [if_neg wT,gd t wT];exact h.env t
 · rcases hb p b hp with ⟨rfl,h1⟩|⟨h1,h2⟩<;>rcases hb q b hq with ⟨rfl,h3⟩|⟨h3,h4⟩
   · rfl
   · exact absurd h4 ((hown b h1).2 q h3)
   · exact absurd h2 ((hown b h3).2 p h1)
   · exact h.dD p q b h2 h4
 · rcases hb p b hp with ⟨rfl,h1⟩|⟨h1,h2⟩
   · exact (hown b h1).1
   · exact h.nf p b h2
 · rw [ge] at htl
   by_cases wT:t=d
   · subst wT
     rw [if_pos rfl] at htl
     have:=hfr l k xs htl
     cases l with
     |tmp u=>
      obtain ⟨h1,h2,h3⟩:=this
      refine ⟨h1,fun hu=> ?_⟩
      rw [ge,if_neg h2] at hu
      rw [gd u h2,g0]
      exact h3 hu
     |cell s o=>intro cs x b h1 h2 h3 h4;rw [g0];exact this cs x b h1 h2 h3 h4
   · rw [if_neg wT] at htl
     have:=h.fr t l k xs htl
     cases l with
     |tmp u=>
      refine ⟨this.1,fun hu=> ?_⟩
      rw [ge] at hu
      by_cases hud:u=d
      · subst hud;rw [if_pos rfl] at hu;exact absurd htl (hsw hu t k xs)
      · rw [if_neg hud] at hu;rw [gd u hud,gd t wT];exact this.2 hu
     |cell s o=>intro cs x b h1 h2 h3 h4;rw [gd t wT];exact this cs x b h1 h2 h3 h4
theorem SR.DO {L N F γ C e ah ts w} (h:SR L N F γ C e ah ts w) {d:Nat} {a:AV} {v:Value} (hd:d<N) (hv:VR C γ a v) (ht:TC w C a v)
 (ho:a.bY=false) (hf:∀l k xs,a≠ .sl (.fr l) k xs):SR L N F γ C (Am.put e d a) ah (ts.setIfInBounds d v) w:=
 h.Qj hd hv ht (fun b hb=>by rw [jr v ho] at hb;cases hb) (fun l k xs hl=>absurd hl (hf l k xs)) (fun h1=>by rw [ho] at h1;cases h1)
theorem Wk.bN (a:AV):a.bN=a∨(∃t k xs,a= .sl t k xs∧a.bN= .sl .n k xs)∨a.bN= .un:=by
 cases a with
 |sl t k xs=>cases t<;>first|exact .inl rfl|exact .inr (.inl ⟨_,_,_,rfl,rfl⟩)
 |_=>first|exact .inl rfl|exact .inr (.inr rfl)
theorem Wk.s1 (a:AV):a.s1=a∨(∃t k xs,a= .sl t k xs∧a.s1= .sl .n k xs)∨a.s1= .un:=by
 cases a with
 |sl t k xs=>exact .inr (.inl ⟨_,_,_,rfl,rfl⟩)
 |_=>first|exact .inl rfl|exact .inr (.inr rfl)
theorem Wk.jz {a a':AV} (h:a'=a∨(∃t k xs,a= .sl t k xs∧a'= .sl .n k xs)∨a'= .un):Wk a a':=by
 rcases h with rfl|⟨t,k,xs,rfl,rfl⟩|rfl
 · exact .same _
 · exact .n ..
 · exact .un ..
theorem Wk.pz (f:AV→AV) (hf:∀a,f a=a∨(∃t k xs,a= .sl t k xs∧f a= .sl .n k xs)∨f a= .un) (cs:List AV):Wk (.agg cs) (.agg (cs.map f)):=
 .agg _ _ (by simp) fun i a a' h h'=>by
  rw [List.getElem?_map,h] at h'
  obtain rfl:f a=a':=by simpa using h'
  exact hf a
theorem Wk.Yj (f:AV→AV) (hf:∀a,f a=a∨(∃t k xs,a= .sl t k xs∧f a= .sl .n k xs)∨f a= .un) (cs:List AV):Wk (.bz cs) (.bz (cs.map f)):=
 .bz _ _ (by simp) fun i a a' h h'=>by
  rw [List.getElem?_map,h] at h'
  obtain rfl:f a=a':=by simpa using h'
  exact hf a
theorem Wk.sh (a:AV):Wk a a.sh:=by
 cases a with
 |agg cs=>exact .pz _ Wk.bN _
 |bz cs=>exact .Yj _ Wk.bN _
 |sl t k xs=>exact Wk.jz (Wk.bN (.sl t k xs))
 |_=>first|exact .same _|exact .un _
theorem Wk.s0 (a:AV):Wk a a.s0:=by
 cases a with
 |agg cs=>exact .pz _ Wk.s1 _
 |sl t k xs=>exact Wk.jz (Wk.s1 (.sl t k xs))
 |_=>first|exact .same _|exact .un _
theorem Wk.df (a:AV):Wk a a.df:=by
 cases a with
 |sl t k xs=>cases t<;>first|exact .same _|exact .n ..
 |_=>first|exact .same _|exact .un _
theorem Wk.e5 (l:Loc) (a:AV):Wk a (a.e5 l):=by
 cases a with
 |sl t k xs=>
  cases t with
  |fr m=>simp only [AV.e5];split
         · exact .n ..
         · exact .same _
  |_=>exact .same _
 |_=>exact .same _
theorem Wk.rE (a:AV):Wk a a.rE:=by
 cases a with
 |sl t k xs=>cases t<;>first|exact .same _|exact .n ..
 |_=>exact .same _
theorem SR.lR {L N F γ C e ah ts w} (h:SR L N F γ C e ah ts w) (l:Loc):SR L N F γ C (Am.lR l e) ah ts w:=
 h.wk fun t=>by rw [nO];exact Wk.e5 l _
theorem SR.keep {L N F γ C e ah ts w} (h:SR L N F γ C e ah ts w) (M:List Nat):SR L N F γ C (Am.keep M e) ah ts w:=
 h.wk fun t=>by rw [Q7];split
                · exact .same _
                · exact .un _
theorem SR.uo {L N F γ C e ah ts w} (h:SR L N F γ C e ah ts w) {t:Nat} {a:AV} (ha:Wk (get e t) a):SR L N F γ C (Am.put e t a) ah ts w:=
 h.wk fun u=>by rw [fK];split
                · rename_i hu;subst hu;exact ha
                · exact .same _
end Go.Am
end
section
namespace Go.Am
open Go
variable [Tabs]
section
variable {P:Program} {L:List Nat} {N:Nat} {F:Nat→Prop} {γ:List Nat} {C:Nat→List Value} {e:Env} {ah:AH} {ts:Array Value} {ds:List Deferred} {w:World} {m:Bool}
theorem Fe (γ:List Nat) (s:ByteArray):VR C γ (.str s.data.toList) (.string s):=by
 have:s=⟨s.data.toList.toArray⟩:=by cases s;simp
 conv=>rhs;rw [this]
 exact .str ..
theorem bV (h:SR L N F γ C e ah ts w) {x:Operand} {a:Ar} (hc:bA x=some a):
 VR C γ (ev e a) (Act.eval ⟨ts,ds⟩ x)∧TC w C (ev e a) (Act.eval ⟨ts,ds⟩ x):=by
 cases x with
 |tmp t=>simp only [bA,Option.some.injEq] at hc;subst hc;exact h.env t
 |const c=>
  simp only [bA] at hc
  split at hc<;>simp only [Option.some.injEq,reduceCtorEq] at hc
  all_goals first|contradiction|(subst hc)
  all_goals simp_all
  all_goals (try subst_vars)
  all_goals first
   |exact ⟨.int ..,trivial⟩
   |exact ⟨Fe _ _,trivial⟩
   |exact ⟨.bool ..,trivial⟩
   |exact ⟨.v _ _ rfl,trivial⟩
 |func f=>simp only [bA,Option.some.injEq] at hc;subst hc;exact ⟨.fn _ _ _ #[] rfl (by simp),trivial⟩
 |global g=>simp [bA] at hc
theorem gm (h:SR L N F γ C e ah ts w) {ty:TypeId} {x:Operand} {a:Ar} (hc:dB P ty x=some a):
 VR C γ (ev e a) (Act.eval ⟨ts,ds⟩ x)∧TC w C (ev e a) (Act.eval ⟨ts,ds⟩ x):=by
 cases x with
 |tmp t=>simp only [dB,Option.some.injEq] at hc;subst hc;exact h.env t
 |const c=>
  simp only [dB] at hc
  split at hc<;>simp_all
  all_goals (try subst_vars)
  all_goals first
   |exact ⟨.int ..,trivial⟩
   |exact ⟨Fe _ _,trivial⟩
   |exact ⟨.bool ..,trivial⟩
   |exact ⟨.v _ _ rfl,trivial⟩
   |(obtain ⟨u,hu,rfl⟩:=hc;exact ⟨.tC ..,rfl⟩)
 |func f=>simp only [dB,Option.some.injEq] at hc;subst hc;exact ⟨.fn _ _ _ #[] rfl (by simp),trivial⟩
 |global g=>simp [dB] at hc
def FrV (L:List Nat) (γ:List Nat) (e:Env) (ah:AH) (ts:Array Value) (w:World) (v:Value):Loc→Prop
 | .tmp u=>L.contains u=true∧((get e u).bY=true→ts.getD u undef=v)
 | .cell s o=>∀(cs:List AV) (x:AV) (b:Nat),ah[s]? =some cs→cs[o]? =some x→x.DN=true→γ[s]? =some b→w.cell? ⟨b,o,none⟩=some v
theorem Qk {a:AV} (h:a.bY=false):a.df.bY=false:=by
 cases a with
 |sl t k xs=>cases t<;>first|rfl|exact h
 |_=>first|rfl|exact h
theorem Nu (a:AV) (l:Loc) (k:Nat) (xs:List AV):a.df≠ .sl (.fr l) k xs:=by
 cases a with
 |sl t k xs=>cases t<;>simp [AV.df]
 |_=>simp [AV.df]
theorem SR.aF (h:SR L N F γ C e ah ts w) {d:Option Nat} {a:AV} {v:Value} (hd:∀x,d=some x→x<N) (hv:VR C γ a v) (ht:TC w C a v)
 (ho:a.bY=false) (hfr:∀l k xs,a= .sl (.fr l) k xs→FrV L γ e ah ts w v l):
 SR L N F γ C (Am.aF L e d a) ah (Act.put ⟨ts,ds⟩ d v).tmps w:=by
 cases d with
 |none=>exact h
 |some d=>
  simp only [Am.aF,Act.put]
  by_cases hL:L.contains d=true
  · rw [if_pos hL,ho,if_neg (by simp)]
    exact h.DO (hd d rfl) ((Wk.df a).vr hv) ((Wk.df a).tc ht) (Qk ho) (Nu a)
  · rw [if_neg hL]
    refine h.Qj (hd d rfl) hv ht (fun b hb=>by rw [jr v ho] at hb;cases hb) (fun l k xs hl=> ?_) (fun h1=>by rw [ho] at h1;cases h1)
    have:=hfr l k xs hl
    cases l with
    |tmp u=>exact ⟨this.1,fun hu=>hL (hu▸this.1),this.2⟩
    |cell s o=>exact this
theorem SR.uq (h:SR L N F γ C e ah ts w) {d:Option Nat} {k:Nat} {xs:List AV} {v:Value} (hd:∀x,d=some x→x<N) (hv:VR C γ (.sl .own k xs) v)
 (ht:TC w C (.sl .own k xs) v) (hown:∀b,bG (.sl .own k xs) v=some b→¬F b∧∀p,¬blk γ e ah ts w p b):
 SR L N F γ C (Am.aF L e d (.sl .own k xs)) ah (Act.put ⟨ts,ds⟩ d v).tmps w:=by
 cases d with
 |none=>exact h
 |some d=>
  simp only [Am.aF,Act.put,AV.bY,if_true]
  by_cases hL:L.contains d=true
  · rw [if_pos hL]
    have hs:=h.lR (.tmp d)
    refine hs.Qj (hd d rfl) hv ht (fun b hb=>⟨(hown b hb).1,fun p _ hp=>(hown b hb).2 p ?_⟩) (fun l k xs hl=>by simp at hl) (fun _ t k xs hg=> ?_)
    · cases p with
      |obj s=>exact hp
      |cell s i=>exact hp
      |tmp t=>simp only [blk,nO] at hp ⊢;exact (Wk.e5 _ _).own hp
    · rw [nO] at hg
      generalize get e t=a at hg
      cases a with
      |sl t k xs=>cases t with
       |fr m=>simp only [AV.e5] at hg;split at hg
              · simp at hg
              · rename_i hm;simp at hg;exact hm hg.1
       |_=>simp [AV.e5] at hg
      |_=>simp [AV.e5] at hg
  · rw [if_neg hL]
    refine h.Qj (hd d rfl) hv ht (fun b hb=>⟨(hown b hb).1,fun p _=>(hown b hb).2 p⟩) (fun l k xs hl=>by simp at hl) (fun _ t k xs hg=> ?_)
    exact hL (h.fr t _ k xs hg).1
def KA (m:Bool) (γ:List Nat) (C:Nat→List Value) (w w2:World):Prop:=
 (∀b i,i<(C b).length→w2.cell? ⟨b,i,none⟩=w.cell? ⟨b,i,none⟩)∧(m=true→∀(s b:Nat),γ[s]? =some b→w2.heap[b]? =w.heap[b]?)
theorem KA.refl (m:Bool) (γ:List Nat) (C:Nat→List Value) (w:World):KA m γ C w w:=⟨fun _ _ _=>rfl,fun _ _ _ _=>rfl⟩
def bf (m:Bool) (P:Program) (L:List Nat) (N:Nat) (F:Nat→Prop) (γ:List Nat) (C:Nat→List Value) (o:Oper) (ts:Array Value) (ds:List Deferred) (w:World) (e':Env) (aE:AH):Prop:=
 ∃v w' γ' C',((execOp (Act.eval ⟨ts,ds⟩) o).run P w= .ok (.value v) w'∨((execOp (Act.eval ⟨ts,ds⟩) o).run P w= .ok .skip w'∧v=undef))∧γ <+: γ'∧
  SR L N F γ' C' e' aE (Act.put ⟨ts,ds⟩ o.dst v).tmps w'∧Ext F C w C' w'∧(iF o.op=false→∀(s b:Nat),γ[s]? =some b→w'.heap[b]? =w.heap[b]?)∧
  (dV P o.op=true→γ'=γ∧C'=C∧w'=w∧∀w2,KA m γ C w w2→(execOp (Act.eval ⟨ts,ds⟩) o).run P w2= .ok (.value v) w2)
theorem bf.pure {o:Oper} {v:Value} {e':Env} {aE:AH} (hr:∀w2,KA m γ C w w2→(execOp (Act.eval ⟨ts,ds⟩) o).run P w2= .ok (.value v) w2)
 (h:SR L N F γ C e' aE (Act.put ⟨ts,ds⟩ o.dst v).tmps w):bf m P L N F γ C o ts ds w e' aE:=
 ⟨v,w,γ,C, .inl (hr w (KA.refl ..)),List.prefix_refl _,h,Ext.refl ..,fun _ _ _ _=>rfl,fun _=>⟨rfl,rfl,rfl,hr⟩⟩
def AV.plain:AV→Bool
 | .sl .own _ _=>false
 | .sl (.fr _) _ _=>false
 | .dy _=>false
 | .dn _ _=>false
 |_=>true
theorem iH {a:AV} (h:a.plain=true):a.bY=false:=by
 cases a with
 |sl t k xs=>cases t<;>first|rfl|simp [AV.plain] at h
 |_=>first|rfl|simp [AV.plain] at h
theorem yy {a:AV} (h:a.plain=true) (l:Loc) (k:Nat) (xs:List AV):a≠ .sl (.fr l) k xs:=by
 rintro rfl;simp [AV.plain] at h
theorem bf.plain (h:SR L N F γ C e ah ts w) {o:Oper} {v:Value} {a:AV} (hd:∀x,o.dst=some x→x<N) (hr:∀w2,KA m γ C w w2→(execOp (Act.eval ⟨ts,ds⟩) o).run P w2= .ok (.value v) w2)
 (hv:VR C γ a v) (ht:TC w C a v) (hp:a.plain=true):bf m P L N F γ C o ts ds w (Am.aF L e o.dst a) ah:=
 .pure hr (h.aF hd hv ht (iH hp) fun l k xs hl=>absurd hl (yy hp l k xs))
theorem ur (a:AV):a.sh.plain=true:=by
 cases a with
 |sl t k xs=>cases t<;>rfl
 |_=>rfl
theorem Up (h:SR L N F γ C e ah ts w) {d:Option Nat} (hd:∀x,d=some x→x<N) {x:Ar} {v:Value}
 (hv:VR C γ (ev e x) v∧TC w C (ev e x) v) (hx:∀t,x= .t t→v=ts.getD t undef) (hc:∀a,x= .c a→a.plain=true):
 SR L N F γ C (Am.aF L e d (cp L x (ev e x))) ah (Act.put ⟨ts,ds⟩ d v).tmps w:=by
 generalize hg:ev e x=a at hv
 cases a with
 |sl t k xs=>
  cases t with
  |own=>
   simp only [cp]
   cases x with
   |t u=>
    simp only
    by_cases hL:L.contains u=true
    · rw [if_pos hL]
      refine h.aF hd (hv.1.kR _) (by cases v<;>trivial) rfl fun l k xs hl=> ?_
      injection hl with h1 h2 h3;injection h1 with h1;subst h1
      exact ⟨hL,fun _=>(hx u rfl).symm⟩
    · rw [if_neg hL]
      exact h.aF hd (hv.1.kR _) (by cases v<;>trivial) rfl (by simp)
   |c a=>exact h.aF hd (hv.1.kR _) (by cases v<;>trivial) rfl (by simp)
  |fr m=>
   simp only [cp]
   refine h.aF hd hv.1 hv.2 rfl fun l k xs hl=> ?_
   injection hl with h1 h2 h3;injection h1 with h1;subst h1
   cases x with
   |t u=>
    have:=h.fr u m _ _ hg
    rw [hx u rfl]
    cases m with
    |tmp u=>exact this
    |cell s o=>exact this
   |c a=>simp only [ev] at hg;subst hg;have:=hc _ rfl;simp [AV.plain] at this
  |_=>simp only [cp];exact h.aF hd hv.1 hv.2 rfl (by simp)
 |agg cs=>simp only [cp];exact h.aF hd ((Wk.sh (.agg cs)).vr hv.1) ((Wk.sh (.agg cs)).tc hv.2) rfl (by simp)
 |bz cs=>simp only [cp];exact h.aF hd ((Wk.sh (.bz cs)).vr hv.1) ((Wk.sh (.bz cs)).tc hv.2) rfl (by simp)
 |dy=>simp only [cp];exact h.aF hd (.un ..) (by cases v<;>trivial) rfl (by simp)
 |dn=>simp only [cp];exact h.aF hd (.un ..) (by cases v<;>trivial) rfl (by simp)
 |_=>simp only [cp];exact h.aF hd hv.1 hv.2 rfl (by simp)
theorem yz {ty:TypeId} {x:Operand} {a:Ar} (hc:dB P ty x=some a):∀t,a= .t t→x= .tmp t:=by
 intro t ht
 subst ht
 cases x with
 |tmp u=>simp [dB] at hc;rw [hc]
 |const c=>simp only [dB] at hc;split at hc<;>simp_all
 |func f=>simp [dB] at hc
 |global g=>simp [dB] at hc
theorem EZ {ty:TypeId} {x:Operand} {a:Ar} (hc:dB P ty x=some a):∀b,a= .c b→b.plain=true:=by
 intro b ht
 subst ht
 cases x with
 |tmp u=>simp [dB] at hc
 |const c=>
  simp only [dB] at hc
  split at hc<;>simp_all
  all_goals (try subst_vars)
  all_goals first|rfl|(obtain ⟨u,hu,rfl⟩:=hc;rfl)
 |func f=>simp [dB] at hc;subst hc;rfl
 |global g=>simp [dB] at hc
theorem aaW {d:Option Nat} {x:Operand} {ty:TypeId} {pos:String} {af:Array Edge} {g:Option (Nat×Bool)} {a:Ar} (h:SR L N F γ C e ah ts w)
 (hd:∀x,d=some x→x<N) (hc:dB P ty x=some a):
 bf m P L N F γ C ⟨d, .move x,ty,pos,af,g⟩ ts ds w (Am.aF L e d (cp L a (ev e a))) ah:=by
 refine .pure (v:=Act.eval ⟨ts,ds⟩ x) (fun w _=>by simp [execOp]) (Up h hd (gm h hc) ?_ (EZ hc))
 intro t ht;have:=yz hc t ht;subst this;rfl
theorem Yk {d:Option Nat} {x:Operand} {ty:TypeId} {pos:String} {af:Array Edge} {g:Option (Nat×Bool)} {a:Ar} {e':Env} {aE:AH} (h:SR L N F γ C e ah ts w)
 (hd:∀x,d=some x→x<N) (hc:dB P ty x=some a) (hev:bK L ⟨d, .aO a,none⟩ e ah=some (e',aE)):
 bf m P L N F γ C ⟨d, .assign x,ty,pos,af,g⟩ ts ds w e' aE:=by
 have hx:∀t,a= .t t→Act.eval ⟨ts,ds⟩ x=ts.getD t undef:=fun t ht=>by have:=yz hc t ht;subst this;rfl
 have hr:∀w2,KA m γ C w w2→(execOp (Act.eval ⟨ts,ds⟩) ⟨d, .assign x,ty,pos,af,g⟩).run P w2= .ok (.value (Act.eval ⟨ts,ds⟩ x)) w2:=fun w _=>by simp [execOp]
 have hv:=gm (ds:=ds) h hc
 simp only [bK] at hev
 split at hev
 · rename_i k xs t he
   simp only [Option.some.injEq,Prod.mk.injEq] at hev
   obtain ⟨rfl,rfl⟩:=hev
   refine .pure hr ?_
   rw [he] at hv
   rw [hx t rfl] at hv ⊢
   have hw:SR L N F γ C (Am.put e t (.sl .n k xs)) ah ts w:=h.uo (by simp only [ev] at he;rw [he];exact .n ..)
   refine hw.uq hd hv.1 hv.2 fun b hb=> ?_
   have hb0:blk γ e ah ts w (.tmp t) b:=by simp only [ev] at he;simp only [blk,he];exact hb
   refine ⟨h.nf _ _ hb0,fun p hp=> ?_⟩
   have CA:blk γ e ah ts w p b:=by
    cases p with
    |obj s=>exact hp
    |cell s i=>exact hp
    |tmp u=>
     simp only [blk,fK] at hp ⊢
     by_cases hu:u=t
     · rw [if_pos hu] at hp;simp [bG] at hp
     · rwa [if_neg hu] at hp
   have:=h.dD _ _ _ CA hb0
   subst this
   simp [blk,fK,bG] at hp
 · simp only [Option.some.injEq,Prod.mk.injEq] at hev
   obtain ⟨rfl,rfl⟩:=hev
   exact .pure hr (Up h hd hv hx (EZ hc))
end
end Go.Am
end
section
namespace Go.Am
open Go
variable [Tabs]
section
variable {P:Program} {L:List Nat} {N:Nat} {F:Nat→Prop} {γ:List Nat} {C:Nat→List Value} {e:Env} {ah:AH} {ts:Array Value} {ds:List Deferred} {w:World} {m:Bool}
variable {d:Option Nat} {ty:TypeId} {pos:String} {af:Array Edge} {g:Option (Nat×Bool)} {e':Env} {aE:AH}
theorem bQ {t:TypeId} {u:TypeDesc} (h:P.underlying t=some u):(underlying t).run P w= .ok u w:=by
 simp [underlying,program,Sem.run,h,pure,bind,Sem.bind]
theorem p7 {t:TypeId} {i:TypeInfo} (h:P.info? t=some i):(typeInfo t).run P w= .ok i w:=by
 simp [typeInfo,program,Sem.run,h,pure,bind,Sem.bind]
theorem e8 {t:TypeId} (h:(P.info? t).isSome=true):(sizeOf t).run P w= .ok (cP P t) w:=by
 obtain ⟨i,hi⟩:=Option.isSome_iff_exists.1 h
 simp [sizeOf,p7 hi,cP,hi]
theorem nP {t:TypeId} (h:(P.underlying t).isSome=true):(isAgg t).run P w= .ok (E6 P t) w:=by
 obtain ⟨u,hu⟩:=Option.isSome_iff_exists.1 h
 unfold isAgg E6
 simp only [Sem.run_bind,bQ hu,Result.andThen_ok,hu]
 cases u<;>rfl
theorem Uq {c a b:Operand} {c' a' b':Ar} (h:SR L N F γ C e ah ts w) (hd:∀x,d=some x→x<N) (hc:bA c=some c') (ha:dB P ty a=some a') (hb:dB P ty b=some b')
 (hev:bK L ⟨d, .pick c' a' b',none⟩ e ah=some (e',aE)):bf m P L N F γ C ⟨d, .pick c a b,ty,pos,af,g⟩ ts ds w e' aE:=by
 have h1:=bV (ds:=ds) h hc
 simp only [bK] at hev
 split at hev<;>simp only [Option.some.injEq,Prod.mk.injEq,reduceCtorEq] at hev
 rename_i t he
 obtain ⟨rfl,rfl⟩:=hev
 rw [he] at h1
 have hbv:Act.eval ⟨ts,ds⟩ c= .bool t:=h1.1.gW
 have ha2:=gm (ds:=ds) h ha
 have zN:=gm (ds:=ds) h hb
 cases t with
 |true=>
  refine bf.plain h hd (v:=Act.eval ⟨ts,ds⟩ a) (fun w _=>by simp [execOp,hbv,asBool]) ?_ ?_ ?_
  · exact (Wk.sh _).vr ha2.1
  · exact (Wk.sh _).tc ha2.2
  · exact ur _
 |false=>
  refine bf.plain h hd (v:=Act.eval ⟨ts,ds⟩ b) (fun w _=>by simp [execOp,hbv,asBool]) ?_ ?_ ?_
  · exact (Wk.sh _).vr zN.1
  · exact (Wk.sh _).tc zN.2
  · exact ur _
theorem Yl {x:Operand} {x':Ar} (h:SR L N F γ C e ah ts w) (hd:∀x,d=some x→x<N) (hc:bA x=some x')
 (hev:bK L ⟨d, .jy x',none⟩ e ah=some (e',aE)):bf m P L N F γ C ⟨d, .nilCheck x,ty,pos,af,g⟩ ts ds w e' aE:=by
 have h1:=bV (ds:=ds) h hc
 simp only [bK] at hev
 split at hev<;>simp only [Option.some.injEq,Prod.mk.injEq,reduceCtorEq] at hev
 · rename_i s p he
   obtain ⟨rfl,rfl⟩:=hev
   rw [he] at h1
   obtain ⟨b,hb,hv⟩:=h1.1.gb
   exact bf.plain h hd (fun w _=>by simp [execOp,hv]) (.ptr _ _ _ _ hb) trivial rfl
 · rename_i a p he
   obtain ⟨rfl,rfl⟩:=hev
   rw [he] at h1
   obtain ⟨b,q,hv,hb,hq⟩:=h1.1.EY
   exact bf.plain h hd (fun w _=>by simp [execOp,hv]) (.ep _ _ _ _ _ hb hq) trivial rfl
theorem add_eq (b o q:Nat):(Addr.add ⟨b,o,none⟩ q)=⟨b,o+q,none⟩:=by
 unfold Addr.add;split
 · rename_i h;subst h;rfl
 · rfl
theorem Ym {t:TypeId} {x:Operand} {f:Nat} {x':Ar} {fd:Field} (h:SR L N F γ C e ah ts w) (hd:∀x,d=some x→x<N) (hc:bA x=some x') (hf:KY P t f=some fd)
 (hs:cP P fd.type≠0)
 (hev:bK L ⟨d, .cj x' fd.offset,none⟩ e ah=some (e',aE)):bf m P L N F γ C ⟨d, .fieldAddr t x f,ty,pos,af,g⟩ ts ds w e' aE:=by
 have h1:=bV (ds:=ds) h hc
 have hsz:(P.info? fd.type).isSome=true:=by
  cases hi:P.info? fd.type with
  |none=>simp [cP,hi] at hs
  |some i=>rfl
 unfold KY at hf
 split at hf
 case h_2=>cases hf
 rename_i fs hu
 have hrun:∀(w:World) b o,(Instr.fieldAt t (.pointer (some ⟨b,o,none⟩)) f).run P w= .ok (.pointer (some ⟨b,o+fd.offset,none⟩)) w:=by
  intro w b o
  simp [Instr.fieldAt,bQ hu,hf,Instr.sureAddr,fieldPlace,e8 hsz,hs,add_eq]
 simp only [bK] at hev
 split at hev<;>simp only [Option.some.injEq,Prod.mk.injEq,reduceCtorEq] at hev
 · rename_i s p he
   obtain ⟨rfl,rfl⟩:=hev
   rw [he] at h1
   obtain ⟨b,hb,hv⟩:=h1.1.gb
   exact bf.plain h hd (fun w _=>by simp [execOp,hv,hrun]) (.ptr _ _ _ _ hb) trivial rfl
 · rename_i a p he
   obtain ⟨rfl,rfl⟩:=hev
   rw [he] at h1
   obtain ⟨b,q,hv,hb,hq⟩:=h1.1.EY
   exact bf.plain h hd (v:= .pointer (some ⟨b,q+(p+fd.offset),none⟩)) (fun w _=>by simp [execOp,hv,hrun,Nat.add_assoc]) (.ep _ _ _ _ _ hb hq) trivial rfl
end
end Go.Am
end
section
namespace Go.Am
open Go
variable [Tabs]
section
variable {P:Program} {L:List Nat} {N:Nat} {F:Nat→Prop} {γ:List Nat} {C:Nat→List Value} {e:Env} {ah:AH} {ts:Array Value} {ds:List Deferred} {w:World} {m:Bool}
variable {d:Option Nat} {ty:TypeId} {pos:String} {af:Array Edge} {g:Option (Nat×Bool)} {e':Env} {aE:AH}
theorem Bm (vs:Array Value) (q n i:Nat) (hi:i<n) (hq:q+n≤vs.size):(vs.extract q (q+n)).getD i undef=vs.getD (q+i) undef:=by
 rw [Array.getD_eq_getD_getElem?,Array.getD_eq_getD_getElem?,Array.getElem?_extract,if_pos (by omega)]
theorem Ff {cs:List AV} {vs:Array Value} (hl:cs.length≤vs.size) (hv:∀(i:Nat) (a:AV),cs[i]? =some a→VR C γ a (vs.getD i undef)) {q n:Nat} (hq:q+n≤cs.length):
 VR C γ (.agg ((cs.drop q).take n)) (.agg (vs.extract q (q+n))):=by
 refine .agg _ _ _ (by simp;omega) fun i a hi=> ?_
 have hin:i<n:=by
  have:=(List.getElem?_eq_some_iff.1 hi).1
  simp at this;omega
 rw [List.getElem?_take_of_lt hin,List.getElem?_drop] at hi
 rw [Bm _ _ _ _ hin (by omega)]
 exact hv _ _ hi
theorem xu {cs:List AV} {vs:Array Value} (hl:cs.length≤vs.size) {q n:Nat} (hv:∀(i:Nat) (a:AV),cs[q+i]? =some a→i<n→mo a (vs.getD (q+i) undef)) (hq:q+n≤cs.length):
 TC w C (.agg ((cs.drop q).take n)) (.agg (vs.extract q (q+n))):=by
 intro i a hi
 have hin:i<n:=by
  have:=(List.getElem?_eq_some_iff.1 hi).1
  simp at this;omega
 rw [List.getElem?_take_of_lt hin,List.getElem?_drop] at hi
 rw [Bm _ _ _ _ hin (by omega)]
 exact hv _ _ hi hin
theorem vt (a:AV):a.bN.plain=true:=by
 cases a with
 |sl t k xs=>cases t<;>rfl
 |_=>rfl
theorem Ip (a:AV):a.s1.plain=true:=by
 cases a with
 |sl t k xs=>cases t<;>rfl
 |_=>rfl
theorem E0 {a:AV} {v:Value} (h:mo a v):TC w C a.bN v:=by
 cases a with
 |sl t k xs=>cases t<;>cases v<;>first|trivial|exact h
 |agg cs=>cases v<;>exact absurd h (by simp [mo])
 |bz cs=>cases v<;>exact absurd h (by simp [mo])
 |_=>cases v<;>trivial
theorem Bn {a:AV} {v:Value} (h:TC w C a v) (hf:a.flat=true):mo a v:=by
 cases a with
 |sl t k xs=>cases t<;>cases v<;>first|trivial|exact h
 |agg cs=>cases hf
 |bz cs=>cases hf
 |_=>cases v<;>trivial
theorem Ur (a:AV) (hf:a.flat=true) (v:Value):TC w C a.s1 v:=by
 cases a with
 |sl t k xs=>cases v<;>trivial
 |agg cs=>cases hf
 |bz cs=>cases hf
 |_=>cases v<;>trivial
theorem Yn (a:AV) (hf:a.flat=true) (v:Value):mo a.s1 v:=by
 cases a with
 |sl t k xs=>cases v<;>trivial
 |agg cs=>cases hf
 |bz cs=>cases hf
 |_=>cases v<;>trivial
theorem j5 {l:List AV} (h:bP l=true) {i:Nat} {a:AV} (hi:l[i]? =some a):a.flat=true:=by
 induction l generalizing i with
 |nil=>simp at hi
 |cons b r ih=>
  simp only [bP,Bool.and_eq_true] at h
  cases i with
  |zero=>simp at hi;subst hi;exact h.1
  |succ i=>exact ih h.2 (by simpa using hi)
theorem zO {l:List AV} (h:bU l=true) {i:Nat} {a:AV} (hi:l[i]? =some a):a.iR=true:=by
 induction l generalizing i with
 |nil=>simp at hi
 |cons b r ih=>
  simp only [bU,Bool.and_eq_true] at h
  cases i with
  |zero=>simp at hi;subst hi;exact h.1
  |succ i=>exact ih h.2 (by simpa using hi)
theorem Q8 {a:AV} (h:a.iR=true):a.flat=true:=by cases a<;>first|rfl|cases h
theorem Iq {t:TypeId} (ht:tok P t=true) {vs:Array Value} {q:Nat}:
 (∀n,tn P t=some n→(part t vs q).run P w= .ok (.agg (vs.extract q (q+n))) w)∧
 (∀v,tn P t=none→vs[q]? =some v→(part t vs q).run P w= .ok v w):=by
 simp only [tok,Bool.and_eq_true] at ht
 constructor
 · intro n hn
   unfold tn at hn
   split at hn
   · rename_i ha
     obtain rfl:cP P t=n:=by simpa using hn
     simp [part,nP ht.1,ha,e8 ht.2]
   · cases hn
 · intro v hn hv
   unfold tn at hn
   split at hn
   · cases hn
   · rename_i ha
     simp [part,nP ht.1,ha,hv]
theorem Us {t:TypeId} {x:Operand} {f:Nat} {x':Ar} {fd:Field} (h:SR L N F γ C e ah ts w) (hd:∀x,d=some x→x<N) (hc:bA x=some x') (hf:KY P t f=some fd)
 (ht:tok P fd.type=true)
 (hev:bK L ⟨d, .Ik x' fd.offset (tn P fd.type),none⟩ e ah=some (e',aE)):bf m P L N F γ C ⟨d, .field t x f,ty,pos,af,g⟩ ts ds w e' aE:=by
 have h1:=bV (ds:=ds) h hc
 unfold KY at hf
 split at hf
 case h_2=>cases hf
 rename_i fs hu
 have hrun:∀(w:World) vs,(Instr.field t (.agg vs) f).run P w=(part fd.type vs fd.offset).run P w:=by
  intro w vs;simp [Instr.field,bQ hu,hf,asAgg]
 simp only [bK] at hev
 split at hev
 case h_2=>cases hev
 rename_i cs he
 rw [he] at h1
 obtain ⟨vs,hv,hl,hvs⟩:=h1.1.og
 rw [hv] at h1
 have mA:∀(i:Nat) (a:AV),cs[i]? =some a→mo a (vs.getD i undef):=h1.2
 cases hn:tn P fd.type with
 |some n=>
  simp only [hn] at hev
  split at hev
  case isFalse=>cases hev
  rename_i hq
  simp only [Option.some.injEq,Prod.mk.injEq] at hev
  obtain ⟨rfl,rfl⟩:=hev
  refine bf.plain h hd (v:= .agg (vs.extract fd.offset (fd.offset+n))) ?_ ((Wk.pz _ Wk.bN _).vr (Ff (Nat.le_of_eq hl) hvs hq)) ((Wk.pz _ Wk.bN _).tc (xu (Nat.le_of_eq hl) (fun i a hi _=>mA _ a hi) hq)) rfl
  intro w _
  simp [execOp,hv,hrun,(Iq (w:=w) ht).1 n hn]
 |none=>
  simp only [hn] at hev
  split at hev
  case h_2=>cases hev
  rename_i c hcq
  simp only [Option.some.injEq,Prod.mk.injEq] at hev
  obtain ⟨rfl,rfl⟩:=hev
  have hlt:fd.offset<vs.size:=by rw [←hl];exact (List.getElem?_eq_some_iff.1 hcq).1
  have hg:vs[fd.offset]? =some (vs.getD fd.offset undef):=by simp [Array.getD_eq_getD_getElem?,Array.getElem?_eq_getElem hlt]
  refine bf.plain h hd (v:=vs.getD fd.offset undef) ?_ ((Wk.jz (Wk.bN c)).vr (hvs _ _ hcq)) (E0 (mA _ _ hcq)) (vt _)
  intro w _
  simp [execOp,hv,hrun,(Iq (w:=w) ht).2 _ hn hg]
theorem kX {b o:Nat}:∀(n i:Nat) (acc:Array Value),(∀j,i≤j→j<i+n→∃v,w.cell? ⟨b,o+j,none⟩=some v)→
 ∃r:Array Value,(loadCellsFrom ⟨b,o,none⟩ i n acc).run P w= .ok r w∧r.size=acc.size+n∧(∀j,j<acc.size→r[j]? =acc[j]?)∧∀j,j<n→r[acc.size+j]? =w.cell? ⟨b,o+(i+j),none⟩:=by
 intro n
 induction n with
 |zero=>intro i acc _;exact ⟨acc,by simp [loadCellsFrom],rfl,fun _ _=>rfl,fun j hj=>by omega⟩
 |succ n ih=>
  intro i acc h
  obtain ⟨v,hv⟩:=h i (Nat.le_refl _) (by omega)
  obtain ⟨r,hr,hs,h1,h2⟩:=ih (i+1) (acc.push v) (fun j hj hj'=>h j (by omega) (by omega))
  refine ⟨r, ?_,by simp at hs;omega,fun j hj=> ?_,fun j hj=> ?_⟩
  · simp only [loadCellsFrom,Sem.run_bind,load,Sem.run,add_eq,hv,Result.andThen_ok]
    exact hr
  · rw [h1 j (by simp;omega),Array.getElem?_push,if_neg (by omega)]
  · cases j with
    |zero=>rw [Nat.add_zero,h1 _ (by simp),Array.getElem?_push,if_pos rfl];exact hv.symm
    |succ j=>have:=h2 j (by omega);simp at this;rw [show acc.size+(j+1)=acc.size+1+j by omega,this];congr 2;omega
theorem run_load {t:TypeId} (ht:tok P t=true) {b o:Nat}:
 (∀n,tn P t=some n→(∀j,j<n→∃v,w.cell? ⟨b,o+j,none⟩=some v)→
  ∃r:Array Value,(loadVar t ⟨b,o,none⟩).run P w= .ok (.agg r) w∧r.size=n∧∀j,j<n→r[j]? =w.cell? ⟨b,o+j,none⟩)∧
 (∀v,tn P t=none→w.cell? ⟨b,o,none⟩=some v→(loadVar t ⟨b,o,none⟩).run P w= .ok v w):=by
 simp only [tok,Bool.and_eq_true] at ht
 constructor
 · intro n hn hc
   unfold tn at hn
   split at hn
   · rename_i ha
     obtain rfl:cP P t=n:=by simpa using hn
     obtain ⟨r,hr,hs,_,h2⟩:=kX (P:=P) (w:=w) (b:=b) (o:=o) (cP P t) 0 #[] (fun j _ hj=>hc j (by omega))
     refine ⟨r, ?_,by simpa using hs,fun j hj=>by have:=h2 j hj;simpa using this⟩
     simp [loadVar,nP ht.1,ha,e8 ht.2,loadCells,hr]
   · cases hn
 · intro v hn hv
   unfold tn at hn
   split at hn
   · cases hn
   · rename_i ha
     simp [loadVar,nP ht.1,ha,load,Sem.run,hv]
theorem cz {b:Nat} {vs:Array Value} {ty:TypeId} {fr:Nat×Nat} (h:w.heap[b]? =some (.cells vs ty fr)) (i:Nat):w.cell? ⟨b,i,none⟩=vs[i]? :=by
 simp [World.cell?,h]
theorem iI (vs:Array Value) (i:Nat):vs.toList.getD i undef=vs.getD i undef:=by
 simp [List.getD_eq_getElem?_getD,Array.getD_eq_getD_getElem?]
theorem pU (h:SR L N F γ C e ah ts w) {b i:Nat} (hi:i<(C b).length):w.cell? ⟨b,i,none⟩=some ((C b).getD i undef):=by
 have hne:C b≠[]:=by intro h0;rw [h0] at hi;simp at hi
 obtain ⟨vs,ty,fr,hh,hp⟩:=h.mem.pn b hne
 rw [cz hh]
 have h1:=iG hp hi undef
 have hlt:i<vs.size:=by have:=hp.length_le;simp at this;omega
 rw [←h1,iI,Array.getElem?_eq_getElem hlt]
 simp [Array.getD_eq_getD_getElem?,Array.getElem?_eq_getElem hlt]
theorem Fg {t:TypeId} (ht:tok P t=true) {b o:Nat} {v:Value} {w2:World} (hr:(loadVar t ⟨b,o,none⟩).run P w= .ok v w)
 (hs:∀j,j<(tn P t).getD 1→(∃u,w.cell? ⟨b,o+j,none⟩=some u)∧w2.cell? ⟨b,o+j,none⟩=w.cell? ⟨b,o+j,none⟩):(loadVar t ⟨b,o,none⟩).run P w2= .ok v w2:=by
 cases hn:tn P t with
 |some n=>
  rw [hn] at hs
  obtain ⟨r,h1,h2,h3⟩:=(run_load (w:=w) ht (b:=b) (o:=o)).1 n hn (fun j hj=>(hs j hj).1)
  obtain ⟨r',g1,g2,g3⟩:=(run_load (w:=w2) ht (b:=b) (o:=o)).1 n hn (fun j hj=>by rw [(hs j hj).2];exact (hs j hj).1)
  rw [h1] at hr
  injection hr with hr _
  subst hr
  rw [g1]
  have:r'=r:=by
   apply Array.ext_getElem?
   intro j
   by_cases hj:j<n
   · rw [g3 j hj,h3 j hj,(hs j hj).2]
   · rw [Array.getElem?_eq_none (by omega),Array.getElem?_eq_none (by omega)]
  rw [this]
 |none=>
  rw [hn] at hs
  have h0:=hs 0 (by simp)
  obtain ⟨u,hu⟩:=h0.1
  have h1:=(run_load (w:=w) ht (b:=b) (o:=o)).2 u hn hu
  rw [h1] at hr
  injection hr with hr _
  subst hr
  exact (run_load (w:=w2) ht (b:=b) (o:=o)).2 u hn (by have:=h0.2;simp only [Nat.add_zero] at this hu;rw [this];exact hu)
theorem Ql {t:TypeId} {x:Operand} {x':Ar} (h:SR L N F γ C e ah ts w) (hd:∀x,d=some x→x<N) (hc:bA x=some x') (ht:tok P t=true)
 (hev:bK L ⟨d, .Bh x' (tn P t),none⟩ e ah=some (e',aE)):bf m P L N F γ C ⟨d, .load t x,ty,pos,af,g⟩ ts ds w e' aE:=by
 have h1:=bV (ds:=ds) h hc
 have hrun:∀b o v,Act.eval ⟨ts,ds⟩ x= .pointer (some ⟨b,o,none⟩)→(loadVar t ⟨b,o,none⟩).run P w= .ok v w→
  (∀w2,KA m γ C w w2→∀j,j<(tn P t).getD 1→(∃u,w.cell? ⟨b,o+j,none⟩=some u)∧w2.cell? ⟨b,o+j,none⟩=w.cell? ⟨b,o+j,none⟩)→
  ∀w2,KA m γ C w w2→(execOp (Act.eval ⟨ts,ds⟩) ⟨d, .load t x,ty,pos,af,g⟩).run P w2= .ok (.value v) w2:=by
  intro b o v hx hr hs w2 hk
  have:=Fg ht hr (hs w2 hk)
  simp [execOp,Instr.loadAt,Instr.sureAddr,hx,this]
 simp only [bK] at hev
 split at hev
 case h_2=>cases hev
 · rename_i a p he
   rw [he] at h1
   obtain ⟨b,q,hv,hlen,hcell⟩:=h1.1.EY
   have Nv:∀j,p+j<a.cells.length→w.cell? ⟨b,q+p+j,none⟩=some ((C b).getD (q+(p+j)) undef):=by
    intro j hj
    rw [Nat.add_assoc];exact pU h (by omega)
   have hks:∀n,(tn P t).getD 1=n→p+n≤a.cells.length→∀w2,KA m γ C w w2→∀j,j<(tn P t).getD 1→(∃u,w.cell? ⟨b,q+p+j,none⟩=some u)∧w2.cell? ⟨b,q+p+j,none⟩=w.cell? ⟨b,q+p+j,none⟩:=
    fun n hn hl w2 hk j hj=>⟨⟨_,Nv j (by omega)⟩,hk.1 b (q+p+j) (by omega)⟩
   cases hn:tn P t with
   |some n=>
    simp only [hn] at hev
    split at hev
    case isFalse=>simp at hev
    rename_i hq
    obtain ⟨hq,hfl⟩:=hq
    simp only [Option.some.injEq,Prod.mk.injEq] at hev
    obtain ⟨rfl,rfl⟩:=hev
    obtain ⟨r,hr,hrs,hrc⟩:=(run_load (w:=w) ht (b:=b) (o:=q+p)).1 n hn (fun j hj=>⟨_,Nv j (by omega)⟩)
    have Nw:∀i,i<n→r.getD i undef=(C b).getD (q+(p+i)) undef:=by
     intro i hi
     rw [Array.getD_eq_getD_getElem?,hrc i hi,Nv i (by omega)];rfl
    have hsub:∀(i:Nat) (x:AV),(((a.cells.drop p).take n))[i]? =some x→i<n∧a.cells[p+i]? =some x:=by
     intro i x hi
     have hin:i<n:=by
      have:=(List.getElem?_eq_some_iff.1 hi).1
      simp at this;omega
     rw [List.getElem?_take_of_lt hin,List.getElem?_drop] at hi
     exact ⟨hin,hi⟩
    refine bf.plain h hd (hrun _ _ _ hv hr (hks _ rfl (by simp only [hn,Option.getD];omega))) ((Wk.pz _ Wk.s1 _).vr (.agg _ _ _ (by simp;omega) fun i x hi=> ?_)) ?_ rfl
    · obtain ⟨hin,hi'⟩:=hsub i x hi
      rw [Nw i hin]
      exact hcell _ _ hi'
    · intro i x hi
      rw [List.getElem?_map] at hi
      cases hx:((a.cells.drop p).take n)[i]? with
      |none=>rw [hx] at hi;simp at hi
      |some y=>
       rw [hx] at hi
       obtain rfl:y.s1=x:=by simpa using hi
       exact Yn y (j5 hfl hx) _
   |none=>
    simp only [hn] at hev
    split at hev
    case h_2=>simp at hev
    rename_i c j6
    split at hev
    case isFalse=>simp at hev
    rename_i hfl
    simp only [Option.some.injEq,Prod.mk.injEq] at hev
    obtain ⟨rfl,rfl⟩:=hev
    have hlt:p<a.cells.length:=(List.getElem?_eq_some_iff.1 j6).1
    have hr:=(run_load (w:=w) ht (b:=b) (o:=q+p)).2 _ hn (Nv 0 (by omega))
    exact bf.plain h hd (hrun _ _ _ hv hr (hks _ rfl (by simp only [hn,Option.getD];omega))) ((Wk.jz (Wk.s1 c)).vr (hcell _ _ j6)) (Ur c hfl _) (Ip _)
theorem aaX {t:TypeId} {x:Operand} {x':Ar} (h:SR L N F γ C e ah ts w) (hd:∀x,d=some x→x<N) (hc:bA x=some x') (ht:tok P t=true)
 (hev:bK L ⟨d, .ld x' (tn P t),none⟩ e ah=some (e',aE)):bf true P L N F γ C ⟨d, .load t x,ty,pos,af,g⟩ ts ds w e' aE:=by
 have h1:=bV (ds:=ds) h hc
 have hrun:∀b o v,Act.eval ⟨ts,ds⟩ x= .pointer (some ⟨b,o,none⟩)→(loadVar t ⟨b,o,none⟩).run P w= .ok v w→
  (∀w2,KA true γ C w w2→∀j,j<(tn P t).getD 1→(∃u,w.cell? ⟨b,o+j,none⟩=some u)∧w2.cell? ⟨b,o+j,none⟩=w.cell? ⟨b,o+j,none⟩)→
  ∀w2,KA true γ C w w2→(execOp (Act.eval ⟨ts,ds⟩) ⟨d, .load t x,ty,pos,af,g⟩).run P w2= .ok (.value v) w2:=by
  intro b o v hx hr hs w2 hk
  have:=Fg ht hr (hs w2 hk)
  simp [execOp,Instr.loadAt,Instr.sureAddr,hx,this]
 simp only [bK] at hev
 split at hev
 case h_3=>cases hev
 · rename_i s p he
   rw [he] at h1
   obtain ⟨b,hb,hv⟩:=h1.1.gb
   split at hev
   case h_2=>cases hev
   rename_i cs hcs
   obtain ⟨vs,tv,hh,hsz,hcell⟩:=h.mem.obj s b cs hcs hb
   have xw:=cz hh
   have hks:∀n,(tn P t).getD 1=n→p+n≤cs.length→∀w2,KA true γ C w w2→∀j,j<(tn P t).getD 1→(∃u,w.cell? ⟨b,p+j,none⟩=some u)∧w2.cell? ⟨b,p+j,none⟩=w.cell? ⟨b,p+j,none⟩:=
    fun n hn hl w2 hk j hj=>⟨⟨_,by rw [xw];exact Array.getElem?_eq_getElem (by omega)⟩,by simp [World.cell?,hk.2 rfl s b hb]⟩
   cases hn:tn P t with
   |some n=>
    simp only [hn,mw] at hev
    split at hev
    case isFalse=>simp at hev
    rename_i hq
    obtain ⟨hq,hfl⟩:=hq
    simp only [Option.map_some,Option.some.injEq,Prod.mk.injEq] at hev
    obtain ⟨rfl,rfl⟩:=hev
    obtain ⟨r,hr,hrs,hrc⟩:=(run_load (w:=w) ht (b:=b) (o:=p)).1 n hn (fun j hj=>by
     rw [xw];exact ⟨_,Array.getElem?_eq_getElem (by omega)⟩)
    obtain rfl:r=vs.extract p (p+n):=by
     apply Array.ext_getElem?
     intro j
     by_cases hj:j<n
     · rw [hrc j hj,xw,Array.getElem?_extract,if_pos (by omega)]
     · rw [Array.getElem?_eq_none (by omega),Array.getElem?_eq_none (by simp;omega)]
    refine bf.plain h hd (hrun _ _ _ hv hr (hks _ rfl (by simp only [hn,Option.getD];omega))) ((Wk.pz _ Wk.bN _).vr (Ff hsz (fun i a hi=>(hcell i a hi).1) hq))
     ((Wk.pz _ Wk.bN _).tc (xu hsz (fun i a hi hin=>Bn (hcell _ a hi).2 (j5 hfl (i:=i) (by rw [List.getElem?_take_of_lt hin,List.getElem?_drop];exact hi))) hq)) rfl
   |none=>
    simp only [hn,mw] at hev
    have oT:∀c,cs[p]? =some c→w.cell? ⟨b,p,none⟩=some (vs.getD p undef):=by
     intro c j6
     have hlt:p<vs.size:=Nat.lt_of_lt_of_le (List.getElem?_eq_some_iff.1 j6).1 hsz
     rw [xw];simp [Array.getD_eq_getD_getElem?,Array.getElem?_eq_getElem hlt]
    split at hev
    · rename_i k xs j6
      simp only [Option.map_some,Option.some.injEq,Prod.mk.injEq] at hev
      obtain ⟨rfl,rfl⟩:=hev
      have hlt:p<cs.length:=(List.getElem?_eq_some_iff.1 j6).1
      have hw:=oT _ j6
      have hr:=(run_load (w:=w) ht (b:=b) (o:=p)).2 _ hn hw
      refine .pure (hrun _ _ _ hv hr (hks _ rfl (by simp only [hn,Option.getD];omega))) (h.aF hd ((hcell p _ j6).1.kR _) (by cases (vs.getD p undef)<;>trivial) rfl fun l k' xs' hl=> ?_)
      injection hl with e1 e2 e3;injection e1 with e1;subst e1
      intro cs' x b' g1 g2 g3 g4
      rw [hb] at g4;injection g4 with g4;subst g4
      exact hw
    · rename_i c hno j6
      split at hev
      case isFalse=>simp at hev
      rename_i hfl
      simp only [Option.map_some,Option.some.injEq,Prod.mk.injEq] at hev
      obtain ⟨rfl,rfl⟩:=hev
      have hlt:p<cs.length:=(List.getElem?_eq_some_iff.1 j6).1
      have hw:=oT _ j6
      have hr:=(run_load (w:=w) ht (b:=b) (o:=p)).2 _ hn hw
      exact bf.plain h hd (hrun _ _ _ hv hr (hks _ rfl (by simp only [hn,Option.getD];omega))) ((Wk.jz (Wk.bN c)).vr (hcell p _ j6).1) (E0 (Bn (hcell p _ j6).2 hfl)) (vt _)
    · simp at hev
 · rename_i a p he
   exact Ql h hd hc ht (by simpa only [bK,he] using hev)
end
end Go.Am
end
section
namespace Go.Am
open Go
variable [Tabs]
section
variable {P:Program} {L:List Nat} {N:Nat} {F:Nat→Prop} {γ:List Nat} {C:Nat→List Value} {e:Env} {ah:AH} {ts:Array Value} {ds:List Deferred} {w:World} {m:Bool}
variable {d:Option Nat} {ty p8:TypeId} {pos:String} {af:Array Edge} {g:Option (Nat×Bool)} {e':Env} {aE:AH}
theorem dR {op:BinOp} {t:TypeId} {x y:Operand} {a b:Value} (h:match a,b with| .nilIface, .nilIface=>False| .agg _, .agg _=>False|_,_=>True):
 (eqGuard op t x y a b).run P w= .ok () w:=by
 unfold eqGuard
 cases op<;>simp<;>(cases a<;>cases b<;>simp_all)
theorem K7 {op:BinOp} {t:TypeId} {k:IntKind} {i j:Int} {r:AV} (hop:op≠ .shl∧op≠ .shr) (h:cU op k i j=some r):
 ∃v,(∀w2,(binOp op t (.int k i) (.int k j)).run P w2= .ok v w2)∧VR C γ r v∧r.plain=true∧TC w C r v:=by
 cases op with
 |add=>simp only [cU,Option.some.injEq] at h;subst h;exact ⟨.int k (k.wrap (i+j)),fun w2=>by simp [binOp,Op.intArith], .int ..,rfl,trivial⟩
 |sub=>simp only [cU,Option.some.injEq] at h;subst h;exact ⟨.int k (k.wrap (i - j)),fun w2=>by simp [binOp,Op.intArith], .int ..,rfl,trivial⟩
 |mul=>simp only [cU,Option.some.injEq] at h;subst h;exact ⟨.int k (k.wrap (i*j)),fun w2=>by simp [binOp,Op.intArith], .int ..,rfl,trivial⟩
 |and=>simp only [cU,Option.some.injEq] at h;subst h;exact ⟨.int k (k.wrap (BitVec.ofInt k.bits i &&& BitVec.ofInt k.bits j).toNat),fun w2=>by simp [binOp,Op.intBits], .int ..,rfl,trivial⟩
 |or=>simp only [cU,Option.some.injEq] at h;subst h;exact ⟨.int k (k.wrap (BitVec.ofInt k.bits i ||| BitVec.ofInt k.bits j).toNat),fun w2=>by simp [binOp,Op.intBits], .int ..,rfl,trivial⟩
 |xor=>simp only [cU,Option.some.injEq] at h;subst h;exact ⟨.int k (k.wrap (BitVec.ofInt k.bits i ^^^ BitVec.ofInt k.bits j).toNat),fun w2=>by simp [binOp,Op.intBits], .int ..,rfl,trivial⟩
 |andNot=>simp only [cU,Option.some.injEq] at h;subst h;exact ⟨.int k (k.wrap (BitVec.ofInt k.bits i &&& ~~~(BitVec.ofInt k.bits j)).toNat),fun w2=>by simp [binOp,Op.intBits], .int ..,rfl,trivial⟩
 |quo=>
  simp only [cU] at h
  split at h
  · cases h
  · rename_i hj;simp only [Option.some.injEq] at h;subst h;exact ⟨.int k (k.wrap (i.tdiv j)),fun w2=>by simp [binOp,Op.intDiv,hj], .int ..,rfl,trivial⟩
 |rem=>
  simp only [cU] at h
  split at h
  · cases h
  · rename_i hj;simp only [Option.some.injEq] at h;subst h;exact ⟨.int k (i.tmod j),fun w2=>by simp [binOp,Op.intDiv,hj], .int ..,rfl,trivial⟩
 |eql=>simp only [cU,Option.some.injEq] at h;subst h;exact ⟨.bool (decide (i=j)),fun w2=>by simp [binOp,Op.intCmp,bne];try (rw [Bool.eq_iff_iff];simp), .bool ..,rfl,trivial⟩
 |neq=>simp only [cU,Option.some.injEq] at h;subst h;exact ⟨.bool (!decide (i=j)),fun w2=>by simp [binOp,Op.intCmp,bne];try (rw [Bool.eq_iff_iff];simp), .bool ..,rfl,trivial⟩
 |lss=>simp only [cU,Option.some.injEq] at h;subst h;exact ⟨.bool (decide (i<j)),fun w2=>by simp [binOp,Op.intCmp,bne];try (rw [Bool.eq_iff_iff];simp), .bool ..,rfl,trivial⟩
 |leq=>simp only [cU,Option.some.injEq] at h;subst h;exact ⟨.bool (decide (i≤j)),fun w2=>by simp [binOp,Op.intCmp,bne];try (rw [Bool.eq_iff_iff];simp), .bool ..,rfl,trivial⟩
 |gtr=>simp only [cU,Option.some.injEq] at h;subst h;exact ⟨.bool (decide (j<i)),fun w2=>by simp [binOp,Op.intCmp,bne];try (rw [Bool.eq_iff_iff];simp), .bool ..,rfl,trivial⟩
 |geq=>simp only [cU,Option.some.injEq] at h;subst h;exact ⟨.bool (decide (j≤i)),fun w2=>by simp [binOp,Op.intCmp,bne];try (rw [Bool.eq_iff_iff];simp), .bool ..,rfl,trivial⟩
 |shl=>exact absurd rfl hop.1
 |shr=>exact absurd rfl hop.2
theorem Q9 {op:BinOp} {t:TypeId} {a b r:AV} {x y:Value} (ha:VR C γ a x) (hb:VR C γ b y) (h:bl op a b=some r):
 (∀w2,∀x' y':Operand,(eqGuard op t x' y' x y).run P w2= .ok () w2)∧∃v,(∀w2,(binOp op t x y).run P w2= .ok v w2)∧VR C γ r v∧r.plain=true∧TC w C r v:=by
 cases a with
 |int k i=>
  cases b with
  |int k' j=>
   obtain rfl:=ha.dh
   obtain rfl:=hb.dh
   refine ⟨fun w2 x' y'=>dR trivial, ?_⟩
   by_cases h1:op= .shl
   · subst h1
     simp only [bl] at h
     split at h
     · cases h
     · rename_i hj;simp only [Option.some.injEq] at h;subst h
       exact ⟨.int k (k.wrap (i*2 ^ (min j.toNat k.bits))),fun w2=>by simp [binOp,Op.shift,hj], .int ..,rfl,trivial⟩
   · by_cases h2:op= .shr
     · subst h2
       simp only [bl] at h
       split at h
       · cases h
       · rename_i hj;simp only [Option.some.injEq] at h;subst h
         exact ⟨.int k (i.fdiv (2 ^ (min j.toNat k.bits))),fun w2=>by simp [binOp,Op.shift,hj], .int ..,rfl,trivial⟩
     · have h3:(if k=k' then cU op k i j else none)=some r:=by
        cases op<;>first|exact absurd rfl h1|exact absurd rfl h2|exact h
       split at h3
       · rename_i hk;subst hk;exact K7 ⟨h1,h2⟩ h3
       · cases h3
  |_=>simp [bl] at h
 |str l=>
  cases b with
  |str m=>
   obtain rfl:=ha.dJ
   obtain rfl:=hb.dJ
   refine ⟨fun w2 x' y'=>dR trivial, ?_⟩
   have hl:∀l:List UInt8,(⟨l.toArray⟩:ByteArray).toList=l:=by
    intro l;exact ByteArray.toList_mk l
   simp only [bl] at h
   cases op<;>simp only [reduceCtorEq,Option.some.injEq] at h
   · split at h
     · rename_i hlen;simp only [Option.some.injEq] at h;subst h
       refine ⟨.string ⟨(l++m).toArray⟩,fun w2=> ?_, .str ..,rfl,trivial⟩
       have hs:∀l:List UInt8,(⟨l.toArray⟩:ByteArray).size=l.length:=fun l=>by simp [ByteArray.size]
       have hn:¬((((⟨l.toArray⟩:ByteArray).size+(⟨m.toArray⟩:ByteArray).size:Nat):Int)>IntKind.i64.max):=by
        rw [hs,hs];have:IntKind.i64.max=9223372036854775807:=by decide
        rw [this];omega
       simp only [binOp,Op.stringOp,if_neg hn]
       have:(⟨l.toArray⟩:ByteArray)++⟨m.toArray⟩=⟨(l++m).toArray⟩:=by
        apply ByteArray.ext;simp
       rw [this];rfl
     · cases h
   · subst h;exact ⟨.bool (decide (l=m)),fun w2=>by simp [binOp,Op.stringOp,hl];rw [Bool.eq_iff_iff];simp, .bool ..,rfl,trivial⟩
   · subst h;exact ⟨.bool (!decide (l=m)),fun w2=>by simp [binOp,Op.stringOp,hl];rw [Bool.eq_iff_iff];simp, .bool ..,rfl,trivial⟩
  |_=>simp [bl] at h
 |_=>simp [bl] at h
theorem I7 {t:TypeId} (hu:P.underlying t=some .bool) (a b:Bool):(binOp .eql t (.bool a) (.bool b)).run P w= .ok (.bool (a==b)) w∧(binOp .neq t (.bool a) (.bool b)).run P w= .ok (.bool (!(a==b))) w:=by
 have h1:(Op.equal t (.bool a) (.bool b)).run P w= .ok (a==b) w:=run_equalIn_bool w 9999 t a b hu
 constructor
 · simp only [binOp,Sem.run_bind,h1,Result.andThen_ok,Sem.run_pure]
 · simp only [binOp,Sem.run_bind,h1,Result.andThen_ok,Sem.run_pure]
theorem Ra {t u:TypeId} (hu:P.underlying t=some (.pointer u)) (n:Nat) (a:Option Addr):(Op.equalIn (n+1) t (.pointer none) (.pointer a)).run P w= .ok a.isNone w:=by
 simp [Op.equalIn,bQ hu]
theorem Nx {t u:TypeId} (hu:P.underlying t=some (.pointer u)) (n:Nat) (a:Addr):(Op.equalIn (n+1) t (.pointer (some a)) (.pointer none)).run P w= .ok false w:=by
 simp [Op.equalIn,bQ hu]
theorem xx {t u:TypeId} (hu:P.underlying t=some (.pointer u)) {x y:Value} {b:Bool}
 (h:(x= .pointer none∧∃a,y= .pointer a∧b=a.isNone)∨(∃a,x= .pointer (some a)∧y= .pointer none∧b=false)):
 (binOp .eql t x y).run P w= .ok (.bool b) w∧(binOp .neq t x y).run P w= .ok (.bool (!b)) w:=by
 have h1:(Op.equal t x y).run P w= .ok b w:=by
  rcases h with ⟨rfl,a,rfl,rfl⟩|⟨a,rfl,rfl,rfl⟩
  · exact Ra hu 9999 a
  · exact Nx hu 9999 a
 have h2:binOp .eql t x y=(do pure (.bool (←Op.equal t x y)))∧binOp .neq t x y=(do pure (.bool (!(←Op.equal t x y)))):=by
  rcases h with ⟨rfl,a,rfl,rfl⟩|⟨a,rfl,rfl,rfl⟩<;>exact ⟨rfl,rfl⟩
 constructor
 · simp only [h2.1,Sem.run_bind,h1,Result.andThen_ok,Sem.run_pure]
 · simp only [h2.2,Sem.run_bind,h1,Result.andThen_ok,Sem.run_pure]
theorem Qm {op:BinOp} {t:TypeId} {x y:Operand} {x' y':Ar} (h:SR L N F γ C e ah ts w) (hd:∀x,d=some x→x<N) (hx:bA x=some x') (hy:bA y=some y')
 (hev:bK L ⟨d, .bin op x' y',none⟩ e ah=some (e',aE)):bf m P L N F γ C ⟨d, .binOp op t x y p8,ty,pos,af,g⟩ ts ds w e' aE:=by
 have h1:=bV (ds:=ds) h hx
 have h2:=bV (ds:=ds) h hy
 simp only [bK] at hev
 cases hb:bl op (ev e x') (ev e y') with
 |none=>rw [hb] at hev;cases hev
 |some r=>
  rw [hb] at hev
  simp only [Option.map_some,Option.some.injEq,Prod.mk.injEq] at hev
  obtain ⟨rfl,rfl⟩:=hev
  obtain ⟨hg,v,hr,hv,hp,ht⟩:=Q9 (P:=P) (w:=w) (t:=t) h1.1 h2.1 hb
  exact bf.plain h hd (fun w _=>by simp [execOp,hg,hr]) hv ht hp
theorem Ut {op:BinOp} {t:TypeId} {x y:Operand} {x' y':Ar} {neq:Bool} (h:SR L N F γ C e ah ts w) (hd:∀x,d=some x→x<N) (hx:bA x=some x') (hy:bA y=some y')
 (hu:P.underlying t=some .bool) (hop:op=if neq then .neq else .eql)
 (hev:bK L ⟨d, .bq neq x' y',none⟩ e ah=some (e',aE)):bf m P L N F γ C ⟨d, .binOp op t x y p8,ty,pos,af,g⟩ ts ds w e' aE:=by
 have h1:=bV (ds:=ds) h hx
 have h2:=bV (ds:=ds) h hy
 simp only [bK] at hev
 cases hb:Np (ev e x') (ev e y') with
 |none=>rw [hb] at hev;cases hev
 |some r=>
  rw [hb] at hev
  simp only [Option.map_some,Option.some.injEq,Prod.mk.injEq] at hev
  obtain ⟨rfl,rfl⟩:=hev
  cases ha:ev e x' with
  |bool a=>
   cases hb':ev e y' with
   |bool b=>
    rw [ha] at h1;rw [hb'] at h2
    rw [ha,hb'] at hb
    simp only [Np,Option.some.injEq] at hb
    subst hb
    have e1:=h1.1.gW
    have e2:=h2.1.gW
    refine bf.plain h hd (v:= .bool (if neq then !(a==b) else (a==b))) ?_ (.bool ..) trivial rfl
    intro w _
    have hb:=I7 (P:=P) (w:=w) hu a b
    cases neq<;>simp only [Bool.false_eq_true,if_false,if_true] at hop<;>subst hop
    · simp [execOp,e1,e2,dR,hb.1]
    · simp only [if_true];simp [execOp,e1,e2,dR,hb.2]
   |_=>rw [ha,hb'] at hb;simp [Np] at hb
  |_=>rw [ha] at hb;simp [Np] at hb
theorem Uu {op:BinOp} {t u:TypeId} {x y:Operand} {x' y':Ar} {neq:Bool} (h:SR L N F γ C e ah ts w) (hd:∀x,d=some x→x<N) (hx:bA x=some x') (hy:bA y=some y')
 (hu:P.underlying t=some (.pointer u)) (hop:op=if neq then .neq else .eql)
 (hev:bK L ⟨d, .pq neq x' y',none⟩ e ah=some (e',aE)):bf m P L N F γ C ⟨d, .binOp op t x y p8,ty,pos,af,g⟩ ts ds w e' aE:=by
 have h1:=bV (ds:=ds) h hx
 have h2:=bV (ds:=ds) h hy
 simp only [bK] at hev
 cases hb:Nq (ev e x') (ev e y') with
 |none=>rw [hb] at hev;cases hev
 |some r=>
  rw [hb] at hev
  simp only [Option.map_some,Option.some.injEq,Prod.mk.injEq] at hev
  obtain ⟨rfl,rfl⟩:=hev
  unfold Nq at hb
  split at hb<;>simp only [Option.some.injEq,reduceCtorEq] at hb<;>subst hb
  · rename_i s o ha hb'
    rw [ha] at h1;rw [hb'] at h2
    obtain ⟨b, -,e1⟩:=h1.1.gb
    have e2:=h2.1.Fa.1
    refine bf.plain h hd (v:= .bool (if neq then !false else false)) ?_ (.bool ..) trivial rfl
    intro w _
    have hb:=xx (P:=P) (w:=w) hu (.inr ⟨⟨b,o,none⟩,rfl,rfl,rfl⟩)
    cases neq<;>simp only [Bool.false_eq_true,if_false,if_true] at hop<;>subst hop
    · simp [execOp,e1,e2,dR,hb.1]
    · simp only [if_true];simp [execOp,e1,e2,dR,hb.2]
  · rename_i s o ha hb'
    rw [ha] at h1;rw [hb'] at h2
    obtain ⟨b, -,e2⟩:=h2.1.gb
    have e1:=h1.1.Fa.1
    refine bf.plain h hd (v:= .bool (if neq then !false else false)) ?_ (.bool ..) trivial rfl
    intro w _
    have hb:=xx (P:=P) (w:=w) hu (.inl ⟨rfl,some ⟨b,o,none⟩,rfl,rfl⟩)
    cases neq<;>simp only [Bool.false_eq_true,if_false,if_true] at hop<;>subst hop
    · simp [execOp,e1,e2,dR,hb.1]
    · simp only [if_true];simp [execOp,e1,e2,dR,hb.2]
  · rename_i ha hb'
    rw [ha] at h1;rw [hb'] at h2
    have e2:=h2.1.Fa.1
    have e1:=h1.1.Fa.1
    refine bf.plain h hd (v:= .bool (if neq then !true else true)) ?_ (.bool ..) trivial rfl
    intro w _
    have hb:=xx (P:=P) (w:=w) hu (.inl ⟨rfl,none,rfl,rfl⟩)
    cases neq<;>simp only [Bool.false_eq_true,if_false,if_true] at hop<;>subst hop
    · simp [execOp,e1,e2,dR,hb.1]
    · simp only [if_true];simp [execOp,e1,e2,dR,hb.2]
theorem aaY {op:UnOp} {t:TypeId} {x:Operand} {x':Ar} (h:SR L N F γ C e ah ts w) (hd:∀x,d=some x→x<N) (hx:bA x=some x')
 (hev:bK L ⟨d, .un op x',none⟩ e ah=some (e',aE)):bf m P L N F γ C ⟨d, .unOp op t x,ty,pos,af,g⟩ ts ds w e' aE:=by
 have h1:=bV (ds:=ds) h hx
 simp only [bK] at hev
 cases hb:Ns op (ev e x') with
 |none=>rw [hb] at hev;cases hev
 |some r=>
  rw [hb] at hev
  simp only [Option.map_some,Option.some.injEq,Prod.mk.injEq] at hev
  obtain ⟨rfl,rfl⟩:=hev
  unfold Ns at hb
  split at hb<;>simp only [Option.some.injEq,reduceCtorEq] at hb<;>subst hb<;>rename_i ha<;>rw [ha] at h1
  · exact bf.plain h hd (fun w _=>by simp [execOp,h1.1.dh,Op.unary,Op.intArith]) (.int ..) trivial rfl
  · exact bf.plain h hd (fun w _=>by simp [execOp,h1.1.dh,Op.unary,Op.intBits]) (.int ..) trivial rfl
  · exact bf.plain h hd (fun w _=>by simp [execOp,h1.1.gW,Op.unary]) (.bool ..) trivial rfl
end
end Go.Am
end
section
namespace Go.Am
open Go
variable [Tabs]
section
variable {P:Program} {L:List Nat} {N:Nat} {F:Nat→Prop} {γ:List Nat} {C:Nat→List Value} {e:Env} {ah:AH} {ts:Array Value} {ds:List Deferred} {w:World} {m:Bool}
variable {d:Option Nat} {ty p8:TypeId} {pos:String} {af:Array Edge} {g:Option (Nat×Bool)} {e':Env} {aE:AH}
theorem l5 {t:TypeId} {n:Nat} {xs:Array Value} (hs:cP P t=1) (hu:∃u,P.underlying t=some u∧(match u with| .int _| .string| .bool=>True|_=>False)) (hn:n<xs.size):
 (part t xs n).run P w= .ok (xs.getD n undef) w:=by
 obtain ⟨u,hu,hk⟩:=hu
 have ha:E6 P t=false:=by unfold E6;rw [hu];cases u<;>simp at hk ⊢
 have h1:(isAgg t).run P w= .ok false w:=by rw [nP (by simp [hu]),ha]
 simp [part,h1,Array.getD_eq_getD_getElem?,Array.getElem?_eq_getElem hn]
theorem zn (nf:Nat) (xs ys:Array Value):∀(fs:List Field) (i:Nat) (ks:List Pk) (zq bs:List AV) (r:Bool),pZ P i fs=some ks→cC ks zq bs=some r→
 xs.size=i+zq.length→ys.size=i+bs.length→
 (∀(j:Nat) (a:AV),zq[j]? =some a→VR C γ a (xs.getD (i+j) undef))→(∀(j:Nat) (a:AV),bs[j]? =some a→VR C γ a (ys.getD (i+j) undef))→
 (Op.eqFields (nf+1) xs ys fs).run P w= .ok r w:=by
 intro fs
 induction fs with
 |nil=>
  intro i ks zq bs r hk hs hx hy ha hb
  simp only [pZ,Option.some.injEq] at hk
  subst hk
  cases zq<;>cases bs<;>simp [cC] at hs
  subst hs
  simp [Op.eqFields]
 |cons f fs ih=>
  intro i ks zq bs r hk hs hx hy ha hb
  simp only [pZ] at hk
  split at hk
  case isFalse=>cases hk
  rename_i hf
  obtain ⟨ho,hname,hsz⟩:=hf
  cases hr:pZ P (i+1) fs with
  |none=>rw [hr] at hk;split at hk<;>simp_all
  |some ks'=>
   have key:∃k,ks=k::ks'∧(match k with| .i=>∃k',P.underlying f.type=some (.int k')| .s=>P.underlying f.type=some .string| .b=>P.underlying f.type=some .bool):=by
    rw [hr] at hk
    split at hk<;>simp only [Option.some.injEq,reduceCtorEq] at hk<;>simp_all
    all_goals (obtain rfl:=hk;simp_all)
   obtain ⟨k,rfl,hu⟩:=key
   cases zq with
   |nil=>simp [cC] at hs
   |cons a zq=>
    cases bs with
    |nil=>simp [cC] at hs
    |cons b bs=>
     have hu':∃u,P.underlying f.type=some u∧(match u with| .int _| .string| .bool=>True|_=>False):=by
      cases k with
      |i=>obtain ⟨k',hu⟩:=hu;exact ⟨_,hu,trivial⟩
      |s=>exact ⟨_,hu,trivial⟩
      |b=>exact ⟨_,hu,trivial⟩
     have hpx:=l5 (w:=w) (n:=f.offset) (xs:=xs) hsz hu' (by simp at hx;omega)
     have hpy:=l5 (w:=w) (n:=f.offset) (xs:=ys) hsz hu' (by simp at hy;omega)
     have Yo:=ha 0 a rfl
     have Yp:=hb 0 b rfl
     rw [Nat.add_zero] at Yo Yp
     have adj:∀r',cC ks' zq bs=some r'→(Op.eqFields (nf+1) xs ys fs).run P w= .ok r' w:=fun r' h'=>
      ih (i+1) ks' zq bs r' hr h' (by simp at hx;omega) (by simp at hy;omega)
       (fun j a h=>by have:=ha (j+1) a h;rwa [show i+(j+1)=i+1+j by omega] at this)
       (fun j a h=>by have:=hb (j+1) a h;rwa [show i+(j+1)=i+1+j by omega] at this)
     have done:∀(x r':Bool),(Op.equalIn (nf+1) f.type (xs.getD i undef) (ys.getD i undef)).run P w= .ok x w→cC ks' zq bs=some r'→r=(x&&r')→
      (Op.eqFields (nf+1) xs ys (f::fs)).run P w= .ok r w:=by
      intro x r' h1 h2 h3
      rw [ho] at hpx hpy
      simp only [Op.eqFields]
      rw [if_pos hname,ho]
      simp only [Sem.run_bind,hpx,hpy,Result.andThen_ok,h1]
      cases x with
      |false=>simp [h3]
      |true=>simp [adj r' h2,h3]
     simp only [cC] at hs
     split at hs
     · split at hs
       · rename_i k1 i1 k2 j1 hkk
         subst hkk
         cases h2:cC ks' zq bs with
         |none=>rw [h2] at hs;cases hs
         |some r'=>
          rw [h2] at hs
          simp only [Option.map_some,Option.some.injEq] at hs
          obtain ⟨k',hu⟩:=hu
          refine done _ r' ?_ h2 hs.symm
          rw [Yo.dh,Yp.dh,run_equalIn_int w nf f.type k1 k' i1 j1 hu]
          congr 1
       · cases hs
     · rename_i l m
       cases h2:cC ks' zq bs with
       |none=>rw [h2] at hs;cases hs
       |some r'=>
        rw [h2] at hs
        simp only [Option.map_some,Option.some.injEq] at hs
        refine done _ r' ?_ h2 hs.symm
        rw [Yo.dJ,Yp.dJ,run_equalIn_string w nf f.type _ _ hu,ByteArray.toList_mk,ByteArray.toList_mk]
        congr 1
        rw [Bool.eq_iff_iff];simp
     · rename_i x y
       cases h2:cC ks' zq bs with
       |none=>rw [h2] at hs;cases hs
       |some r'=>
        rw [h2] at hs
        simp only [Option.map_some,Option.some.injEq] at hs
        refine done _ r' ?_ h2 hs.symm
        rw [Yo.gW,Yp.gW,run_equalIn_bool w nf f.type _ _ hu]
     · cases hs
theorem Rb:∀(k1:List Pk) {ks:List Pk} {zq bs:List AV} {r:Bool},cC (k1++ks) zq bs=some r→
 ∃a1 a2 b1 b2 r1 r2,zq=a1++a2∧bs=b1++b2∧a1.length=k1.length∧b1.length=k1.length∧cC k1 a1 b1=some r1∧cC ks a2 b2=some r2∧r=(r1&&r2):=by
 intro k1
 induction k1 with
 |nil=>intro ks zq bs r h;exact ⟨[],zq,[],bs,true,r,rfl,rfl,rfl,rfl,rfl,h,by simp⟩
 |cons k k1 ih=>
  intro ks zq bs r h
  cases zq with
  |nil=>simp [cC] at h
  |cons a zq=>
   cases bs with
   |nil=>simp [cC] at h
   |cons b bs=>
    have key:∃x r',cC (k1++ks) zq bs=some r'∧r=(x&&r')∧∀(l:List Pk) (zq' bs':List AV) (q:Bool),cC l zq' bs'=some q→cC (k::l) (a::zq') (b::bs')=some (x&&q):=by
     simp only [List.cons_append,cC] at h
     split at h
     · split at h
       · rename_i k1 i1 k2 j1 hk
         obtain ⟨r',h1,h2⟩:=Option.map_eq_some_iff.1 h
         exact ⟨_,r',h1,h2.symm,fun l zq' bs' q hq=>by simp only [cC,if_pos hk,hq,Option.map_some]⟩
       · cases h
     · obtain ⟨r',h1,h2⟩:=Option.map_eq_some_iff.1 h
       exact ⟨_,r',h1,h2.symm,fun l zq' bs' q hq=>by simp only [cC,hq,Option.map_some]⟩
     · obtain ⟨r',h1,h2⟩:=Option.map_eq_some_iff.1 h
       exact ⟨_,r',h1,h2.symm,fun l zq' bs' q hq=>by simp only [cC,hq,Option.map_some]⟩
     · cases h
    obtain ⟨x,r',h1,h2,h3⟩:=key
    obtain ⟨a1,a2,b1,b2,r1,r2,rfl,rfl,l1,l2,s1,s2,rfl⟩:=ih h1
    exact ⟨a::a1,a2,b::b1,b2,x&&r1,r2,rfl,rfl,by simp [l1],by simp [l2],h3 _ _ _ _ s1,s2,by rw [h2,Bool.and_assoc]⟩
theorem Ir:∀ {ks:List Pk} {zq bs:List AV} {r:Bool},cC ks zq bs=some r→zq.length=ks.length∧bs.length=ks.length:=by
 intro ks
 induction ks with
 |nil=>intro zq bs r h;cases zq<;>cases bs<;>simp [cC] at h ⊢
 |cons k ks ih=>
  intro zq bs r h
  cases zq with
  |nil=>simp [cC] at h
  |cons a zq=>
   cases bs with
   |nil=>simp [cC] at h
   |cons b bs=>
    have:∃r',cC ks zq bs=some r':=by
     simp only [cC] at h
     split at h
     · split at h
       · obtain ⟨r',h1, -⟩:=Option.map_eq_some_iff.1 h;exact ⟨r',h1⟩
       · cases h
     · obtain ⟨r',h1, -⟩:=Option.map_eq_some_iff.1 h;exact ⟨r',h1⟩
     · obtain ⟨r',h1, -⟩:=Option.map_eq_some_iff.1 h;exact ⟨r',h1⟩
     · cases h
    obtain ⟨r',h1⟩:=this
    have:=ih h1
    simp [this.1,this.2]
theorem Yq {zq bs:List AV} {r:Bool} (h:cC [.i] zq bs=some r):∃k i j,zq=[.int k i]∧bs=[.int k j]∧r=decide (i=j):=by
 cases zq with
 |nil=>simp [cC] at h
 |cons a zq=>
  cases bs with
  |nil=>simp [cC] at h
  |cons b bs=>
   simp only [cC] at h
   split at h
   · split at h
     · rename_i k i k' j hk
       subst hk
       cases zq<;>cases bs<;>simp [cC] at h
       exact ⟨_,_,_,rfl,rfl,h.symm⟩
     · cases h
   · simp_all
   · simp_all
   · cases h
theorem Yr {zq bs:List AV} {r:Bool} (h:cC [.s] zq bs=some r):∃l m,zq=[.str l]∧bs=[.str m]∧r=decide (l=m):=by
 cases zq with
 |nil=>simp [cC] at h
 |cons a zq=>
  cases bs with
  |nil=>simp [cC] at h
  |cons b bs=>
   simp only [cC] at h
   split at h
   · simp_all
   · cases zq<;>cases bs<;>simp [cC] at h
     exact ⟨_,_,rfl,rfl,h.symm⟩
   · simp_all
   · cases h
theorem Ys {zq bs:List AV} {r:Bool} (h:cC [.b] zq bs=some r):∃l m,zq=[.bool l]∧bs=[.bool m]∧r=(l==m):=by
 cases zq with
 |nil=>simp [cC] at h
 |cons a zq=>
  cases bs with
  |nil=>simp [cC] at h
  |cons b bs=>
   simp only [cC] at h
   split at h
   · simp_all
   · simp_all
   · cases zq<;>cases bs<;>simp [cC] at h
     exact ⟨_,_,rfl,rfl,h.symm⟩
   · cases h
theorem Is {t:TypeId} {n:Nat} {xs:Array Value} {gs:Array Field} (hu:P.underlying t=some (.struct gs)) (hi:(P.info? t).isSome=true):
 (part t xs n).run P w= .ok (.agg (xs.extract n (n+cP P t))) w:=by
 have ha:E6 P t=true:=by unfold E6;rw [hu]
 have h1:(isAgg t).run P w= .ok true w:=by rw [nP (by simp [hu]),ha]
 simp [part,h1,e8 hi]
theorem K8 (xs ys:Array Value):∀(fs:List Field) (i:Nat) (ks:List Pk) (zq bs:List AV) (r:Bool),pg P i fs=some ks→cC ks zq bs=some r→
 xs.size=i+zq.length→ys.size=i+bs.length→
 (∀(j:Nat) (a:AV),zq[j]? =some a→VR C γ a (xs.getD (i+j) undef))→(∀(j:Nat) (a:AV),bs[j]? =some a→VR C γ a (ys.getD (i+j) undef))→
 (Op.eqFields 9999 xs ys fs).run P w= .ok r w:=by
 intro fs
 induction fs with
 |nil=>
  intro i ks zq bs r hk hs hx hy ha hb
  simp only [pg,Option.some.injEq] at hk
  subst hk
  cases zq<;>cases bs<;>simp [cC] at hs
  subst hs
  simp [Op.eqFields]
 |cons f fs ih=>
  intro i ks zq bs r hk hs hx hy ha hb
  simp only [pg] at hk
  split at hk
  case isFalse=>cases hk
  rename_i hf
  obtain ⟨ho,hname⟩:=hf
  have done:∀(k1 ks':List Pk) (X Y:Value),ks=k1++ks'→pg P (i+k1.length) fs=some ks'→
   (part f.type xs i).run P w= .ok X w→(part f.type ys i).run P w= .ok Y w→
   (∀a1 b1 r1,cC k1 a1 b1=some r1→(∀(j:Nat) (a:AV),a1[j]? =some a→VR C γ a (xs.getD (i+j) undef))→(∀(j:Nat) (a:AV),b1[j]? =some a→VR C γ a (ys.getD (i+j) undef))→
    (Op.equalIn 9999 f.type X Y).run P w= .ok r1 w)→(Op.eqFields 9999 xs ys (f::fs)).run P w= .ok r w:=by
   intro k1 ks' X Y hks hr hX hY hE
   subst hks
   obtain ⟨a1,a2,b1,b2,r1,r2,rfl,rfl,l1,l2,s1,s2,rfl⟩:=Rb k1 hs
   have h1:=hE a1 b1 r1 s1 (fun j a h=>ha j a (by rw [List.getElem?_append_left (List.getElem?_eq_some_iff.1 h).1];exact h))
    (fun j a h=>hb j a (by rw [List.getElem?_append_left (List.getElem?_eq_some_iff.1 h).1];exact h))
   have h2:=ih (i+k1.length) ks' a2 b2 r2 hr s2 (by simp at hx;omega) (by simp at hy;omega)
    (fun j a h=>by have:=ha (a1.length+j) a (by rw [List.getElem?_append_right (by omega)];simpa using h);rwa [l1,show i+(k1.length+j)=i+k1.length+j by omega] at this)
    (fun j a h=>by have:=hb (b1.length+j) a (by rw [List.getElem?_append_right (by omega)];simpa using h);rwa [l2,show i+(k1.length+j)=i+k1.length+j by omega] at this)
   simp only [Op.eqFields]
   rw [if_pos hname,ho]
   simp only [Sem.run_bind,hX,hY,Result.andThen_ok,h1]
   cases r1 with
   |false=>simp
   |true=>simp [h2]
  have hlen:=Ir hs
  split at hk
  · rename_i gs hu
    split at hk
    case isFalse=>cases hk
    rename_i hst
    obtain ⟨hst,hin⟩:=hst
    split at hk
    case h_2=>cases hk
    rename_i k1 hk1
    split at hk
    case isFalse=>cases hk
    rename_i hsz
    obtain ⟨ks',hr,rfl⟩:=Option.map_eq_some_iff.1 hk
    have hfo:P.fieldsOf f.type=gs:=by simp [Program.fieldsOf,hu]
    refine done k1 ks' _ _ rfl hr (Is hu hin) (Is hu hin) fun a1 b1 r1 hs1 hv1 Hg=> ?_
    have hl1:=Ir hs1
    rw [run_equalIn_agg w 9998 f.type _ _ (by rw [hfo];exact hu) hst,hfo,hsz]
    simp at hlen
    have oT:∀(zs:Array Value) (j:Nat),i+k1.length≤zs.size→j<k1.length→(zs.extract i (i+k1.length)).getD j undef=zs.getD (i+j) undef:=by
     intro zs j h1 h2
     simp [Array.getD_eq_getD_getElem?,Array.getElem?_extract,h2]
     rw [if_pos (by omega)]
    refine zn (C:=C) (γ:=γ) 9997 _ _ gs.toList 0 k1 a1 b1 r1 hk1 hs1 (by simp;omega) (by simp;omega) (fun j a h=> ?_) (fun j a h=> ?_)
    · rw [Nat.zero_add,oT _ _ (by omega) (by rw [←hl1.1];exact (List.getElem?_eq_some_iff.1 h).1)];exact hv1 j a h
    · rw [Nat.zero_add,oT _ _ (by omega) (by rw [←hl1.2];exact (List.getElem?_eq_some_iff.1 h).1)];exact Hg j a h
  · rename_i k' hu
    split at hk
    case isFalse=>cases hk
    rename_i hsz
    obtain ⟨ks',hr,rfl⟩:=Option.map_eq_some_iff.1 hk
    simp at hlen
    refine done [.i] ks' _ _ rfl hr (l5 hsz ⟨_,hu,trivial⟩ (by omega)) (l5 hsz ⟨_,hu,trivial⟩ (by omega)) fun a1 b1 r1 hs1 hv1 Hg=> ?_
    obtain ⟨k,i1,j1,rfl,rfl,rfl⟩:=Yq hs1
    have q1:=hv1 0 _ rfl
    have q2:=Hg 0 _ rfl
    rw [Nat.add_zero] at q1 q2
    rw [q1.dh,q2.dh,run_equalIn_int w 9998 f.type k k' i1 j1 hu]
    congr 1
  · rename_i hu
    split at hk
    case isFalse=>cases hk
    rename_i hsz
    obtain ⟨ks',hr,rfl⟩:=Option.map_eq_some_iff.1 hk
    simp at hlen
    refine done [.s] ks' _ _ rfl hr (l5 hsz ⟨_,hu,trivial⟩ (by omega)) (l5 hsz ⟨_,hu,trivial⟩ (by omega)) fun a1 b1 r1 hs1 hv1 Hg=> ?_
    obtain ⟨l,m,rfl,rfl,rfl⟩:=Yr hs1
    have q1:=hv1 0 _ rfl
    have q2:=Hg 0 _ rfl
    rw [Nat.add_zero] at q1 q2
    rw [q1.dJ,q2.dJ,run_equalIn_string w 9998 f.type _ _ hu,ByteArray.toList_mk,ByteArray.toList_mk]
    congr 1
    rw [Bool.eq_iff_iff];simp
  · rename_i hu
    split at hk
    case isFalse=>cases hk
    rename_i hsz
    obtain ⟨ks',hr,rfl⟩:=Option.map_eq_some_iff.1 hk
    simp at hlen
    refine done [.b] ks' _ _ rfl hr (l5 hsz ⟨_,hu,trivial⟩ (by omega)) (l5 hsz ⟨_,hu,trivial⟩ (by omega)) fun a1 b1 r1 hs1 hv1 Hg=> ?_
    obtain ⟨l,m,rfl,rfl,rfl⟩:=Ys hs1
    have q1:=hv1 0 _ rfl
    have q2:=Hg 0 _ rfl
    rw [Nat.add_zero] at q1 q2
    rw [q1.gW,q2.gW,run_equalIn_bool w 9998 f.type _ _ hu]
  · cases hk
theorem Qn {op:BinOp} {t:TypeId} {fs:Array Field} {x y:Operand} {x' y':Ar} {ks:List Pk} {neq:Bool} (h:SR L N F γ C e ah ts w) (hd:∀x,d=some x→x<N)
 (hx:bA x=some x') (hy:bA y=some y') (hu:P.underlying t=some (.struct fs)) (hk:E9 P t fs=some ks) (hop:op=if neq then .neq else .eql)
 (hev:bK L ⟨d, .seq ks neq x' y',none⟩ e ah=some (e',aE)):bf m P L N F γ C ⟨d, .binOp op t x y p8,ty,pos,af,g⟩ ts ds w e' aE:=by
 have h1:=bV (ds:=ds) h hx
 have h2:=bV (ds:=ds) h hy
 unfold E9 at hk
 split at hk
 case isFalse=>cases hk
 rename_i hc
 obtain ⟨hst,hgt⟩:=hc
 simp only [bK] at hev
 split at hev
 case h_2=>cases hev
 rename_i zq bs ha hb
 cases hs:cC ks zq bs with
 |none=>rw [hs] at hev;cases hev
 |some r=>
  rw [hs] at hev
  simp only [Option.map_some,Option.some.injEq,Prod.mk.injEq] at hev
  obtain ⟨rfl,rfl⟩:=hev
  rw [ha] at h1;rw [hb] at h2
  obtain ⟨vs,e1,l1,v1⟩:=h1.1.og
  obtain ⟨us,e2,l2,v2⟩:=h2.1.og
  have hfo:P.fieldsOf t=fs:=by simp [Program.fieldsOf,hu]
  refine bf.plain h hd (v:= .bool (if neq then !r else r)) ?_ (.bool ..) trivial rfl
  intro w _
  have hfl:(Op.eqFields 9999 vs us fs.toList).run P w= .ok r w:=by
   split at hk
   · rename_i ks0 hk0
     injection hk with hk;subst hk
     exact zn (P:=P) (w:=w) (C:=C) (γ:=γ) 9998 vs us fs.toList 0 _ zq bs r hk0 hs (by omega) (by omega) (by simpa using v1) (by simpa using v2)
   · exact K8 (P:=P) (w:=w) (C:=C) (γ:=γ) vs us fs.toList 0 ks zq bs r hk hs (by omega) (by omega) (by simpa using v1) (by simpa using v2)
  have hrun:(Op.equalIn 10000 t (.agg vs) (.agg us)).run P w= .ok r w:=by
   rw [run_equalIn_agg w 9999 t vs us (by rw [hfo];exact hu) hst,hfo];exact hfl
  have hgd:∀op' x y,(eqGuard op' t x y (.agg vs) (.agg us)).run P w= .ok () w:=fun op' x y=>run_eqGuard_agg w op' t x y vs us hgt
  cases neq<;>simp only [Bool.false_eq_true,if_false,if_true] at hop<;>subst hop
  · have:=run_eql_struct (P:=P) w t vs us
    simp [execOp,e1,e2,hgd,this,hrun]
  · have:=run_neq_struct (P:=P) w t vs us
    simp only [if_true];simp [execOp,e1,e2,hgd,this,hrun]
end
end Go.Am
end
section
namespace Go.Am
open Go
variable [Tabs]
section
variable {P:Program} {L:List Nat} {N:Nat} {F:Nat→Prop} {γ:List Nat} {C:Nat→List Value} {e:Env} {ah:AH} {ts:Array Value} {ds:List Deferred} {w:World} {m:Bool}
variable {d:Option Nat} {ty p8:TypeId} {pos:String} {af:Array Edge} {g:Option (Nat×Bool)} {e':Env} {aE:AH}
theorem Yt {f:Nat} {first cs:Array Operand} {cs':List Ar} (h:SR L N F γ C e ah ts w) (hd:∀x,d=some x→x<N) (hf:first.size=0) (hc:yu cs.toList=some cs')
 (hev:bK L ⟨d, .Uk f cs',none⟩ e ah=some (e',aE)):bf m P L N F γ C ⟨d, .makeFunc (.func f) first cs,ty,pos,af,g⟩ ts ds w e' aE:=by
 simp only [bK,Option.some.injEq,Prod.mk.injEq] at hev
 obtain ⟨rfl,rfl⟩:=hev
 have h0:first= #[]:=Array.eq_empty_of_size_eq_zero hf
 subst h0
 refine bf.plain h hd (v:= .func (.func f) #[] (cs.map (Act.eval ⟨ts,ds⟩))) (fun w _=>by simp [execOp,Instr.makeFunc]) ?_ trivial rfl
 have key:∀(l:List Operand) (l':List Ar),yu l=some l'→l'.length=l.length∧∀(i:Nat) (x:Operand) (a:Ar),l[i]? =some x→l'[i]? =some a→bA x=some a:=by
  intro l
  induction l with
  |nil=>intro l' hl;simp [yu] at hl;subst hl;simp
  |cons x r ih=>
   intro l' hl
   simp only [yu] at hl
   split at hl
   · rename_i a zq ha has
     simp only [Option.some.injEq] at hl;subst hl
     obtain ⟨h1,h2⟩:=ih zq has
     refine ⟨by simp [h1],fun i y b hy hb=> ?_⟩
     cases i with
     |zero=>simp at hy hb;subst hy;subst hb;exact ha
     |succ i=>exact h2 i y b (by simpa using hy) (by simpa using hb)
   · cases hl
 obtain ⟨h1,h2⟩:=key _ _ hc
 refine .fn _ _ _ _ (by simp [h1]) fun i a hi=> ?_
 rw [List.getElem?_map] at hi
 cases hb:cs'[i]? with
 |none=>rw [hb] at hi;simp at hi
 |some b=>
  rw [hb] at hi
  obtain rfl:ev e b=a:=by simpa using hi
  have hlt:i<cs.size:=by have:=(List.getElem?_eq_some_iff.1 hb).1;rw [h1] at this;simpa using this
  have hx:cs.toList[i]? =some cs[i]:=by simp [hlt]
  have:=(bV (ds:=ds) h (h2 i _ _ hx hb)).1
  rwa [show (cs.map (Act.eval ⟨ts,ds⟩)).getD i undef=Act.eval ⟨ts,ds⟩ cs[i] by simp [Array.getD_eq_getD_getElem?,hlt]]
theorem Yu {x:Operand} {x':Ar} {i:Nat} (h:SR L N F γ C e ah ts w) (hd:∀x,d=some x→x<N) (hx:bA x=some x')
 (hev:bK L ⟨d, .ext x' i,none⟩ e ah=some (e',aE)):bf m P L N F γ C ⟨d, .extract x i,ty,pos,af,g⟩ ts ds w e' aE:=by
 have h1:=bV (ds:=ds) h hx
 simp only [bK] at hev
 split at hev
 case h_2=>cases hev
 rename_i cs he
 split at hev
 case h_2=>cases hev
 rename_i a ha
 simp only [Option.some.injEq,Prod.mk.injEq] at hev
 obtain ⟨rfl,rfl⟩:=hev
 rw [he] at h1
 obtain ⟨vs,hv,hl,hvs⟩:=h1.1.xm
 rw [hv] at h1
 have hlt:i<vs.size:=by rw [←hl];exact (List.getElem?_eq_some_iff.1 ha).1
 refine bf.plain h hd (v:=vs.getD i undef) ?_ ((Wk.sh a).vr (hvs _ _ ha)) ?_ (ur a)
 · intro w _;simp [execOp,hv,Instr.extract,hlt,Array.getD_eq_getD_getElem?]
 · have:=h1.2 i a ha
   cases a with
   |agg cs=>exact (Wk.sh _).tc (by
    generalize vs.getD i undef=v at this
    cases v<;>first|trivial|exact this)
   |sl t k xs=>generalize vs.getD i undef=v at this;cases t<;>cases v<;>first|trivial|exact this
   |bz cs=>generalize vs.getD i undef=v at this;cases v<;>exact absurd this (by simp [I5,mo])
   |_=>generalize vs.getD i undef=v at this;cases v<;>trivial
theorem Yv {x:Operand} {x':Ar} {t s:TypeId} (h:SR L N F γ C e ah ts w) (hd:∀x,d=some x→x<N)
 (hx:dB P t x=some x') (hu:P.underlying t=some (.slice s))
 (hev:bK L ⟨d, .len x',none⟩ e ah=some (e',aE)):bf m P L N F γ C ⟨d, .call {callee:= .builtin .len,args:= #[x],argTypes:= #[t]},ty,pos,af,g⟩ ts ds w e' aE:=by
 have h1:=gm (ds:=ds) h hx
 simp only [bK] at hev
 split at hev
 case h_4=>cases hev
 · rename_i tg k xs he
   simp only [Option.some.injEq,Prod.mk.injEq] at hev
   obtain ⟨rfl,rfl⟩:=hev
   rw [he] at h1
   obtain ⟨a,c,hv, -⟩:=h1.1.ff
   exact bf.plain h hd (v:= .int .i64 xs.length) (fun w _=>by simp [execOp,resolve,invoke,builtin,Builtin.len_,bQ hu,hv,goInt]) (.int ..) trivial rfl
 · rename_i s' k' o' n' he
   simp only [Option.some.injEq,Prod.mk.injEq] at hev
   obtain ⟨rfl,rfl⟩:=hev
   rw [he] at h1
   obtain ⟨b,c, -, -,hv⟩:=h1.1.xo
   exact bf.plain h hd (v:= .int .i64 n') (fun w _=>by simp [execOp,resolve,invoke,builtin,Builtin.len_,bQ hu,hv,goInt]) (.int ..) trivial rfl
 · rename_i s' k' n' c' he
   simp only [Option.some.injEq,Prod.mk.injEq] at hev
   obtain ⟨rfl,rfl⟩:=hev
   rw [he] at h1
   obtain ⟨a,hv, -⟩:=h1.1.xp
   exact bf.plain h hd (v:= .int .i64 n') (fun w _=>by simp [execOp,resolve,invoke,builtin,Builtin.len_,bQ hu,hv,goInt]) (.int ..) trivial rfl
theorem Uv {x:Operand} {x':Ar} {t:TypeId} (h:SR L N F γ C e ah ts w) (hd:∀x,d=some x→x<N)
 (hx:dB P t x=some x') (hu:P.underlying t=some .string)
 (hev:bK L ⟨d, .lens x',none⟩ e ah=some (e',aE)):bf m P L N F γ C ⟨d, .call {callee:= .builtin .len,args:= #[x],argTypes:= #[t]},ty,pos,af,g⟩ ts ds w e' aE:=by
 have h1:=gm (ds:=ds) h hx
 simp only [bK] at hev
 split at hev
 case h_2=>cases hev
 rename_i l he
 simp only [Option.some.injEq,Prod.mk.injEq] at hev
 obtain ⟨rfl,rfl⟩:=hev
 rw [he] at h1
 have hv:=h1.1.dJ
 have hsz:(⟨l.toArray⟩:ByteArray).size=l.length:=by simp [ByteArray.size]
 exact bf.plain h hd (v:= .int .i64 l.length) (fun w _=>by simp [execOp,resolve,invoke,builtin,Builtin.len_,bQ hu,hv,goInt,hsz]) (.int ..) trivial rfl
theorem Yw {t:TypeId} {x i:Operand} {x' i':Ar} (h:SR L N F γ C e ah ts w) (hd:∀x,d=some x→x<N)
 (hx:bA x=some x') (hi:bA i=some i') (hu:P.underlying t=some .string)
 (hev:bK L ⟨d, .ixs x' i',none⟩ e ah=some (e',aE)):bf m P L N F γ C ⟨d, .index t x i,ty,pos,af,g⟩ ts ds w e' aE:=by
 have h1:=bV (ds:=ds) h hx
 have h2:=bV (ds:=ds) h hi
 simp only [bK] at hev
 split at hev
 case h_2=>cases hev
 rename_i l k j he hj
 split at hev
 case isFalse=>cases hev
 rename_i h0
 split at hev
 case h_2=>cases hev
 rename_i c hc
 simp only [Option.some.injEq,Prod.mk.injEq] at hev
 obtain ⟨rfl,rfl⟩:=hev
 rw [he] at h1;rw [hj] at h2
 have e1:=h1.1.dJ
 have e2:=h2.1.dh
 have hg:(⟨l.toArray⟩:ByteArray)[j.toNat]? =some c:=by
  have hlt:=(List.getElem?_eq_some_iff.1 hc).1
  have hsz:j.toNat<(⟨l.toArray⟩:ByteArray).size:=by simpa [ByteArray.size] using hlt
  rw [getElem?_pos (⟨l.toArray⟩:ByteArray) j.toNat hsz]
  congr 1
  exact (List.getElem?_eq_some_iff.1 hc).2
 refine bf.plain h hd (v:= .int .u8 c.toNat) ?_ (.int ..) trivial rfl
 intro w _
 simp [execOp,Instr.index,bQ hu,e1,e2,asIntOf,h0,hg]
theorem Yx {t s:TypeId} {x i:Operand} {x' i':Ar} (h:SR L N F γ C e ah ts w) (hd:∀x,d=some x→x<N)
 (hx:bA x=some x') (hi:bA i=some i') (hu:P.underlying t=some (.slice s)) (ht:tok P s=true)
 (hev:bK L ⟨d, .mj (cP P s) x' i',none⟩ e ah=some (e',aE)):bf m P L N F γ C ⟨d, .indexAddr t x i,ty,pos,af,g⟩ ts ds w e' aE:=by
 have h1:=bV (ds:=ds) h hx
 have h2:=bV (ds:=ds) h hi
 simp only [tok,Bool.and_eq_true] at ht
 simp only [bK] at hev
 split at hev
 case h_4=>cases hev
 case h_2=>
  rename_i s' k' p' n' kk j he hj
  split at hev
  case isFalse=>cases hev
  rename_i h0
  obtain ⟨h0,h3,rfl⟩:=h0
  simp only [Option.some.injEq,Prod.mk.injEq] at hev
  obtain ⟨rfl,rfl⟩:=hev
  rw [he] at h1;rw [hj] at h2
  obtain ⟨b,c,hb,hc,e1⟩:=h1.1.xo
  have e2:=h2.1.dh
  refine bf.plain h hd (v:= .pointer (some ⟨b,p'+j.toNat*cP P s,none⟩)) ?_ (.ptr _ _ _ _ hb) trivial rfl
  intro w _
  simp [execOp,Instr.indexAt,bQ hu,e1,e2,asIntOf,h0,h3,e8 ht.2,add_eq]
 case h_3=>
  rename_i s' k' n' c' kk j he hj
  split at hev
  case isFalse=>cases hev
  rename_i h0
  obtain ⟨h0,h3,rfl⟩:=h0
  simp only [Option.some.injEq,Prod.mk.injEq] at hev
  obtain ⟨rfl,rfl⟩:=hev
  rw [he] at h1;rw [hj] at h2
  obtain ⟨a,e1,hc,hcase⟩:=h1.1.xp
  rcases hcase with ⟨rfl, -⟩|⟨b,hb,rfl⟩
  · omega
  have e2:=h2.1.dh
  refine bf.plain h hd (v:= .pointer (some ⟨b,j.toNat*cP P s,none⟩)) ?_ (.ptr _ _ _ _ hb) trivial rfl
  intro w _
  simp [execOp,Instr.indexAt,bQ hu,e1,e2,asIntOf,h0,h3,e8 ht.2,add_eq]
 rename_i tg k xs kk j he hj
 split at hev
 case isFalse=>cases hev
 rename_i h0
 split at hev
 case h_2=>cases hev
 rename_i a ha
 split at hev
 case isFalse=>cases hev
 rename_i hk
 simp only [Option.some.injEq,Prod.mk.injEq] at hev
 obtain ⟨rfl,rfl⟩:=hev
 rw [he] at h1;rw [hj] at h2
 obtain ⟨ad,c,e1, -,hcase⟩:=h1.1.ff
 have e2:=h2.1.dh
 have hlt:j.toNat<xs.length:=(List.getElem?_eq_some_iff.1 ha).1
 rcases hcase with rfl|⟨b,o,rfl,hkk,hlen,hcells⟩
 · simp at hlt
 subst hk
 have hlt':j<(xs.length:Int):=by omega
 have hm:(j.toNat+1)*cP P s≤xs.length*cP P s:=Nat.mul_le_mul_right _ hlt
 rw [Nat.succ_mul] at hm
 refine bf.plain h hd (v:= .pointer (some ⟨b,(o+j.toNat*cP P s)+0,none⟩)) ?_ (.ep _ _ _ _ _ (by rw [hkk _ _ ha];omega) (fun q y hq=>(hcells _ _ ha q y hq).up _)) trivial rfl
 intro w _
 simp [execOp,Instr.indexAt,bQ hu,e1,e2,asIntOf,h0,hlt',e8 ht.2,add_eq]
theorem Yy {t s:TypeId} {x i:Operand} {x' i':Ar} {mm:Nat} (h:SR L N F γ C e ah ts w) (hd:∀x,d=some x→x<N)
 (hx:bA x=some x') (hi:bA i=some i') (hu:P.underlying t=some (.array mm s)) (ht:tok P s=true)
 (hev:bK L ⟨d, .Ul (cP P s) mm x' i',none⟩ e ah=some (e',aE)):bf m P L N F γ C ⟨d, .indexAddr t x i,ty,pos,af,g⟩ ts ds w e' aE:=by
 have h1:=bV (ds:=ds) h hx
 have h2:=bV (ds:=ds) h hi
 simp only [tok,Bool.and_eq_true] at ht
 simp only [bK] at hev
 split at hev
 case h_3=>cases hev
 · rename_i s' p kk j he hj
   split at hev
   case isFalse=>cases hev
   rename_i h0
   obtain ⟨h0,h3⟩:=h0
   simp only [Option.some.injEq,Prod.mk.injEq] at hev
   obtain ⟨rfl,rfl⟩:=hev
   rw [he] at h1;rw [hj] at h2
   obtain ⟨b,hb,e1⟩:=h1.1.gb
   have e2:=h2.1.dh
   refine bf.plain h hd (v:= .pointer (some ⟨b,p+j.toNat*cP P s,none⟩)) ?_ (.ptr _ _ _ _ hb) trivial rfl
   intro w _
   simp [execOp,Instr.indexAt,bQ hu,e1,e2,asIntOf,Instr.sureAddr,h0,h3,e8 ht.2,add_eq]
 · rename_i a p kk j he hj
   split at hev
   case isFalse=>cases hev
   rename_i h0
   obtain ⟨h0,h3⟩:=h0
   simp only [Option.some.injEq,Prod.mk.injEq] at hev
   obtain ⟨rfl,rfl⟩:=hev
   rw [he] at h1;rw [hj] at h2
   obtain ⟨b,q,e1,l1,c1⟩:=h1.1.EY
   have e2:=h2.1.dh
   refine bf.plain h hd (v:= .pointer (some ⟨b,q+(p+j.toNat*cP P s),none⟩)) ?_ (.ep _ _ _ _ _ l1 c1) trivial rfl
   intro w _
   simp [execOp,Instr.indexAt,bQ hu,e1,e2,asIntOf,Instr.sureAddr,h0,h3,e8 ht.2,add_eq,Nat.add_assoc]
theorem Yz {x:Operand} {x':Ar} {k:Nat} (h:SR L N F γ C e ah ts w) (hd:∀x,d=some x→x<N) (hx:dB P ty x=some x')
 (hev:bK L ⟨d, .yJ k x',none⟩ e ah=some (e',aE)):bf m P L N F γ C ⟨d, .assign x,ty,pos,af,g⟩ ts ds w e' aE:=by
 have h1:=gm (ds:=ds) h hx
 simp only [bK] at hev
 split at hev
 case h_4=>cases hev
 · rename_i k' he
   split at hev
   case isFalse=>cases hev
   simp only [Option.some.injEq,Prod.mk.injEq] at hev
   obtain ⟨rfl,rfl⟩:=hev
   rw [he] at h1
   obtain ⟨a,c,hv, -⟩:=h1.1.ff
   rw [hv] at h1
   have hc:c=0:=h1.2
   subst hc
   exact bf.plain h hd (v:= .slice a 0 0) (fun w _=>by simp [execOp,hv]) (.p6 ..) trivial rfl
 · rename_i s' k' n' c' he
   simp only [Option.some.injEq,Prod.mk.injEq] at hev
   obtain ⟨rfl,rfl⟩:=hev
   rw [he] at h1
   exact bf.plain h hd (v:=Act.eval ⟨ts,ds⟩ x) (fun w _=>by simp [execOp]) h1.1 trivial rfl
 · rename_i u k' xs he
   split at hev
   case h_2=>cases hev
   rename_i k2 zs Bo
   split at hev
   case isFalse=>cases hev
   rename_i hk2
   subst hk2
   simp only [Option.some.injEq,Prod.mk.injEq] at hev
   obtain ⟨rfl,rfl⟩:=hev
   have Ny:∃q,x'= .t q:=by
    cases x' with
    |t q=>exact ⟨q,rfl⟩
    |c a=>simp only [ev] at he;subst he;have:=EZ hx _ rfl;simp [AV.plain] at this
   obtain ⟨q,rfl⟩:=Ny
   have hxq:=yz hx q rfl
   subst hxq
   have he0:=he
   simp only [ev] at he
   rw [he0] at h1
   obtain ⟨ad,c,Ea, -, -⟩:=h1.1.ff
   have hfr:=h.fr q _ k2 xs he
   have YA:ts.getD q undef= .slice ad xs.length c:=Ea
   have hval:=hfr.2 (by rw [Bo];rfl)
   rw [YA] at hval
   have Uw:=h.env u
   rw [Bo,hval] at Uw
   rw [Ea] at h1
   have hr:∀w2,KA m γ C w w2→(execOp (Act.eval ⟨ts,ds⟩) ⟨d, .assign (.tmp q),ty,pos,af,g⟩).run P w2= .ok (.value (.slice ad xs.length c)) w2:=fun w _=>by simp [execOp,Ea]
   refine .pure hr ?_
   have hw:SR L N F γ C (Am.put e u (.sl .n k2 zs)) ah ts w:=h.uo (by rw [Bo];exact .n ..)
   refine hw.uq hd (h1.1.kR _) Uw.2 fun b hb=> ?_
   have hb0:blk γ e ah ts w (.tmp u) b:=by simp only [blk,Bo,hval];cases ad<;>exact hb
   refine ⟨h.nf _ _ hb0,fun p hp=> ?_⟩
   have CA:blk γ e ah ts w p b:=by
    cases p with
    |obj s=>exact hp
    |cell s i=>exact hp
    |tmp t=>
     simp only [blk,fK] at hp ⊢
     by_cases hu:t=u
     · rw [if_pos hu] at hp;simp [bG] at hp
     · rwa [if_neg hu] at hp
   have:=h.dD _ _ _ CA hb0
   subst this
   simp [blk,fK,bG] at hp
theorem p9 {x:Option Operand} {x':Option Ar} {dflt n y:Nat} {code:BoundsCode} (h:SR L N F γ C e ah ts w) (hx:pY x=some x') (hb:nr e dflt x'=some n) (hy:n≤y):
 (match x with|none=>n=dflt|some x=>∃k i,Act.eval ⟨ts,ds⟩ x= .int k i∧0≤i∧i.toNat=n∧∀w2,(Instr.sliceBound (.int k i) y code).run P w2= .ok n w2):=by
 cases x with
 |none=>
  simp only [pY,Option.some.injEq] at hx;subst hx
  simp only [nr,Option.some.injEq] at hb
  exact hb.symm
 |some x=>
  simp only [pY] at hx
  cases ha:bA x with
  |none=>rw [ha] at hx;cases hx
  |some a=>
   rw [ha] at hx
   simp only [Option.map_some,Option.some.injEq] at hx;subst hx
   have h1:=bV (ds:=ds) h ha
   simp only [nr] at hb
   split at hb
   case h_2=>cases hb
   rename_i k i he
   split at hb
   case isFalse=>cases hb
   rename_i h0
   simp only [Option.some.injEq] at hb
   rw [he] at h1
   refine ⟨k,i,h1.1.dh,h0,hb,fun w2=> ?_⟩
   have:i≤(y:Int):=by omega
   simp [Instr.sliceBound,asIntOf,h0,this,hb]
theorem YB {t:TypeId} {x:Operand} {lo hi:Option Operand} {x':Ar} {lo' hi':Option Ar} (h:SR L N F γ C e ah ts w) (hd:∀x,d=some x→x<N)
 (hx:bA x=some x') (hl:pY lo=some lo') (hh:pY hi=some hi') (hu:P.underlying t=some .string)
 (hev:bK L ⟨d, .mh x' lo' hi',none⟩ e ah=some (e',aE)):bf m P L N F γ C ⟨d, .slice t x lo hi none,ty,pos,af,g⟩ ts ds w e' aE:=by
 have h1:=bV (ds:=ds) h hx
 simp only [bK] at hev
 split at hev
 case h_2=>cases hev
 rename_i l he
 split at hev
 case h_2=>cases hev
 rename_i i j hi1 Ux
 split at hev
 case isFalse=>cases hev
 rename_i hij
 obtain ⟨hij,hjl⟩:=hij
 simp only [Option.some.injEq,Prod.mk.injEq] at hev
 obtain ⟨rfl,rfl⟩:=hev
 rw [he] at h1
 have e1:=h1.1.dJ
 have hsz:(⟨l.toArray⟩:ByteArray).size=l.length:=by simp [ByteArray.size]
 have r1:=p9 (P:=P) (ds:=ds) (code:= .sliceAlen) h hh Ux hjl
 have r2:=p9 (P:=P) (ds:=ds) (code:= .sliceB) h hl hi1 hij
 have hex:(⟨l.toArray⟩:ByteArray).extract i j=⟨((l.take j).drop i).toArray⟩:=by
  apply ByteArray.ext
  simp [ByteArray.data_extract,List.extract_eq_take_drop,List.drop_take]
 refine bf.plain h hd (v:= .string ⟨((l.take j).drop i).toArray⟩) ?_ (.str ..) trivial rfl
 intro w _
 have hrun:(Instr.sliceBounds false l.length l.length (lo.map (Act.eval ⟨ts,ds⟩)) (hi.map (Act.eval ⟨ts,ds⟩)) none).run P w= .ok (i,j,l.length) w:=by
  cases lo with
  |none=>
   simp only at r2;subst r2
   cases hi with
   |none=>simp only at r1;subst r1;simp [Instr.sliceBounds]
   |some y=>obtain ⟨k,q,v1,v2,v3,v4⟩:=r1;simp [Instr.sliceBounds,v1,v4]
  |some z=>
   obtain ⟨k,q,v1,v2,v3,v4⟩:=r2
   cases hi with
   |none=>simp only at r1;subst r1;simp [Instr.sliceBounds,v1,v4]
   |some y=>obtain ⟨k',q',u1,u2,u3,u4⟩:=r1;simp [Instr.sliceBounds,v1,v4,u1,u4]
 have Hh:∀lo hi,(Instr.sliceAt t (.string ⟨l.toArray⟩) lo hi none).run P w=(Instr.slice t (.string ⟨l.toArray⟩) lo hi none).run P w:=by
  intro lo hi
  simp [Instr.sliceAt,bQ hu]
 simp [execOp,e1,Hh]
 simp [bQ hu,Instr.slice,hsz,hrun,hex]
theorem YC {t s:TypeId} {x:Operand} {lo hi mx:Option Operand} {x':Ar} {lo' hi' mx':Option Ar} (h:SR L N F γ C e ah ts w) (hd:∀x,d=some x→x<N)
 (hx:bA x=some x') (hl:pY lo=some lo') (hh:pY hi=some hi') (hm:pY mx=some mx') (hu:P.underlying t=some (.slice s)) (ht:tok P s=true)
 (hev:bK L ⟨d, .slc (cP P s) x' lo' hi' mx',none⟩ e ah=some (e',aE)):bf m P L N F γ C ⟨d, .slice t x lo hi mx,ty,pos,af,g⟩ ts ds w e' aE:=by
 have h1:=bV (ds:=ds) h hx
 simp only [tok,Bool.and_eq_true] at ht
 simp only [bK] at hev
 split at hev
 case h_2=>cases hev
 rename_i tg k xs he
 rw [he] at h1
 obtain ⟨ad,c,e1,hc,hcase⟩:=h1.1.ff
 have hbase:∀i j m:Nat,i≤j→j≤xs.length→k=cP P s→∀tg',VR C γ (.sl tg' k ((xs.take j).drop i)) (.slice (if m=i then ad else ad.map (·.add (i*cP P s))) (j - i) (m - i))∨¬(j≤m):=by
  intro i j m hij hjn hk tg'
  by_cases hjm:j≤m
  · left
    have hlen:((xs.take j).drop i).length=j - i:=by simp;omega
    by_cases hz:j - i=0
    · have h0:(xs.take j).drop i=[]:=List.eq_nil_of_length_eq_zero (by omega)
      rw [h0,hz]
      exact .tC ..
    · rcases hcase with rfl|⟨b,o,rfl,hkk,hle,hcells⟩
      · simp at hjn;omega
      · have hone:=(e1▸h1.1).I3
        rw [if_neg (by omega)]
        simp only [Option.map_some,add_eq]
        have oT:∀(q:Nat) (a:AV),((xs.take j).drop i)[q]? =some a→xs[i+q]? =some a:=by
         intro q a hq
         rw [List.getElem?_drop] at hq
         by_cases hlt:i+q<j
         · rwa [List.getElem?_take_of_lt hlt] at hq
         · rw [List.getElem?_eq_none (by simp;omega)] at hq;cases hq
        have hmul:j*k≤xs.length*k:=Nat.mul_le_mul_right _ hjn
        have hsum:i*k+(j - i)*k=j*k:=by rw [←Nat.add_mul];congr 1;omega
        refine .sl _ _ _ _ _ _ _ _ hlen.symm (by omega) (fun q a hq=>hkk _ _ (oT q a hq)) (by rw [←hk];omega) (fun q h5 h6=>hone _ (by rw [←hk] at h5;omega) (by rw [←hk] at h5 h6;omega)) fun q a hq p y hp=> ?_
        have:=hcells _ _ (oT q a hq) p y hp
        rwa [show o+i*cP P s+q*k+p=o+(i+q)*k+p by rw [Nat.add_mul,hk];omega]
  · exact .inr hjm
 split at hev
 · rename_i i j hi1 Ux
   split at hev
   case isFalse=>cases hev
   rename_i hc3
   obtain ⟨hk,hij,hjl⟩:=hc3
   simp only [Option.some.injEq,Prod.mk.injEq] at hev
   obtain ⟨rfl,rfl⟩:=hev
   have Rc:mx=none:=by
    cases mx with
    |none=>rfl
    |some y=>simp only [pY] at hm;cases hy:bA y<;>rw [hy] at hm<;>simp at hm
   subst Rc
   have r1:=p9 (P:=P) (ds:=ds) (code:= .sliceAcap) h hh Ux (Nat.le_trans hjl hc)
   have r2:=p9 (P:=P) (ds:=ds) (code:= .sliceB) h hl hi1 hij
   have hv:=(hbase i j c hij hjl hk .n).resolve_right (by omega)
   refine bf.plain h hd ?_ (by rw [hk] at hv;exact hv) trivial rfl
   intro w _
   have hrun:(Instr.sliceBounds true xs.length c (lo.map (Act.eval ⟨ts,ds⟩)) (hi.map (Act.eval ⟨ts,ds⟩)) none).run P w= .ok (i,j,c) w:=by
    cases lo with
    |none=>
     simp only at r2;subst r2
     cases hi with
     |none=>simp only at r1;subst r1;simp [Instr.sliceBounds]
     |some y=>obtain ⟨k,q,v1,v2,v3,v4⟩:=r1;simp [Instr.sliceBounds,v1,v4]
    |some z=>
     obtain ⟨k,q,v1,v2,v3,v4⟩:=r2
     cases hi with
     |none=>simp only at r1;subst r1;simp [Instr.sliceBounds,v1,v4]
     |some y=>obtain ⟨k',q',u1,u2,u3,u4⟩:=r1;simp [Instr.sliceBounds,v1,v4,u1,u4]
   have Hh:∀lo hi,(Instr.sliceAt t (.slice ad xs.length c) lo hi none).run P w=(Instr.slice t (.slice ad xs.length c) lo hi none).run P w:=by
    intro lo hi
    simp [Instr.sliceAt,bQ hu]
   simp [execOp,e1,Hh]
   simp [bQ hu,Instr.slice,hrun,e8 ht.2]
 · rename_i i j m hi1 Ux
   split at hev
   case isTrue=>cases hev
   rename_i hhn
   split at hev
   case h_2=>cases hev
   rename_i mm Hi
   split at hev
   case isFalse=>cases hev
   rename_i hc3
   obtain ⟨hk,hij,hjm,hml⟩:=hc3
   simp only [Option.some.injEq,Prod.mk.injEq] at hev
   obtain ⟨rfl,rfl⟩:=hev
   obtain ⟨y,rfl⟩:∃y,mx=some y:=by
    cases mx with
    |none=>simp [pY] at hm
    |some y=>exact ⟨y,rfl⟩
   subst hjm
   have r3:=p9 (P:=P) (ds:=ds) (code:= .slice3Acap) h hm Hi (Nat.le_trans hml hc)
   have r1:=p9 (P:=P) (ds:=ds) (code:= .slice3B) h hh Ux (Nat.le_refl j)
   have r2:=p9 (P:=P) (ds:=ds) (code:= .slice3C) h hl hi1 hij
   have hv:=(hbase i j j hij hml hk .ex).resolve_right (by omega)
   refine bf.plain h hd ?_ (by rw [hk] at hv;exact hv) (by simp [TC]) rfl
   obtain ⟨k3,q3,w1,w2,w3,w4⟩:=r3
   have hhi:∃z,hi=some z:=by
    cases hi with
    |none=>simp only [pY,Option.some.injEq] at hh;subst hh;exact absurd rfl hhn
    |some z=>exact ⟨z,rfl⟩
   obtain ⟨z,rfl⟩:=hhi
   obtain ⟨k',q',u1,u2,u3,u4⟩:=r1
   intro w _
   have hrun:(Instr.sliceBounds true xs.length c (lo.map (Act.eval ⟨ts,ds⟩)) (some (Act.eval ⟨ts,ds⟩ z)) (some (Act.eval ⟨ts,ds⟩ y))).run P w= .ok (i,j,j) w:=by
    cases lo with
    |none=>simp only at r2;subst r2;simp [Instr.sliceBounds,w1,w4,u1,u4]
    |some z=>obtain ⟨k,q,v1,v2,v3,v4⟩:=r2;simp [Instr.sliceBounds,v1,v4,w1,w4,u1,u4]
   have Hh:∀lo hi mx,(Instr.sliceAt t (.slice ad xs.length c) lo hi mx).run P w=(Instr.slice t (.slice ad xs.length c) lo hi mx).run P w:=by
    intro lo hi mx
    simp [Instr.sliceAt,bQ hu]
   simp [execOp,e1,Hh]
   simp [bQ hu,Instr.slice,hrun,e8 ht.2]
 · cases hev
end
end Go.Am
end
section
namespace Go.Am
open Go
variable [Tabs]
section
variable {P:Program} {L:List Nat} {N:Nat} {F:Nat→Prop} {γ:List Nat} {C C':Nat→List Value} {e:Env} {ah:AH} {ts:Array Value} {ds:List Deferred} {w w':World}
theorem adk {b i:Nat} {v:Value} (h:w.cell? ⟨b,i,none⟩=some v):b<w.heap.size:=by
 unfold World.cell? at h
 rcases Nat.lt_or_ge b w.heap.size with hlt|hge
 · exact hlt
 · simp [Array.getElem?_eq_none hge] at h
theorem kY {b:Nat} {o:Obj} (h:w.heap[b]? =some o):b<w.heap.size:=(Array.getElem?_eq_some_iff.1 h).1
theorem gf {b i:Nat} (h:w'.heap[b]? =w.heap[b]?):w'.cell? ⟨b,i,none⟩=w.cell? ⟨b,i,none⟩:=by simp [World.cell?,h]
theorem I8 {b i:Nat} (h:w'.heap[b]? =w.heap[b]?):w'.frozen? ⟨b,i,none⟩=w.frozen? ⟨b,i,none⟩:=by simp [World.frozen?,h]
theorem I4.mono {k:Nat} {a:Option Addr} {n c:Nat} (h:I4 w C k a n c) (hw:∀ad,a=some ad→w'.heap[ad.block]? =w.heap[ad.block]? ∧C' ad.block=C ad.block):I4 w' C' k a n c:=by
 obtain ⟨b,o,cs,ty,fr,rfl,h1,h2,h3,h4⟩:=h
 obtain ⟨g1,g2⟩:=hw _ rfl
 exact ⟨b,o,cs,ty,fr,rfl,by rw [g1];exact h1,by rw [g2];exact h2,h3,fun i hi hj=>by rw [I8 g1];exact h4 i hi hj⟩
theorem TC.mono {a:AV} {v:Value} (h:TC w C a v) (hw:∀b,bG a v=some b→w'.heap[b]? =w.heap[b]? ∧C' b=C b):TC w' C' a v:=by
 cases a with
 |sl t k xs=>
  cases t with
  |own=>
   cases v with
   |slice ad n c=>
    simp only [TC] at h ⊢
    by_cases hc:c=n
    · exact .inl hc
    · refine .inr ((h.resolve_left hc).mono fun a ha=> ?_)
      subst ha
      exact hw _ (by simp [bG,hc])
   |_=>trivial
  |ex=>cases v<;>first|trivial|exact h
  |_=>cases v<;>trivial
 |agg cs=>cases v<;>first|trivial|exact h
 |bz cs=>cases v<;>first|trivial|exact h
 |dn e l=>
  rcases h with h1|⟨g,cap,cur,fz,rfl,h2,h3,h4⟩
  · exact .inl h1
  · obtain ⟨k1,k2⟩:=hw g rfl
    exact .inr ⟨g,cap,cur,fz,rfl,by rw [k1];exact h2,by rw [k2];exact h3,h4⟩
 |_=>cases v<;>trivial
theorem TC.E1 {a:AV} {v:Value} {b:Nat} (h:TC w C a v) (hb:bG a v=some b):b<w.heap.size∧∃cs ty fr,w.heap[b]? =some (.cells cs ty fr):=by
 rcases Fb hb with ⟨k,xs,ad,n,c,rfl,rfl,hc,rfl⟩|⟨e,l,ad,n,c,rfl,rfl,rfl⟩
 · simp only [TC] at h
   obtain ⟨b,o,cs,ty,fr,h1,h2, -⟩:=h.resolve_left hc
   injection h1 with h1
   subst h1
   exact ⟨kY h2,cs,ty,fr,h2⟩
 · rcases h with ⟨h1, -⟩|⟨g,cap,cur,fz,h1,h2, -⟩
   · cases h1
   · injection h1 with h1
     injection h1 with h1
     subst h1
     exact ⟨kY h2,cur,e,fz,h2⟩
theorem cellAt (h:Mem γ C ah w) {s i b:Nat} {cs:List AV} {a:AV} (hs:ah[s]? =some cs) (hi:cs[i]? =some a) (hb:γ[s]? =some b):
 ∃v,w.cell? ⟨b,i,none⟩=some v∧VR C γ a v∧TC w C a v:=by
 obtain ⟨vs,ty,hh,hsz,hc⟩:=h.obj s b cs hs hb
 have hlt:i<vs.size:=Nat.lt_of_lt_of_le (List.getElem?_eq_some_iff.1 hi).1 hsz
 refine ⟨vs.getD i undef, ?_,(hc i a hi).1,(hc i a hi).2⟩
 rw [cz hh];simp [Array.getD_eq_getD_getElem?,Array.getElem?_eq_getElem hlt]
theorem eW (h:SR L N F γ C e ah ts w) {p:Ow} {b:Nat} (hp:blk γ e ah ts w p b):b<w.heap.size:=by
 cases p with
 |obj s=>
  have hlt:s<ah.length:=by rw [←h.mem.len];exact (List.getElem?_eq_some_iff.1 hp).1
  obtain ⟨vs,ty,hh, -⟩:=h.mem.obj s b ah[s] (List.getElem?_eq_getElem hlt) hp
  exact kY hh
 |cell s i=>
  obtain ⟨cs,a,b0,h1,h2,h3,h4⟩:=hp
  obtain ⟨v,hv, -,ht⟩:=cellAt h.mem h1 h2 h3
  rw [hv] at h4
  exact (ht.E1 h4).1
 |tmp t=>exact ((h.env t).2.E1 hp).1
theorem SR.grow (h:SR L N F γ C e ah ts w) (hw:∀b,b<w.heap.size→w'.heap[b]? =w.heap[b]?) (hs:w.heap.size≤w'.heap.size) (hC:∀b,b<w.heap.size→C' b=C b)
 (uu:∀b,w.heap.size≤b→C' b≠[]→∃vs ty fr,w'.heap[b]? =some (.cells vs ty fr)∧C' b <+: vs.toList) (ho:jH w w':=by exact ⟨rfl,rfl,rfl⟩):SR L N F γ C' e ah ts w'∧Ext F C w C' w':=by
 have hpre:∀b,C b <+: C' b:=by
  intro b
  rcases Nat.lt_or_ge b w.heap.size with hlt|hge
  · rw [hC b hlt];exact List.prefix_refl _
  · have:C b=[]:=by
     cases hb:C b with
     |nil=>rfl
     |cons x r=>
      obtain ⟨vs,ty,fr,hh, -⟩:=h.mem.pn b (by rw [hb];simp)
      have:=kY hh;omega
    rw [this];exact List.nil_prefix
 have K9:∀(s b:Nat),γ[s]? =some b→b<w.heap.size:=fun s b hb=>eW h (p:= .obj s) hb
 have hcell:∀(s b i:Nat),γ[s]? =some b→w'.cell? ⟨b,i,none⟩=w.cell? ⟨b,i,none⟩:=fun s b i hb=>gf (hw b (K9 s b hb))
 have hb:∀p b,blk γ e ah ts w' p b→blk γ e ah ts w p b:=by
  intro p b hp
  cases p with
  |obj s=>exact hp
  |cell s i=>
   obtain ⟨cs,a,b0,h1,h2,h3,h4⟩:=hp
   exact ⟨cs,a,b0,h1,h2,h3,by rwa [hcell s b0 i h3] at h4⟩
  |tmp t=>exact hp
 refine ⟨⟨⟨h.mem.len,fun s b cs hs1 La=> ?_,fun b hne=> ?_,fun s b cs hs1 hne La=> ?_,fun s b cs vs ty fr hs1 La hh=>h.mem.xq s b cs vs ty fr hs1 La (by rw [←hw b (K9 s b La)];exact hh),fun s b cs T h1 h2 h3=>by rw [hw b (K9 s b h2)];exact h.mem.zM s b cs T h1 h2 h3⟩,h.sz,fun t=>⟨(h.env t).1.mono hpre _ (fun _ _ h=>h),(h.env t).2.mono fun b hb=> ?_⟩,
  fun p q b hp hq=>h.dD p q b (hb p b hp) (hb q b hq),fun p b hp=>h.nf p b (hb p b hp),h.iT.keep hs (fun b hb=>hw b (h.iT.lt b hb)),fun t l k xs htl=> ?_⟩,
  ⟨hpre,fun b hb=>⟨hw b (h.iT.lt b hb),hC b (h.iT.lt b hb)⟩,hs,ho⟩⟩
 · obtain ⟨vs,ty,hh,hsz,hc⟩:=h.mem.obj s b cs hs1 La
   refine ⟨vs,ty,by rw [hw b (K9 s b La)];exact hh,hsz,fun i a hi=>⟨(hc i a hi).1.mono hpre _ (fun _ _ h=>h),(hc i a hi).2.mono fun b' hb'=> ?_⟩⟩
   have hlt:=((hc i a hi).2.E1 hb').1
   exact ⟨hw b' hlt,hC b' hlt⟩
 · rcases Nat.lt_or_ge b w.heap.size with hlt|hge
   · rw [hC b hlt] at hne ⊢
     obtain ⟨vs,ty,fr,hh,hp⟩:=h.mem.pn b hne
     exact ⟨vs,ty,fr,by rw [hw b hlt];exact hh,hp⟩
   · exact uu b hge hne
 · rw [hC b (K9 s b La)];exact h.mem.lZ s b cs hs1 hne La
 · have hlt:=((h.env t).2.E1 hb).1
   exact ⟨hw b hlt,hC b hlt⟩
 · have:=h.fr t l k xs htl
   cases l with
   |tmp u=>exact this
   |cell s o=>intro cs a b h1 h2 h3 h4;rw [hcell s b o h4];exact this cs a b h1 h2 h3 h4
theorem SR.I9 (h:SR L N F γ C e ah ts w) {b:Nat} {vs:Array Value} {ty:TypeId} {cs:List AV} {YD:Nat×Nat} (hb:w.heap[b]? =some (.cells vs ty YD)) (adl:∀i,i<cs.length→¬(YD.1≤i∧i<YD.2)) (hsz:cs.length≤vs.size)
 (hc:∀(i:Nat) (a:AV),cs[i]? =some a→VR C γ a (vs.getD i undef)∧TC w C a (vs.getD i undef)∧a.bY=false)
 (Bp:C b=[]) (Uy:¬F b) (hfresh:∀p,¬blk γ e ah ts w p b):SR L N F (γ++[b]) C e (ah++[cs]) ts w:=by
 have hg:∀(s b':Nat),γ[s]? =some b'→(γ++[b])[s]? =some b':=fun s b' hs=>by
  rw [List.getElem?_append_left (List.getElem?_eq_some_iff.1 hs).1];exact hs
 have hpre:∀b,C b <+: C b:=fun b=>List.prefix_refl _
 have split:∀(s:Nat) (x:List AV),(ah++[cs])[s]? =some x→ah[s]? =some x∨(s=ah.length∧x=cs):=by
  intro s x hx
  rcases Nat.lt_or_ge s ah.length with hlt|hge
  · rw [List.getElem?_append_left hlt] at hx;exact .inl hx
  · rw [List.getElem?_append_right hge] at hx
    have:s - ah.length=0:=by
     cases hd:s - ah.length with
     |zero=>rfl
     |succ n=>rw [hd] at hx;simp at hx
    rw [this] at hx;simp at hx
    exact .inr ⟨by omega,hx.symm⟩
 have Bq:∀(s x:Nat),(γ++[b])[s]? =some x→γ[s]? =some x∨(s=γ.length∧x=b):=by
  intro s x hx
  rcases Nat.lt_or_ge s γ.length with hlt|hge
  · rw [List.getElem?_append_left hlt] at hx;exact .inl hx
  · rw [List.getElem?_append_right hge] at hx
    have:s - γ.length=0:=by
     cases hd:s - γ.length with
     |zero=>rfl
     |succ n=>rw [hd] at hx;simp at hx
    rw [this] at hx;simp at hx
    exact .inr ⟨by omega,hx.symm⟩
 have Lb:∀(s x:Nat),s<ah.length→(γ++[b])[s]? =some x→γ[s]? =some x:=by
  intro s x hs hx
  rcases Bq s x hx with h1|⟨h1, -⟩
  · exact h1
  · have:=h.mem.len;omega
 have hbk:∀p b',blk (γ++[b]) e (ah++[cs]) ts w p b'→blk γ e ah ts w p b'∨(p= .obj γ.length∧b'=b):=by
  intro p b' hp
  cases p with
  |obj s=>rcases Bq s b' hp with h1|⟨rfl,rfl⟩
          · exact .inl h1
          · exact .inr ⟨rfl,rfl⟩
  |cell s i=>
   obtain ⟨x,a,b0,h1,h2,h3,h4⟩:=hp
   rcases split s x h1 with h5|⟨rfl,rfl⟩
   · exact .inl ⟨x,a,b0,h5,h2,Lb s b0 (List.getElem?_eq_some_iff.1 h5).1 h3,h4⟩
   · rw [jr _ (hc i a h2).2.2] at h4;cases h4
  |tmp t=>exact .inl hp
 refine ⟨⟨by simp [h.mem.len],fun s b' x hs hb'=> ?_,h.mem.pn,fun s b' x hs hne hb'=> ?_,fun s b' x us ty' fr hs hb' hh=> ?_,fun s b' x T hs hb' h0=> ?_⟩,h.sz,fun t=>⟨(h.env t).1.mono hpre _ hg,(h.env t).2⟩,fun p q b' hp hq=> ?_,fun p b' hp=> ?_,h.iT,
  fun t l k xs htl=> ?_⟩
 · rcases split s x hs with h1|⟨rfl,rfl⟩
   · obtain ⟨vs',ty',hh,hs',ck⟩:=h.mem.obj s b' x h1 (Lb s b' (List.getElem?_eq_some_iff.1 h1).1 hb')
     exact ⟨vs',ty',hh,hs',fun i a hi=>⟨(ck i a hi).1.mono hpre _ hg,(ck i a hi).2⟩⟩
   · rcases Bq _ b' hb' with h1|⟨-,rfl⟩
     · have:=(List.getElem?_eq_some_iff.1 h1).1;have:=h.mem.len;omega
     · exact ⟨vs,(ty,YD),hb,hsz,fun i a hi=>⟨(hc i a hi).1.mono hpre _ hg,(hc i a hi).2.1⟩⟩
 · rcases Bq s b' hb' with h1|⟨-,rfl⟩
   · rcases split s x hs with h2|⟨h2, -⟩
     · exact h.mem.lZ s b' x h2 hne h1
     · have:=(List.getElem?_eq_some_iff.1 h1).1;have:=h.mem.len;omega
   · exact Bp
 · rcases split s x hs with h2|⟨rfl,rfl⟩
   · exact h.mem.xq s b' x us ty' fr h2 (Lb s b' (List.getElem?_eq_some_iff.1 h2).1 hb') hh
   · rcases Bq _ b' hb' with h1|⟨-,rfl⟩
     · have:=(List.getElem?_eq_some_iff.1 h1).1;have:=h.mem.len;omega
     · rw [hb] at hh;injection hh with hh;injection hh with e1 e2 e3;subst e3;exact adl
 · rcases split s x hs with h2|⟨rfl,rfl⟩
   · exact h.mem.zM s b' x T h2 (Lb s b' (List.getElem?_eq_some_iff.1 h2).1 hb') h0
   · have:=(hc 0 _ h0).2.2
     cases this
 · rcases hbk p b' hp with h1|⟨rfl,rfl⟩<;>rcases hbk q b' hq with h2|⟨rfl,h3⟩
   · exact h.dD p q b' h1 h2
   · subst h3;exact absurd h1 (hfresh p)
   · exact absurd h2 (hfresh q)
   · rfl
 · rcases hbk p b' hp with h1|⟨rfl,rfl⟩
   · exact h.nf p b' h1
   · exact Uy
 · have:=h.fr t l k xs htl
   cases l with
   |tmp u=>exact this
   |cell s o=>
    intro x a b' h1 h2 h3 h4
    rcases split s x h1 with h5|⟨rfl,rfl⟩
    · exact this x a b' h5 h2 h3 (Lb s b' (List.getElem?_eq_some_iff.1 h5).1 h4)
    · have h5:=Qi h3;rw [(hc o a h2).2.2] at h5;cases h5
theorem tE (b:Nat):∀(vs:List Value) (o:Nat) (w:World),jH w (w.setCells b o vs):=by
 intro vs
 induction vs with
 |nil=>intro o w;exact ⟨rfl,rfl,rfl⟩
 |cons v r ih=>
  intro o w
  have:=ih (o+1) (w.setCell ⟨b,o,none⟩ v)
  exact ⟨this.1,this.2.1,this.2.2⟩
theorem qa (b:Nat):∀(vs:List Value) (o:Nat) (w:World) (cur:Array Value) (ty:TypeId) (fr:Nat×Nat),w.heap[b]? =some (.cells cur ty fr)→o+vs.length≤cur.size→
 (∃nw:Array Value,(w.setCells b o vs).heap[b]? =some (.cells nw ty fr)∧nw.size=cur.size∧∀i,nw.getD i undef=if o≤i∧i<o+vs.length then vs.getD (i - o) undef else cur.getD i undef)∧
 (∀b',b'≠b→(w.setCells b o vs).heap[b']? =w.heap[b']?)∧(w.setCells b o vs).heap.size=w.heap.size:=by
 intro vs
 induction vs with
 |nil=>
  intro o w cur ty fr h hl
  refine ⟨⟨cur,h,rfl,fun i=> ?_⟩,fun _ _=>rfl,rfl⟩
  rw [if_neg (by simp)]
 |cons v r ih=>
  intro o w cur ty fr h hl
  simp only [List.length_cons] at hl
  have h1:(w.setCell ⟨b,o,none⟩ v).heap[b]? =some (.cells (cur.setIfInBounds o v) ty fr):=by
   simp [World.setCell,Array.getElem?_modify,h]
  have h2:∀b',b'≠b→(w.setCell ⟨b,o,none⟩ v).heap[b']? =w.heap[b']? :=by
   intro b' hb'
   simp [World.setCell,Array.getElem?_modify,Ne.symm hb']
  have h3:(w.setCell ⟨b,o,none⟩ v).heap.size=w.heap.size:=by simp [World.setCell]
  obtain ⟨⟨nw,g1,g2,g3⟩,g4,g5⟩:=ih (o+1) (w.setCell ⟨b,o,none⟩ v) _ ty fr h1 (by simp;omega)
  refine ⟨⟨nw,g1,by simpa using g2,fun i=> ?_⟩,fun b' hb'=>(g4 b' hb').trans (h2 b' hb'),g5.trans h3⟩
  rw [g3]
  by_cases hi:o+1≤i∧i<o+1+r.length
  · rw [if_pos hi,if_pos (by simp;omega)]
    obtain ⟨q,hq⟩:∃q,i - o=q+1:=⟨i - o - 1,by omega⟩
    rw [hq,show i - (o+1)=q by omega]
    simp [List.getD_eq_getElem?_getD]
  · rw [if_neg hi]
    by_cases hio:i=o
    · subst hio
      rw [if_pos (by simp),vq v (by omega)]
      simp
    · rw [if_neg (by simp;omega),tD v hio]
theorem SR.E2 (h:SR L N F γ C e ah ts w) {s b p:Nat} {cs cs':List AV} {old nw:Array Value} {ty:TypeId×Nat×Nat} (hs:ah[s]? =some cs) (hb:γ[s]? =some b)
 (hold:w.heap[b]? =some (.cells old ty.1 ty.2)) (hnew:w'.heap[b]? =some (.cells nw ty.1 ty.2)) (Lc:nw.size=old.size) (hl:cs'.length=cs.length)
 (ny:∀b',b'≠b→w'.heap[b']? =w.heap[b']?) (hsz:w'.heap.size=w.heap.size) (hz0:cs=[]→nw=old)
 (hcell:∀(i:Nat) (a:AV),cs'[i]? =some a→(cs[i]? =some a∧nw.getD i undef=old.getD i undef)∨(a.bY=false∧VR C γ a (nw.getD i undef)∧TC w C a (nw.getD i undef))∨
  (i=p∧VR C γ a (nw.getD i undef)∧TC w C a (nw.getD i undef)∧(∀b',bG a (nw.getD i undef)=some b'→¬F b'∧∀q,¬blk γ e ah ts w q b')∧(∀T,a≠ .dy T)∧∀t k xs,get e t≠ .sl (.fr (.cell s p)) k xs)) (ho:jH w w':=by exact ⟨rfl,rfl,rfl⟩):
 SR L N F γ C e (ah.set s cs') ts w'∧Ext F C w C w':=by
 have hslt:s<ah.length:=(List.getElem?_eq_some_iff.1 hs).1
 have rF:blk γ e ah ts w (.obj s) b:=hb
 have hoz:cs.length≤old.size:=by
  obtain ⟨vs,ty',hh,hz, -⟩:=h.mem.obj s b cs hs hb
  rw [hold] at hh;injection hh with hh;injection hh with e1 e2 e3;subst e1;exact hz
 have Nz:∀(i:Nat) (a:AV),cs[i]? =some a→VR C γ a (old.getD i undef)∧TC w C a (old.getD i undef):=by
  obtain ⟨vs,ty',hh,hz,hc⟩:=h.mem.obj s b cs hs hb
  rw [hold] at hh;injection hh with hh;injection hh with e1 e2 e3;subst e1;exact hc
 have cV:∀(s':Nat),s'≠s→(ah.set s cs')[s']? =ah[s']? :=fun s' hne=>List.getElem?_set_ne (Ne.symm hne)
 have di:(ah.set s cs')[s]? =some cs':=List.getElem?_set_self hslt
 have tF:∀(s':Nat),γ[s']? =some b→s'=s:=fun s' hs'=>by
  have:=h.dD (.obj s') (.obj s) b hs' hb;injection this
 have Uz:∀(s' b' i:Nat),γ[s']? =some b'→s'≠s→w'.cell? ⟨b',i,none⟩=w.cell? ⟨b',i,none⟩:=fun s' b' i h1 h2=>
  gf (ny b' fun e=>h2 (tF s' (e▸h1)))
 have E3:∀(i:Nat) (a:AV),cs'[i]? =some a→w'.cell? ⟨b,i,none⟩=some (nw.getD i undef):=by
  intro i a hi
  have hlt:i<nw.size:=by have:=(List.getElem?_eq_some_iff.1 hi).1;omega
  rw [cz hnew];simp [Array.getD_eq_getD_getElem?,Array.getElem?_eq_getElem hlt]
 have Ja:∀(i:Nat) (a:AV),cs[i]? =some a→w.cell? ⟨b,i,none⟩=some (old.getD i undef):=by
  intro i a hi
  have hlt:i<old.size:=by have:=(List.getElem?_eq_some_iff.1 hi).1;omega
  rw [cz hold];simp [Array.getD_eq_getD_getElem?,Array.getElem?_eq_getElem hlt]
 have hbk:∀q b',blk γ e (ah.set s cs') ts w' q b'→blk γ e ah ts w q b'∨(q= .cell s p∧¬F b'∧∀r,¬blk γ e ah ts w r b'):=by
  intro q b' hq
  cases q with
  |obj s'=>exact .inl hq
  |tmp t=>exact .inl hq
  |cell s' i=>
   obtain ⟨x,a,b0,h1,h2,h3,h4⟩:=hq
   by_cases hne:s'=s
   · subst hne
     rw [di] at h1;injection h1 with h1;subst h1
     rw [hb] at h3;injection h3 with h3;subst h3
     rw [E3 i a h2] at h4
     simp only [Option.getD_some] at h4
     rcases hcell i a h2 with ⟨g1,g2⟩|⟨g1, -⟩|⟨rfl, -, -,g4, -⟩
     · exact .inl ⟨cs,a,b,hs,g1,hb,by rw [Ja i a g1];simp only [Option.getD_some];rw [←g2];exact h4⟩
     · rw [jr _ g1] at h4;cases h4
     · exact .inr ⟨rfl,g4 b' h4⟩
   · rw [cV s' hne] at h1
     exact .inl ⟨x,a,b0,h1,h2,h3,by rw [Uz s' b0 i h3 hne] at h4;exact h4⟩
 have mA:∀(a:AV) (v:Value),TC w C a v→(∀b',bG a v=some b'→b'≠b)→TC w' C a v:=fun a v ht hn=>ht.mono fun b' hb'=>⟨ny b' (hn b' hb'),rfl⟩
 refine ⟨⟨⟨by simp [h.mem.len],fun s' b' x hx hb'=> ?_,fun b' hne=> ?_,fun s' b' x hx hne hb'=> ?_,fun s' b' x us ty' fr hx hb' hh=> ?_,fun s' b' x T hx hb' h0=> ?_⟩,h.sz,fun t=>⟨(h.env t).1,mA _ _ (h.env t).2 fun b' hb' e=> ?_⟩,fun q r b' hq hr=> ?_,fun q b' hq=> ?_,
  h.iT.keep (Nat.le_of_eq hsz.symm) (fun b' hb'=>ny b' (fun e=>h.nf _ _ rF (e▸hb'))),fun t l k xs htl=> ?_⟩,⟨fun _=>List.prefix_refl _,fun b' hb'=>⟨ny b' (fun e=>h.nf _ _ rF (e▸hb')),rfl⟩,by omega,ho⟩⟩
 · by_cases hne:s'=s
   · subst hne
     rw [di] at hx;injection hx with hx;subst hx
     rw [hb] at hb';injection hb' with hb';subst hb'
     refine ⟨nw,ty,hnew,by omega,fun i a hi=> ?_⟩
     rcases hcell i a hi with ⟨g1,g2⟩|⟨g1,g2,g3⟩|⟨rfl,g2,g3,g4, -⟩
     · rw [g2]
       refine ⟨(Nz i a g1).1,mA _ _ (Nz i a g1).2 fun b' hb' e=> ?_⟩
       subst e
       have:blk γ e ah ts w (.cell s' i) b':=⟨cs,a,b',hs,g1,hb,by rw [Ja i a g1];exact hb'⟩
       have:=h.dD _ _ _ this rF
       cases this
     · exact ⟨g2,mA _ _ g3 fun b' hb'=>by rw [jr _ g1] at hb';cases hb'⟩
     · exact ⟨g2,mA _ _ g3 fun b' hb' e=>(g4 b' hb').2 _ (e▸rF)⟩
   · rw [cV s' hne] at hx
     obtain ⟨vs,ty',hh,hz,hc⟩:=h.mem.obj s' b' x hx hb'
     have hnb:b'≠b:=fun e=>hne (tF s' (e▸hb'))
     refine ⟨vs,ty',by rw [ny b' hnb];exact hh,hz,fun i a hi=>⟨(hc i a hi).1,mA _ _ (hc i a hi).2 fun b2 zN e=> ?_⟩⟩
     subst e
     obtain ⟨v,hv, -, -⟩:=cellAt h.mem hx hi hb'
     have Jb:v=vs.getD i undef:=by
      have hlt:i<vs.size:=Nat.lt_of_lt_of_le (List.getElem?_eq_some_iff.1 hi).1 hz
      rw [cz hh,Array.getElem?_eq_getElem hlt] at hv
      simp [Array.getD_eq_getD_getElem?,Array.getElem?_eq_getElem hlt,Option.some.inj hv]
     have:blk γ e ah ts w (.cell s' i) b2:=⟨x,a,b',hx,hi,hb',by rw [hv,Jb];exact zN⟩
     have:=h.dD _ _ _ this rF
     cases this
 · obtain ⟨vs,ty',fr,hh,hp⟩:=h.mem.pn b' hne
   by_cases hnb:b'=b
   · subst hnb
     have hcs:cs=[]:=by
      cases cs with
      |nil=>rfl
      |cons y r=>exact absurd (h.mem.lZ s b' _ hs (by simp) hb) hne
     rw [hold] at hh;injection hh with hh;injection hh with e1 e2 e3;subst e1
     exact ⟨nw,ty.1,ty.2,hnew,by rw [hz0 hcs];exact hp⟩
   · exact ⟨vs,ty',fr,by rw [ny b' hnb];exact hh,hp⟩
 · by_cases nH:s'=s
   · subst nH
     rw [di] at hx;injection hx with hx;subst hx
     refine h.mem.lZ s' b' cs hs ?_ hb'
     rintro rfl
     exact hne (List.eq_nil_of_length_eq_zero hl)
   · rw [cV s' nH] at hx
     exact h.mem.lZ s' b' x hx hne hb'
 · by_cases nH:s'=s
   · subst nH
     rw [di] at hx;injection hx with hx;subst hx
     rw [hb] at hb';injection hb' with hb';subst hb'
     rw [hnew] at hh;injection hh with hh;injection hh with e1 e2 e3;subst e3
     rw [hl]
     exact h.mem.xq s' b cs old ty.1 ty.2 hs hb hold
   · rw [cV s' nH] at hx
     exact h.mem.xq s' b' x us ty' fr hx hb' (by rw [←ny b' (fun e=>nH (tF s' (e▸hb')))];exact hh)
 · by_cases nH:s'=s
   · subst nH
     rw [di] at hx;injection hx with hx;subst hx
     rw [hb] at hb';injection hb' with hb';subst hb'
     rcases hcell 0 _ h0 with ⟨g1,g2⟩|⟨g1, -⟩|⟨-, -, -, -,g5, -⟩
     · obtain ⟨p0,v0,k1,k2⟩:=h.mem.zM s' b cs T hs hb g1
       rw [hold] at k1
       injection k1 with k1
       injection k1 with e1 e2 e3
       have h2:nw.size=2:=by rw [Lc,e1];rfl
       refine ⟨p0,nw.getD 1 undef, ?_,k2⟩
       rw [hnew,e2,e3]
       congr 2
       apply Array.ext
       · rw [h2];rfl
       · intro i hi1 hi2
         rw [h2] at hi1
         rcases i with _|_|i
         · have:nw.getD 0 undef=p0:=by rw [g2,e1];rfl
           rw [←this];simp [Array.getD_eq_getD_getElem?,Array.getElem?_eq_getElem (show 0<nw.size by omega)]
         · simp [Array.getD_eq_getD_getElem?,Array.getElem?_eq_getElem (show 1<nw.size by omega)]
         · omega
     · cases g1
     · exact absurd rfl (g5 T)
   · rw [cV s' nH] at hx
     rw [ny b' (fun e=>nH (tF s' (e▸hb')))]
     exact h.mem.zM s' b' x T hx hb' h0
 · subst e
   have:=h.dD (.tmp t) _ _ hb' rF
   cases this
 · rcases hbk q b' hq with h1|⟨rfl,h2,h3⟩<;>rcases hbk r b' hr with h4|⟨rfl,h5,h6⟩
   · exact h.dD q r b' h1 h4
   · exact absurd h1 (h6 q)
   · exact absurd h4 (h3 r)
   · rfl
 · rcases hbk q b' hq with h1|⟨rfl,h2, -⟩
   · exact h.nf q b' h1
   · exact h2
 · have hfr:=h.fr t l k xs htl
   cases l with
   |tmp u=>exact hfr
   |cell s' o=>
    intro x a b' h1 h2 h3 h4
    by_cases hne:s'=s
    · subst hne
      rw [di] at h1;injection h1 with h1;subst h1
      rw [hb] at h4;injection h4 with h4;subst h4
      rw [E3 o a h2]
      rcases hcell o a h2 with ⟨g1,g2⟩|⟨g1, -⟩|⟨rfl, -, -, -, -,g5⟩
      · have:=hfr cs a b hs g1 h3 hb
        rw [Ja o a g1] at this
        rw [g2];exact this
      · rw [Qi h3] at g1;cases g1
      · exact absurd htl (g5 t k xs)
    · rw [cV s' hne] at h1
      rw [Uz s' b' o h4 hne]
      exact hfr x a b' h1 h2 h3 h4
theorem SR.UA (h:SR L N F γ C e ah ts w) {b:Nat} {cur nw:Array Value} {ty:TypeId} {fr:Nat×Nat} {news:List Value} (hno:∀p,¬blk γ e ah ts w p b) (Uy:¬F b)
 (hold:w.heap[b]? =some (.cells cur ty fr)) (hnew:w'.heap[b]? =some (.cells nw ty fr)) (Lc:nw.size=cur.size) (hroom:(C b).length+news.length≤cur.size) (hone:∀v∈news,v.oneCell'=true)
 (ny:∀b',b'≠b→w'.heap[b']? =w.heap[b']?) (hsz:w'.heap.size=w.heap.size)
 (hcell:∀i,nw.getD i undef=if (C b).length≤i∧i<(C b).length+news.length then news.getD (i - (C b).length) undef else cur.getD i undef)
 (uu:C'=fun x=>if x=b then C b++news else C x) (ho:jH w w':=by exact ⟨rfl,rfl,rfl⟩):SR L N F γ C' e ah ts w'∧Ext F C w C' w':=by
 have Bp:C' b=C b++news:=by rw [uu];simp
 have UB:∀x,x≠b→C' x=C x:=fun x hx=>by rw [uu];simp [hx]
 have hpre:∀x,C x <+: C' x:=by
  intro x
  by_cases hx:x=b
  · subst hx;rw [Bp];exact List.prefix_append _ _
  · rw [UB x hx];exact List.prefix_refl _
 have hgb:∀(s b':Nat),γ[s]? =some b'→b'≠b:=fun s b' hs e=>hno (.obj s) (e▸hs)
 have hbk:∀q b',blk γ e ah ts w' q b'→blk γ e ah ts w q b':=by
  intro q b' hq
  cases q with
  |obj s=>exact hq
  |tmp t=>exact hq
  |cell s i=>
   obtain ⟨x,a,b0,h1,h2,h3,h4⟩:=hq
   exact ⟨x,a,b0,h1,h2,h3,by rwa [gf (ny b0 (hgb s b0 h3))] at h4⟩
 have mA:∀(a:AV) (v:Value),TC w C a v→(∀b',bG a v=some b'→b'≠b)→TC w' C' a v:=fun a v ht hn=>ht.mono fun b' hb'=>⟨ny b' (hn b' hb'),UB b' (hn b' hb')⟩
 refine ⟨⟨⟨h.mem.len,fun s b' x hx hb'=> ?_,fun b' hne=> ?_,fun s b' x hx hne hb'=> ?_,fun s b' x us ty' fr' hx hb' hh=>h.mem.xq s b' x us ty' fr' hx hb' (by rw [←ny b' (hgb s b' hb')];exact hh),fun s b' x T h1 h2 h3=>by rw [ny b' (hgb s b' h2)];exact h.mem.zM s b' x T h1 h2 h3⟩,h.sz,fun t=>⟨(h.env t).1.mono hpre _ (fun _ _ h=>h),mA _ _ (h.env t).2 fun b' hb' e=> ?_⟩,
  fun q r b' hq hr=>h.dD q r b' (hbk q b' hq) (hbk r b' hr),fun q b' hq=>h.nf q b' (hbk q b' hq),h.iT.keep (Nat.le_of_eq hsz.symm) (fun b' hb'=>ny b' (fun e=>Uy (e▸hb'))),fun t l k xs htl=> ?_⟩,
  ⟨hpre,fun b' hb'=>⟨ny b' (fun e=>Uy (e▸hb')),UB b' (fun e=>Uy (e▸hb'))⟩,by omega,ho⟩⟩
 · obtain ⟨vs,ty',hh,hz,hc⟩:=h.mem.obj s b' x hx hb'
   refine ⟨vs,ty',by rw [ny b' (hgb s b' hb')];exact hh,hz,fun i a hi=>⟨(hc i a hi).1.mono hpre _ (fun _ _ h=>h),mA _ _ (hc i a hi).2 fun b2 zN e=> ?_⟩⟩
   subst e
   obtain ⟨v,hv, -, -⟩:=cellAt h.mem hx hi hb'
   have Jb:v=vs.getD i undef:=by
    have hlt:i<vs.size:=Nat.lt_of_lt_of_le (List.getElem?_eq_some_iff.1 hi).1 hz
    rw [cz hh,Array.getElem?_eq_getElem hlt] at hv
    simp [Array.getD_eq_getD_getElem?,Array.getElem?_eq_getElem hlt,Option.some.inj hv]
   exact hno (.cell s i) ⟨x,a,b',hx,hi,hb',by rw [hv,Jb];exact zN⟩
 · by_cases hx:b'=b
   · subst hx
     refine ⟨nw,ty,fr,hnew, ?_⟩
     rw [Bp]
     have hlen:(C b'++news).length≤nw.toList.length:=by simp;omega
     have hp:C b' <+: cur.toList:=by
      by_cases nH:C b'=[]
      · rw [nH];exact List.nil_prefix
      · obtain ⟨vs,ty',fr',hh,hp⟩:=h.mem.pn b' nH
        rw [hold] at hh;injection hh with hh;injection hh with e1;subst e1;exact hp
     rw [List.prefix_iff_eq_take]
     apply List.ext_getElem?
     intro i
     by_cases hi:i<(C b'++news).length
     · rw [List.getElem?_take_of_lt hi]
       have hin:i<nw.size:=by simp at hlen;simp at hi;omega
       have hg:=hcell i
       have e0:nw.toList[i]? =some nw[i]:=by simp [hin]
       rw [e0]
       have e1:nw.getD i undef=nw[i]:=by simp [Array.getD_eq_getD_getElem?,Array.getElem?_eq_getElem hin]
       rw [←e1,hg]
       by_cases hc:(C b').length≤i
       · rw [if_pos ⟨hc,by simp at hi;omega⟩,List.getElem?_append_right hc]
         rw [List.getD_eq_getElem?_getD,List.getElem?_eq_getElem (by simp at hi;omega)];rfl
       · rw [if_neg (by omega),List.getElem?_append_left (by omega), ←iI,iG hp (by omega),List.getD_eq_getElem?_getD,List.getElem?_eq_getElem (by omega)];rfl
     · rw [List.getElem?_eq_none (by omega),List.getElem?_eq_none (by simp;simp at hi;omega)]
   · rw [UB b' hx] at hne ⊢
     obtain ⟨vs,ty',fr',hh,hp⟩:=h.mem.pn b' hne
     exact ⟨vs,ty',fr',by rw [ny b' hx];exact hh,hp⟩
 · rw [UB b' (hgb s b' hb')];exact h.mem.lZ s b' x hx hne hb'
 · exact hno (.tmp t) (e▸hb')
 · have hfr:=h.fr t l k xs htl
   cases l with
   |tmp u=>exact hfr
   |cell s' o=>intro x a b' h1 h2 h3 h4;rw [gf (ny b' (hgb s' b' h4))];exact hfr x a b' h1 h2 h3 h4
end
end Go.Am
end
section
namespace Go.Am
open Go
variable [Tabs]
section
variable {P:Program} {L:List Nat} {N:Nat} {F:Nat→Prop} {γ:List Nat} {C C':Nat→List Value} {e:Env} {ah:AH} {ts:Array Value} {ds:List Deferred} {w w':World} {m:Bool}
variable {d:Option Nat} {ty p8:TypeId} {pos:String} {af:Array Edge} {g:Option (Nat×Bool)} {e':Env} {aE:AH}
theorem NA (off:Nat):∀(l:List Value) (m:Nat) (cells:Array Value),off+m+l.length≤cells.size→
 ((l.zipIdx m).foldl (fun cs (x:Value×Nat)=>cs.setIfInBounds (off+x.2) x.1) cells).size=cells.size∧
 ∀q,((l.zipIdx m).foldl (fun cs (x:Value×Nat)=>cs.setIfInBounds (off+x.2) x.1) cells).getD q undef=
  if off+m≤q∧q<off+m+l.length then l.getD (q - (off+m)) undef else cells.getD q undef:=by
 intro l
 induction l with
 |nil=>intro m cells h;refine ⟨rfl,fun q=> ?_⟩;rw [if_neg (by simp)];rfl
 |cons v r ih=>
  intro m cells h
  simp only [List.length_cons] at h
  simp only [List.zipIdx_cons,List.foldl_cons]
  obtain ⟨h1,h2⟩:=ih (m+1) (cells.setIfInBounds (off+m) v) (by simp;omega)
  refine ⟨by rw [h1];simp,fun q=> ?_⟩
  rw [h2]
  by_cases hq:off+(m+1)≤q∧q<off+(m+1)+r.length
  · rw [if_pos hq,if_pos (by simp;omega)]
    obtain ⟨p,hp⟩:∃p,q - (off+m)=p+1:=⟨q - (off+m) - 1,by omega⟩
    rw [hp,show q - (off+(m+1))=p by omega]
    simp [List.getD_eq_getElem?_getD]
  · rw [if_neg hq]
    by_cases hqm:q=off+m
    · subst hqm
      rw [if_pos (by simp),vq v (by omega)];simp
    · rw [if_neg (by simp;omega),tD v hqm]
theorem CB (v:Value) (off:Nat) (cells:Array Value) (h:off+v.cells.size≤cells.size):
 (v.cells.zipIdx.foldl (fun cs (x:Value×Nat)=>cs.setIfInBounds (off+x.2) x.1) cells).size=cells.size∧
 ∀q,(v.cells.zipIdx.foldl (fun cs (x:Value×Nat)=>cs.setIfInBounds (off+x.2) x.1) cells).getD q undef=
  if off≤q∧q<off+v.cells.size then v.cells.getD (q - off) undef else cells.getD q undef:=by
 have:=NA off v.cells.toList 0 cells (by simpa using h)
 rw [←Array.foldl_toList,Array.toList_zipIdx]
 simp only [Nat.add_zero,Array.length_toList] at this
 refine ⟨this.1,fun q=> ?_⟩
 rw [this.2 q,iI]
theorem VR.cells {a:AV} {v:Value} (h:VR C γ a v) (ho:bU a.cells=true):v.cells.size=a.cells.length∧
 (∀(i:Nat) (x:AV),a.cells[i]? =some x→VR C γ x (v.cells.getD i undef)∧(v.cells.getD i undef).oneCell'=true):=by
 have one:∀ {x:AV} {u:Value},VR C γ x u→x.iR=true→u.oneCell'=true:=by
  intro x u hx hk
  cases hx<;>first|rfl|cases hk|skip
  rename_i hs
  cases u<;>first|rfl|cases hs
 cases a with
 |agg cs=>
  obtain ⟨vs,rfl,hl,hv⟩:=h.og
  refine ⟨hl.symm,fun i x hi=>⟨hv i x hi,one (hv i x hi) (zO ho hi)⟩⟩
 |bz cs=>simp [AV.cells,bU,AV.iR] at ho
 |un=>simp [AV.cells,bU,AV.iR] at ho
 |dy=>simp [AV.cells,bU,AV.iR] at ho
 |dn=>simp [AV.cells,bU,AV.iR] at ho
 |_=>
  have h1:=one h (by simp [AV.iR])
  have hvc:v.cells= #[v]:=by cases v<;>first|rfl|cases h1
  rw [hvc]
  refine ⟨rfl,fun i x hi=> ?_⟩
  cases i with
  |zero=>simp [AV.cells] at hi;subst hi;exact ⟨h,h1⟩
  |succ i=>simp [AV.cells] at hi
theorem TC.cells {a:AV} {v:Value} (h:TC w C a v) (hv:VR C γ a v) (ho:bU a.cells=true):∀(i:Nat) (x:AV),a.cells[i]? =some x→mo x (v.cells.getD i undef):=by
 intro i x hi
 cases a with
 |agg cs=>
  obtain ⟨vs,rfl,hl, -⟩:=hv.og
  exact h i x hi
 |bz cs=>simp [AV.cells,bU,AV.iR] at ho
 |un=>simp [AV.cells,bU,AV.iR] at ho
 |_=>
  cases i with
  |succ i=>simp [AV.cells] at hi
  |zero=>
   simp [AV.cells] at hi
   subst hi
   have h0:=(hv.cells ho).1
   have hc:v.cells.getD 0 undef=v:=by
    cases v<;>first|rfl|(have:=(hv.cells ho).2 0 _ rfl;cases hv;done)|skip
    all_goals (rename_i hh;cases hv<;>simp_all [sc])
   rw [hc]
   first|(exfalso;simp [AV.cells,bU,AV.iR] at ho;done)|exact Bn h (by simp [AV.flat])
theorem heap_alloc (w:World) (o:Obj):(w.alloc o).heap[w.heap.size]? =some o∧(∀b,b<w.heap.size→(w.alloc o).heap[b]? =w.heap[b]?)∧(w.alloc o).heap.size=w.heap.size+1:=by
 have e1:(w.alloc o).heap=w.heap.push o:=rfl
 rw [e1]
 refine ⟨by simp,fun b hb=> ?_,by simp⟩
 simp [Array.getElem?_push,Nat.ne_of_lt hb]
theorem xy (h:SR L N F γ C e ah ts w) {b:Nat} (hb:w.heap.size≤b):C b=[]:=by
 cases hc:C b with
 |nil=>rfl
 |cons x r=>
  obtain ⟨vs,ty,fr,hh, -⟩:=h.mem.pn b (by rw [hc];simp)
  have:=kY hh;omega
theorem Fh (h:SR L N F γ C e ah ts w) (hd:∀x,d=some x→x<N) {vs:Array Value} {t:TypeId} {cs:List AV} (hsz:vs.size=cs.length)
 (hc:∀(i:Nat) (a:AV),cs[i]? =some a→VR C γ a (vs.getD i undef)∧mo a (vs.getD i undef)∧a.plain=true):
 SR L N F (γ++[w.heap.size]) C (Am.aF L e d (.ptr ah.length 0)) (ah++[cs]) (Act.put ⟨ts,ds⟩ d (.pointer (some ⟨w.heap.size,0,none⟩))).tmps (w.alloc (.cells vs t))∧
 Ext F C w C (w.alloc (.cells vs t)):=by
 obtain ⟨h1,h2,h3⟩:=heap_alloc w (.cells vs t)
 obtain ⟨hg,hx⟩:=h.grow (w':=w.alloc (.cells vs t)) (C':=C) h2 (by omega) (fun _ _=>rfl) (fun b hb hne=>absurd (xy h hb) hne)
 have ho:=hg.I9 (b:=w.heap.size) h1 (fun i _ hi=>by simp at hi) (Nat.le_of_eq hsz.symm) (fun i a hi=>⟨(hc i a hi).1, ?_,iH (hc i a hi).2.2⟩) (xy h (Nat.le_refl _)) (fun hF=>Nat.lt_irrefl _ (h.iT.lt _ hF))
  (fun p hp=> ?_)
 · refine ⟨ho.aF hd (.ptr _ _ _ _ ?_) trivial rfl (by simp),hx⟩
   rw [List.getElem?_append_right (by rw [h.mem.len];exact Nat.le_refl _),h.mem.len];simp
 · have:=(hc i a hi).2.1
   have hp:=(hc i a hi).2.2
   cases a with
   |sl t k xs=>cases t<;>first|(simp [AV.plain] at hp;done)|(generalize vs.getD i undef=v at this;cases v<;>first|trivial|exact this)
   |agg cs=>generalize vs.getD i undef=v at this;cases v<;>exact absurd this (by simp [mo])
   |bz cs=>generalize vs.getD i undef=v at this;cases v<;>exact absurd this (by simp [mo])
   |_=>generalize vs.getD i undef=v;cases v<;>trivial
 · have hb0:blk γ e ah ts w p w.heap.size:=by
    cases p with
    |obj s=>exact hp
    |cell s i=>
     obtain ⟨x,a,b0,g1,g2,g3,g4⟩:=hp
     have:=eW h (p:= .obj s) (b:=b0) g3
     exact ⟨x,a,b0,g1,g2,g3,by rwa [gf (h2 b0 this)] at g4⟩
    |tmp t=>exact hp
   exact Nat.lt_irrefl _ (eW h hb0)
theorem YE {a:AV} {v:Value} (h:zok a v=true):VR C γ a v∧mo a v∧a.plain=true:=by
 unfold zok at h
 split at h
 · simp only [Bool.and_eq_true,beq_iff_eq] at h
   obtain ⟨rfl,rfl⟩:=h
   exact ⟨.int ..,trivial,rfl⟩
 · simp only [beq_iff_eq] at h;subst h;exact ⟨.bool ..,trivial,rfl⟩
 · rename_i s
   simp only [beq_iff_eq] at h
   have:s=⟨([]:List UInt8).toArray⟩:=by cases s with|mk d=>simp at h;simp [h]
   subst this
   exact ⟨.str ..,trivial,rfl⟩
 · exact ⟨.tC ..,rfl,rfl⟩
 · exact ⟨.v _ _ rfl,trivial,rfl⟩
 · exact ⟨.v _ _ rfl,trivial,rfl⟩
 · exact ⟨.v _ _ rfl,trivial,rfl⟩
 · cases h
theorem Ld:∀ {cs:List AV} {vs:List Value},Il cs vs=true→vs.length=cs.length∧∀(i:Nat) (a:AV),cs[i]? =some a→VR C γ a (vs.getD i undef)∧mo a (vs.getD i undef)∧a.plain=true:=by
 intro cs
 induction cs with
 |nil=>intro vs h;cases vs<;>simp [Il] at h;simp
 |cons c r ih=>
  intro vs h
  cases vs with
  |nil=>simp [Il] at h
  |cons v s=>
   simp only [Il,Bool.and_eq_true] at h
   obtain ⟨h1,h2⟩:=ih h.2
   refine ⟨by simp [h1],fun i a hi=> ?_⟩
   cases i with
   |zero=>simp at hi;subst hi;simpa using YE h.1
   |succ i=>simpa using h2 i a (by simpa using hi)
theorem qb {t:TypeId} {cs:List AV} (h:zeroOf P t=some cs):∃z,(∀w,(zeroValue t).run P w= .ok z w)∧z.cells.size=cs.length∧(P.info? t).isSome=true∧
 ∀(i:Nat) (a:AV),cs[i]? =some a→VR C γ a (z.cells.getD i undef)∧mo a (z.cells.getD i undef)∧a.plain=true:=by
 unfold zeroOf at h
 split at h
 case h_2=>cases h
 rename_i cs' z h1 h2
 split at h
 case isFalse=>cases h
 rename_i hz
 injection h with h
 subst h
 cases hi:P.info? t with
 |none=>rw [hi] at h2;cases h2
 |some i=>
  rw [hi] at h2
  simp only [Option.bind_some] at h2
  obtain ⟨g1,g2⟩:=Ld (C:=C) (γ:=γ) hz
  refine ⟨z,fun w=>by simp [zeroValue,p7 hi,h2],by simpa using g1,rfl,fun i a hi=> ?_⟩
  have:=g2 i a hi
  rwa [iI] at this
theorem Rd {t:TypeId} {cs:List AV} (h:SR L N F γ C e ah ts w) (hd:∀x,d=some x→x<N) (hz:zeroOf P t=some cs)
 (hev:bK L ⟨d, .alloc cs,none⟩ e ah=some (e',aE)):bf m P L N F γ C ⟨d, .alloc t,ty,pos,af,g⟩ ts ds w e' aE:=by
 simp only [bK,Option.some.injEq,Prod.mk.injEq] at hev
 obtain ⟨rfl,rfl⟩:=hev
 obtain ⟨z,hr,hs, -,hc⟩:=qb (C:=C) (γ:=γ) hz
 obtain ⟨h1,h2⟩:=Fh (ds:=ds) (t:=t) h hd hs hc
 refine ⟨_,_,_,C, .inl ?_,List.prefix_append _ _,h1,h2,fun _ s b hb=>(heap_alloc w _).2.1 b (eW h (p:= .obj s) hb),fun hq=>by simp [dV] at hq⟩
 simp [execOp,Instr.alloc,hr,newVar,newRow]
theorem SR.aaZ (h:SR L N F γ C e ah ts w) {s b:Nat} {T E:TypeId} (hs:ah[s]? =some [.un, .un]) (hb:γ[s]? =some b) (hh:w.heap[b]? =some (.cells #[.pointer none, .slice none 0 0] T (0,0))):
 SR L N F γ C e (ah.set s [.dy T, .dn E []]) ts w:=by
 have hslt:s<ah.length:=(List.getElem?_eq_some_iff.1 hs).1
 have di:(ah.set s [AV.dy T, .dn E []])[s]? =some [.dy T, .dn E []]:=List.getElem?_set_self hslt
 have cV:∀(s':Nat),s'≠s→(ah.set s [AV.dy T, .dn E []])[s']? =ah[s']? :=fun s' hne=>List.getElem?_set_ne (Ne.symm hne)
 have hbk:∀p x,blk γ e (ah.set s [.dy T, .dn E []]) ts w p x→blk γ e ah ts w p x:=by
  intro p x hp
  cases p with
  |obj s'=>exact hp
  |tmp t=>exact hp
  |cell s' i=>
   obtain ⟨ds,a,b0,h1,h2,h3,h4⟩:=hp
   by_cases hn:s'=s
   · subst hn
     rw [di] at h1;injection h1 with h1;subst h1
     rw [hb] at h3;injection h3 with h3;subst h3
     rcases i with _|_|i
     · simp at h2;subst h2
       simp [bG] at h4
     · simp at h2;subst h2
       rw [cz hh] at h4
       simp [bG] at h4
     · simp at h2
   · rw [cV s' hn] at h1;exact ⟨ds,a,b0,h1,h2,h3,h4⟩
 refine ⟨⟨by simp [h.mem.len],fun s' x ds h1 h2=> ?_,h.mem.pn,fun s' x ds h1 h0 h2=> ?_,fun s' x ds us ty fr h1 h2 h3=> ?_,fun s' x ds T' h1 h2 h3=> ?_⟩,h.sz,h.env,fun p q x hp hq=>h.dD p q x (hbk p x hp) (hbk q x hq),fun p x hp=>h.nf p x (hbk p x hp),h.iT,fun t l k xs ht=> ?_⟩
 · by_cases hn:s'=s
   · subst hn
     rw [di] at h1;injection h1 with h1;subst h1
     rw [hb] at h2;injection h2 with h2;subst h2
     refine ⟨_,(T,0,0),hh,by simp,fun i a hi=> ?_⟩
     rcases i with _|_|i
     · simp at hi;subst hi
       exact ⟨.dy ..,by simp [TC]⟩
     · simp at hi;subst hi
       exact ⟨.dn .., .inl ⟨rfl,rfl⟩⟩
     · simp at hi
   · rw [cV s' hn] at h1
     exact h.mem.obj s' x ds h1 h2
 · by_cases hn:s'=s
   · subst hn
     exact h.mem.lZ s' x _ hs (by simp) h2
   · rw [cV s' hn] at h1
     exact h.mem.lZ s' x ds h1 h0 h2
 · by_cases hn:s'=s
   · subst hn
     rw [di] at h1;injection h1 with h1;subst h1
     exact h.mem.xq s' x [.un, .un] us ty fr hs h2 h3
   · rw [cV s' hn] at h1
     exact h.mem.xq s' x ds us ty fr h1 h2 h3
 · by_cases hn:s'=s
   · subst hn
     rw [di] at h1;injection h1 with h1;subst h1
     rw [hb] at h2;injection h2 with h2;subst h2
     simp at h3;subst h3
     exact ⟨_,_,hh, .inl rfl⟩
   · rw [cV s' hn] at h1
     exact h.mem.zM s' x ds T' h1 h2 h3
 · have hf:=h.fr t l k xs ht
   cases l with
   |tmp u=>exact hf
   |cell s' o=>
    intro ds a x h1 h2 h3 h4
    by_cases hn:s'=s
    · subst hn
      rw [di] at h1;injection h1 with h1;subst h1
      rcases o with _|_|o
      · simp at h2;subst h2;cases h3
      · simp at h2;subst h2;cases h3
      · simp at h2
    · rw [cV s' hn] at h1
      exact hf ds a x h1 h2 h3 h4
theorem NB {t:TypeId} {cs:List AV} (h:SR L N F γ C e ah ts w) (hd:∀x,d=some x→x<N) (hz:Nt P t=some cs)
 (hev:bK L ⟨d, .alloc cs,none⟩ e ah=some (e',aE)):bf m P L N F γ C ⟨d, .alloc t,ty,pos,af,g⟩ ts ds w e' aE:=by
 unfold Nt at hz
 split at hz
 · cases hz
 rename_i cs0 hz0
 split at hz
 case h_2=>injection hz with hz;subst hz;exact Rd h hd hz0 hev
 rename_i E hE
 injection hz with hz
 subst hz
 simp only [bK,Option.some.injEq,Prod.mk.injEq] at hev
 obtain ⟨rfl,rfl⟩:=hev
 obtain ⟨z,hr,hs, -,hc⟩:=qb (C:=C) (γ:=γ) hz0
 have Le:z.cells= #[.pointer none, .slice none 0 0]:=by
  unfold aau at hE
  split at hE
  case h_2=>cases hE
  rename_i fs z' h1 h2
  split at hE
  case h_2=>cases hE
  rename_i f g' hf hz'
  have e1:z'=z:=by
   cases hi:P.info? t with
   |none=>rw [hi] at h2;cases h2
   |some i=>
    rw [hi] at h2
    simp only [Option.bind_some] at h2
    have e2:=hr w
    simp [zeroValue,p7 hi,h2] at e2
    exact e2
  subst e1
  apply Array.ext'
  rw [hz']
 obtain ⟨h1,h2⟩:=Fh (ds:=ds) (t:=t) (vs:=z.cells) (cs:=[.un, .un]) h hd (by rw [Le];rfl) (fun i a hi=>by
  have:a= .un:=by
   rcases i with _|_|i
   · simpa using hi.symm
   · simpa using hi.symm
   · simp at hi
  subst this
  exact ⟨.un ..,by generalize z.cells.getD i undef=u;cases u<;>trivial,rfl⟩)
 have hlen:γ.length=ah.length:=h.mem.len
 have h3:=h1.aaZ (s:=ah.length) (b:=w.heap.size) (T:=t) (E:=E) (by simp) (by rw [←hlen];simp) (by rw [(heap_alloc w _).1,Le])
 have h4:(ah++[[AV.un, .un]]).set ah.length [.dy t, .dn E []]=ah++[[.dy t, .dn E []]]:=by simp
 rw [h4] at h3
 refine ⟨_,_,_,C, .inl ?_,List.prefix_append _ _,h3,h2,fun _ s b hb=>(heap_alloc w _).2.1 b (eW h (p:= .obj s) hb),fun hq=>by simp [dV] at hq⟩
 simp [execOp,Instr.alloc,hr,newVar,newRow]
theorem YF {t:TypeId} {x:Operand} {x':Ar} (h:SR L N F γ C e ah ts w) (hd:∀x,d=some x→x<N) (hx:dB P t x=some x')
 (hev:bK L ⟨d, .box x',none⟩ e ah=some (e',aE)):bf m P L N F γ C ⟨d, .box t x,ty,pos,af,g⟩ ts ds w e' aE:=by
 have h1:=gm (ds:=ds) h hx
 simp only [bK] at hev
 split at hev
 case isFalse=>cases hev
 rename_i hok
 simp only [Option.some.injEq,Prod.mk.injEq] at hev
 obtain ⟨rfl,rfl⟩:=hev
 obtain ⟨c1,c2⟩:=h1.1.cells hok
 have c3:=h1.2.cells h1.1 hok
 obtain ⟨h1,h2⟩:=Fh (ds:=ds) (t:=t) (vs:=(Act.eval ⟨ts,ds⟩ x).cells) (cs:=(ev e x').cells.map AV.bN) h hd (by simpa using c1) (fun i a hi=>by
  rw [List.getElem?_map] at hi
  cases hb:(ev e x').cells[i]? with
  |none=>rw [hb] at hi;simp at hi
  |some b=>
   rw [hb] at hi
   obtain rfl:b.bN=a:=by simpa using hi
   refine ⟨(Wk.jz (Wk.bN b)).vr (c2 i b hb).1, ?_,vt b⟩
   have:=c3 i b hb
   generalize ((Act.eval ⟨ts,ds⟩ x).cells.getD i undef)=v at this
   cases b with
   |sl t k xs=>cases t<;>cases v<;>first|trivial|exact this
   |_=>exact this)
 refine ⟨_,_,_,C, .inl ?_,List.prefix_append _ _,h1,h2,fun _ s b hb=>(heap_alloc w _).2.1 b (eW h (p:= .obj s) hb),fun hq=>by simp [dV] at hq⟩
 simp [execOp,Instr.box,newVar,newRow]
theorem xz (h:SR L N F γ C e ah ts w) (hd:∀x,d=some x→x<N) {cs:Array Value} {t:TypeId} {fr:Nat×Nat} {Eb:List Value} {xs:List AV} {k n c:Nat}
 (hw:∀b,b<w.heap.size→w'.heap[b]? =w.heap[b]?) (hsz:w'.heap.size=w.heap.size+1) (hb:w'.heap[w.heap.size]? =some (.cells cs t fr)) (adm:Eb <+: cs.toList) (hone:∀v∈Eb,v.oneCell'=true) (hlen:Eb.length=n*k)
 (hn:n=xs.length) (hnc:n≤c) (hc:c*k≤cs.size) (hfr:∀i,i<c*k→¬(fr.1≤i∧i<fr.2)) (hk:∀(i:Nat) (a:AV),xs[i]? =some a→a.cells.length=k)
 (hx:∀(i:Nat) (a:AV),xs[i]? =some a→∀(j:Nat) (y:AV),a.cells[j]? =some y→VR C [] y (Eb.getD (i*k+j) undef)) (ho:jH w w':=by exact ⟨rfl,rfl,rfl⟩):
 ∃C',SR L N F γ C' (Am.aF L e d (.sl .own k xs)) ah (Act.put ⟨ts,ds⟩ d (.slice (some ⟨w.heap.size,0,none⟩) n c)).tmps w'∧Ext F C w C' w'∧
  SR L N F γ C' e ah ts w'∧VR C' γ (.sl .own k xs) (.slice (some ⟨w.heap.size,0,none⟩) n c):=by
 refine ⟨fun x=>if x=w.heap.size then Eb else C x, ?_⟩
 generalize uu:(fun x=>if x=w.heap.size then Eb else C x)=C'
 have c0:C' w.heap.size=Eb:=by rw [←uu];simp
 have c1:∀x,x≠w.heap.size→C' x=C x:=fun x hx=>by rw [←uu];simp [hx]
 obtain ⟨hg,he⟩:=h.grow (ho:=ho) (w':=w') (C':=C') hw (by omega) (fun b hb=>c1 b (by omega)) (fun b hbx hne=>by
  by_cases hx:b=w.heap.size
  · subst hx;rw [c0];exact ⟨cs,t,fr,hb,adm⟩
  · rw [c1 b hx,xy h hbx] at hne;exact absurd rfl hne)
 have hv:VR C' γ (.sl .own k xs) (.slice (some ⟨w.heap.size,0,none⟩) n c):=by
  refine .sl _ _ _ _ _ _ _ _ hn hnc hk (by rw [c0,hlen];omega) (fun q _ hq=>by rw [c0,List.getD_eq_getElem?_getD,List.getElem?_eq_getElem (by omega)];exact hone _ (List.getElem_mem _)) fun i a hi j y hj=> ?_
  rw [c0,Nat.zero_add]
  exact (hx i a hi j y hj).mono he.pre _ (fun _ _ h=>h)
 have hown:∀b,bG (.sl .own k xs) (.slice (some ⟨w.heap.size,0,none⟩) n c)=some b→b=w.heap.size:=by
  intro b hb
  simp only [bG] at hb
  split at hb
  · cases hb
  · exact (Option.some.inj hb).symm
 refine ⟨hg.uq hd hv ?_ fun b hb'=> ?_,he,hg,hv⟩
 · by_cases hcn:c=n
   · exact .inl hcn
   · refine .inr ⟨_,0,cs,t,fr,rfl,hb,by rw [c0,hlen,Nat.zero_add],by omega,fun i h1 h2=> ?_⟩
     have:=hfr i (by omega)
     simp [World.frozen?,hb]
     omega
 · have:=hown b hb'
   subst this
   refine ⟨fun hF=>Nat.lt_irrefl _ (h.iT.lt _ hF),fun p hp=> ?_⟩
   have hb0:blk γ e ah ts w p w.heap.size:=by
    cases p with
    |obj s=>exact hp
    |cell s i=>
     obtain ⟨x,a,b0,g1,g2,g3,g4⟩:=hp
     have:=eW h (p:= .obj s) (b:=b0) g3
     exact ⟨x,a,b0,g1,g2,g3,by rwa [gf (hw b0 this)] at g4⟩
    |tmp t=>exact hp
   exact Nat.lt_irrefl _ (eW h hb0)
theorem DP:∀ {xs:List AV} {l:List UInt8},bytesOf xs=some l→∀(f:Nat→Value),(∀(i:Nat) (a:AV),xs[i]? =some a→VR C [] a (f i))→
 ∃ns:List Int,ns.length=xs.length∧(∀i,i<xs.length→f i= .int .u8 (ns.getD i 0))∧ns.map (fun n=>UInt8.ofNat n.toNat)=l:=by
 intro xs
 induction xs with
 |nil=>intro l h f _;simp [bytesOf] at h;subst h;exact ⟨[],rfl,by simp,rfl⟩
 |cons a r ih=>
  intro l h f hf
  unfold bytesOf at h
  split at h
  · rename_i heq;cases heq
  · rename_i i r' heq
    injection heq with e1 e2
    subst e1;subst e2
    cases hb:bytesOf r with
    |none=>rw [hb] at h;cases h
    |some l'=>
     rw [hb] at h
     simp only [Option.map_some,Option.some.injEq] at h
     subst h
     obtain ⟨ns,n1,n2,n3⟩:=ih hb (fun j=>f (j+1)) (fun j a hj=>hf (j+1) a (by simpa using hj))
     refine ⟨i::ns,by simp [n1],fun j hj=> ?_,by simp [n3]⟩
     cases j with
     |zero=>simpa using (hf 0 _ rfl).dh
     |succ j=>simpa using n2 j (by simpa using hj)
  · cases h
theorem Lf {s t:TypeId} {hh:Cv} {x:Operand} {x':Ar} (h:SR L N F γ C e ah ts w) (hd:∀x,d=some x→x<N) (hx:bA x=some x') (hc:IZ P s t=some hh)
 (hev:((fS hh (ev e x')).map fun a=>(Am.aF L e d a,ah))=some (e',aE)):bf m P L N F γ C ⟨d, .convert s t x,ty,pos,af,g⟩ ts ds w e' aE:=by
 have h1:=bV (ds:=ds) h hx
 cases ha:fS hh (ev e x') with
 |none=>rw [ha] at hev;cases hev
 |some r=>
  rw [ha] at hev
  simp only [Option.map_some,Option.some.injEq,Prod.mk.injEq] at hev
  obtain ⟨rfl,rfl⟩:=hev
  unfold IZ at hc
  split at hc
  · rename_i k0 k hs ht
    simp only [Option.some.injEq] at hc;subst hc
    generalize hb:ev e x'=b at ha h1
    cases b<;>simp [fS] at ha
    subst ha
    refine bf.plain h hd (v:= .int k (k.wrap _)) ?_ (.int ..) trivial rfl
    simp [execOp,h1.1.dh,convert,bQ hs,bQ ht,Conv.intToInt]
  · rename_i hs ht
    simp only [Option.some.injEq] at hc;subst hc
    generalize hb:ev e x'=b at ha h1
    cases b<;>simp [fS] at ha
    subst ha
    exact bf.plain h hd (v:= .string ⟨_⟩) (fun w _=>by simp [execOp,h1.1.dJ,convert,bQ hs,bQ ht]) (.str ..) trivial rfl
  · rename_i el hs ht
    split at hc
    case h_2=>cases hc
    rename_i hel
    split at hc
    case isFalse=>cases hc
    rename_i hsz
    simp only [Option.some.injEq] at hc;subst hc
    generalize hb:ev e x'=b at ha h1
    cases b<;>simp [fS] at ha
    rename_i l
    subst ha
    have hv:=h1.1.dJ
    have hrun:=run_bytes_of_string (P:=P) w s t el ⟨l.toArray⟩ hs ht hel
    have hlen:(⟨l.toArray⟩:ByteArray).size=l.length:=by simp [ByteArray.size]
    rw [hlen] at hrun
    generalize hcap:grownCap w l.length 0 el=cap at hrun
    have hge:l.length≤cap:=by rw [←hcap];exact grownCap_ge w _ _ _
    have UD:bytesRow ⟨l.toArray⟩ cap=(l.map fun b=>Value.int .u8 b.toNat).toArray++Array.replicate (cap - l.length) (.int .u8 0):=by
     simp [bytesRow,hlen]
    have NC:(bytesRow ⟨l.toArray⟩ cap).size=cap:=by rw [UD];simp;omega
    rw [NC] at hrun
    obtain ⟨q1,q2,q3⟩:=heap_alloc w.drew (.cells (bytesRow ⟨l.toArray⟩ cap) el (cap,cap+1))
    obtain ⟨C',g1,g2, -, -⟩:=xz (ds:=ds) (w':=w.drew.alloc (.cells (bytesRow ⟨l.toArray⟩ cap) el (cap,cap+1))) (d:=d) (Eb:=l.map fun b=>Value.int .u8 b.toNat) (xs:=l.map b8) (k:=1) (n:=l.length) (c:=cap)
     h hd q2 q3 q1 (by rw [UD];simp) (by simp [Value.oneCell']) (by simp) (by simp) hge (by rw [NC];omega) (fun i hi=>by simp;omega)
     (fun i a hi=>by rw [List.getElem?_map] at hi;cases hq:l[i]? <;>rw [hq] at hi<;>simp at hi;subst hi;rfl)
     (fun i a hi j y hj=>by
      rw [List.getElem?_map] at hi
      cases hq:l[i]? with
      |none=>rw [hq] at hi;simp at hi
      |some b=>
       rw [hq] at hi
       obtain rfl:b8 b=a:=by simpa using hi
       cases j with
       |zero=>
        obtain rfl:b8 b=y:=by simpa [AV.cells,b8] using hj
        simp [List.getD_eq_getElem?_getD,hq]
        exact .int ..
       |succ j=>simp [AV.cells,b8] at hj)
    refine ⟨_,_,γ,C', .inl ?_,List.prefix_refl _,g1,g2,fun _ s b hb=>q2 b (eW h (p:= .obj s) hb),fun hq=>by simp [dV,ht] at hq⟩
    simp [execOp,hv,hrun]
  · rename_i el hs ht
    split at hc
    case h_2=>cases hc
    rename_i hel
    split at hc
    case isFalse=>cases hc
    rename_i hsz
    simp only [Option.some.injEq] at hc;subst hc
    generalize hb:ev e x'=b at ha h1
    cases b<;>try (simp [fS] at ha;done)
    rename_i tg k xs
    by_cases hk:k=1
    case neg=>simp only [fS] at ha;split at ha<;>simp_all
    subst hk
    simp only [fS] at ha
    cases hby:bytesOf xs with
    |none=>rw [hby] at ha;cases ha
    |some l=>
     rw [hby] at ha
     simp only [Option.map_some,Option.some.injEq] at ha
     subst ha
     obtain ⟨ad,c,hv, -,hcase⟩:=h1.1.ff
     refine bf.plain h hd (v:= .string ⟨l.toArray⟩) ?_ (.str ..) trivial rfl
     intro w2 hka
     have key:(Conv.bytesToString (.slice ad xs.length c)).run P w2= .ok (.string ⟨l.toArray⟩) w2:=by
      rcases hcase with rfl|⟨b,o,rfl,hkk,hle,hcells⟩
      · simp only [bytesOf,Option.some.injEq] at hby
        subst hby
        cases ad with
        |none=>rfl
        |some a=>simp [Conv.bytesToString,loadCells,loadCellsFrom];rfl
      · have h0:∀(i:Nat) (a:AV),xs[i]? =some a→VR C [] a ((C b).getD (o+i) undef):=by
         intro i a hi
         have hc1:=hkk i a hi
         have hall:=hcells i a hi
         cases a with
         |agg cs=>
          exfalso
          have:∀ {xs:List AV} {l:List UInt8},bytesOf xs=some l→∀(i:Nat) (cs:List AV),xs[i]? ≠some (.agg cs):=by
           intro xs
           induction xs with
           |nil=>intro l _ i cs;simp
           |cons y r ih=>
            intro l hl i cs hi
            unfold bytesOf at hl
            split at hl
            · rename_i heq;cases heq
            · rename_i j r' heq
              injection heq with e1 e2;subst e1;subst e2
              cases hb:bytesOf r with
              |none=>rw [hb] at hl;cases hl
              |some l'=>cases i with
               |zero=>simp at hi
               |succ i=>exact ih hb i cs (by simpa using hi)
            · cases hl
          exact this hby i cs hi
         |_=>have:=hall 0 _ rfl;simpa using this
        obtain ⟨ns,n1,n2,n3⟩:=DP hby (fun i=>(C b).getD (o+i) undef) h0
        have hlc:(loadCells ⟨b,o,none⟩ xs.length).run P w2= .ok (ns.map (Value.int .u8)).toArray w2:=by
         obtain ⟨r,hr,hrs, -,hrc⟩:=kX (P:=P) (w:=w2) (b:=b) (o:=o) xs.length 0 #[] (fun j _ hj=>⟨_,(hka.1 b (o+j) (by omega)).trans (pU h (by omega))⟩)
         have:r=(ns.map (Value.int .u8)).toArray:=by
          apply Array.ext_getElem?
          intro j
          by_cases hj:j<xs.length
          · have e1:=hrc j hj
            simp only [List.size_toArray,List.length_nil,Nat.zero_add] at e1
            rw [e1,hka.1 b (o+j) (by omega),pU h (by omega),n2 j hj]
            simp [List.getD_eq_getElem?_getD,n1,hj]
          · rw [Array.getElem?_eq_none (by simp at hrs;omega),Array.getElem?_eq_none (by simp;omega)]
         rw [this] at hr
         exact hr
        rw [run_bytesToString w2 _ _ _ ns hlc]
        have:∀(ns:List Int) (acc:List UInt8),ns.foldl (fun r n=>r.push (UInt8.ofNat n.toNat)) (⟨acc.toArray⟩:ByteArray)=⟨(acc++ns.map fun n=>UInt8.ofNat n.toNat).toArray⟩:=by
         intro ns
         induction ns with
         |nil=>intro acc;simp
         |cons n r ih=>intro acc;simp only [List.foldl_cons];have:=ih (acc++[UInt8.ofNat n.toNat]);simp only [List.map_cons];rw [List.append_cons, ←this];congr 1;simp [ByteArray.push]
        have h3:=this ns []
        rw [n3] at h3
        rw [show ByteArray.empty=(⟨([]:List UInt8).toArray⟩:ByteArray) from rfl,h3];rfl
     simp [execOp,hv,convert,bQ hs,bQ ht,bQ hel,key]
  · cases hc
theorem UE {s t:TypeId} {x:Operand} {x':Ar} (h:SR L N F γ C e ah ts w) (hd:∀x,d=some x→x<N) (hx:bA x=some x') (hc:IZ P s t=some .bs)
 (hev:bK L ⟨d, .KZ x',none⟩ e ah=some (e',aE)):bf m P L N F γ C ⟨d, .convert s t x,ty,pos,af,g⟩ ts ds w e' aE:=
 Lf h hd hx hc (by simpa only [bK] using hev)
theorem YG {s t:TypeId} {hh:Cv} {x:Operand} {x':Ar} (h:SR L N F γ C e ah ts w) (hd:∀x,d=some x→x<N) (hx:bA x=some x') (hc:IZ P s t=some hh) (hm:m=true∨hh≠ .bs)
 (hev:bK L ⟨d, .iS hh x',none⟩ e ah=some (e',aE)):bf m P L N F γ C ⟨d, .convert s t x,ty,pos,af,g⟩ ts ds w e' aE:=by
 simp only [bK] at hev
 split at hev
 case h_2=>exact Lf h hd hx hc hev
 rename_i s0 kk p n hms
 obtain rfl:m=true:=hm.resolve_right (fun q=>q rfl)
 split at hev
 case isFalse=>cases hev
 rename_i hk
 subst hk
 split at hev
 case h_2=>cases hev
 rename_i cs hcs
 split at hev
 case isFalse=>cases hev
 rename_i hle
 cases hby:bytesOf ((cs.drop p).take n) with
 |none=>rw [hby] at hev;cases hev
 |some l=>
  rw [hby] at hev
  simp only [Option.map_some,Option.some.injEq,Prod.mk.injEq] at hev
  obtain ⟨rfl,rfl⟩:=hev
  have h1:=bV (ds:=ds) h hx
  rw [hms] at h1
  obtain ⟨b,c,hb,hnc,hv⟩:=h1.1.xo
  obtain ⟨vs,tv,aa0,hsz,hcell⟩:=h.mem.obj s0 b cs hcs hb
  unfold IZ at hc
  split at hc
  · cases hc
  · cases hc
  · split at hc
    · split at hc<;>cases hc
    · cases hc
  · rename_i el hs ht
    split at hc
    case h_2=>cases hc
    rename_i hel
    refine bf.plain h hd (v:= .string ⟨l.toArray⟩) ?_ (.str ..) trivial rfl
    intro w2 hka
    have hlen:((cs.drop p).take n).length=n:=by simp;omega
    have Fi:w2.heap[b]? =w.heap[b]? :=hka.2 rfl s0 b hb
    obtain ⟨ns,n1,n2,n3⟩:=DP (C:=C) hby (fun i=>vs.getD (p+i) undef) (fun i a hi=>by
     have hin:i<n:=by have:=(List.getElem?_eq_some_iff.1 hi).1;rw [hlen] at this;exact this
     rw [List.getElem?_take_of_lt hin,List.getElem?_drop] at hi
     have hh:=(hcell (p+i) a hi).1
     have hbyte:∀ {xs:List AV} {l:List UInt8},bytesOf xs=some l→∀(i:Nat) (a:AV),xs[i]? =some a→∃z,a= .int .u8 z:=by
      intro xs
      induction xs with
      |nil=>intro l _ i a;simp
      |cons y r ih=>
       intro l hl i a hi
       unfold bytesOf at hl
       split at hl
       · rename_i heq;cases heq
       · rename_i j r' heq
         injection heq with e1 e2;subst e1;subst e2
         cases hb:bytesOf r with
         |none=>rw [hb] at hl;cases hl
         |some l'=>cases i with
          |zero=>simp at hi;exact ⟨j,hi.symm⟩
          |succ i=>exact ih hb i a (by simpa using hi)
       · cases hl
     obtain ⟨z,rfl⟩:=hbyte hby i a (by rw [List.getElem?_take_of_lt hin,List.getElem?_drop];exact hi)
     have:=hh.dh
     rw [this];exact .int ..)
    rw [hlen] at n1 n2
    have hlc:(loadCells ⟨b,p,none⟩ n).run P w2= .ok (ns.map (Value.int .u8)).toArray w2:=by
     have Qo:∀j,j<n→w2.cell? ⟨b,p+j,none⟩=some (vs.getD (p+j) undef):=fun j hj=>by
      rw [gf Fi,cz aa0]
      have:p+j<vs.size:=by omega
      simp [Array.getD_eq_getD_getElem?,Array.getElem?_eq_getElem this]
     obtain ⟨r,hr,hrs, -,hrc⟩:=kX (P:=P) (w:=w2) (b:=b) (o:=p) n 0 #[] (fun j _ hj=>⟨_,Qo j (by omega)⟩)
     have:r=(ns.map (Value.int .u8)).toArray:=by
      apply Array.ext_getElem?
      intro j
      by_cases hj:j<n
      · have e1:=hrc j hj
        simp only [List.size_toArray,List.length_nil,Nat.zero_add] at e1
        rw [e1,Qo j hj,n2 j hj]
        simp [List.getD_eq_getElem?_getD,n1,hj]
      · rw [Array.getElem?_eq_none (by simp at hrs;omega),Array.getElem?_eq_none (by simp;omega)]
     rw [this] at hr
     exact hr
    have key:(Conv.bytesToString (.slice (some ⟨b,p,none⟩) n c)).run P w2= .ok (.string ⟨l.toArray⟩) w2:=by
     rw [run_bytesToString w2 _ _ _ ns hlc]
     have:∀(ns:List Int) (acc:List UInt8),ns.foldl (fun r n=>r.push (UInt8.ofNat n.toNat)) (⟨acc.toArray⟩:ByteArray)=⟨(acc++ns.map fun n=>UInt8.ofNat n.toNat).toArray⟩:=by
      intro ns
      induction ns with
      |nil=>intro acc;simp
      |cons n r ih=>intro acc;simp only [List.foldl_cons];have:=ih (acc++[UInt8.ofNat n.toNat]);simp only [List.map_cons];rw [List.append_cons, ←this];congr 1;simp [ByteArray.push]
     have h3:=this ns []
     rw [n3] at h3
     rw [show ByteArray.empty=(⟨([]:List UInt8).toArray⟩:ByteArray) from rfl,h3];rfl
    simp [execOp,hv,convert,bQ hs,bQ ht,bQ hel,key]
  · cases hc
theorem UH {s t:TypeId} {x:Operand} {x':Ar} (h:SR L N F γ C e ah ts w) (hd:∀x,d=some x→x<N) (hx:bA x=some x') (hc:IZ P s t=some .sb)
 (hev:bK L ⟨d, .um x',none⟩ e ah=some (e',aE)):bf m P L N F γ C ⟨d, .convert s t x,ty,pos,af,g⟩ ts ds w e' aE:=by
 have h1:=bV (ds:=ds) h hx
 simp only [bK] at hev
 split at hev
 case h_2=>cases hev
 rename_i l hl
 simp only [Option.some.injEq,Prod.mk.injEq] at hev
 obtain ⟨rfl,rfl⟩:=hev
 rw [hl] at h1
 have hv:=h1.1.dJ
 unfold IZ at hc
 split at hc
 · cases hc
 · cases hc
 · rename_i el hs ht
   split at hc
   case h_2=>cases hc
   rename_i hel
   have hrun:=run_bytes_of_string (P:=P) w s t el ⟨l.toArray⟩ hs ht hel
   have hlen:(⟨l.toArray⟩:ByteArray).size=l.length:=by simp [ByteArray.size]
   rw [hlen] at hrun
   generalize hcap:grownCap w l.length 0 el=cap at hrun
   have hge:l.length≤cap:=by rw [←hcap];exact grownCap_ge w _ _ _
   have UD:bytesRow ⟨l.toArray⟩ cap=(l.map fun b=>Value.int .u8 b.toNat).toArray++Array.replicate (cap - l.length) (.int .u8 0):=by
    simp [bytesRow,hlen]
   have NC:(bytesRow ⟨l.toArray⟩ cap).size=cap:=by rw [UD];simp;omega
   rw [NC] at hrun
   obtain ⟨q1,q2,q3⟩:=heap_alloc w.drew (.cells (bytesRow ⟨l.toArray⟩ cap) el (cap,cap+1))
   have q2':∀b,b<w.heap.size→(w.drew.alloc (.cells (bytesRow ⟨l.toArray⟩ cap) el (cap,cap+1))).heap[b]? =w.heap[b]? :=q2
   have q3':(w.drew.alloc (.cells (bytesRow ⟨l.toArray⟩ cap) el (cap,cap+1))).heap.size=w.heap.size+1:=q3
   obtain ⟨hg,UI⟩:=h.grow (w':=w.drew.alloc (.cells (bytesRow ⟨l.toArray⟩ cap) el (cap,cap+1))) (C':=C) q2' (by omega) (fun _ _=>rfl) (fun b hb hne=>absurd (xy h hb) hne)
   have ho:=hg.I9 (b:=w.heap.size) (cs:=l.map b8) q1 (fun i hi=>by simp at hi ⊢;omega) (by rw [NC];simpa using hge) (fun i a hi=>by
    rw [List.getElem?_map] at hi
    cases hq:l[i]? with
    |none=>rw [hq] at hi;simp at hi
    |some u=>
     rw [hq] at hi
     obtain rfl:b8 u=a:=by simpa using hi
     have hil:i<l.length:=(List.getElem?_eq_some_iff.1 hq).1
     have hval:(bytesRow ⟨l.toArray⟩ cap).getD i undef= .int .u8 u.toNat:=by
      rw [UD]
      simp [Array.getD_eq_getD_getElem?,Array.getElem?_append,hil,hq]
      rw [List.getElem?_eq_getElem hil] at hq
      injection hq with hq
      rw [hq]
     rw [hval]
     exact ⟨.int ..,trivial,rfl⟩) (xy h (Nat.le_refl _)) (fun hF=>Nat.lt_irrefl _ (h.iT.lt _ hF)) (fun p hp=>by
    have hb0:blk γ e ah ts w p w.heap.size:=by
     cases p with
     |obj s=>exact hp
     |cell s i=>
      obtain ⟨x,a,b0,g1,g2,g3,g4⟩:=hp
      have:=eW h (p:= .obj s) (b:=b0) g3
      exact ⟨x,a,b0,g1,g2,g3,by rwa [gf (q2' b0 this)] at g4⟩
     |tmp t=>exact hp
    exact Nat.lt_irrefl _ (eW h hb0))
   have ND:(γ++[w.heap.size])[ah.length]? =some w.heap.size:=by
    rw [List.getElem?_append_right (by rw [h.mem.len];exact Nat.le_refl _),h.mem.len];simp
   refine ⟨_,_,γ++[w.heap.size],C, .inl ?_,List.prefix_append _ _,ho.aF hd (.cN _ _ _ _ _ w.heap.size cap ND hge) trivial rfl (by simp),UI,fun _ s b hb=>q2' b (eW h (p:= .obj s) hb),fun hq=>by simp [dV,ht] at hq⟩
   simp [execOp,hv,hrun]
 · split at hc
   · split at hc<;>cases hc
   · cases hc
 · cases hc
theorem UJ {op:BinOp} {t:TypeId} {ms:Array (String×TypeId)} {x:Operand} {x':Ar} {neq:Bool} (h:SR L N F γ C e ah ts w) (hd:∀x,d=some x→x<N) (hx:bA x=some x')
 (hu:P.underlying t=some (.interface ms)) (hop:op=if neq then .neq else .eql)
 (hev:bK L ⟨d, .iq neq x' (.c (.v .nilIface)),none⟩ e ah=some (e',aE)):bf m P L N F γ C ⟨d, .binOp op t x (.const .nilIface) p8,ty,pos,af,g⟩ ts ds w e' aE:=by
 have h1:=bV (ds:=ds) h hx
 have hif:P.isIface t=true:=by simp [Program.isIface,hu]
 have hcn:Act.eval ⟨ts,ds⟩ (.const .nilIface)= .nilIface:=rfl
 simp only [bK] at hev
 rw [show ev e (.c (.v .nilIface))= .v .nilIface from rfl] at hev
 cases hb:Nr (ev e x') (.v .nilIface) with
 |none=>rw [hb] at hev;cases hev
 |some r=>
  rw [hb] at hev
  simp only [Option.map_some,Option.some.injEq,Prod.mk.injEq] at hev
  obtain ⟨rfl,rfl⟩:=hev
  unfold Nr at hb
  split at hb<;>simp only [Option.some.injEq,reduceCtorEq] at hb<;>subst hb
  · rename_i ha _
    rw [ha] at h1
    obtain ⟨u,z,e1⟩:=h1.1.Un
    refine bf.plain h hd (v:= .bool (if neq then !false else false)) ?_ (.bool ..) trivial rfl
    intro w _
    cases neq<;>simp only [Bool.false_eq_true,if_false,if_true] at hop<;>subst hop
    · simp [execOp,e1,hcn,eqGuard,run_eql_iface_nil w t hif]
    · simp [execOp,e1,hcn,eqGuard,run_neq_iface_nil w t hif]
  · rename_i ha _
    rw [ha] at h1
    have e1:=h1.1.Fa.1
    refine bf.plain h hd (v:= .bool (if neq then !true else true)) ?_ (.bool ..) trivial rfl
    intro w _
    cases neq<;>simp only [Bool.false_eq_true,if_false,if_true] at hop<;>subst hop
    · simp [execOp,e1,hcn,eqGuard,run_eql_nil_nil_at w t hif]
    · simp [execOp,e1,hcn,eqGuard,run_neq_nil_nil_at w t hif]
theorem UL {t:TypeId} {x y:Operand} {x' y':Ar} {mx:Bool} (h:SR L N F γ C e ah ts w) (hd:∀x,d=some x→x<N) (hx:bA x=some x') (hy:bA y=some y')
 (hev:bK L ⟨d, .mm mx x' y',none⟩ e ah=some (e',aE)):bf m P L N F γ C ⟨d, .call {callee:= .builtin (if mx then .max else .min),args:= #[x,y],argTypes:= #[t,t]},ty,pos,af,g⟩ ts ds w e' aE:=by
 have h1:=bV (ds:=ds) h hx
 have h2:=bV (ds:=ds) h hy
 simp only [bK] at hev
 cases hb:K1 mx (ev e x') (ev e y') with
 |none=>rw [hb] at hev;cases hev
 |some r=>
  rw [hb] at hev
  simp only [Option.map_some,Option.some.injEq,Prod.mk.injEq] at hev
  obtain ⟨rfl,rfl⟩:=hev
  unfold K1 at hb
  split at hb
  case h_2=>cases hb
  rename_i k i k' j hi hj
  split at hb
  case isFalse=>cases hb
  rename_i hkk
  simp only [Option.some.injEq] at hb
  subst hb
  subst hkk
  rw [hi] at h1;rw [hj] at h2
  have e1:=h1.1.dh
  have e2:=h2.1.dh
  refine bf.plain h hd (v:= .int k (if mx then max i j else min i j)) ?_ (.int ..) trivial rfl
  intro w _
  cases mx
  · have:min i j=if j<i then j else i:=by rw [Int.min_def];split<;>split<;>omega
    simp [execOp,resolve,invoke,builtin,Builtin.min_,Builtin.min2,e1,e2,this]
  · have:max i j=if j>i then j else i:=by rw [Int.max_def];split<;>split<;>omega
    simp [execOp,resolve,invoke,builtin,Builtin.max_,Builtin.max2,e1,e2,this]
end
end Go.Am
end
section
namespace Go.Am
open Go
variable [Tabs]
section
variable {P:Program} {L:List Nat} {N:Nat} {F:Nat→Prop} {γ:List Nat} {C C':Nat→List Value} {e:Env} {ah:AH} {ts:Array Value} {ds:List Deferred} {w w':World} {m:Bool}
variable {d:Option Nat} {ty p8:TypeId} {pos:String} {af:Array Edge} {g:Option (Nat×Bool)} {e':Env} {aE:AH}
theorem xA {cs ws cs':List AV} {o:Nat} (h:over cs o ws=some cs'):o+ws.length≤cs.length∧cs'.length=cs.length∧
 ∀i,cs'[i]? =if o≤i∧i<o+ws.length then ws[i - o]? else cs[i]? :=by
 unfold over at h
 split at h
 case isFalse=>cases h
 rename_i hl
 injection h with h
 subst h
 refine ⟨hl,by simp;omega,fun i=> ?_⟩
 by_cases h1:i<o
 · rw [if_neg (by omega),List.append_assoc,List.getElem?_append_left (by simp;omega),List.getElem?_take_of_lt h1]
 · by_cases h2:i<o+ws.length
   · rw [if_pos ⟨by omega,h2⟩,List.getElem?_append_left (by simp;omega),List.getElem?_append_right (by simp;omega)]
     congr 1;simp;omega
   · rw [if_neg (by omega),List.getElem?_append_right (by simp;omega),List.getElem?_drop]
     congr 1;simp;omega
theorem YH {t:TypeId} (ht:tok P t=true) {b p:Nat} {v:Value} {old:Array Value} {tv:TypeId×Nat×Nat} (hold:w.heap[b]? =some (.cells old tv.1 tv.2)) (hnf:∀j,j<v.cells.size→¬(tv.2.1≤p+j∧p+j<tv.2.2)) (hsz:v.cells.size=cP P t)
 (hl:p+v.cells.size≤old.size) (h1:∀i,i<v.cells.size→(v.cells.getD i undef).oneCell'=true):
 (Instr.storeAt t (.pointer (some ⟨b,p,none⟩)) v).run P w= .ok () (w.setCells b p v.cells.toList):=by
 simp only [tok,Bool.and_eq_true] at ht
 have:=run_storeCells_cells (P:=P) b p v.cells.toList 0 w (fun j hj=>by
  rw [cz hold];simp at hj;simp;omega) (fun j hj=>by have h0:=hnf j (by simpa using hj);simp only [World.frozen?,hold];simpa using h0) (fun u hu=>by
  obtain ⟨i,hi,rfl⟩:=List.getElem_of_mem hu
  have:=h1 i (by simpa using hi)
  simpa [Array.getD_eq_getD_getElem?,Array.getElem?_eq_getElem (show i<v.cells.size by simpa using hi)] using this)
 simp [Instr.storeAt,Instr.sureAddr,storeVar,e8 ht.2,hsz,this]
theorem aa1 {t:TypeId} {a x:Operand} {a' x':Ar} (h:SR L N F γ C e ah ts w) (ha:bA a=some a') (hx:dB P t x=some x') (ht:tok P t=true)
 (hev:bK L ⟨none, .st a' x' (cP P t),none⟩ e ah=some (e',aE)):bf m P L N F γ C ⟨none, .store t a x,ty,pos,af,g⟩ ts ds w e' aE:=by
 have h1:=bV (ds:=ds) h ha
 have h2:=gm (ds:=ds) h hx
 simp only [bK] at hev
 split at hev
 case h_2=>cases hev
 rename_i s p he
 split at hev
 case h_2=>cases hev
 rename_i cs hcs
 rw [he] at h1
 obtain ⟨b,hb,hv⟩:=h1.1.gb
 obtain ⟨old,tv,hold,UM,Nz⟩:=h.mem.obj s b cs hcs hb
 have fin:∀ {v:Value} {ws cs':List AV} {e2:Env},Act.eval ⟨ts,ds⟩ x=v→SR L N F γ C e2 ah ts w→over cs p ws=some cs'→v.cells.size=ws.length→v.cells.size=cP P t→
  (∀i,i<v.cells.size→(v.cells.getD i undef).oneCell'=true)→
  (∀(i:Nat) (a:AV),ws[i]? =some a→(a.bY=false∧VR C γ a (v.cells.getD i undef)∧TC w C a (v.cells.getD i undef))∨
   (i=0∧VR C γ a (v.cells.getD i undef)∧TC w C a (v.cells.getD i undef)∧(∀b',bG a (v.cells.getD i undef)=some b'→¬F b'∧∀q,¬blk γ e2 ah ts w q b')∧(∀T,a≠ .dy T)∧∀t k xs,get e2 t≠ .sl (.fr (.cell s p)) k xs))→
  bf m P L N F γ C ⟨none, .store t a x,ty,pos,af,g⟩ ts ds w e2 (ah.set s cs'):=by
  intro v ws cs' e2 Ea lS hov hvs hvt hone hws
  obtain ⟨o1,o2,o3⟩:=xA hov
  have afP:p+ws.length≤cs.length:=by unfold over at hov;split at hov<;>simp_all
  have hrun:=YH (P:=P) (w:=w) (p:=p) ht hold (fun j hj=>h.mem.xq s b cs old tv.1 tv.2 hcs hb hold _ (by omega)) hvt (by omega) hone
  obtain ⟨⟨nw,g1,g2,g3⟩,g4,g5⟩:=qa b v.cells.toList p w old tv.1 tv.2 hold (by simp;omega)
  have cV:=lS.E2 (ho:=tE b v.cells.toList p w) (p:=p) (cs':=cs') hcs hb hold g1 g2 o2 g4 g5 (fun hz=>by
   subst hz
   have hw0:ws.length=0:=by unfold over at hov;split at hov<;>simp_all
   apply Array.ext_getElem?
   intro i
   have hg:=g3 i
   rw [if_neg (by simp;omega)] at hg
   by_cases hi:i<old.size
   · rw [Array.getElem?_eq_getElem hi,Array.getElem?_eq_getElem (by omega)]
     simpa [Array.getD_eq_getD_getElem?,Array.getElem?_eq_getElem hi,Array.getElem?_eq_getElem (show i<nw.size by omega)] using hg
   · rw [Array.getElem?_eq_none (by omega),Array.getElem?_eq_none (by omega)]) (fun i a hi=>by
   rw [o3 i] at hi
   have hg:=g3 i
   simp only [Array.length_toList] at hg
   by_cases hin:p≤i∧i<p+ws.length
   · rw [if_pos hin] at hi
     rw [if_pos (by omega),iI] at hg
     rw [hg]
     rcases hws (i - p) a hi with q|⟨q0,q⟩
     · exact .inr (.inl q)
     · exact .inr (.inr ⟨by omega,q⟩)
   · rw [if_neg hin] at hi
     rw [if_neg (by omega)] at hg
     exact .inl ⟨hi,hg⟩)
  refine ⟨undef,_,γ,C, .inr ⟨?_,rfl⟩,List.prefix_refl _,cV.1,cV.2,fun hq=>by simp [iF] at hq,fun hq=>by simp [dV] at hq⟩
  simp [execOp,hv,Ea,hrun]
 split at hev
 · rename_i k xs y zP
   split at hev
   case isFalse=>cases hev
   rename_i hn1
   cases hov:over cs p [.sl .own k xs] with
   |none=>rw [hov] at hev;cases hev
   |some cs'=>
    rw [hov] at hev
    simp only [Option.map_some,Option.some.injEq,Prod.mk.injEq] at hev
    obtain ⟨rfl,rfl⟩:=hev
    have Ny:=yz hx y rfl
    subst Ny
    simp only [ev] at zP
    simp only [ev,zP] at h2
    have hw1:SR L N F γ C (Am.put e y (.sl .n k xs)) ah ts w:=h.uo (by rw [zP];exact .n ..)
    have Fi:=hw1.lR (.cell s p)
    obtain ⟨ad,c,hval, -⟩:=h2.1.ff
    refine fin (v:= .slice ad xs.length c) hval Fi hov rfl hn1.symm (fun i hi=> ?_) (fun i a hi=> ?_)
    · have:i=0:=by simp [Value.cells] at hi;omega
      subst this;rfl
    · cases i with
      |succ i=>simp at hi
      |zero=>
       obtain rfl:AV.sl .own k xs=a:=by simpa using hi
       rw [hval] at h2
       refine .inr ⟨rfl,h2.1,h2.2,fun b' hb'=> ?_,by simp,fun u k' xs' hg=> ?_⟩
       · have hb0:blk γ e ah ts w (.tmp y) b':=by
          simp only [blk,zP];rw [show ts.getD y undef= .slice ad xs.length c from hval];exact hb'
         refine ⟨h.nf _ _ hb0,fun q hq=> ?_⟩
         have hq0:blk γ e ah ts w q b':=by
          cases q with
          |obj s=>exact hq
          |cell s i=>exact hq
          |tmp u=>
           simp only [blk,nO,fK] at hq ⊢
           by_cases hu:u=y
           · rw [if_pos hu] at hq;simp [AV.e5,bG] at hq
           · rw [if_neg hu] at hq;exact (Wk.e5 _ _).own hq
         have:=h.dD _ _ _ hq0 hb0
         subst this
         simp only [blk,nO,fK,if_true] at hq
         simp [AV.e5,bG] at hq
       · rw [nO] at hg
         generalize get (Am.put e y (.sl .n k xs)) u=a at hg
         cases a with
         |sl t k xs=>cases t with
          |fr m=>simp only [AV.e5] at hg;split at hg
                 · simp at hg
                 · rename_i hm;simp at hg;exact hm hg.1
          |_=>simp [AV.e5] at hg
         |_=>simp [AV.e5] at hg
 · rename_i x' _ _ hnot
   split at hev
   case isFalse=>cases hev
   rename_i hc
   obtain ⟨hcl,hok⟩:=hc
   cases hov:over cs p ((ev e x').cells.map AV.bN) with
   |none=>rw [hov] at hev;cases hev
   |some cs'=>
    rw [hov] at hev
    simp only [Option.map_some,Option.some.injEq,Prod.mk.injEq] at hev
    obtain ⟨rfl,rfl⟩:=hev
    obtain ⟨c1,c2⟩:=h2.1.cells hok
    have c3:=h2.2.cells h2.1 hok
    refine fin rfl h hov (by simp [c1]) (by omega) (fun i hi=> ?_) (fun i a hi=> ?_)
    · have hlt:i<(ev e x').cells.length:=by omega
      exact (c2 i _ (List.getElem?_eq_getElem hlt)).2
    · rw [List.getElem?_map] at hi
      cases hq:(ev e x').cells[i]? with
      |none=>rw [hq] at hi;simp at hi
      |some y=>
       rw [hq] at hi
       obtain rfl:y.bN=a:=by simpa using hi
       exact .inl ⟨iH (vt y),(Wk.jz (Wk.bN y)).vr (c2 i y hq).1,E0 (c3 i y hq)⟩
theorem SR.Re (h:SR L N F γ C e ah ts w) {s q k:Nat} {cs cs' zs:List AV} (hs:ah[s]? =some cs) (hq:cs[q]? =some (.sl .own k zs)) (ho:over cs q [.sl .n k zs]=some cs'):
 SR L N F γ C e (ah.set s cs') ts w:=by
 have hlt:s<γ.length:=by rw [h.mem.len];exact (List.getElem?_eq_some_iff.1 hs).1
 have hb:γ[s]? =some γ[s]:=List.getElem?_eq_getElem hlt
 obtain ⟨old,tv,hold,UM,Nz⟩:=h.mem.obj s _ cs hs hb
 obtain ⟨o1,o2,o3⟩:=xA ho
 exact (h.E2 (w':=w) (p:=q) hs hb hold hold rfl o2 (fun _ _=>rfl) rfl (fun _=>rfl) (fun i a hi=>by
  rw [o3 i] at hi
  by_cases hin:q≤i∧i<q+1
  · have:i=q:=by omega
    subst this
    rw [if_pos (by simp)] at hi
    obtain rfl:AV.sl .n k zs=a:=by simpa using hi
    exact .inr (.inl ⟨rfl,(Nz i _ hq).1.kR _,by generalize old.getD i undef=v;cases v<;>trivial⟩)
  · rw [if_neg (by simp;omega)] at hi
    exact .inl ⟨hi,rfl⟩)).1
end
end Go.Am
end
section
namespace Go.Am
open Go
variable [Tabs]
section
variable {P:Program} {L:List Nat} {N:Nat} {F:Nat→Prop} {γ:List Nat} {C C':Nat→List Value} {e:Env} {ah:AH} {ts:Array Value} {ds:List Deferred} {w w':World} {m0:Bool}
variable {d:Option Nat} {ty p8:TypeId} {pos:String} {af:Array Edge} {g:Option (Nat×Bool)} {e':Env} {aE:AH}
theorem mB {t u el:TypeId} {du:TypeDesc} {i:TypeInfo} (ht:P.underlying t=some (.slice el)) (hu:P.underlying u=some du) (Hj:du= .string∨∃s,du= .slice s) (hi:P.info? el=some i)
 {base:Option Addr} {n c m:Nat} {x:Value} {news:List Value} (hlen:(Builtin.lenOf x).run P w= .ok m w) (hnew:(Builtin.firstCells i.size m x).run P w= .ok news.toArray w)
 (hroom:n+m≤c) (hst:∀a,base=some a→(storeCells (a.add (n*i.size)) news).run P w= .ok () w') (hnone:base=none→w'=w):
 (Builtin.append_ #[t,u] ty #[.slice base n c,x]).run P w= .ok (.slice base (n+m) c) w':=by
 cases base with
 |none=>
  have:=hnone rfl;subst this
  rcases Hj with rfl|⟨s,rfl⟩<;>simp [Builtin.append_,bQ ht,bQ hu,sizeOf,p7 hi,hlen,hroom,hnew]
 |some a=>
  have:=hst a rfl
  rcases Hj with rfl|⟨s,rfl⟩<;>simp [Builtin.append_,bQ ht,bQ hu,sizeOf,p7 hi,hlen,hroom,hnew,this]
theorem rW {t u el:TypeId} {du:TypeDesc} {i:TypeInfo} {z:Value} (ht:P.underlying t=some (.slice el)) (hu:P.underlying u=some du) (Hj:du= .string∨∃s,du= .slice s) (hi:P.info? el=some i)
 (hz:i.zero=some z)
 {base:Option Addr} {n c m:Nat} {x:Value} {olds news:List Value} (hlen:(Builtin.lenOf x).run P w= .ok m w) (hnew:(Builtin.firstCells i.size m x).run P w.drew= .ok news.toArray w.drew)
 (hold:(Builtin.firstCells i.size n (.slice base n c)).run P w.drew= .ok olds.toArray w.drew)
 (hg:c<n+m) (h63:n+m≤4611686018427387904) (hfit:(n+m)*i.bytes≤140737488355328):
 (Builtin.append_ #[t,u] ty #[.slice base n c,x]).run P w= .ok (.slice (some ⟨w.heap.size,0,none⟩) (n+m) (grownCap w (n+m) c el))
  (w.drew.alloc (.cells (olds++news++(Builtin.zeroCells z.cells (grownCap w (n+m) c el - (n+m))).toList).toArray el)):=by
 have hn:¬(n+m≤c):=by omega
 have h63':¬(9223372036854775807<((n:Int)+(m:Int))):=by omega
 have h48:=growslice_fits hg hfit
 have adn:¬(281474976710656<Builtin.nextslicecap (n+m) c*i.bytes):=by omega
 rcases Hj with rfl|⟨s,rfl⟩<;>
  (simp [Builtin.append_,bQ ht,bQ hu,typeInfo,sizeOf,zeroValue,hi,hz,hlen,hn,h63',adn,Question.forced,hnew,hold,newRow,grownCap]
   try (congr 2;apply Array.ext';simp [List.append_assoc]))
theorem Fj (h:SR L N F γ C e ah ts w) {tg:Tg} {k n c:Nat} {xs:List AV} {ad:Option Addr} (hv:VR C γ (.sl tg k xs) (.slice ad n c)):∃olds:List Value,
 olds.length=n*k∧(∀v∈olds,v.oneCell'=true)∧(∀w2:World,w2.heap=w.heap→(Builtin.firstCells k n (.slice ad n c)).run P w2= .ok olds.toArray w2)∧
 (∀(i:Nat) (a:AV),xs[i]? =some a→a.cells.length=k∧∀(j:Nat) (y:AV),a.cells[j]? =some y→VR C [] y (olds.getD (i*k+j) undef)):=by
 obtain ⟨ad',c',e1,hc,hcase⟩:=hv.ff
 injection e1 with e1 e2 e3
 subst e1;subst e2;subst e3
 rcases hcase with rfl|⟨b,o,rfl,hkk,hle,hcells⟩
 · refine ⟨[],by simp,by simp,fun w2 _=> ?_,by simp⟩
   cases ad with
   |none=>rfl
   |some a=>simp [Builtin.firstCells,loadCells,loadCellsFrom]
 · refine ⟨((C b).drop o).take (xs.length*k),by simp;omega,fun v hm=> ?_,fun w2 Fi=> ?_,fun i a hi=>⟨hkk i a hi,fun j y hj=> ?_⟩⟩
   · obtain ⟨q,hq,rfl⟩:=List.getElem_of_mem hm
     simp only [List.length_take,List.length_drop] at hq
     have:=hv.I3 (o+q) (by omega) (by omega)
     rw [List.getD_eq_getElem?_getD,List.getElem?_eq_getElem (by omega)] at this
     simpa using this
   · have Nv:∀j,j<xs.length*k→w2.cell? ⟨b,o+j,none⟩=some ((C b).getD (o+j) undef):=by
      intro j hj
      have:=pU h (b:=b) (i:=o+j) (by omega)
      rwa [World.cell?,Fi, ←World.cell?]
     obtain ⟨r,hr,hrs, -,hrc⟩:=kX (P:=P) (w:=w2) (b:=b) (o:=o) (xs.length*k) 0 #[] (fun j _ hj=>⟨_,Nv j (by omega)⟩)
     have:r=(((C b).drop o).take (xs.length*k)).toArray:=by
      apply Array.ext_getElem?
      intro j
      by_cases hj:j<xs.length*k
      · have e1:=hrc j hj
        simp only [List.size_toArray,List.length_nil,Nat.zero_add] at e1
        rw [e1,Nv j hj,List.getElem?_toArray,List.getElem?_take_of_lt hj,List.getElem?_drop,List.getD_eq_getElem?_getD,List.getElem?_eq_getElem (by omega)];rfl
      · rw [Array.getElem?_eq_none (by simp at hrs;omega),Array.getElem?_eq_none (by simp;omega)]
     rw [this] at hr
     exact hr
   · have hi':=(List.getElem?_eq_some_iff.1 hi).1
     have hj':j<k:=by rw [←hkk i a hi];exact (List.getElem?_eq_some_iff.1 hj).1
     have hm:(i+1)*k≤xs.length*k:=Nat.mul_le_mul_right _ hi'
     rw [Nat.succ_mul] at hm
     have:=hcells i a hi j y hj
     rw [List.getD_eq_getElem?_getD,List.getElem?_take_of_lt (by omega),List.getElem?_drop, ←List.getD_eq_getElem?_getD, ←Nat.add_assoc]
     exact this
theorem Rf {t u el:TypeId} {du:TypeDesc} {i:TypeInfo} {z:Value} (ht:P.underlying t=some (.slice el)) (hu:P.underlying u=some du) (Hj:du= .string∨∃s,du= .slice s)
 (hi:P.info? el=some i) (hz:i.zero=some z) {k:Nat} (hk:i.size=k) (hzs:z.cells.size=k) (h:SR L N F γ C e ah ts w) (hd:∀x,d=some x→x<N)
 {ad:Option Addr} {n c m:Nat} {xs ys:List AV} {x:Value} {news:List Value} (hv:VR C γ (.sl .n k xs) (.slice ad n c)) (mA:TC w C (.sl .own k xs) (.slice ad n c))
 (hfree:∀b,bG (.sl .own k xs) (.slice ad n c)=some b→¬F b∧∀p,¬blk γ e ah ts w p b)
 (hlen:∀w2:World,(Builtin.lenOf x).run P w2= .ok m w2) (hnew:∀w2:World,w2.heap=w.heap→(Builtin.firstCells k m x).run P w2= .ok news.toArray w2)
 (Rg:news.length=m*k) (hm:m=ys.length) (hone:∀v∈news,v.oneCell'=true)
 (hys:∀(i:Nat) (a:AV),ys[i]? =some a→a.cells.length=k∧∀(j:Nat) (y:AV),a.cells[j]? =some y→VR C [] y (news.getD (i*k+j) undef))
 (h63:n+m≤4611686018427387904) (hfit:(n+m)*i.bytes≤140737488355328):
 ∃v' w' C',(Builtin.append_ #[t,u] ty #[.slice ad n c,x]).run P w= .ok v' w'∧
  SR L N F γ C' (Am.aF L e d (.sl .own k (xs++ys))) ah (Act.put ⟨ts,ds⟩ d v').tmps w'∧Ext F C w C' w'∧∀(s b:Nat),γ[s]? =some b→w'.heap[b]? =w.heap[b]? :=by
 have hn:n=xs.length:=by obtain ⟨_,_,e1, -⟩:=hv.ff;injection e1
 have hnc:n≤c:=by obtain ⟨_,_,e1,h2, -⟩:=hv.ff;injection e1 with e1 e2 e3;omega
 subst hk
 by_cases hroom:n+m≤c
 · by_cases hm0:m=0
   · have ado:ys=[]:=List.eq_nil_of_length_eq_zero (by omega)
     have hn0:news=[]:=List.eq_nil_of_length_eq_zero (by rw [Rg,hm0];simp)
     subst ado;subst hn0
     have hr:=mB (w':=w) (ty:=ty) ht hu Hj hi (hlen w) (hnew w rfl) hroom (fun a _=>rfl) (fun _=>rfl) (base:=ad)
     rw [hm0,Nat.add_zero] at hr
     refine ⟨_,w,C,hr, ?_,Ext.refl ..,fun _ _ _=>rfl⟩
     rw [List.append_nil]
     exact h.uq hd (hv.kR _) mA hfree
   · have hne:c≠n:=by omega
     simp only [TC] at mA
     obtain ⟨b,o,cs,tv,fr,rfl,hh,YI,hcs,aav⟩:=mA.resolve_left hne
     have hob:bG (.sl .own i.size xs) (.slice (some ⟨b,o,none⟩) n c)=some b:=by simp [bG,hne]
     obtain ⟨hF,hno⟩:=hfree b hob
     have hmul:(n+m)*i.size≤c*i.size:=Nat.mul_le_mul_right _ hroom
     rw [Nat.add_mul] at hmul
     have Br:=run_storeCells_cells (P:=P) b (o+n*i.size) news 0 w (fun j hj=>by
      rw [cz hh];simp;omega) (fun j hj=>aav _ (by omega) (by omega)) hone
     rw [Nat.add_zero] at Br
     have hr:=mB (w':=w.setCells b (o+n*i.size) news) (ty:=ty) ht hu Hj hi (hlen w) (hnew w rfl) hroom (base:=some ⟨b,o,none⟩)
      (fun a ha=>by injection ha with ha;subst ha;rw [add_eq];exact Br) (fun h=>by cases h)
     obtain ⟨⟨nw,g1,g2,g3⟩,g4,g5⟩:=qa b news (o+n*i.size) w cs tv fr hh (by omega)
     obtain ⟨hs2,hx2⟩:=h.UA (ho:=tE b news (o+n*i.size) w) (C':=fun x=>if x=b then C b++news else C x) hno hF hh g1 g2 (by omega) hone g4 g5 (fun q=>by rw [g3 q,YI]) rfl
     generalize uu:(fun x=>if x=b then C b++news else C x)=C' at hs2 hx2
     have c0:C' b=C b++news:=by rw [←uu];simp
     have hlen':(C' b).length=o+(n+m)*i.size:=by rw [c0,List.length_append,YI,Rg,Nat.add_mul];omega
     have hvx:VR C' γ (.sl .own i.size (xs++ys)) (.slice (some ⟨b,o,none⟩) (n+m) c):=by
      refine .sl _ _ _ _ _ _ _ _ (by simp [hn,hm]) hroom (fun q a hq=> ?_) (by omega) (fun q h1 h2=> ?_) fun q a hq j y hj=> ?_
      · by_cases hlt:q<xs.length
        · rw [List.getElem?_append_left hlt] at hq
          obtain ⟨_,_, -, -,hcase⟩:=hv.ff
          rcases hcase with rfl|⟨_,_, -,hkk, -⟩
          · simp at hlt
          · exact hkk q a hq
        · rw [List.getElem?_append_right (by omega)] at hq
          exact (hys _ a hq).1
      · rw [Nat.add_mul] at h2
        rw [c0,List.getD_eq_getElem?_getD]
        by_cases hlt:q<(C b).length
        · rw [List.getElem?_append_left hlt, ←List.getD_eq_getElem?_getD]
          exact hv.I3 q h1 (by omega)
        · rw [List.getElem?_append_right (by omega),List.getElem?_eq_getElem (by omega)]
          exact hone _ (List.getElem_mem _)
      · by_cases hlt:q<xs.length
        · rw [List.getElem?_append_left hlt] at hq
          obtain ⟨_,_,e1, -,hcase⟩:=hv.ff
          injection e1 with e1
          rcases hcase with rfl|⟨b',o',e2,hkk,hle,hcells⟩
          · simp at hlt
          · rw [←e1] at e2;injection e2 with e2;injection e2 with e2 e3;subst e2;subst e3
            have hk':=hkk q a hq
            have hj':j<i.size:=by rw [←hk'];exact (List.getElem?_eq_some_iff.1 hj).1
            have Hi:(q+1)*i.size≤xs.length*i.size:=Nat.mul_le_mul_right _ hlt
            rw [Nat.succ_mul] at Hi
            rw [iG (hx2.pre b) (by omega)]
            exact (hcells q a hq j y hj).mono hx2.pre _ (fun _ _ h=>h)
        · rw [List.getElem?_append_right (by omega)] at hq
          have:=(hys _ a hq).2 j y hj
          rw [c0,List.getD_eq_getElem?_getD]
          have hge:(C b).length≤o+q*i.size+j:=by
           have:xs.length*i.size≤q*i.size:=Nat.mul_le_mul_right _ (by omega)
           rw [YI,hn];omega
          rw [List.getElem?_append_right hge, ←List.getD_eq_getElem?_getD]
          have hidx:o+q*i.size+j - (C b).length=(q - xs.length)*i.size+j:=by
           rw [YI,hn,Nat.sub_mul]
           have:xs.length*i.size≤q*i.size:=Nat.mul_le_mul_right _ (by omega)
           omega
          rw [hidx]
          exact this.mono hx2.pre _ (fun _ _ h=>h)
     refine ⟨_,_,C',hr,hs2.uq hd hvx ?_ fun b' hb'=> ?_,hx2,fun s b0 hb0=>g4 b0 (fun e=>hno (.obj s) (e▸hb0))⟩
     · by_cases hcn:c=n+m
       · exact .inl hcn
       · refine .inr ⟨b,o,nw,tv,fr,rfl,g1,hlen',by omega,fun q h1 h2=> ?_⟩
         have:=aav q (by rw [Nat.add_mul] at h1;omega) h2
         simp only [World.frozen?,hh] at this
         simp only [World.frozen?,g1]
         exact this
     · simp only [bG] at hb'
       split at hb'
       · cases hb'
       · obtain rfl:=Option.some.inj hb'
         refine ⟨hF,fun p hp=>hno p ?_⟩
         cases p with
         |obj s=>exact hp
         |tmp t=>exact hp
         |cell s q=>
          obtain ⟨x,a,b0,h1,h2,h3,h4⟩:=hp
          have:b0≠b:=fun e=>hno (.obj s) (e▸h3)
          exact ⟨x,a,b0,h1,h2,h3,by rwa [gf (g4 b0 this)] at h4⟩
 · obtain ⟨olds,o1,o2,o3,o4⟩:=Fj (P:=P) h hv
   have hr:=rW (ty:=ty) ht hu Hj hi hz (hlen w) (hnew w.drew rfl) (o3 w.drew rfl) (by omega) h63 hfit
   generalize hcap:grownCap w (n+m) c el=cap at hr
   have hge:n+m≤cap:=by rw [←hcap];exact grownCap_ge w _ _ _
   generalize hrow:(olds++news++(Builtin.zeroCells z.cells (cap - (n+m))).toList).toArray=row at hr
   have hrl:row.size=cap*i.size:=by
    rw [←hrow]
    simp only [List.size_toArray,List.length_append,Array.length_toList,size_zeroCells,hzs,o1,Rg]
    rw [←Nat.add_mul, ←Nat.add_mul];congr 1;omega
   obtain ⟨q1,q2,q3⟩:=heap_alloc w.drew (.cells row el)
   obtain ⟨C',g1,g2, -, -⟩:=xz (ds:=ds) (w':=w.drew.alloc (.cells row el)) (d:=d) (Eb:=olds++news) (xs:=xs++ys) (k:=i.size) (n:=n+m) (c:=cap)
    h hd q2 q3 q1 (by rw [←hrow];exact List.prefix_append _ _) (fun v hv=>(List.mem_append.1 hv).elim (o2 v) (hone v)) (by rw [List.length_append,o1,Rg,Nat.add_mul]) (by simp [hn,hm]) hge (by rw [hrl];exact Nat.le_refl _)
    (fun q hq=>by simp) (fun q a hq=>by
     by_cases hlt:q<xs.length
     · rw [List.getElem?_append_left hlt] at hq;exact (o4 q a hq).1
     · rw [List.getElem?_append_right (by omega)] at hq;exact (hys _ a hq).1)
    (fun q a hq j y hj=>by
     by_cases hlt:q<xs.length
     · rw [List.getElem?_append_left hlt] at hq
       have hk':=(o4 q a hq).1
       have hj':j<i.size:=by rw [←hk'];exact (List.getElem?_eq_some_iff.1 hj).1
       have Hi:(q+1)*i.size≤xs.length*i.size:=Nat.mul_le_mul_right _ hlt
       rw [Nat.succ_mul] at Hi
       rw [List.getD_eq_getElem?_getD,List.getElem?_append_left (by rw [o1,hn];omega), ←List.getD_eq_getElem?_getD]
       exact (o4 q a hq).2 j y hj
     · rw [List.getElem?_append_right (by omega)] at hq
       have:=(hys _ a hq).2 j y hj
       have Hi:xs.length*i.size≤q*i.size:=Nat.mul_le_mul_right _ (by omega)
       rw [List.getD_eq_getElem?_getD,List.getElem?_append_right (by rw [o1,hn];omega), ←List.getD_eq_getElem?_getD]
       have hidx:q*i.size+j - olds.length=(q - xs.length)*i.size+j:=by rw [o1,hn,Nat.sub_mul];omega
       rw [hidx];exact this)
   exact ⟨_,_,C',hr,g1,g2,fun s b hb=>q2 b (eW h (p:= .obj s) hb)⟩
theorem Bs {t:TypeId} (h:(zeroOf P t).map List.length=some (cP P t)):∃i z,P.info? t=some i∧i.zero=some z∧i.size=cP P t∧i.bytes=IX P t∧z.cells.size=cP P t:=by
 cases hz:zeroOf P t with
 |none=>rw [hz] at h;cases h
 |some cs=>
  rw [hz] at h
  simp only [Option.map_some,Option.some.injEq] at h
  unfold zeroOf at hz
  split at hz
  case h_2=>cases hz
  rename_i cs' z h1 h2
  split at hz
  case isFalse=>cases hz
  rename_i hzz
  injection hz with hz
  subst hz
  cases hi:P.info? t with
  |none=>rw [hi] at h2;cases h2
  |some i=>
   rw [hi] at h2
   simp only [Option.bind_some] at h2
   have:=(Ld (C:=fun _=>[]) (γ:=[]) hzz).1
   refine ⟨i,z,rfl,h2,by simp [cP,hi],by simp [IX,hi], ?_⟩
   rw [←h];simpa using this
theorem Lg (k k':Nat) (xs xs':List AV) (v:Value):bG (.sl .own k xs) v=bG (.sl .own k' xs') v:=by
 cases v with
 |slice a n c=>cases a<;>rfl
 |_=>rfl
theorem Lh {t u el:TypeId} {du:TypeDesc} {x y:Operand} {x':Ar} {k b m:Nat} {ys:List AV} {news:List Value} (h:SR L N F γ C e ah ts w) (hd:∀x,d=some x→x<N)
 (hx:dB P t x=some x') (ht:P.underlying t=some (.slice el)) (hu:P.underlying u=some du) (Hj:du= .string∨∃s,du= .slice s) (hz:(zeroOf P el).map List.length=some (cP P el))
 (hk:k=cP P el) (hb:b=IX P el)
 (hlen:∀w2:World,(Builtin.lenOf (Act.eval ⟨ts,ds⟩ y)).run P w2= .ok m w2) (hnew:∀w2:World,w2.heap=w.heap→(Builtin.firstCells k m (Act.eval ⟨ts,ds⟩ y)).run P w2= .ok news.toArray w2)
 (Rg:news.length=m*k) (hm:m=ys.length) (hone:∀v∈news,v.oneCell'=true)
 (hys:∀(i:Nat) (a:AV),ys[i]? =some a→a.cells.length=k∧∀(j:Nat) (y:AV),a.cells[j]? =some y→VR C [] y (news.getD (i*k+j) undef))
 (hev:zm L e ah d k b x' ys=some (e',aE)):
 bf m0 P L N F γ C ⟨d, .call {callee:= .builtin .append,args:= #[x,y],argTypes:= #[t,u]},ty,pos,af,g⟩ ts ds w e' aE:=by
 obtain ⟨i,z,hi,hiz,NF,hib,hzs⟩:=Bs hz
 have h1:=gm (ds:=ds) h hx
 unfold zm at hev
 split at hev
 case h_2=>cases hev
 rename_i tg k' xs zP
 split at hev
 case isFalse=>cases hev
 rename_i hc
 obtain ⟨rfl,hfit,h63⟩:=hc
 rw [zP] at h1
 obtain ⟨ad,c,Ea,hnc, -⟩:=h1.1.ff
 rw [Ea] at h1
 have fq:∀v' w',(Builtin.append_ #[t,u] ty #[.slice ad xs.length c,Act.eval ⟨ts,ds⟩ y]).run P w= .ok v' w'→
  (execOp (Act.eval ⟨ts,ds⟩) ⟨d, .call {callee:= .builtin .append,args:= #[x,y],argTypes:= #[t,u]},ty,pos,af,g⟩).run P w= .ok (.value v') w':=by
  intro v' w' hr
  simp [execOp,resolve,invoke,builtin,Ea,hr]
 have core:∀ {e2:Env} {rG:AH},SR L N F γ C e2 rG ts w→TC w C (.sl .own k' xs) (.slice ad xs.length c)→
  (∀b,bG (.sl .own k' xs) (.slice ad xs.length c)=some b→¬F b∧∀p,¬blk γ e2 rG ts w p b)→
  bf m0 P L N F γ C ⟨d, .call {callee:= .builtin .append,args:= #[x,y],argTypes:= #[t,u]},ty,pos,af,g⟩ ts ds w (Am.aF L e2 d (.sl .own k' (xs++ys))) rG:=by
  intro e2 rG lS mA hfree
  obtain ⟨v',w',C',r1,r2,r3,r4⟩:=Rf (ds:=ds) (ty:=ty) ht hu Hj hi hiz (k:=k') (by rw [NF,hk]) (by rw [hzs,hk]) lS hd (h1.1.kR _) mA hfree hlen hnew Rg hm hone hys
   (by omega) (by rw [hib, ←hb,hm];exact hfit)
  exact ⟨v',w',γ,C', .inl (fq _ _ r1),List.prefix_refl _,r2,r3,fun _=>r4,fun hq=>by simp [dV] at hq⟩
 cases tg with
 |n=>cases hev
 |ex=>
  simp only [Option.some.injEq,Prod.mk.injEq] at hev
  obtain ⟨rfl,rfl⟩:=hev
  have hcn:c=xs.length:=h1.2
  exact core h (.inl hcn) (fun b hb=>by cases ad<;>simp [bG,hcn] at hb)
 |own=>
  simp only at hev
  split at hev
  case h_2=>cases hev
  rename_i q
  simp only [Option.some.injEq,Prod.mk.injEq] at hev
  obtain ⟨rfl,rfl⟩:=hev
  have Ny:=yz hx q rfl
  subst Ny
  simp only [ev] at zP
  refine core (h.uo (by rw [zP];exact .n ..)) h1.2 fun b hb=> ?_
  have hb0:blk γ e ah ts w (.tmp q) b:=by
   simp only [blk,zP];rw [show ts.getD q undef= .slice ad xs.length c from Ea];exact hb
  refine ⟨h.nf _ _ hb0,fun p hp=> ?_⟩
  have CA:blk γ e ah ts w p b:=by
   cases p with
   |obj s=>exact hp
   |cell s i=>exact hp
   |tmp u=>
    simp only [blk,fK] at hp ⊢
    by_cases hu:u=q
    · rw [if_pos hu] at hp;simp [bG] at hp
    · rwa [if_neg hu] at hp
  have:=h.dD _ _ _ CA hb0
  subst this
  simp [blk,fK,bG] at hp
 |fr l=>
  have Ny:∃q,x'= .t q:=by
   cases x' with
   |t q=>exact ⟨q,rfl⟩
   |c a=>simp only [ev] at zP;subst zP;have:=EZ hx _ rfl;simp [AV.plain] at this
  obtain ⟨q,rfl⟩:=Ny
  have hxq:=yz hx q rfl
  subst hxq
  simp only [ev] at zP
  have hfr:=h.fr q l k' xs zP
  have YA:ts.getD q undef= .slice ad xs.length c:=Ea
  cases l with
  |tmp u2=>
   simp only at hev
   split at hev
   case h_2=>cases hev
   rename_i k2 zs Bo
   split at hev
   case isFalse=>cases hev
   rename_i hk2
   subst hk2
   simp only [Option.some.injEq,Prod.mk.injEq] at hev
   obtain ⟨rfl,rfl⟩:=hev
   have hval:=hfr.2 (by rw [Bo];rfl)
   rw [YA] at hval
   have Uw:=h.env u2
   rw [Bo,hval] at Uw
   refine core (h.uo (by rw [Bo];exact .n ..)) Uw.2 fun b hb=> ?_
   have hb0:blk γ e ah ts w (.tmp u2) b:=by simp only [blk,Bo,hval];rw [Lg _ k2 _ xs];exact hb
   refine ⟨h.nf _ _ hb0,fun p hp=> ?_⟩
   have CA:blk γ e ah ts w p b:=by
    cases p with
    |obj s=>exact hp
    |cell s i=>exact hp
    |tmp u=>
     simp only [blk,fK] at hp ⊢
     by_cases hu:u=u2
     · rw [if_pos hu] at hp;simp [bG] at hp
     · rwa [if_neg hu] at hp
   have:=h.dD _ _ _ CA hb0
   subst this
   simp [blk,fK,bG] at hp
  |cell s o=>
   simp only at hev
   split at hev
   case h_2=>cases hev
   rename_i cs hcs
   split at hev
   case h_2=>cases hev
   rename_i k2 zs xw
   split at hev
   case isFalse=>cases hev
   rename_i hk2
   subst hk2
   cases hov:over cs o [.sl .n k2 zs] with
   |none=>rw [hov] at hev;cases hev
   |some cs'=>
    rw [hov] at hev
    simp only [Option.map_some,Option.some.injEq,Prod.mk.injEq] at hev
    obtain ⟨rfl,rfl⟩:=hev
    have hlt:s<γ.length:=by rw [h.mem.len];exact (List.getElem?_eq_some_iff.1 hcs).1
    have YJ:γ[s]? =some γ[s]:=List.getElem?_eq_getElem hlt
    have hval:=hfr cs _ _ hcs xw rfl YJ
    rw [YA] at hval
    obtain ⟨v,hv1,Hg,hv3⟩:=cellAt h.mem hcs xw YJ
    rw [hval] at hv1
    injection hv1 with hv1
    subst hv1
    refine core (h.Re hcs xw hov) hv3 fun b hb=> ?_
    have hb0:blk γ e ah ts w (.cell s o) b:=⟨cs,_,_,hcs,xw,YJ,by rw [hval,Lg _ k2 _ xs];exact hb⟩
    refine ⟨h.nf _ _ hb0,fun p hp=> ?_⟩
    obtain ⟨o1,o2,o3⟩:=xA hov
    have hslt:s<ah.length:=(List.getElem?_eq_some_iff.1 hcs).1
    have CA:blk γ e ah ts w p b∧p≠ .cell s o:=by
     cases p with
     |obj s=>exact ⟨hp,by simp⟩
     |tmp t=>exact ⟨hp,by simp⟩
     |cell s' i=>
      obtain ⟨x,a,b0,g1,g2,g3,g4⟩:=hp
      by_cases hs':s'=s
      · subst hs'
        rw [List.getElem?_set_self hslt] at g1
        injection g1 with g1
        subst g1
        rw [o3 i] at g2
        by_cases hin:o≤i∧i<o+1
        · have:i=o:=by omega
          subst this
          rw [if_pos (by simp)] at g2
          obtain rfl:AV.sl .n k2 zs=a:=by simpa using g2
          simp [bG] at g4
        · rw [if_neg (by simp;omega)] at g2
          exact ⟨⟨cs,a,b0,hcs,g2,g3,g4⟩,by simp;omega⟩
      · rw [List.getElem?_set_ne (Ne.symm hs')] at g1
        exact ⟨⟨x,a,b0,g1,g2,g3,g4⟩,by simp [hs']⟩
    exact CA.2 (h.dD _ _ _ CA.1 hb0)
theorem YK {t u el s:TypeId} {x y:Operand} {x' y':Ar} (h:SR L N F γ C e ah ts w) (hd:∀x,d=some x→x<N)
 (hx:dB P t x=some x') (hy:dB P u y=some y') (ht:P.underlying t=some (.slice el)) (hu:P.underlying u=some (.slice s)) (hz:(zeroOf P el).map List.length=some (cP P el))
 (hev:bK L ⟨d, .app (cP P el) (IX P el) x' y',none⟩ e ah=some (e',aE)):
 bf m0 P L N F γ C ⟨d, .call {callee:= .builtin .append,args:= #[x,y],argTypes:= #[t,u]},ty,pos,af,g⟩ ts ds w e' aE:=by
 have h2:=gm (ds:=ds) h hy
 simp only [bK] at hev
 split at hev
 case h_2=>cases hev
 rename_i tg k ys UN
 split at hev
 case isFalse=>cases hev
 rename_i hk
 rw [UN] at h2
 obtain ⟨ad,c,Hl, -, -⟩:=h2.1.ff
 rw [Hl] at h2
 obtain ⟨olds,o1,o2,o3,o4⟩:=Fj (P:=P) h h2.1
 exact Lh (m:=ys.length) (news:=olds) h hd hx ht hu (.inr ⟨_,rfl⟩) hz rfl rfl (by rw [Hl];intro w2;rfl) (by rw [Hl, ←hk];exact o3) (by rw [←hk];exact o1) rfl o2 (by rw [←hk];exact o4) hev
theorem UO {t u el:TypeId} {x y:Operand} {x' y':Ar} (h:SR L N F γ C e ah ts w) (hd:∀x,d=some x→x<N)
 (hx:dB P t x=some x') (hy:dB P u y=some y') (ht:P.underlying t=some (.slice el)) (hu:P.underlying u=some .string) (hz:(zeroOf P el).map List.length=some (cP P el))
 (hsz:cP P el=1)
 (hev:bK L ⟨d, .apps (IX P el) x' y',none⟩ e ah=some (e',aE)):
 bf m0 P L N F γ C ⟨d, .call {callee:= .builtin .append,args:= #[x,y],argTypes:= #[t,u]},ty,pos,af,g⟩ ts ds w e' aE:=by
 have h2:=gm (ds:=ds) h hy
 simp only [bK] at hev
 split at hev
 case h_2=>cases hev
 rename_i l UN
 rw [UN] at h2
 have Hl:=h2.1.dJ
 have Hh:(⟨l.toArray⟩:ByteArray).size=l.length:=by simp [ByteArray.size]
 refine Lh (m:=l.length) (news:=l.map fun b=>Value.int .u8 b.toNat) h hd hx ht hu (.inl rfl) hz hsz.symm rfl ?_ ?_ (by simp) (by simp) (by simp [Value.oneCell']) ?_ hev
 · rw [Hl];intro w2;simp [Builtin.lenOf,Hh]
 · rw [Hl];intro w2 _
   simp only [Builtin.firstCells,Sem.run_pure]
   congr 1
   apply Array.ext'
   have:(⟨l.toArray⟩:ByteArray).extract 0 (l.length*1)=⟨l.toArray⟩:=by
    apply ByteArray.ext;simp [ByteArray.data_extract]
   simp [ByteArray.data_extract]
 · intro i a hi
   rw [List.getElem?_map] at hi
   cases hq:l[i]? with
   |none=>rw [hq] at hi;simp at hi
   |some b=>
    rw [hq] at hi
    obtain rfl:b8 b=a:=by simpa using hi
    refine ⟨rfl,fun j y hj=> ?_⟩
    cases j with
    |zero=>
     obtain rfl:b8 b=y:=by simpa [AV.cells,b8] using hj
     simp [List.getD_eq_getElem?_getD,hq]
     exact .int ..
    |succ j=>simp [AV.cells,b8] at hj
end
end Go.Am
end
section
namespace Go.Am
open Go
variable [Tabs]
section
variable {P:Program} {L:List Nat} {N:Nat} {F:Nat→Prop} {γ:List Nat} {C C':Nat→List Value} {e:Env} {ah:AH} {ts:Array Value} {ds:List Deferred} {w w':World} {m:Bool}
variable {d:Option Nat} {ty p8:TypeId} {pos:String} {af:Array Edge} {g:Option (Nat×Bool)} {e':Env} {aE:AH}
theorem vu {l:List AV} (h:gz l=true) {i:Nat} {a:AV} (hi:l[i]? =some a):a.np=true:=by
 induction l generalizing i with
 |nil=>simp at hi
 |cons b r ih=>
  simp only [gz,Bool.and_eq_true] at h
  cases i with
  |zero=>simp at hi;subst hi;exact h.1
  |succ i=>exact ih h.2 (by simpa using hi)
theorem VR.np {a:AV} {v:Value} (h:VR C γ a v) (hn:a.np=true):VR C [] a v:=by
 cases h with
 |v _ _ hs=>exact .v _ _ hs
 |un=>exact .un ..
 |int=>exact .int ..
 |bool=>exact .bool ..
 |str=>exact .str ..
 |ptr=>cases hn
 |cN=>cases hn
 |p6=>cases hn
 |cr=>cases hn
 |eG=>exact .eG ..
 |dy=>cases hn
 |dn=>cases hn
 |tC=>exact .tC ..
 |sl _ _ _ _ b o n c hn' hc hk hl ho hx=>exact .sl _ _ _ _ _ _ _ _ hn' hc hk hl ho hx
 |ep=>cases hn
 |agg=>cases hn
 |bz=>cases hn
 |fn _ f cs vs hl hx=>
  have:cs=[]:=by simpa [AV.np] using hn
  subst this
  exact .fn _ _ _ _ hl (by simp)
theorem Rh (k:Nat):∀(l:List (Nat×Value)) (m:Nat) (cells:Array Value),(∀(i:Nat) (x:Nat×Value),l[i]? =some x→x.1=m+i∧x.2.cells.size=k)→(m+l.length)*k≤cells.size→
 ∃r,Instr.fill (fun i=>some (i*k,k)) cells l=some r∧r.size=cells.size∧(∀q,q<m*k→r.getD q undef=cells.getD q undef)∧
  ∀(i:Nat) (x:Nat×Value),l[i]? =some x→∀j,j<k→r.getD ((m+i)*k+j) undef=x.2.cells.getD j undef:=by
 intro l
 induction l with
 |nil=>intro m cells _ _;exact ⟨cells,rfl,rfl,fun _ _=>rfl,by simp⟩
 |cons x r ih=>
  intro m cells h hl
  obtain ⟨e1,e2⟩:=h 0 x rfl
  obtain ⟨i,v⟩:=x
  simp only [Nat.add_zero] at e1 e2
  subst e1
  simp only [List.length_cons] at hl
  have hmk:(i+1)*k≤(i+(r.length+1))*k:=Nat.mul_le_mul_right _ (by omega)
  rw [Nat.succ_mul] at hmk
  obtain ⟨f1,f2⟩:=CB v (i*k) cells (by omega)
  obtain ⟨q,q1,q2,q3,q4⟩:=ih (i+1) _ (fun j x hx=>by
   have:=h (j+1) x (by simpa using hx);exact ⟨by omega,this.2⟩) (by rw [f1];rw [show i+1+r.length=i+(r.length+1) by omega];exact hl)
  refine ⟨q, ?_,by rw [q2,f1],fun p hp=> ?_,fun j x hx p hp=> ?_⟩
  · simp only [Instr.fill]
    have hneg:¬(v.cells.size≠k∨i*k+v.cells.size>cells.size):=by omega
    rw [if_neg (by simpa using hneg)]
    exact q1
  · rw [q3 p (by rw [Nat.succ_mul];omega),f2 p,if_neg (by omega)]
  · cases j with
    |zero=>
     simp at hx
     subst hx
     simp only [Nat.add_zero]
     rw [q3 _ (by rw [Nat.succ_mul];omega),f2,if_pos (by omega)]
     congr 1;omega
    |succ j=>
     have:=q4 j x (by simpa using hx) p hp
     rwa [show i+1+j=i+(j+1) by omega] at this
theorem zQ {el:TypeId} (h:SR L N F γ C e ah ts w):∀(l:List (Nat×Operand)) (m:Nat) (zq:List Ar),mz P el m l=some zq→zq.length=l.length∧
 ∀(i:Nat) (x:Nat×Operand) (a:Ar),l[i]? =some x→zq[i]? =some a→x.1=m+i∧VR C γ (ev e a) (Act.eval ⟨ts,ds⟩ x.2)∧TC w C (ev e a) (Act.eval ⟨ts,ds⟩ x.2):=by
 intro l
 induction l with
 |nil=>intro m zq hc;simp [mz] at hc;subst hc;simp
 |cons x r ih=>
  intro m zq hc
  obtain ⟨i,x⟩:=x
  simp only [mz] at hc
  split at hc
  case isFalse=>cases hc
  rename_i him
  split at hc
  case h_2=>cases hc
  rename_i a zq' ha has
  simp only [Option.some.injEq] at hc
  subst hc
  obtain ⟨h1,h2⟩:=ih (m+1) zq' has
  refine ⟨by simp [h1],fun j y b hy hb=> ?_⟩
  cases j with
  |zero=>simp at hy hb;subst hy;subst hb;exact ⟨by simp [him],gm (ds:=ds) h ha⟩
  |succ j=>have:=h2 j y b (by simpa using hy) (by simpa using hb);exact ⟨by omega,this.2⟩
theorem yA {t el:TypeId} {n:Nat} {parts:Array (Nat×Operand)} {zq:List Ar} (h:SR L N F γ C e ah ts w) (hd:∀x,d=some x→x<N) (ht:P.underlying t=some (.slice el))
 (hn:parts.size=n) (hb:n*cP P el≤16777216) (hz:(zeroOf P el).isSome=true) (hc:mz P el 0 parts.toList=some zq)
 (hall:(zq.all fun p=>decide ((ev e p).cells.length=cP P el)&&bU (ev e p).cells&&gz (ev e p).cells)=true):
 ∃(r:Array Value),r.size=n*cP P el∧(Instr.buildSlice t n (parts.map fun (i,x)=>(i,Act.eval ⟨ts,ds⟩ x))).run P w= .ok (.slice (some ⟨w.heap.size,0,none⟩) n n) (w.alloc (.cells r el))∧
  (∀(i:Nat) (a:Ar),zq[i]? =some a→∀(j:Nat) (u:AV),(ev e a).cells[j]? =some u→VR C γ u (r.getD (i*cP P el+j) undef))∧
  ∀fr:Nat×Nat,fr=(0,0)∨fr=(r.size,r.size+1)→∃C',SR L N F γ C' (Am.aF L e d (.sl .ex (cP P el) (zq.map fun p=>(ev e p).s0))) ah (Act.put ⟨ts,ds⟩ d (.slice (some ⟨w.heap.size,0,none⟩) n n)).tmps (w.alloc (.cells r el fr))∧
   Ext F C w C' (w.alloc (.cells r el fr)):=by
 obtain ⟨zc,hz⟩:=Option.isSome_iff_exists.1 hz
 obtain ⟨z,UP,hzs,hinfo, -⟩:=qb (C:=C) (γ:=γ) hz
 generalize hk:cP P el=k at*
 obtain ⟨c1,c2⟩:=zQ (ds:=ds) h _ _ _ hc
 have hpl:parts.toList.length=n:=by rw [Array.length_toList];exact hn
 have hpart:∀(i:Nat) (a:Ar),zq[i]? =some a→∃x,parts.toList[i]? =some x∧x.1=i∧VR C γ (ev e a) (Act.eval ⟨ts,ds⟩ x.2)∧TC w C (ev e a) (Act.eval ⟨ts,ds⟩ x.2)∧
  (ev e a).cells.length=k∧bU (ev e a).cells=true∧gz (ev e a).cells=true:=by
  intro i a hi
  have hlt:i<parts.toList.length:=by have:=(List.getElem?_eq_some_iff.1 hi).1;omega
  obtain ⟨d1,d2,d3⟩:=c2 i _ a (List.getElem?_eq_getElem hlt) hi
  have hm:=List.mem_of_getElem? hi
  have:=List.all_eq_true.1 hall a hm
  simp only [Bool.and_eq_true,beq_iff_eq,decide_eq_true_eq] at this
  exact ⟨_,List.getElem?_eq_getElem hlt,by omega,d2,d3,this.1.1,this.1.2,this.2⟩
 generalize hvs:(parts.map fun (i,x)=>(i,Act.eval ⟨ts,ds⟩ x)).toList=l
 have hl:l=parts.toList.map fun (x:Nat×Operand)=>(x.1,Act.eval ⟨ts,ds⟩ x.2):=by rw [←hvs,Array.toList_map]
 have vv:l.length=n:=by rw [hl];simp [hn]
 have hlk:∀(i:Nat) (x:Nat×Value),l[i]? =some x→∃a,zq[i]? =some a∧x.1=i∧VR C γ (ev e a) x.2∧TC w C (ev e a) x.2∧(ev e a).cells.length=k∧bU (ev e a).cells=true∧gz (ev e a).cells=true:=by
  intro i x hx
  have hlt:i<zq.length:=by have:=(List.getElem?_eq_some_iff.1 hx).1;omega
  obtain ⟨y,y1,y2,y3,y4,y5,y6,y7⟩:=hpart i _ (List.getElem?_eq_getElem hlt)
  rw [hl,List.getElem?_map,y1] at hx
  simp only [Option.map_some,Option.some.injEq] at hx
  subst hx
  exact ⟨_,List.getElem?_eq_getElem hlt,y2,y3,y4,y5,y6,y7⟩
 have hlc:∀(i:Nat) (x:Nat×Value),l[i]? =some x→x.1=0+i∧x.2.cells.size=k:=by
  intro i x hx
  obtain ⟨a,a1,a2,a3,a4,a5,a6,a7⟩:=hlk i x hx
  exact ⟨by omega,by rw [(a3.cells a6).1];exact a5⟩
 generalize hz0:(if n*k=0 then (#[]:Array Value) else z.cells)=zero
 obtain ⟨r,r1,r2, -,r4⟩:=Rh k l 0 ((Array.range (n*k)).map (fun i=>zero[i % zero.size]!)) hlc (by simp [vv])
 have hrs:r.size=n*k:=by rw [r2];simp
 have hrun:(Instr.buildSlice t n (parts.map fun (i,x)=>(i,Act.eval ⟨ts,ds⟩ x))).run P w= .ok (.slice (some ⟨w.heap.size,0,none⟩) n n) (w.alloc (.cells r el)):=by
  have hb':¬(n*k>2 ^ 24):=by omega
  simp only [Instr.buildSlice,Sem.run_bind,bQ ht,Result.andThen_ok,e8 hinfo,hk,hvs]
  by_cases h0:n*k=0
  · rw [if_pos h0] at hz0
    subst hz0
    simp [h0] at r1 hb' ⊢
    simp [r1,newRow]
  · rw [if_neg h0] at hz0
    subst hz0
    simp only [if_neg hb',if_neg h0]
    simp [UP,r1,newRow]
 have hone:∀v∈r.toList,v.oneCell'=true:=by
  intro v hv
  obtain ⟨q,hq,rfl⟩:=List.getElem_of_mem hv
  have UQ:q<n*k:=by rw [Array.length_toList,hrs] at hq;exact hq
  have hk0:0<k:=by rcases Nat.eq_zero_or_pos k with h0|h0
                   · rw [h0] at UQ;omega
                   · exact h0
  have hqi:q / k<l.length:=by rw [vv];exact (Nat.div_lt_iff_lt_mul hk0).2 UQ
  obtain ⟨a,a1,a2,a3,a4,a5,a6,a7⟩:=hlk _ _ (List.getElem?_eq_getElem hqi)
  have hr:=r4 _ _ (List.getElem?_eq_getElem hqi) (q % k) (Nat.mod_lt _ hk0)
  rw [Nat.zero_add,Nat.div_add_mod'] at hr
  have hlt2:q % k<(ev e a).cells.length:=by rw [a5];exact Nat.mod_lt _ hk0
  have:=((a3.cells a6).2 _ _ (List.getElem?_eq_getElem hlt2)).2
  rw [←hr] at this
  have e1:r.toList[q]=r.getD q undef:=by
   rw [←iI,List.getD_eq_getElem?_getD,List.getElem?_eq_getElem hq];rfl
  rw [e1];exact this
 refine ⟨r,hrs,hrun,fun i a hi j u hj=> ?_,fun fr hfr=> ?_⟩
 · obtain ⟨x,x1,x2,x3,x4,x5,x6,x7⟩:=hpart i a hi
   have I2:j<k:=by rw [←x5];exact (List.getElem?_eq_some_iff.1 hj).1
   have hx:l[i]? =some (x.1,Act.eval ⟨ts,ds⟩ x.2):=by rw [hl,List.getElem?_map,x1];rfl
   have hr:=r4 i _ hx j I2
   rw [Nat.zero_add] at hr
   rw [hr]
   exact ((x3.cells x6).2 j u hj).1
 obtain ⟨q1,q2,q3⟩:=heap_alloc w (.cells r el fr)
 obtain ⟨C',g1,g2,g3,g4⟩:=xz (ds:=ds) (w':=w.alloc (.cells r el fr)) (d:=none) (Eb:=r.toList) (xs:=zq.map fun p=>(ev e p).s0) (k:=k) (n:=n) (c:=n)
  h (by simp) q2 q3 q1 (List.prefix_refl _) hone (by simp [hrs]) (by simp [c1,hpl]) (Nat.le_refl _) (by omega) (fun q hq=>by rcases hfr with rfl|rfl<;>simp;omega)
  (fun i a hi=>by
   rw [List.getElem?_map] at hi
   cases hq:zq[i]? with
   |none=>rw [hq] at hi;simp at hi
   |some b=>
    rw [hq] at hi
    obtain rfl:(ev e b).s0=a:=by simpa using hi
    obtain ⟨x,x1,x2,x3,x4,x5,x6,x7⟩:=hpart i b hq
    rw [←x5]
    cases ev e b<;>simp [AV.s0,AV.s1,AV.cells])
  (fun i a hi j y hj=>by
   rw [List.getElem?_map] at hi
   cases hq:zq[i]? with
   |none=>rw [hq] at hi;simp at hi
   |some b=>
    rw [hq] at hi
    obtain rfl:(ev e b).s0=a:=by simpa using hi
    obtain ⟨x,x1,x2,x3,x4,x5,x6,x7⟩:=hpart i b hq
    have hls:∃u,(ev e b).cells[j]? =some u∧y=u.s1∧j<k:=by
     rw [←x5]
     cases hb:ev e b with
     |agg cs=>
      rw [hb] at hj
      simp only [AV.s0,AV.cells,List.getElem?_map] at hj
      cases YL:cs[j]? with
      |none=>rw [YL] at hj;simp at hj
      |some u=>rw [YL] at hj;exact ⟨u,YL,by simpa using hj.symm,(List.getElem?_eq_some_iff.1 YL).1⟩
     |_=>
      rw [hb] at hj
      cases j with
      |zero=>simp [AV.s0,AV.s1,AV.cells] at hj ⊢;subst hj;first|rfl|trivial|simp
      |succ j=>simp [AV.s0,AV.s1,AV.cells] at hj
    obtain ⟨u,u1,rfl,I2⟩:=hls
    have hx:l[i]? =some (x.1,Act.eval ⟨ts,ds⟩ x.2):=by rw [hl,List.getElem?_map,x1];rfl
    have hr:=r4 i _ hx j I2
    rw [Nat.zero_add] at hr
    rw [iI,hr]
    exact (Wk.jz (Wk.s1 u)).vr ((((x3.cells x6).2 j u u1).1.np (vu x7 u1))))
 exact ⟨C',g3.aF hd (g4.kR .ex) rfl rfl (by simp),g2⟩
theorem YM {t el:TypeId} {n:Nat} {parts:Array (Nat×Operand)} {zq:List Ar} (h:SR L N F γ C e ah ts w) (hd:∀x,d=some x→x<N) (ht:P.underlying t=some (.slice el))
 (hn:parts.size=n) (hb:n*cP P el≤16777216) (hz:(zeroOf P el).isSome=true) (hc:mz P el 0 parts.toList=some zq)
 (hev:bK L ⟨d, .gA (cP P el) zq,none⟩ e ah=some (e',aE)):bf m P L N F γ C ⟨d, .buildSlice t n parts,ty,pos,af,g⟩ ts ds w e' aE:=by
 simp only [bK] at hev
 split at hev
 case isFalse=>cases hev
 rename_i hall
 simp only [Option.some.injEq,Prod.mk.injEq] at hev
 obtain ⟨rfl,rfl⟩:=hev
 obtain ⟨r,hrs,hrun, -,key⟩:=yA (ds:=ds) h hd ht hn hb hz hc hall
 obtain ⟨C',g1,g2⟩:=key (0,0) (.inl rfl)
 refine ⟨_,_,γ,C', .inl ?_,List.prefix_refl _,g1,g2,fun _ s b hb=>(heap_alloc w _).2.1 b (eW h (p:= .obj s) hb),fun hq=>by simp [dV] at hq⟩
 simp [execOp,hrun]
theorem UR:∀ {zq:List Ar} {bs:List UInt8},Im zq=some bs→∀e:Env,(zq.map fun p=>(ev e p).s0)=bs.map b8∧
 (zq.all fun p=>decide ((ev e p).cells.length=1)&&bU (ev e p).cells&&gz (ev e p).cells)=true:=by
 intro zq
 induction zq with
 |nil=>intro bs h e;simp [Im] at h;subst h;simp
 |cons a r ih=>
  intro bs h e
  unfold Im at h
  split at h
  · rename_i heq;cases heq
  · rename_i i r' heq
    injection heq with e1 e2
    subst e1;subst e2
    split at h
    case isFalse=>cases h
    rename_i hi
    cases hl:Im r with
    |none=>rw [hl] at h;cases h
    |some l=>
     rw [hl] at h
     simp only [Option.map_some,Option.some.injEq] at h
     subst h
     obtain ⟨h1,h2⟩:=ih hl e
     refine ⟨?_, ?_⟩
     · simp only [List.map_cons,h1,List.cons.injEq,and_true]
       simp only [ev,AV.s0,AV.s1,b8,AV.int.injEq,true_and]
       have:(UInt8.ofNat i.toNat).toNat=i.toNat:=by simp [UInt8.toNat_ofNat];omega
       rw [this];omega
     · simp only [List.all_cons,h2,Bool.and_true]
       simp [ev,AV.cells,bU,gz,AV.iR,AV.np]
  · cases h
theorem SR.Fk (ts:Array Value) (ds:List Deferred) {y:Nat} {d:Option Nat} (hy:d≠some y) (v u:Value):
 (((⟨ts,ds⟩:Act).put d v).put (some y) u)=(((⟨ts,ds⟩:Act).put (some y) u).put d v):=by
 rw [Act.put_comm]
 intro x hx hy'
 injection hy' with hy'
 subst hy'
 exact hy hx
theorem Ri {α β:Type} (f:α→Sem β) (k:α→β):∀(l:List α),(∀a∈l,(f a).run P w= .ok (k a) w)→(l.mapM f).run P w= .ok (l.map k) w:=by
 intro l
 induction l with
 |nil=>intro _;rfl
 |cons a r ih=>
  intro h
  simp only [List.mapM_cons,Sem.run_bind,h a (by simp),Result.andThen_ok,ih (fun b hb=>h b (by simp [hb])),Sem.run_pure,List.map_cons]
theorem Li {t:TypeId} {fs:Array Field} (hu:P.underlying t=some (.struct fs)) (h:SR L N F γ C e ah ts w):∀(l:List (Nat×Operand)) (ps:List (Nat×Nat×Ar)) (cs cs':List AV) (cells:Array Value),
 yw P t l=some ps→fill e cs ps=some cs'→cells.size=cs.length→(∀(i:Nat) (a:AV),cs[i]? =some a→VR C γ a (cells.getD i undef)∧mo a (cells.getD i undef))→
 ∃r,Instr.fill ((fs.map fun f=>(f.offset,cP P f.type))[·]?) cells (l.map fun (x:Nat×Operand)=>(x.1,Act.eval ⟨ts,ds⟩ x.2))=some r∧r.size=cs'.length∧
  ∀(i:Nat) (a:AV),cs'[i]? =some a→VR C γ a (r.getD i undef)∧mo a (r.getD i undef):=by
 intro l
 induction l with
 |nil=>
  intro ps cs cs' cells hp hf hl hc
  simp only [yw,Option.some.injEq] at hp
  subst hp
  simp only [fill,Option.some.injEq] at hf
  subst hf
  exact ⟨cells,rfl,hl,hc⟩
 |cons x r ih=>
  intro ps cs cs' cells hp hf hl hc
  obtain ⟨i,x⟩:=x
  simp only [yw] at hp
  split at hp
  case h_2=>cases hp
  rename_i f hfd
  split at hp
  case h_2=>cases hp
  rename_i a zq ha has
  simp only [Option.some.injEq] at hp
  subst hp
  simp only [fill] at hf
  split at hf
  case isFalse=>cases hf
  rename_i xw
  obtain ⟨hcl,hok⟩:=xw
  split at hf
  case h_2=>cases hf
  rename_i YN hov
  obtain ⟨o1,o2,o3⟩:=xA hov
  obtain ⟨a1,a2⟩:=gm (ds:=ds) h ha
  obtain ⟨c1,c2⟩:=a1.cells hok
  have c3:=a2.cells a1 hok
  have hfi:fs[i]? =some f:=by simpa [KY,hu] using hfd
  simp only [List.length_map] at o1 o3
  obtain ⟨f1,f2⟩:=CB (Act.eval ⟨ts,ds⟩ x) f.offset cells (by omega)
  obtain ⟨q,q1,q2,q3⟩:=ih zq YN cs' _ has hf (by rw [f1,o2];exact hl) (fun j b hb=>by
   rw [o3 j] at hb
   rw [f2 j]
   by_cases hin:f.offset≤j∧j<f.offset+(ev e a).cells.length
   · rw [if_pos hin,List.getElem?_map] at hb
     rw [if_pos (by omega)]
     cases hq:(ev e a).cells[j - f.offset]? with
     |none=>rw [hq] at hb;simp at hb
     |some y=>
      rw [hq] at hb
      obtain rfl:y.bN=b:=by simpa using hb
      refine ⟨(Wk.jz (Wk.bN y)).vr (c2 _ y hq).1, ?_⟩
      have:=c3 _ y hq
      generalize ((Act.eval ⟨ts,ds⟩ x).cells.getD (j - f.offset) undef)=v at this
      cases y with
      |sl t k xs=>cases t<;>cases v<;>first|trivial|exact this
      |_=>exact this
   · rw [if_neg hin] at hb
     rw [if_neg (by omega)]
     exact hc j b hb)
  refine ⟨q, ?_,q2,q3⟩
  simp only [List.map_cons,Instr.fill]
  rw [show (fs.map fun f=>(f.offset,cP P f.type))[i]? =some (f.offset,cP P f.type) by simp [hfi]]
  simp only
  rw [if_neg (by simp;omega)]
  exact q1
theorem Rj {t:TypeId} {fs:Array Field} {parts:Array (Nat×Operand)} {z:List AV} {ps:List (Nat×Nat×Ar)} (h:SR L N F γ C e ah ts w) (hd:∀x,d=some x→x<N)
 (hu:P.underlying t=some (.struct fs)) (hz:zeroOf P t=some z) (hc:yw P t parts.toList=some ps) (hfs:fs.toList.all (fun f=>(P.info? f.type).isSome)=true)
 (hev:bK L ⟨d, .build z ps,none⟩ e ah=some (e',aE)):bf m P L N F γ C ⟨d, .build t parts,ty,pos,af,g⟩ ts ds w e' aE:=by
 obtain ⟨zv,UP,hzs,hinfo,Le⟩:=qb (C:=C) (γ:=γ) hz
 simp only [bK] at hev
 cases hf:fill e z ps with
 |none=>rw [hf] at hev;cases hev
 |some cs=>
  rw [hf] at hev
  simp only [Option.map_some,Option.some.injEq,Prod.mk.injEq] at hev
  obtain ⟨rfl,rfl⟩:=hev
  obtain ⟨r,r1,r2,r3⟩:=Li (ds:=ds) hu h parts.toList ps z cs zv.cells hc hf hzs (fun i a hi=>⟨(Le i a hi).1,(Le i a hi).2.1⟩)
  refine bf.plain h hd (v:= .agg r) ?_ (.agg _ _ _ r2.symm fun i a hi=>(r3 i a hi).1) (fun i a hi=>(r3 i a hi).2) rfl
  intro w _
  have UT:(fs.mapM (fun (f:Field)=>(do pure (f.offset, ←sizeOf f.type):Sem (Nat×Nat)))).run P w= .ok (fs.map fun (f:Field)=>(f.offset,cP P f.type)) w:=by
   rw [Array.mapM_eq_mapM_toList]
   have:=Ri (P:=P) (w:=w) (fun f:Field=>(do pure (f.offset, ←sizeOf f.type):Sem (Nat×Nat))) (fun f=>(f.offset,cP P f.type)) fs.toList (fun f hf=>by
    have:=List.all_eq_true.1 hfs f hf
    simp only [Sem.run_bind,e8 this,Result.andThen_ok,Sem.run_pure])
   rw [map_eq_pure_bind]
   simp only [Sem.run_bind,this,Result.andThen_ok,Sem.run_pure,List.map_toArray]
   congr 1
   apply Array.ext'
   simp
  have hl:(parts.map fun (i,x)=>(i,Act.eval ⟨ts,ds⟩ x)).toList=parts.toList.map fun (x:Nat×Operand)=>(x.1,Act.eval ⟨ts,ds⟩ x.2):=by rw [Array.toList_map]
  simp only [execOp,Instr.build,Sem.run_bind,UP,Result.andThen_ok,bQ hu,UT,hl]
  rw [r1]
  rfl
end
end Go.Am
end
