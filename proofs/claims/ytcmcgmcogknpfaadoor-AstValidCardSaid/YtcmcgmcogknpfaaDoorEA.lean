/- An abstract evaluator for the model's code: abstract values (structs and immutable slices as lists), an abstract memory, and the evaluator itself. Written over any program. -/
import Derived.CallsIn
import Derived.OrdersIn
import Derived.RangeFuncIn
import Derived.RangeFuncLeaves
import Derived.Laws.AppendOwn
import Derived.RowKit3
namespace Go.Ab
open Go

/-- An abstract value. 'seq': a slice whose elements are never written again (z: it is nil; full: no spare capacity). 'own': a slice that is the one owner of the abstract array id. 'rptr': a pointer to cells that are never written again. -/
inductive AV where
  | int (k : IntKind) (n : Int)
  | bool (b : Bool)
  | str (s : ByteArray)
  | agg (xs : List AV)
  | tup (xs : List AV)
  | seq (z full : Bool) (sz : Nat) (xs : List AV)
  | own (id ver : Nat)
  | ptr (id ver off : Nat)
  | aptr (id ver sz i f : Nat)
  | rptr (xs : List AV)
  | nilptr
  | fn (f : Nat) (first cap : List AV)
  | nilfn
  | yld (id : Nat)
  | mp (id : Nat)
  | nilmp
  | smap (ks vs : List AV)
  | junk

def AV.cells : AV → List AV
  | .agg xs => xs
  | x => [x]
def AV.leaf : AV → Bool
  | .agg _ | .tup _ | .junk => false
  | _ => true
def AV.data : AV → Bool
  | .tup _ | .junk => false
  | _ => true
abbrev AV.undef : AV := .tup []
abbrev Env := Nat → AV

inductive Blk where
  | box (cs : List AV)
  | arr (e sz : Nat) (xs : List AV)
  | mp (ks vs : List AV)
  | lp (env : Env) (params : List Nat) (assign body : Code) (st : LoopState) (pend : Option Code)
  | dead
abbrev Mem := List Blk

def upd (e : Env) (d : Nat) (v : AV) : Env := fun t => if t = d then v else e t
def put (e : Env) (d : Option Nat) (v : AV) : Env := match d with | some d => upd e d v | none => e

/-- How long a block is, and how wide an array's elements are. -/
def shpB : Blk → Option (Nat × Nat)
  | .box cs => some (cs.length, 0)
  | .arr _ sz xs => some (xs.length, sz)
  | .lp .. => some (0, 0)
  | .mp .. => some (0, 0)
  | .dead => none
def shp (m : Mem) (id : Nat) : Option (Nat × Nat) := (m[id]?).bind shpB
def verOf (m : Mem) (id : Nat) : Option Nat := (shp m id).map (·.1)

mutual
def AV.pure : AV → Bool
  | .agg xs => pureL xs
  | .tup xs => pureL xs
  | .fn _ a b => pureL a && pureL b
  | .seq _ _ _ xs => pureL xs
  | .rptr xs => pureL xs
  | .smap ks vs => pureL ks && pureL vs
  | .own .. | .ptr .. | .aptr .. | .yld .. | .mp _ | .junk => false
  | .int .. | .bool .. | .str .. | .nilptr | .nilfn | .nilmp => true
def pureL : List AV → Bool
  | [] => true
  | x :: xs => x.pure && pureL xs
end
mutual
/-- No memory hangs on it. -/
def AV.flat : AV → Bool
  | .agg xs => flatL xs
  | .tup xs => flatL xs
  | .int .. | .bool .. | .str .. | .nilptr | .nilfn | .nilmp => true
  | .seq z _ _ xs => z || xs.isEmpty
  | _ => false
def flatL : List AV → Bool
  | [] => true
  | x :: xs => x.flat && flatL xs
end
mutual
/-- Every handle lies below N. -/
def AV.under (N : Nat) : AV → Bool
  | .agg xs => underL N xs
  | .tup xs => underL N xs
  | .fn _ a b => underL N a && underL N b
  | .own id _ => id < N
  | .ptr id _ _ => id < N
  | .aptr id .. => id < N
  | .yld id => id < N
  | .mp id => id < N
  | .smap ks vs => underL N ks && underL N vs
  | .seq _ _ _ xs => underL N xs
  | .rptr xs => underL N xs
  | .int .. | .bool .. | .str .. | .nilptr | .nilfn | .nilmp | .junk => true
def underL (N : Nat) : List AV → Bool
  | [] => true
  | x :: xs => x.under N && underL N xs
end
/-- The value as it reads now, every handle turned into what it leads to. -/
def fz (m : Mem) : Nat → AV → Option AV
  | 0, x => if x.pure then some x else none
  | n + 1, x => if x.pure then some x else
    match x with
    | .own id ver => match m[id]? with
      | some (.arr _ sz xs) => if xs.length = ver then (xs.mapM (fz m n)).map (.seq false false sz) else none
      | _ => none
    | .ptr id ver off => match m[id]? with
      | some (.box cs) => if cs.length = ver ∧ off < cs.length then ((cs.drop off).mapM (fz m n)).map .rptr else none
      | _ => none
    | .agg xs => (xs.mapM (fz m n)).map .agg
    | .tup xs => (xs.mapM (fz m n)).map .tup
    | .seq z full sz xs => (xs.mapM (fz m n)).map (.seq z full sz)
    | .rptr xs => (xs.mapM (fz m n)).map .rptr
    | .fn f a b => match a.mapM (fz m n), b.mapM (fz m n) with
      | some a, some b => some (.fn f a b)
      | _, _ => none
    | .mp id => match m[id]? with
      | some (.mp ks vs) => match ks.mapM (fz m n), vs.mapM (fz m n) with
        | some a, some b => some (.smap a b)
        | _, _ => none
      | _ => none
    | .smap ks vs => match ks.mapM (fz m n), vs.mapM (fz m n) with
      | some a, some b => some (.smap a b)
      | _, _ => none
    | _ => none
/-- The handles that 'fz' follows. -/
def idsD (m : Mem) : Nat → AV → List Nat
  | 0, _ => []
  | n + 1, x => if x.pure then [] else
    match x with
    | .own id _ => id :: (match m[id]? with
      | some (.arr _ _ xs) => xs.flatMap (idsD m n)
      | _ => [])
    | .ptr id _ off => id :: (match m[id]? with
      | some (.box cs) => (cs.drop off).flatMap (idsD m n)
      | _ => [])
    | .agg xs => xs.flatMap (idsD m n)
    | .tup xs => xs.flatMap (idsD m n)
    | .seq _ _ _ xs => xs.flatMap (idsD m n)
    | .rptr xs => xs.flatMap (idsD m n)
    | .fn _ a b => a.flatMap (idsD m n) ++ b.flatMap (idsD m n)
    | .mp id => id :: (match m[id]? with
      | some (.mp ks vs) => ks.flatMap (idsD m n) ++ vs.flatMap (idsD m n)
      | _ => [])
    | .smap a b => a.flatMap (idsD m n) ++ b.flatMap (idsD m n)
    | _ => []
def idsDL (m : Mem) (xs : List AV) : List Nat := xs.flatMap (idsD m 6)
def fzs (m : Mem) (xs : List AV) : Option (List AV) := xs.mapM (fz m 6)

def kill (m : Mem) (l : List Nat) : Mem := l.foldl (fun m id => m.set id .dead) m

mutual
def ofV : Value → Option AV
  | .bool b => some (.bool b)
  | .int k n => some (.int k n)
  | .string s => some (.str s)
  | .pointer none => some .nilptr
  | .slice none 0 0 => some (.seq true true 0 [])
  | .nilFunc => some .nilfn
  | .map none => some .nilmp
  | .agg ⟨cs⟩ => match ofVs cs with
    | some xs => if xs.all AV.leaf then some (.agg xs) else none
    | none => none
  | .tuple ⟨cs⟩ => (ofVs cs).map .tup
  | _ => none
def ofVs : List Value → Option (List AV)
  | [] => some []
  | v :: vs => match ofV v, ofVs vs with
    | some x, some xs => some (x :: xs)
    | _, _ => none
end

/-- What the evaluator runs over: the program; contracts proved elsewhere; functions whose calls share the caller's memory; package-level variables that hold known cells. -/
structure Cx where
  P : Program
  X : Nat → Option (List AV → Option AV)
  sh : Nat → Bool
  G : Nat → Option (List AV)

section types
variable (P : Program)
def elemT (t : Nat) : Option Nat := match P.underlying t with | some (.slice e) => some e | _ => none
def arrT (t : Nat) : Option (Nat × Nat) := match P.underlying t with | some (.array n e) => some (n, e) | _ => none
def strT (t : Nat) : Bool := match P.underlying t with | some .string => true | _ => false
def aggT (t : Nat) : Bool := match P.underlying t with | some (.struct _) | some (.array ..) => true | _ => false
def hasT (t : Nat) : Bool := (P.underlying t).isSome
def szT (t : Nat) : Option Nat := (P.info? t).map (·.size)
def byT (t : Nat) : Option Nat := (P.info? t).map (·.bytes)
def fldT (t j : Nat) : Option (Nat × Nat) := match P.underlying t with | some (.struct fs) => (fs[j]?).map fun f => (f.type, f.offset) | _ => none
/-- The places of a struct's fields are known. -/
def plT (t : Nat) : Bool := match P.underlying t with | some (.struct fs) => (fs.toList.mapM fun f => (P.info? f.type).map fun i => (f.offset, i.size)).isSome | _ => false
def zeroT (t : Nat) : Option AV := ((P.info? t).bind (·.zero)).bind ofV
/-- The cells that a type's value takes, out of a list of cells that begins with them. -/
def takeT (t : Nat) (cs : List AV) : Option AV :=
  if aggT P t then match szT P t with
    | some n => if n ≤ cs.length then some (.agg (cs.take n)) else none
    | none => none
  else if hasT P t then cs.head? else none
end types

def evX (cx : Cx) (e : Env) : Operand → Option AV
  | .tmp t => some (e t)
  | .const v => ofV v
  | .global g => (cx.G g).map .rptr
  | .func f => some (.fn f [] [])
def evXs (cx : Cx) (e : Env) : List Operand → Option (List AV)
  | [] => some []
  | x :: xs => match evX cx e x, evXs cx e xs with
    | some v, some vs => some (v :: vs)
    | _, _ => none

def bitsA (op : BinOp) (k : IntKind) (x y : Int) : AV :=
  match op with
  | .and => .int k (k.wrap (BitVec.ofInt k.bits x &&& BitVec.ofInt k.bits y).toNat)
  | .or => .int k (k.wrap (BitVec.ofInt k.bits x ||| BitVec.ofInt k.bits y).toNat)
  | .xor => .int k (k.wrap (BitVec.ofInt k.bits x ^^^ BitVec.ofInt k.bits y).toNat)
  | _ => .int k (k.wrap (BitVec.ofInt k.bits x &&& ~~~ BitVec.ofInt k.bits y).toNat)
def intA (op : BinOp) (k : IntKind) (x y : Int) : Option AV :=
  match op with
  | .add => some (.int k (k.wrap (x + y)))
  | .sub => some (.int k (k.wrap (x - y)))
  | .mul => some (.int k (k.wrap (x * y)))
  | .quo => if y = 0 then none else some (.int k (k.wrap (x.tdiv y)))
  | .rem => if y = 0 then none else some (.int k (x.tmod y))
  | .and => some (bitsA .and k x y)
  | .or => some (bitsA .or k x y)
  | .xor => some (bitsA .xor k x y)
  | .andNot => some (bitsA .andNot k x y)
  | .shl => if y < 0 then none else some (.int k (k.wrap (x * 2 ^ (min y.toNat k.bits))))
  | .shr => if y < 0 then none else some (.int k (x.fdiv (2 ^ (min y.toNat k.bits))))
  | .eql => some (.bool (decide (x = y)))
  | .neq => some (.bool (!decide (x = y)))
  | .lss => some (.bool (decide (x < y)))
  | .leq => some (.bool (decide (x ≤ y)))
  | .gtr => some (.bool (decide (y < x)))
  | .geq => some (.bool (decide (y ≤ x)))
def strA (op : BinOp) (x y : ByteArray) : Option AV :=
  match op with
  | .add => if ((x.size + y.size : Nat) : Int) > IntKind.i64.max then none else some (.str (x ++ y))
  | .eql => some (.bool (x.data.toList == y.data.toList))
  | .neq => some (.bool (!(x.data.toList == y.data.toList)))
  | .lss => some (.bool (Op.bytesLess x.data.toList y.data.toList))
  | .leq => some (.bool (Op.bytesLess x.data.toList y.data.toList || x.data.toList == y.data.toList))
  | .gtr => some (.bool (!(Op.bytesLess x.data.toList y.data.toList || x.data.toList == y.data.toList)))
  | .geq => some (.bool (!(Op.bytesLess x.data.toList y.data.toList)))
  | _ => none
def sliceT (P : Program) (t : Nat) : Bool := (elemT P t).isSome
def funcT (P : Program) (t : Nat) : Bool := match P.underlying t with | some (.func ..) => true | _ => false
def boolT (P : Program) (t : Nat) : Bool := match P.underlying t with | some .bool => true | _ => false
/-- '==' at a slice against nil, at a func against nil, at bools. -/
def eqA (P : Program) (m : Mem) (t : Nat) : AV → AV → Option Bool
  | .bool a, .bool b => if boolT P t then some (a == b) else none
  | .seq z _ _ _, .seq true _ _ _ => if sliceT P t then some z else none
  | .seq true _ _ _, .seq z _ _ _ => if sliceT P t then some z else none
  | .own id ver, .seq true _ _ _ => if sliceT P t ∧ verOf m id = some ver then some false else none
  | .seq true _ _ _, .own id ver => if sliceT P t ∧ verOf m id = some ver then some false else none
  | .nilfn, .nilfn => if funcT P t then some true else none
  | .fn .., .nilfn => if funcT P t then some false else none
  | .nilfn, .fn .. => if funcT P t then some false else none
  | _, _ => none
def binA (P : Program) (m : Mem) (op : BinOp) (t : Nat) : AV → AV → Option AV
  | .int k a, .int k' b => match op with
    | .shl => intA .shl k a b
    | .shr => intA .shr k a b
    | op => if k = k' then intA op k a b else none
  | .str a, .str b => strA op a b
  | x, y => match op with
    | .eql => (eqA P m t x y).map .bool
    | .neq => (eqA P m t x y).map fun b => .bool (!b)
    | _ => none

def unA (op : UnOp) : AV → Option AV
  | .int k n => match op with
    | .neg => some (.int k (k.wrap (0 - n)))
    | .xor => some (bitsA .xor k (if k.signed then -1 else k.max) n)
    | _ => none
  | .bool b => match op with
    | .not => some (.bool !b)
    | _ => none
  | _ => none

def loadA (P : Program) (m : Mem) (t : Nat) : AV → Option AV
  | .rptr cs => takeT P t cs
  | .ptr id ver off => match m[id]? with
    | some (.box cs) => if cs.length = ver then takeT P t (cs.drop off) else none
    | _ => none
  | .aptr id ver sz i f => match m[id]? with
    | some (.arr _ sz' xs) => if xs.length = ver ∧ sz = sz' then (xs[i]?).bind fun x => takeT P t (x.cells.drop f) else none
    | _ => none
  | _ => none

/-- vs laid over cs from off on. -/
def over (cs : List AV) (off : Nat) (vs : List AV) : List AV := cs.take off ++ vs ++ cs.drop (off + vs.length)
def storeA (P : Program) (m : Mem) (t : Nat) (a v : AV) : Option Mem :=
  if szT P t = some v.cells.length ∧ v.data = true then
    match a with
    | .ptr id ver off => match m[id]? with
      | some (.box cs) => if cs.length = ver ∧ off + v.cells.length ≤ cs.length then some (m.set id (.box (over cs off v.cells))) else none
      | _ => none
    | .aptr id ver sz i f => match m[id]? with
      | some (.arr e sz' xs) => if xs.length = ver ∧ sz = sz' ∧ f + v.cells.length ≤ sz ∧ 1 < sz then
          (xs[i]?).map fun x => m.set id (.arr e sz (xs.set i (.agg (over x.cells f v.cells))))
        else if xs.length = ver ∧ sz = sz' ∧ f = 0 ∧ sz = 1 ∧ i < xs.length then
          match v with
          | .agg _ => none
          | v => some (m.set id (.arr e sz (xs.set i v)))
        else none
      | _ => none
    | _ => none
  else none

def fieldAddrA (P : Program) (m : Mem) (s j : Nat) (x : AV) : Option AV :=
  match fldT P s j with
  | some (ft, o) =>
    if (szT P ft).any (0 < ·) then
      match x with
      | .rptr cs => if o < cs.length then some (.rptr (cs.drop o)) else none
      | .ptr id ver off => if verOf m id = some ver then some (.ptr id ver (off + o)) else none
      | .aptr id ver sz i f => if verOf m id = some ver then some (.aptr id ver sz i (f + o)) else none
      | _ => none
    else none
  | none => none
def partA (P : Program) (t : Nat) (cs : List AV) (off : Nat) : Option AV :=
  if aggT P t then match szT P t with
    | some n => if off + n ≤ cs.length then some (.agg ((cs.drop off).take n)) else none
    | none => none
  else if hasT P t then cs[off]? else none
def fieldA (P : Program) (s j : Nat) (x : AV) : Option AV :=
  match fldT P s j, x with
  | some (ft, o), .agg cs => partA P ft cs o
  | _, _ => none
def indexAddrA (P : Program) (m : Mem) (t : Nat) (x ix : AV) : Option AV :=
  match ix with
  | .int _ i =>
    match elemT P t with
    | some e => match x with
      | .seq _ _ sz xs => if szT P e = some sz ∧ 0 ≤ i then (xs[i.toNat]?).bind fun y => if y.cells = [] then none else some (.rptr y.cells) else none
      | .own id ver => match shp m id with
        | some (v, sz) => if szT P e = some sz ∧ v = ver ∧ 0 < sz ∧ 0 ≤ i ∧ i.toNat < ver then some (.aptr id ver sz i.toNat 0) else none
        | none => none
      | _ => none
    | none => match arrT P t with
      | some (n, e) => match szT P e with
        | some sz =>
          if 0 ≤ i ∧ i < n ∧ 0 < sz then match x with
            | .rptr cs => if i.toNat * sz < cs.length then some (.rptr (cs.drop (i.toNat * sz))) else none
            | .ptr id ver off => if verOf m id = some ver then some (.ptr id ver (off + i.toNat * sz)) else none
            | .aptr id ver az j f => if verOf m id = some ver then some (.aptr id ver az j (f + i.toNat * sz)) else none
            | _ => none
          else none
        | none => none
      | none => none
  | _ => none
def indexA (P : Program) (t : Nat) (x ix : AV) : Option AV :=
  match ix with
  | .int _ i =>
    if 0 ≤ i then match x with
      | .str s => if strT P t then (s[i.toNat]?).map fun b => .int .u8 b.toNat else none
      | .agg cs => match arrT P t with
        | some (n, e) => match szT P e with
          | some sz => if i < n then partA P e cs (i.toNat * sz) else none
          | none => none
        | none => none
      | _ => none
    else none
  | _ => none

def boundA (x : Option AV) (dflt : Nat) (top : Nat) : Option Nat :=
  match x with
  | none => some dflt
  | some (.int _ i) => if 0 ≤ i ∧ i ≤ top then some i.toNat else none
  | some _ => none
/-- x[lo:hi] of a string; of an immutable slice (the bound hi at most its length, or a full one); a third bound equal to the second. -/
def sliceA (P : Program) (t : Nat) (x : AV) (lo hi mx : Option AV) : Option AV :=
  match x with
  | .str s => if strT P t ∧ mx.isNone then do
      let h ← boundA hi s.size s.size
      let l ← boundA lo 0 h
      some (.str (s.extract l h))
    else none
  | .seq z full sz xs => match elemT P t with
    | some e => if szT P e = some sz then
        match mx with
        | none => do
          let h ← boundA hi xs.length xs.length
          let l ← boundA lo 0 h
          some (.seq z (full && h == xs.length) sz ((xs.take h).drop l))
        | some mx => do
          let mm ← boundA (some mx) 0 xs.length
          let h ← boundA hi xs.length mm
          if hi.isSome ∧ h = mm then do
            let l ← boundA lo 0 h
            some (.seq z true sz ((xs.take h).drop l))
          else none
      else none
    | none => none
  | _ => none

def lenA (P : Program) (m : Mem) (t : Nat) : AV → Option AV
  | .str s => if strT P t then some (.int .i64 s.size) else none
  | .seq _ _ _ xs => if sliceT P t then some (.int .i64 xs.length) else none
  | .own id ver => if sliceT P t ∧ verOf m id = some ver then some (.int .i64 ver) else none
  | .agg _ => (arrT P t).map fun (n, _) => .int .i64 n
  | _ => none

/-- The elements of a slice, as they read now. -/
def elemsA (m : Mem) : AV → Option (Nat × List AV)
  | .seq _ _ sz xs => some (sz, xs)
  | .own id ver => match m[id]? with
    | some (.arr _ sz xs) => if xs.length = ver then some (sz, xs) else none
    | _ => none
  | _ => none
def allCells (sz : Nat) (xs : List AV) : Bool := xs.all fun x => x.cells.length == sz
/-- append(s, ys...). -/
def appendA (P : Program) (m : Mem) (t t' : Nat) (s y : AV) : Option (AV × Mem) :=
  if t = t' then
    match elemT P t, elemsA m y with
    | some e, some (_, ys) => match szT P e, byT P e with
      | some sz, some bytes =>
        if 0 < sz ∧ allCells sz ys = true ∧ (zeroT P e).any (fun z => z.cells.length == sz) = true then
          match s with
          | .own id ver => match m[id]? with
            | some (.arr e' sz' xs) =>
              if xs.length = ver ∧ e' = e ∧ sz' = sz ∧ (xs.length + ys.length) * bytes ≤ 140737488355328 ∧ xs.length + ys.length ≤ 140737488355328 then
                if ys = [] then some (.own id ver, m) else some (.own id (ver + ys.length), m.set id (.arr e sz (xs ++ ys)))
              else none
            | _ => none
          | .seq z full sz' xs =>
            if (xs.length + ys.length) * bytes ≤ 140737488355328 ∧ xs.length + ys.length ≤ 140737488355328 then
              if ys = [] then (if z then some (.seq true full sz [], m) else if full ∧ sz' = sz then some (.seq false true sz xs, m) else none)
              else if z then some (.own m.length ys.length, m ++ [.arr e sz ys])
              else if full ∧ sz' = sz ∧ allCells sz xs = true then some (.own m.length (xs.length + ys.length), m ++ [.arr e sz (xs ++ ys)])
              else none
            else none
          | _ => none
        else none
      | _, _ => none
    | _, _ => none
  else none

def maxA (op : Bool) : List AV → Option AV
  | [] => none
  | x :: rest => rest.foldlM (fun a b => match a, b with
    | .int k x, .int _ y => some (.int k (if op then (if y > x then y else x) else (if y < x then y else x)))
    | _, _ => none) x

/-! ### Maps whose keys are numbers, texts or bools -/
def mapT (P : Program) (t : Nat) : Option (Nat × Nat) := match P.underlying t with | some (.map k e) => some (k, e) | _ => none
def keyK : TypeDesc → Bool
  | .int _ | .string | .bool => true
  | _ => false
def sameA : TypeDesc → AV → AV → Option Bool
  | .int _, .int k a, .int k' b => if k = k' then some (decide (a = b)) else none
  | .string, .str a, .str b => some (a.data.toList == b.data.toList)
  | .bool, .bool a, .bool b => some (a == b)
  | _, _, _ => none
def fitA : TypeDesc → AV → Bool
  | .int k, .int k' _ => decide (k' = k)
  | .string, .str _ => true
  | .bool, .bool _ => true
  | _, _ => false
def findA (kd : TypeDesc) (k : AV) : List AV → List AV → Nat → Option (Option (Nat × AV))
  | x :: ks, v :: vs, i => match sameA kd k x with
    | some true => some (some (i, v))
    | some false => findA kd k ks vs (i + 1)
    | none => none
  | [], [], _ => some none
  | _, _, _ => none
def entriesA (m : Mem) : AV → Option (List AV × List AV)
  | .nilmp => some ([], [])
  | .smap ks vs => some (ks, vs)
  | .mp id => match m[id]? with
    | some (.mp ks vs) => some (ks, vs)
    | _ => none
  | _ => none
def keyD (P : Program) (t : Nat) : Option TypeDesc := match mapT P t with
  | some (kt, _) => match P.underlying kt with
    | some kd => if keyK kd then some kd else none
    | none => none
  | none => none
def lookA (P : Program) (m : Mem) (t : Nat) (x k : AV) (ok : Bool) : Option AV :=
  match mapT P t, keyD P t, entriesA m x with
  | some (_, et), some kd, some (ks, vs) => if fitA kd k then match findA kd k ks vs 0 with
      | some (some (_, v)) => some (if ok then .tup [v, .bool true] else v)
      | some none => (zeroT P et).map fun z => if ok then .tup [z, .bool false] else z
      | none => none
    else none
  | _, _, _ => none
def updA (P : Program) (m : Mem) (t : Nat) (x k v : AV) : Option Mem :=
  match x, keyD P t with
  | .mp id, some kd => match m[id]? with
    | some (.mp ks vs) => if fitA kd k then match findA kd k ks vs 0 with
        | some (some (i, _)) => some (m.set id (.mp (ks.set i k) (vs.set i v)))
        | some none => some (m.set id (.mp (ks ++ [k]) (vs ++ [v])))
        | none => none
      else none
    | _ => none
  | _, _ => none

/-- The parts of a struct laid into its zero value's cells. -/
def fillA (P : Program) (t : Nat) (cs : List AV) : List (Nat × AV) → Option (List AV)
  | [] => some cs
  | (j, x) :: rest => match fldT P t j with
    | some (ft, o) => if szT P ft = some x.cells.length ∧ x.data = true ∧ o + x.cells.length ≤ cs.length then fillA P t (over cs o x.cells) rest else none
    | none => none
def evParts (cx : Cx) (e : Env) : List (Nat × Operand) → Option (List (Nat × AV))
  | [] => some []
  | (j, x) :: xs => match evX cx e x, evParts cx e xs with
    | some v, some vs => some ((j, v) :: vs)
    | _, _ => none
def fillS (sz : Nat) (xs : List AV) : List (Nat × AV) → Option (List AV)
  | [] => some xs
  | (j, x) :: rest => if x.cells.length = sz ∧ x.data = true ∧ j < xs.length then fillS sz (xs.set j x) rest else none

def convA (P : Program) (src dst : Nat) (x : AV) : Option AV :=
  match P.underlying src, P.underlying dst, x with
  | some _, some (.int k), .int _ n => some (.int k (k.wrap n))
  | some _, some .string, .str s => some (.str s)
  | _, _, _ => none
end Go.Ab
