/- Joined: XEA XEB XEC XED XEE XEF XEG. -/
import Derived.CallsIn
import Derived.OrdersIn
import Derived.RangeFuncIn
import Derived.RangeFuncLeaves
import Derived.Laws.AppendOwn
import Derived.RowKit3
/- An abstract evaluator for the model's code: abstract values (structs and immutable slices as lists), an abstract memory, and the evaluator itself. Written over any program. -/
namespace Go.Ab
open Go

/-- An abstract value. 'seq': a slice whose elements are never written again (z: it is nil; full: no spare capacity). 'own': a slice that is the one owner of the abstract array id. 'rptr': a pointer to cells that are never written again. -/
inductive AV where
  | int (k : IntKind) (n : Int)
  | bool (b : Bool)
  | str (s : ByteArray)
  | agg (xs : List AV)
  | tup (xs : List AV)
  | seq (z full : Bool) (sz : Nat) (xs : List AV)
  | own (id ver : Nat)
  | ptr (id ver off : Nat)
  | aptr (id ver sz i f : Nat)
  | rptr (xs : List AV)
  | nilptr
  | fn (f : Nat) (first cap : List AV)
  | nilfn
  | yld (id : Nat)
  | mp (id : Nat)
  | nilmp
  | smap (ks vs : List AV)
  | junk

def AV.cells : AV → List AV
  | .agg xs => xs
  | x => [x]
def AV.leaf : AV → Bool
  | .agg _ | .tup _ | .junk => false
  | _ => true
def AV.data : AV → Bool
  | .tup _ | .junk => false
  | _ => true
abbrev AV.undef : AV := .tup []
abbrev Env := Nat → AV

inductive Blk where
  | box (cs : List AV)
  | arr (e sz : Nat) (xs : List AV)
  | mp (ks vs : List AV)
  | vec (e sz : Nat) (xs : List AV)
  | lp (env : Env) (params : List Nat) (assign body : Code) (st : LoopState) (pend : Option Code)
  | dead
abbrev Mem := List Blk

def upd (e : Env) (d : Nat) (v : AV) : Env := fun t => if t = d then v else e t
def put (e : Env) (d : Option Nat) (v : AV) : Env := match d with | some d => upd e d v | none => e

/-- Functions whose calls work on the caller's boxes: they run in a small memory, of what their pointers lead to. -/
def ioF (f : Nat) : Bool := [
 106,
  1000000].contains f
/-- Functions of whose results the caller becomes the owner. -/
def kpF (f : Nat) : Bool := [
  1000000].contains f
/-- Functions whose calls are pure. -/
def plainF (sh : Nat → Bool) (f : Nat) : Bool := !sh f && (!ioF f && !kpF f)
theorem plainF_iff {sh : Nat → Bool} {f : Nat} (h : plainF sh f = true) : sh f = false ∧ ioF f = false ∧ kpF f = false := by
  simpa [plainF] using h
/-- Types whose new boxes hold growing slices where the zero value has nil. -/
def vzT (t : Nat) : Bool := [
  1000000].contains t

/-- How long a block is, and how wide an array's elements are. -/
def shpB : Blk → Option (Nat × Nat)
  | .box cs => some (cs.length, 0)
  | .arr _ sz xs => some (xs.length, sz)
  | .lp .. => some (0, 0)
  | .mp .. => some (0, 0)
  | .vec _ sz xs => some (xs.length, sz)
  | .dead => none
def shp (m : Mem) (id : Nat) : Option (Nat × Nat) := (m[id]?).bind shpB
def verOf (m : Mem) (id : Nat) : Option Nat := (shp m id).map (·.1)

mutual
def AV.pure : AV → Bool
  | .agg xs => pureL xs
  | .tup xs => pureL xs
  | .fn _ a b => pureL a && pureL b
  | .seq _ _ _ xs => pureL xs
  | .rptr xs => pureL xs
  | .smap ks vs => pureL ks && pureL vs
  | .own .. | .ptr .. | .aptr .. | .yld .. | .mp _ | .junk => false
  | .int .. | .bool .. | .str .. | .nilptr | .nilfn | .nilmp => true
def pureL : List AV → Bool
  | [] => true
  | x :: xs => x.pure && pureL xs
end
mutual
/-- No memory hangs on it. -/
def AV.flat : AV → Bool
  | .agg xs => flatL xs
  | .tup xs => flatL xs
  | .int .. | .bool .. | .str .. | .nilptr | .nilfn | .nilmp => true
  | .seq z _ _ xs => z || xs.isEmpty
  | _ => false
def flatL : List AV → Bool
  | [] => true
  | x :: xs => x.flat && flatL xs
end
mutual
/-- Every handle lies below N. -/
def AV.under (N : Nat) : AV → Bool
  | .agg xs => underL N xs
  | .tup xs => underL N xs
  | .fn _ a b => underL N a && underL N b
  | .own id _ => id < N
  | .ptr id _ _ => id < N
  | .aptr id .. => id < N
  | .yld id => id < N
  | .mp id => id < N
  | .smap ks vs => underL N ks && underL N vs
  | .seq _ _ _ xs => underL N xs
  | .rptr xs => underL N xs
  | .int .. | .bool .. | .str .. | .nilptr | .nilfn | .nilmp | .junk => true
def underL (N : Nat) : List AV → Bool
  | [] => true
  | x :: xs => x.under N && underL N xs
end
/-- The value as it reads now, every handle turned into what it leads to. -/
def fz (m : Mem) : Nat → AV → Option AV
  | 0, x => if x.pure then some x else none
  | n + 1, x => if x.pure then some x else
    match x with
    | .own id ver => match m[id]? with
      | some (.arr _ sz xs) => if xs.length = ver then (xs.mapM (fz m n)).map (.seq false false sz) else none
      | some (.vec _ sz xs) => if xs.length = ver then (xs.mapM (fz m n)).map fun ys => .seq ys.isEmpty ys.isEmpty sz ys else none
      | _ => none
    | .ptr id ver off => match m[id]? with
      | some (.box cs) => if cs.length = ver ∧ off < cs.length then ((cs.drop off).mapM (fz m n)).map .rptr else none
      | _ => none
    | .agg xs => (xs.mapM (fz m n)).map .agg
    | .tup xs => (xs.mapM (fz m n)).map .tup
    | .seq z full sz xs => (xs.mapM (fz m n)).map (.seq z full sz)
    | .rptr xs => (xs.mapM (fz m n)).map .rptr
    | .fn f a b => match a.mapM (fz m n), b.mapM (fz m n) with
      | some a, some b => some (.fn f a b)
      | _, _ => none
    | .mp id => match m[id]? with
      | some (.mp ks vs) => match ks.mapM (fz m n), vs.mapM (fz m n) with
        | some a, some b => some (.smap a b)
        | _, _ => none
      | _ => none
    | .smap ks vs => match ks.mapM (fz m n), vs.mapM (fz m n) with
      | some a, some b => some (.smap a b)
      | _, _ => none
    | _ => none
/-- The handles that 'fz' follows. -/
def idsD (m : Mem) : Nat → AV → List Nat
  | 0, _ => []
  | n + 1, x => if x.pure then [] else
    match x with
    | .own id _ => id :: (match m[id]? with
      | some (.arr _ _ xs) => xs.flatMap (idsD m n)
      | some (.vec _ _ xs) => xs.flatMap (idsD m n)
      | _ => [])
    | .ptr id _ off => id :: (match m[id]? with
      | some (.box cs) => (cs.drop off).flatMap (idsD m n)
      | _ => [])
    | .agg xs => xs.flatMap (idsD m n)
    | .tup xs => xs.flatMap (idsD m n)
    | .seq _ _ _ xs => xs.flatMap (idsD m n)
    | .rptr xs => xs.flatMap (idsD m n)
    | .fn _ a b => a.flatMap (idsD m n) ++ b.flatMap (idsD m n)
    | .mp id => id :: (match m[id]? with
      | some (.mp ks vs) => ks.flatMap (idsD m n) ++ vs.flatMap (idsD m n)
      | _ => [])
    | .smap a b => a.flatMap (idsD m n) ++ b.flatMap (idsD m n)
    | _ => []
def idsDL (m : Mem) (xs : List AV) : List Nat := xs.flatMap (idsD m 6)
def fzs (m : Mem) (xs : List AV) : Option (List AV) := xs.mapM (fz m 6)

def kill (m : Mem) (l : List Nat) : Mem := l.foldl (fun m id => m.set id .dead) m

mutual
def ofV : Value → Option AV
  | .bool b => some (.bool b)
  | .int k n => some (.int k n)
  | .string s => some (.str s)
  | .pointer none => some .nilptr
  | .slice none 0 0 => some (.seq true true 0 [])
  | .nilFunc => some .nilfn
  | .map none => some .nilmp
  | .agg ⟨cs⟩ => match ofVs cs with
    | some xs => if xs.all AV.leaf then some (.agg xs) else none
    | none => none
  | .tuple ⟨cs⟩ => (ofVs cs).map .tup
  | _ => none
def ofVs : List Value → Option (List AV)
  | [] => some []
  | v :: vs => match ofV v, ofVs vs with
    | some x, some xs => some (x :: xs)
    | _, _ => none
end

/-- What the evaluator runs over: the program; contracts proved elsewhere; functions whose calls share the caller's memory; package-level variables that hold known cells. -/
structure Cx where
  P : Program
  X : Nat → Option (List AV → Option AV)
  sh : Nat → Bool
  G : Nat → Option (List AV)

section types
variable (P : Program)
def elemT (t : Nat) : Option Nat := match P.underlying t with | some (.slice e) => some e | _ => none
def arrT (t : Nat) : Option (Nat × Nat) := match P.underlying t with | some (.array n e) => some (n, e) | _ => none
def strT (t : Nat) : Bool := match P.underlying t with | some .string => true | _ => false
def aggT (t : Nat) : Bool := match P.underlying t with | some (.struct _) | some (.array ..) => true | _ => false
def hasT (t : Nat) : Bool := (P.underlying t).isSome
def szT (t : Nat) : Option Nat := (P.info? t).map (·.size)
def byT (t : Nat) : Option Nat := (P.info? t).map (·.bytes)
def fldT (t j : Nat) : Option (Nat × Nat) := match P.underlying t with | some (.struct fs) => (fs[j]?).map fun f => (f.type, f.offset) | _ => none
/-- The places of a struct's fields are known. -/
def plT (t : Nat) : Bool := match P.underlying t with | some (.struct fs) => (fs.toList.mapM fun f => (P.info? f.type).map fun i => (f.offset, i.size)).isSome | _ => false
def zeroT (t : Nat) : Option AV := ((P.info? t).bind (·.zero)).bind ofV
/-- The cells that a type's value takes, out of a list of cells that begins with them. -/
def takeT (t : Nat) (cs : List AV) : Option AV :=
  if aggT P t then match szT P t with
    | some n => if n ≤ cs.length then some (.agg (cs.take n)) else none
    | none => none
  else if hasT P t then cs.head? else none
end types

def evX (cx : Cx) (e : Env) : Operand → Option AV
  | .tmp t => some (e t)
  | .const v => ofV v
  | .global g => (cx.G g).map .rptr
  | .func f => some (.fn f [] [])
def evXs (cx : Cx) (e : Env) : List Operand → Option (List AV)
  | [] => some []
  | x :: xs => match evX cx e x, evXs cx e xs with
    | some v, some vs => some (v :: vs)
    | _, _ => none

def bitsA (op : BinOp) (k : IntKind) (x y : Int) : AV :=
  match op with
  | .and => .int k (k.wrap (BitVec.ofInt k.bits x &&& BitVec.ofInt k.bits y).toNat)
  | .or => .int k (k.wrap (BitVec.ofInt k.bits x ||| BitVec.ofInt k.bits y).toNat)
  | .xor => .int k (k.wrap (BitVec.ofInt k.bits x ^^^ BitVec.ofInt k.bits y).toNat)
  | _ => .int k (k.wrap (BitVec.ofInt k.bits x &&& ~~~ BitVec.ofInt k.bits y).toNat)
def intA (op : BinOp) (k : IntKind) (x y : Int) : Option AV :=
  match op with
  | .add => some (.int k (k.wrap (x + y)))
  | .sub => some (.int k (k.wrap (x - y)))
  | .mul => some (.int k (k.wrap (x * y)))
  | .quo => if y = 0 then none else some (.int k (k.wrap (x.tdiv y)))
  | .rem => if y = 0 then none else some (.int k (x.tmod y))
  | .and => some (bitsA .and k x y)
  | .or => some (bitsA .or k x y)
  | .xor => some (bitsA .xor k x y)
  | .andNot => some (bitsA .andNot k x y)
  | .shl => if y < 0 then none else some (.int k (k.wrap (x * 2 ^ (min y.toNat k.bits))))
  | .shr => if y < 0 then none else some (.int k (x.fdiv (2 ^ (min y.toNat k.bits))))
  | .eql => some (.bool (decide (x = y)))
  | .neq => some (.bool (!decide (x = y)))
  | .lss => some (.bool (decide (x < y)))
  | .leq => some (.bool (decide (x ≤ y)))
  | .gtr => some (.bool (decide (y < x)))
  | .geq => some (.bool (decide (y ≤ x)))
def strA (op : BinOp) (x y : ByteArray) : Option AV :=
  match op with
  | .add => if ((x.size + y.size : Nat) : Int) > IntKind.i64.max then none else some (.str (x ++ y))
  | .eql => some (.bool (x.data.toList == y.data.toList))
  | .neq => some (.bool (!(x.data.toList == y.data.toList)))
  | .lss => some (.bool (Op.bytesLess x.data.toList y.data.toList))
  | .leq => some (.bool (Op.bytesLess x.data.toList y.data.toList || x.data.toList == y.data.toList))
  | .gtr => some (.bool (!(Op.bytesLess x.data.toList y.data.toList || x.data.toList == y.data.toList)))
  | .geq => some (.bool (!(Op.bytesLess x.data.toList y.data.toList)))
  | _ => none
def sliceT (P : Program) (t : Nat) : Bool := (elemT P t).isSome
def funcT (P : Program) (t : Nat) : Bool := match P.underlying t with | some (.func ..) => true | _ => false
def boolT (P : Program) (t : Nat) : Bool := match P.underlying t with | some .bool => true | _ => false
def partA (P : Program) (t : Nat) (cs : List AV) (off : Nat) : Option AV :=
  if aggT P t then match szT P t with
    | some n => if off + n ≤ cs.length then some (.agg ((cs.drop off).take n)) else none
    | none => none
  else if hasT P t then cs[off]? else none
/-- '==' at two cells; at the fields of two structs. -/
def cellA (P : Program) (t : Nat) (a b : AV) : Option Bool := match P.underlying t, a, b with
  | some (.int _), .int k x, .int k' y => if k = k' then some (decide (x = y)) else none
  | some .string, .str x, .str y => some (x.data.toList == y.data.toList)
  | some .bool, .bool x, .bool y => some (x == y)
  | _, _, _ => none
def eqFs (P : Program) (xs ys : List AV) : List Field → Option Bool
  | [] => some true
  | f :: fs => if f.name = "_" then none else match partA P f.type xs f.offset, partA P f.type ys f.offset with
    | some a, some b => match cellA P f.type a b, eqFs P xs ys fs with
      | some p, some q => some (p && q)
      | _, _ => none
    | _, _ => none
/-- '==' at a slice against nil, at a func against nil, at bools, at structs. -/
def eqA (P : Program) (m : Mem) (t : Nat) : AV → AV → Option Bool
  | .bool a, .bool b => if boolT P t then some (a == b) else none
  | .seq z _ _ _, .seq true _ _ _ => if sliceT P t then some z else none
  | .seq true _ _ _, .seq z _ _ _ => if sliceT P t then some z else none
  | .own id ver, .seq true _ _ _ => if sliceT P t ∧ verOf m id = some ver ∧ ver ≠ 0 then some false else none
  | .seq true _ _ _, .own id ver => if sliceT P t ∧ verOf m id = some ver ∧ ver ≠ 0 then some false else none
  | .nilfn, .nilfn => if funcT P t then some true else none
  | .fn .., .nilfn => if funcT P t then some false else none
  | .nilfn, .fn .. => if funcT P t then some false else none
  | .agg xs, .agg ys => match P.underlying t with
    | some (.struct fs) => if P.stoodInHeld t = false ∧ P.eqGuardType P.depth t = false then eqFs P xs ys fs.toList else none
    | _ => none
  | _, _ => none
def binA (P : Program) (m : Mem) (op : BinOp) (t : Nat) : AV → AV → Option AV
  | .int k a, .int k' b => match op with
    | .shl => intA .shl k a b
    | .shr => intA .shr k a b
    | op => if k = k' then intA op k a b else none
  | .str a, .str b => strA op a b
  | x, y => match op with
    | .eql => (eqA P m t x y).map .bool
    | .neq => (eqA P m t x y).map fun b => .bool (!b)
    | _ => none

def unA (op : UnOp) : AV → Option AV
  | .int k n => match op with
    | .neg => some (.int k (k.wrap (0 - n)))
    | .xor => some (bitsA .xor k (if k.signed then -1 else k.max) n)
    | _ => none
  | .bool b => match op with
    | .not => some (.bool !b)
    | _ => none
  | _ => none

def loadA (P : Program) (m : Mem) (t : Nat) : AV → Option AV
  | .rptr cs => takeT P t cs
  | .ptr id ver off => match m[id]? with
    | some (.box cs) => if cs.length = ver then takeT P t (cs.drop off) else none
    | _ => none
  | .aptr id ver sz i f => match m[id]? with
    | some (.arr _ sz' xs) => if xs.length = ver ∧ sz = sz' then (xs[i]?).bind fun x => takeT P t (x.cells.drop f) else none
    | _ => none
  | _ => none

/-- vs laid over cs from off on. -/
def over (cs : List AV) (off : Nat) (vs : List AV) : List AV := cs.take off ++ vs ++ cs.drop (off + vs.length)
def storeA (P : Program) (m : Mem) (t : Nat) (a v : AV) : Option Mem :=
  if szT P t = some v.cells.length ∧ v.data = true then
    match a with
    | .ptr id ver off => match m[id]? with
      | some (.box cs) => if cs.length = ver ∧ off + v.cells.length ≤ cs.length then some (m.set id (.box (over cs off v.cells))) else none
      | _ => none
    | .aptr id ver sz i f => match m[id]? with
      | some (.arr e sz' xs) => if xs.length = ver ∧ sz = sz' ∧ f + v.cells.length ≤ sz ∧ 1 < sz then
          (xs[i]?).map fun x => m.set id (.arr e sz (xs.set i (.agg (over x.cells f v.cells))))
        else if xs.length = ver ∧ sz = sz' ∧ f = 0 ∧ sz = 1 ∧ i < xs.length then
          match v with
          | .agg _ => none
          | v => some (m.set id (.arr e sz (xs.set i v)))
        else none
      | _ => none
    | _ => none
  else none

def fieldAddrA (P : Program) (m : Mem) (s j : Nat) (x : AV) : Option AV :=
  match fldT P s j with
  | some (ft, o) =>
    if (szT P ft).any (0 < ·) then
      match x with
      | .rptr cs => if o < cs.length then some (.rptr (cs.drop o)) else none
      | .ptr id ver off => if verOf m id = some ver then some (.ptr id ver (off + o)) else none
      | .aptr id ver sz i f => if verOf m id = some ver then some (.aptr id ver sz i (f + o)) else none
      | _ => none
    else none
  | none => none
def fieldA (P : Program) (s j : Nat) (x : AV) : Option AV :=
  match fldT P s j, x with
  | some (ft, o), .agg cs => partA P ft cs o
  | _, _ => none
def indexAddrA (P : Program) (m : Mem) (t : Nat) (x ix : AV) : Option AV :=
  match ix with
  | .int _ i =>
    match elemT P t with
    | some e => match x with
      | .seq _ _ sz xs => if szT P e = some sz ∧ 0 ≤ i then (xs[i.toNat]?).bind fun y => if y.cells = [] then none else some (.rptr y.cells) else none
      | .own id ver => match shp m id with
        | some (v, sz) => if szT P e = some sz ∧ v = ver ∧ 0 < sz ∧ 0 ≤ i ∧ i.toNat < ver then some (.aptr id ver sz i.toNat 0) else none
        | none => none
      | _ => none
    | none => match arrT P t with
      | some (n, e) => match szT P e with
        | some sz =>
          if 0 ≤ i ∧ i < n ∧ 0 < sz then match x with
            | .rptr cs => if i.toNat * sz < cs.length then some (.rptr (cs.drop (i.toNat * sz))) else none
            | .ptr id ver off => if verOf m id = some ver then some (.ptr id ver (off + i.toNat * sz)) else none
            | .aptr id ver az j f => if verOf m id = some ver then some (.aptr id ver az j (f + i.toNat * sz)) else none
            | _ => none
          else none
        | none => none
      | none => none
  | _ => none
def indexA (P : Program) (t : Nat) (x ix : AV) : Option AV :=
  match ix with
  | .int _ i =>
    if 0 ≤ i then match x with
      | .str s => if strT P t then (s[i.toNat]?).map fun b => .int .u8 b.toNat else none
      | .agg cs => match arrT P t with
        | some (n, e) => match szT P e with
          | some sz => if i < n then partA P e cs (i.toNat * sz) else none
          | none => none
        | none => none
      | _ => none
    else none
  | _ => none

def boundA (x : Option AV) (dflt : Nat) (top : Nat) : Option Nat :=
  match x with
  | none => some dflt
  | some (.int _ i) => if 0 ≤ i ∧ i ≤ top then some i.toNat else none
  | some _ => none
/-- x[lo:hi] of a string; of an immutable slice (the bound hi at most its length, or a full one); a third bound equal to the second. -/
def sliceA (P : Program) (t : Nat) (x : AV) (lo hi mx : Option AV) : Option AV :=
  match x with
  | .str s => if strT P t ∧ mx.isNone then do
      let h ← boundA hi s.size s.size
      let l ← boundA lo 0 h
      some (.str (s.extract l h))
    else none
  | .seq z full sz xs => match elemT P t with
    | some e => if szT P e = some sz then
        match mx with
        | none => do
          let h ← boundA hi xs.length xs.length
          let l ← boundA lo 0 h
          some (.seq z (full && h == xs.length) sz ((xs.take h).drop l))
        | some mx => do
          let mm ← boundA (some mx) 0 xs.length
          let h ← boundA hi xs.length mm
          if hi.isSome ∧ h = mm then do
            let l ← boundA lo 0 h
            some (.seq z true sz ((xs.take h).drop l))
          else none
      else none
    | none => none
  | _ => none

def lenA (P : Program) (m : Mem) (t : Nat) : AV → Option AV
  | .str s => if strT P t then some (.int .i64 s.size) else none
  | .seq _ _ _ xs => if sliceT P t then some (.int .i64 xs.length) else none
  | .own id ver => if sliceT P t ∧ verOf m id = some ver then some (.int .i64 ver) else none
  | .agg _ => (arrT P t).map fun (n, _) => .int .i64 n
  | _ => none

/-- The elements of a slice, as they read now. -/
def elemsA (m : Mem) : AV → Option (Nat × List AV)
  | .seq _ _ sz xs => some (sz, xs)
  | .own id ver => match m[id]? with
    | some (.arr _ sz xs) => if xs.length = ver then some (sz, xs) else none
    | some (.vec _ sz xs) => if xs.length = ver then some (sz, xs) else none
    | _ => none
  | _ => none
def allCells (sz : Nat) (xs : List AV) : Bool := xs.all fun x => x.cells.length == sz
/-- append(s, ys...). -/
def appendA (P : Program) (m : Mem) (t t' : Nat) (s y : AV) : Option (AV × Mem) :=
  if t = t' then
    match elemT P t, elemsA m y with
    | some e, some (_, ys) => match szT P e, byT P e with
      | some sz, some bytes =>
        if 0 < sz ∧ allCells sz ys = true ∧ (zeroT P e).any (fun z => z.cells.length == sz) = true then
          match s with
          | .own id ver => match m[id]? with
            | some (.arr e' sz' xs) =>
              if xs.length = ver ∧ e' = e ∧ sz' = sz ∧ (xs.length + ys.length) * bytes ≤ 140737488355328 ∧ xs.length + ys.length ≤ 140737488355328 then
                if ys = [] then some (.own id ver, m) else some (.own id (ver + ys.length), m.set id (.arr e sz (xs ++ ys)))
              else none
            | some (.vec e' sz' xs) =>
              if xs.length = ver ∧ e' = e ∧ sz' = sz ∧ (xs.length + ys.length) * bytes ≤ 140737488355328 ∧ xs.length + ys.length ≤ 140737488355328 then
                if ys = [] then some (.own id ver, m) else some (.own id (ver + ys.length), m.set id (.vec e sz (xs ++ ys)))
              else none
            | _ => none
          | .seq z full sz' xs =>
            if (xs.length + ys.length) * bytes ≤ 140737488355328 ∧ xs.length + ys.length ≤ 140737488355328 then
              if ys = [] then (if z then some (.seq true full sz [], m) else if full ∧ sz' = sz then some (.seq false true sz xs, m) else none)
              else if z then some (.own m.length ys.length, m ++ [.arr e sz ys])
              else if full ∧ sz' = sz ∧ allCells sz xs = true then some (.own m.length (xs.length + ys.length), m ++ [.arr e sz (xs ++ ys)])
              else none
            else none
          | _ => none
        else none
      | _, _ => none
    | _, _ => none
  else none

def maxA (op : Bool) : List AV → Option AV
  | [] => none
  | x :: rest => rest.foldlM (fun a b => match a, b with
    | .int k x, .int _ y => some (.int k (if op then (if y > x then y else x) else (if y < x then y else x)))
    | _, _ => none) x

/-! ### Maps whose keys are numbers, texts or bools -/
def mapT (P : Program) (t : Nat) : Option (Nat × Nat) := match P.underlying t with | some (.map k e) => some (k, e) | _ => none
def keyK : TypeDesc → Bool
  | .int _ | .string | .bool => true
  | _ => false
def sameA : TypeDesc → AV → AV → Option Bool
  | .int _, .int k a, .int k' b => if k = k' then some (decide (a = b)) else none
  | .string, .str a, .str b => some (a.data.toList == b.data.toList)
  | .bool, .bool a, .bool b => some (a == b)
  | _, _, _ => none
def fitA : TypeDesc → AV → Bool
  | .int k, .int k' _ => decide (k' = k)
  | .string, .str _ => true
  | .bool, .bool _ => true
  | _, _ => false
def findA (kd : TypeDesc) (k : AV) : List AV → List AV → Nat → Option (Option (Nat × AV))
  | x :: ks, v :: vs, i => match sameA kd k x with
    | some true => some (some (i, v))
    | some false => findA kd k ks vs (i + 1)
    | none => none
  | [], [], _ => some none
  | _, _, _ => none
def entriesA (m : Mem) : AV → Option (List AV × List AV)
  | .nilmp => some ([], [])
  | .smap ks vs => some (ks, vs)
  | .mp id => match m[id]? with
    | some (.mp ks vs) => some (ks, vs)
    | _ => none
  | _ => none
def keyD (P : Program) (t : Nat) : Option TypeDesc := match mapT P t with
  | some (kt, _) => match P.underlying kt with
    | some kd => if keyK kd then some kd else none
    | none => none
  | none => none
def lookA (P : Program) (m : Mem) (t : Nat) (x k : AV) (ok : Bool) : Option AV :=
  match mapT P t, keyD P t, entriesA m x with
  | some (_, et), some kd, some (ks, vs) => if fitA kd k then match findA kd k ks vs 0 with
      | some (some (_, v)) => some (if ok then .tup [v, .bool true] else v)
      | some none => (zeroT P et).map fun z => if ok then .tup [z, .bool false] else z
      | none => none
    else none
  | _, _, _ => none
def updA (P : Program) (m : Mem) (t : Nat) (x k v : AV) : Option Mem :=
  match x, keyD P t with
  | .mp id, some kd => match m[id]? with
    | some (.mp ks vs) => if fitA kd k then match findA kd k ks vs 0 with
        | some (some (i, _)) => some (m.set id (.mp (ks.set i k) (vs.set i v)))
        | some none => some (m.set id (.mp (ks ++ [k]) (vs ++ [v])))
        | none => none
      else none
    | _ => none
  | _, _ => none

/-- The parts of a struct laid into its zero value's cells. -/
def fillA (P : Program) (t : Nat) (cs : List AV) : List (Nat × AV) → Option (List AV)
  | [] => some cs
  | (j, x) :: rest => match fldT P t j with
    | some (ft, o) => if szT P ft = some x.cells.length ∧ x.data = true ∧ o + x.cells.length ≤ cs.length then fillA P t (over cs o x.cells) rest else none
    | none => none
def evParts (cx : Cx) (e : Env) : List (Nat × Operand) → Option (List (Nat × AV))
  | [] => some []
  | (j, x) :: xs => match evX cx e x, evParts cx e xs with
    | some v, some vs => some ((j, v) :: vs)
    | _, _ => none
def fillS (sz : Nat) (xs : List AV) : List (Nat × AV) → Option (List AV)
  | [] => some xs
  | (j, x) :: rest => if x.cells.length = sz ∧ x.data = true ∧ j < xs.length then fillS sz (xs.set j x) rest else none

def convA (P : Program) (src dst : Nat) (x : AV) : Option AV :=
  match P.underlying src, P.underlying dst, x with
  | some _, some (.int k), .int _ n => some (.int k (k.wrap n))
  | some _, some .string, .str s => some (.str s)
  | _, _, _ => none
end Go.Ab

/- The abstract evaluator, second part: operations, regions, code, calls. -/
set_option linter.unusedVariables false
namespace Go.Ab
open Go

abbrev CallT := Nat → List AV → Mem → Option (AV × Mem)

/-! ### Regions that draw their order: when any order gives what the text's order gives -/
def bindE (e : Edge) : Bool := Region.binds .any e
/-- Of each operation all that must come before it (bit i of the number: operation i). -/
def ancsAux : List Oper → List Nat → List Nat
  | [], acc => acc
  | o :: os, acc => ancsAux os (acc ++ [o.after.toList.foldl (fun b e => if bindE e then b ||| (1 <<< e.on) ||| acc.getD e.on 0 else b) 0])
def ancs (ops : List Oper) : List Nat := ancsAux ops []
def isA (o : Oper) : Bool := match o.op with | .alloc _ => true | _ => false
def vzO (o : Oper) : Bool := match o.op with | .alloc t => vzT t | _ => false
def freshSrc (ops : Array Oper) (c : Call) : Bool := match c.args.toList with
  | .tmp t :: _ => ops.any fun o => o.dst == some t && (match o.op with | .buildSlice .. => true | .slice _ _ _ _ (some _) => true | _ => false)
  | .const _ :: _ => true
  | _ => false
/-- What an operation has to do with memory: 0 nothing · 1 it asks how long blocks are · 2 it reads · 3 it lays new blocks · 4 it stores · 5 it may lengthen a block · 6 an allocation. -/
def clsB (b : Bool) (ops : Array Oper) (o : Oper) : Nat := match o.op with
  | .alloc _ => 6
  | .store .. => 4
  | .box .. | .makeSlice .. => 3
  | .fieldAddr .. | .indexAddr .. | .nilCheck _ => 1
  | .binOp op .. => (match op with | .eql | .neq => 1 | _ => 0)
  | .load .. => 2
  | .lookup .. => 2
  | .mapUpdate .. => 4
  | .makeMap .. => 3
  | .call c => (match c.callee with
    | .builtin .append => if freshSrc ops c then 3 else 5
    | .builtin .len => 1
    | .builtin .max | .builtin .min => 0
    | .value (.tmp _) => if b then 5 else 2
    | .value (.func f) => if ioF f then 5 else 2
    | _ => 2)
  | _ => 0
def confl (a b : Nat) : Bool :=
  a != 6 && b != 6 && a != 0 && b != 0 && ((3 ≤ a && 3 ≤ b) || (a == 2 && 4 ≤ b) || (b == 2 && 4 ≤ a) || (a == 1 && b == 5) || (b == 1 && a == 5))
def pairB (ops : Array Oper) (an : List Nat) (i j : Nat) (x y : Oper) : Bool :=
  let ord := (an.getD j 0).testBit i
  (match x.dst with
    | some d => y.dst != some d && (!(y.looksAt ops).contains d || ord)
    | none => true) &&
  (match y.dst with
    | some d => !(x.looksAt ops).contains d || ord
    | none => true) &&
  (!confl (clsB true ops x) (clsB true ops y) || ord)
/-- With every call of a value as one that may change memory: the region's orders. -/
def regB (ops : Array Oper) : Bool :=
  let l := ops.toList
  let an := ancs l
  (l.zipIdx.all fun (o, i) => o.after.toList.all (fun e => !bindE e || e.on < i) && (!isA o || (o.guard.isNone && o.after.isEmpty && o.dst.isSome && !vzO o))) &&
  (l.zipIdx.all fun (y, j) => l.zipIdx.all fun (x, i) => j ≤ i || pairB ops an i j x y)

/-- What an operation has to do with memory: 0 nothing · 1 it asks how long blocks are · 2 it reads · 3 it lays new blocks · 4 it stores · 5 it may lengthen a block · 6 an allocation. -/
def cls (ops : Array Oper) (o : Oper) : Nat := match o.op with
  | .alloc _ => 6
  | .store .. => 4
  | .box .. | .makeSlice .. => 3
  | .fieldAddr .. | .indexAddr .. | .nilCheck _ => 1
  | .binOp op .. => (match op with | .eql | .neq => 1 | _ => 0)
  | .load .. => 2
  | .lookup .. => 2
  | .mapUpdate .. => 4
  | .makeMap .. => 3
  | .call c => (match c.callee with
    | .builtin .append => if freshSrc ops c then 3 else 5
    | .builtin .len => 1
    | .builtin .max | .builtin .min => 0
    | .value (.tmp _) => if regB ops then 5 else 2
    | .value (.func f) => if ioF f then 5 else 2
    | _ => 2)
  | _ => 0
def pairOK (ops : Array Oper) (an : List Nat) (i j : Nat) (x y : Oper) : Bool :=
  let ord := (an.getD j 0).testBit i
  (match x.dst with
    | some d => y.dst != some d && (!(y.looksAt ops).contains d || ord)
    | none => true) &&
  (match y.dst with
    | some d => !(x.looksAt ops).contains d || ord
    | none => true) &&
  (!confl (cls ops x) (cls ops y) || ord)
def regOK (ops : Array Oper) : Bool :=
  let l := ops.toList
  let an := ancs l
  (l.zipIdx.all fun (o, i) => o.after.toList.all (fun e => !bindE e || e.on < i) && (!isA o || (o.guard.isNone && o.after.isEmpty && o.dst.isSome && !vzO o))) &&
  (l.zipIdx.all fun (y, j) => l.zipIdx.all fun (x, i) => j ≤ i || pairOK ops an i j x y)

def okOps (nt : Nat) (ops : Array Oper) : Bool := ops.toList.all fun o => match o.dst with | some d => decide (d < nt) | none => true
def okCode (nt : Nat) : Code → Bool
  | .skip | .exit _ | .ret => true
  | .region _ ops draw => okOps nt ops && (!draw || regOK ops)
  | .seq a b => okCode nt a && okCode nt b
  | .cond _ a b => okCode nt a && okCode nt b
  | .block _ c => okCode nt c
  | .loop c => okCode nt c
  | .rangeFunc _ ps a b => ps.toList.all (· < nt) && okCode nt a && okCode nt b
  | _ => false
def okF (fn : Func) : Bool := fn.name != "runtime.NumGoroutine" && (match fn.body with | some c => okCode fn.ntmps c | none => false)

/-! ### Calls -/
def blkUnder (N nt : Nat) : Blk → Bool
  | .box cs => underL N cs
  | .arr _ _ xs => underL N xs
  | .lp .. => true
  | .mp ks vs => underL N ks && underL N vs
  | .vec _ _ xs => underL N xs
  | .dead => true
/-- Behind a call that shared the memory: what the callee made beyond N goes, its result frozen. -/
def retrunc (N : Nat) (rm : AV × Mem) : Option (AV × Mem) :=
  if (rm.2.take N).all (blkUnder N 0) then
    if rm.1.under N then some (rm.1, rm.2.take N)
    else if (idsD rm.2 6 rm.1).all (N ≤ ·) then (fz rm.2 6 rm.1).map fun r => (r, rm.2.take N)
    else none
  else none
def settle (ro : Bool) (m : Mem) (as : List AV) (r : AV) : Option (AV × Mem) :=
  if r.pure then
    if r.flat || (idsDL m as).isEmpty then some (r, m)
    else if ro then none else some (r, kill m (idsDL m as))
  else none
/-- Owned slices handed to a call that shares the memory become immutable ones. -/
def lendOwn (m : Mem) : List AV → Option (List AV × List Nat)
  | [] => some ([], [])
  | .own id ver :: r => match fz m 6 (.own id ver), lendOwn m r with
    | some x, some (xs, is) => some (x :: xs, idsD m 6 (.own id ver) ++ is)
    | _, _ => none
  | x :: r => match lendOwn m r with
    | some (xs, is) => some (x :: xs, is)
    | none => none
/-! ### Handles renamed; a call in a small memory -/
mutual
def ren (g : Nat → Option Nat) : AV → Option AV
  | .agg xs => (renL g xs).map .agg
  | .tup xs => (renL g xs).map .tup
  | .seq z fl sz xs => (renL g xs).map (.seq z fl sz)
  | .rptr xs => (renL g xs).map .rptr
  | .fn f a b => match renL g a, renL g b with
    | some a', some b' => some (.fn f a' b')
    | _, _ => none
  | .smap a b => match renL g a, renL g b with
    | some a', some b' => some (.smap a' b')
    | _, _ => none
  | .own id v => (g id).map fun j => .own j v
  | .ptr id v o => (g id).map fun j => .ptr j v o
  | .aptr id v sz i f => (g id).map fun j => .aptr j v sz i f
  | .yld id => (g id).map .yld
  | .mp id => (g id).map .mp
  | .int k n => some (.int k n)
  | .bool b => some (.bool b)
  | .str s => some (.str s)
  | .nilptr => some .nilptr
  | .nilfn => some .nilfn
  | .nilmp => some .nilmp
  | .junk => some .junk
def renL (g : Nat → Option Nat) : List AV → Option (List AV)
  | [] => some []
  | x :: xs => match ren g x, renL g xs with
    | some y, some ys => some (y :: ys)
    | _, _ => none
end
def renB (g : Nat → Option Nat) : Blk → Option Blk
  | .box cs => (renL g cs).map .box
  | .arr e sz xs => (renL g xs).map (.arr e sz)
  | .vec e sz xs => (renL g xs).map (.vec e sz)
  | .mp ks vs => match renL g ks, renL g vs with
    | some a, some b => some (.mp a b)
    | _, _ => none
  | .dead => some .dead
  | .lp .. => none
def idxA : List Nat → Nat → Nat → Option Nat
  | [], _, _ => none
  | a :: l, id, i => match Nat.beq a id with
    | true => some i
    | false => idxA l id (i + 1)
def memOf (m : Mem) (g : Nat → Option Nat) : List Nat → Option Mem
  | [] => some []
  | id :: ids => match (m[id]?).bind (renB g), memOf m g ids with
    | some k, some ks => some (k :: ks)
    | _, _ => none
def putM (h : Nat → Option Nat) : Mem → List Nat → Mem → Option Mem
  | m, [], [] => some m
  | m, id :: ids, k :: ks => match renB h k with
    | some k' => putM h (m.set id k') ids ks
    | none => none
  | _, _, _ => none
def nodupB : List Nat → Bool
  | [] => true
  | a :: l => !l.contains a && nodupB l
def isRoot : AV → Bool
  | .ptr .. | .fn .. => true
  | _ => false
/-- The blocks that some values lead to, not through frozen ones. -/
def ioIds (m : Mem) : Nat → List Nat → List AV → List Nat
  | 0, acc, _ => acc
  | _ + 1, acc, [] => acc
  | n + 1, acc, x :: xs => match x with
    | .ptr id _ _ => (match acc.contains id, m[id]? with
      | false, some (.box cs) => ioIds m n (acc ++ [id]) (cs ++ xs)
      | _, _ => ioIds m n acc xs)
    | .own id _ => (match acc.contains id, m[id]? with
      | false, some (.arr ..) => ioIds m n (acc ++ [id]) xs
      | false, some (.vec ..) => ioIds m n (acc ++ [id]) xs
      | _, _ => ioIds m n acc xs)
    | .mp id => (match acc.contains id, m[id]? with
      | false, some (.mp ..) => ioIds m n (acc ++ [id]) xs
      | _, _ => ioIds m n acc xs)
    | .agg ys => ioIds m n acc (ys ++ xs)
    | .fn _ a b => ioIds m n acc (a ++ (b ++ xs))
    | _ => ioIds m n acc xs
def ioBack (m : Mem) (ids : List Nat) (p : AV × Mem) : Option (AV × Mem) :=
  match ren (fun j => ids[j]?) p.1, putM (fun j => ids[j]?) m ids p.2 with
  | some r, some m' => some (r, m')
  | _, _ => none
def ioGo (F : CallT) (m : Mem) (f : Nat) (xs : List AV) (ids : List Nat) : Option (AV × Mem) :=
  if nodupB ids && ids.all (fun id => (verOf m id).isSome) then
    match renL (fun id => idxA ids id 0) xs, memOf m (fun id => idxA ids id 0) ids with
    | some ys, some M => match F f ys M with
      | some rm => match retrunc M.length rm with
        | some p => ioBack m ids p
        | none => none
      | none => none
    | _, _ => none
  else none
/-- What is kept of a result: its own slices, renumbered, and their blocks. -/
def tops : AV → List Nat
  | .own id _ => [id]
  | .agg xs => xs.flatMap fun | .own id _ => [id] | _ => []
  | .tup xs => xs.flatMap fun | .own id _ => [id] | .agg ys => ys.flatMap (fun | .own id _ => [id] | _ => []) | _ => []
  | _ => []
def arrB : Blk → Bool
  | .arr _ _ xs => pureL xs
  | _ => false
def thw (rm : AV × Mem) : Option (AV × Mem) :=
  match nodupB (tops rm.1), ren (fun id => idxA (tops rm.1) id 0) rm.1, (tops rm.1).mapM (fun id => rm.2[id]?) with
  | true, some r, some B => if B.all arrB then some (r, B) else none
  | _, _, _ => none
def keepB (m : Mem) (as : List AV) (p : AV × Mem) : Option (AV × Mem) :=
  match ren (fun j => some (m.length + j)) p.1 with
  | some r => some (r, (if (idsDL m as).isEmpty then m else kill m (idsDL m as)) ++ p.2)
  | none => none
def callV (cx : Cx) (ro : Bool) (F Y : CallT) (m : Mem) (c : AV) (args : List AV) : Option (AV × Mem) :=
  match c with
  | .fn f first cap =>
    match cx.X f with
    | some g => match fzs m (first ++ args ++ cap) with
      | some as' => match g as' with
        | some r => settle ro m (first ++ args ++ cap) r
        | none => none
      | none => none
    | none =>
      if cx.sh f then
        if ro then none else match lendOwn m (first ++ args ++ cap) with
          | some (xs, is) => match F f xs (kill m is) with
            | some rm => retrunc m.length rm
            | none => none
          | none => none
      else if ioF f then
        if ro then none else match lendOwn m (first ++ args ++ cap) with
          | some (xs, is) => ioGo F (kill m is) f xs (ioIds (kill m is) 64 [] (xs.filter isRoot))
          | none => none
      else match fzs m (first ++ args ++ cap) with
        | some as' => match F f as' [] with
          | some rm => if kpF f && !ro then (match thw rm with
              | some p => keepB m (first ++ args ++ cap) p
              | none => none)
            else match fz rm.2 6 rm.1 with
            | some r => settle ro m (first ++ args ++ cap) r
            | none => none
          | none => none
        | none => none
  | .yld id => if ro then none else match lendOwn m args with
      | some (xs, is) => match Y id xs (kill m is) with
        | some rm => retrunc m.length rm
        | none => none
      | none => none
  | _ => none

/-! ### One operation -/
/-- The places of a type's slices: offset, element, its width. -/
def vecsT (P : Program) (t : Nat) : List (Nat × Nat × Nat) := match P.underlying t with
  | some (.slice e) => (match szT P e with
    | some sz => [(0, e, sz)]
    | none => [])
  | some (.struct fs) => fs.toList.filterMap fun f => match P.underlying f.type with
    | some (.slice e) => (szT P e).map fun sz => (f.offset, e, sz)
    | _ => none
  | _ => []
def vecB (l : List (Nat × Nat × Nat)) : Mem := l.map fun x => .vec x.2.1 x.2.2 []
/-- Nil slices that become growing ones; the blocks lie from N on. -/
def vecC : List (Nat × Nat × Nat) → Nat → List AV → List AV
  | [], _, cs => cs
  | (o, _, _) :: l, N, cs => match cs[o]? with
    | some (.seq true _ _ []) => vecC l (N + 1) (cs.set o (.own N 0))
    | _ => vecC l (N + 1) cs
def isSeq : AV → Bool | .seq .. => true | _ => false
def noMem (m : Mem) (r : Option AV) : Option (AV × Mem) := r.map fun x => (x, m)
def validA (m : Mem) : AV → Bool
  | .ptr id ver _ => verOf m id == some ver
  | .aptr id ver .. => verOf m id == some ver
  | .rptr _ => true
  | .fn .. => true
  | _ => false
/-- What a function value holds is pure. -/
def capOK : AV → Bool
  | .fn _ a b => pureL a && pureL b
  | _ => true
/-- md: 0 whatever the operation does · 1 it may not change the memory · 2 it may lay new blocks alone. -/
def evOp (cx : Cx) (md : Nat) (F Y : CallT) (e : Env) (m : Mem) (op : Op) : Option (AV × Mem) :=
  match op with
  | .move x | .assign x => noMem m (evX cx e x)
  | .pick c a b => match evX cx e c with
    | some (.bool t) => noMem m (evX cx e (if t then a else b))
    | _ => none
  | .alloc t => if md = 1 then none else match zeroT cx.P t with
    | some z => if z.data then (match vzT t with
        | true => some (.ptr (m.length + (vecsT cx.P t).length) z.cells.length 0, m ++ vecB (vecsT cx.P t) ++ [.box (vecC (vecsT cx.P t) m.length z.cells)])
        | false => some (.ptr m.length z.cells.length 0, m ++ [.box z.cells])) else none
    | none => none
  | .box _ x => if md = 1 then none else match evX cx e x with
    | some v => if v.data then some (.ptr m.length v.cells.length 0, m ++ [.box v.cells]) else none
    | none => none
  | .build t parts => match zeroT cx.P t, evParts cx e parts.toList with
    | some (.agg z), some ps => if plT cx.P t then noMem m ((fillA cx.P t z ps).map .agg) else none
    | _, _ => none
  | .buildSlice t len parts => match elemT cx.P t, evParts cx e parts.toList with
    | some et, some ps => match szT cx.P et, zeroT cx.P et with
      | some sz, some z => if z.cells.length = sz ∧ z.data = true ∧ 0 < sz ∧ len * sz ≤ 16777216 then noMem m ((fillS sz (List.replicate len z) ps).map (.seq false true sz)) else none
      | _, _ => none
    | _, _ => none
  | .load t a => match evX cx e a with
    | some x => noMem m (loadA cx.P m t x)
    | none => none
  | .store t a x => match evX cx e a, evX cx e x with
    | some a, some v => if md ≠ 0 then none else (storeA cx.P m t a v).map fun m' => (.undef, m')
    | _, _ => none
  | .makeMap _ r => match r with
    | none => if md = 1 then none else some (.mp m.length, m ++ [.mp [] []])
    | some _ => none
  | .makeSlice t l c => match evX cx e l, evX cx e c, elemT cx.P t with
    | some (.int _ l), some (.int _ c), some et => match szT cx.P et, byT cx.P et, zeroT cx.P et with
      | some sz, some b, some z => if md ≠ 1 ∧ 0 ≤ l ∧ l ≤ c ∧ b * c.toNat ≤ 140737488355328 ∧ c.toNat ≤ 140737488350000 ∧ z.cells.length = sz ∧ z.data = true ∧ 0 < sz then
          some (.own m.length l.toNat, m ++ [.arr et sz (List.replicate l.toNat z)]) else none
      | _, _, _ => none
    | _, _, _ => none
  | .lookup t x k ok => match evX cx e x, evX cx e k with
    | some x, some k => noMem m (lookA cx.P m t x k ok)
    | _, _ => none
  | .mapUpdate t x k v => match evX cx e x, evX cx e k, evX cx e v with
    | some x, some k, some v => if md ≠ 0 then none else (updA cx.P m t x k v).map fun m' => (.undef, m')
    | _, _, _ => none
  | .nilCheck x => match evX cx e x with
    | some v => if validA m v then some (v, m) else none
    | none => none
  | .binOp op t x y _ => match evX cx e x, evX cx e y with
    | some a, some b => noMem m (binA cx.P m op t a b)
    | _, _ => none
  | .unOp op _ x => match evX cx e x with
    | some a => noMem m (unA op a)
    | none => none
  | .convert src dst x => match evX cx e x with
    | some a => noMem m (convA cx.P src dst a)
    | none => none
  | .makeFunc fn first cap => match fn, evXs cx e first.toList, evXs cx e cap.toList with
    | .func f, some a, some b => some (.fn f a b, m)
    | _, _, _ => none
  | .slice t x lo hi mx => match evX cx e x, lo.mapM (evX cx e), hi.mapM (evX cx e), mx.mapM (evX cx e) with
    | some x, some lo, some hi, some mx => noMem m (sliceA cx.P t x lo hi mx)
    | _, _, _, _ => none
  | .fieldAddr s x j => match evX cx e x with
    | some x => noMem m (fieldAddrA cx.P m s j x)
    | none => none
  | .field s x j => match evX cx e x with
    | some x => noMem m (fieldA cx.P s j x)
    | none => none
  | .indexAddr t x ix => match evX cx e x, evX cx e ix with
    | some x, some i => noMem m (indexAddrA cx.P m t x i)
    | _, _ => none
  | .index t x ix => match evX cx e x, evX cx e ix with
    | some x, some i => noMem m (indexA cx.P t x i)
    | _, _ => none
  | .extract x j => match evX cx e x with
    | some (.tup xs) => noMem m xs[j]?
    | _ => none
  | .call c => match c.callee with
    | .value f => match evX cx e f, evXs cx e c.args.toList with
      | some f, some as => if md == 1 && !capOK f then none else callV cx (md != 0) F Y m f as
      | _, _ => none
    | .builtin b => match evXs cx e c.args.toList, b, c.argTypes.toList with
      | some [x], .len, [t] => noMem m (lenA cx.P m t x)
      | some [x, y], .append, [t, t'] => if md = 0 ∨ (md = 2 ∧ isSeq x = true) then appendA cx.P m t t' x y else none
      | some xs, .max, _ => noMem m (maxA true xs)
      | some xs, .min, _ => noMem m (maxA false xs)
      | _, _, _ => none
    | _ => none
  | _ => none

def wantA (ops : Array Oper) (e : Env) (o : Oper) : Option Bool :=
  match o.guard with
  | none => some true
  | some (j, want) => match (ops[j]?).bind (·.dst) with
    | none => some false
    | some d => match e d with
      | .bool b => some (b == want)
      | .tup [] => some false
      | _ => none
def evOne (cx : Cx) (ro : Bool) (F Y : CallT) (ops : Array Oper) (o : Oper) (e : Env) (m : Mem) : Option (Env × Mem) :=
  match wantA ops e o with
  | some true => match evOp cx (if ro then (if cls ops o < 3 then 1 else if cls ops o == 3 then 2 else 0) else 0) F Y e m o.op with
    | some (r, m') => some (put e o.dst r, m')
    | none => none
  | some false => some (put e o.dst .undef, m)
  | none => none
def evList (cx : Cx) (ro : Bool) (F Y : CallT) (ops : Array Oper) : List Oper → Env → Mem → Option (Env × Mem)
  | [], e, m => some (e, m)
  | o :: os, e, m => match evOne cx ro F Y ops o e m with
    | some (e', m') => evList cx ro F Y ops os e' m'
    | none => none
def drawn (ops : Array Oper) : List Oper := ops.toList.filter isA ++ ops.toList.filter (fun o => !isA o)

/-! ### Code -/
abbrev Run := Option (Exit × Env × Mem)
/-- The temporaries that a code writes. -/
def dstO : List Oper → List Nat
  | [] => []
  | o :: os => match o.dst with | some d => d :: dstO os | none => dstO os
def dsts : Code → List Nat
  | .region _ ops _ => dstO ops.toList
  | .seq a b => dsts a ++ dsts b
  | .cond _ a b => dsts a ++ dsts b
  | .block _ c => dsts c
  | .loop c => dsts c
  | _ => []
/-- The temporaries that a code may read before it writes them (U: found so far, D: written for sure). -/
def addT (D U : List Nat) : List Operand → List Nat
  | [] => U
  | .tmp t :: os => addT D (if D.contains t || U.contains t then U else t :: U) os
  | _ :: os => addT D U os
def liveO : List Oper → List Nat → List Nat → List Nat × List Nat
  | [], D, U => (D, U)
  | o :: os, D, U => liveO os (match o.dst with | some d => d :: D | none => D) (addT D U o.op.operands.toList)
def readsC : Code → List Nat → List Nat
  | .region _ ops _, U => (liveO ops.toList [] U).2
  | .seq a b, U => readsC b (readsC a U)
  | .cond c a b, U => readsC b (readsC a (addT [] U [c]))
  | .block _ c, U => readsC c U
  | .loop c, U => readsC c U
  | .rangeFunc g _ a b, U => readsC b (readsC a (addT [] U [g]))
  | _, U => U
def liveC : Code → List Nat → List Nat → List Nat × List Nat
  | .region _ ops _, D, U => liveO ops.toList D U
  | .seq a b, D, U => match liveC a D U with
    | (D', U') => liveC b D' U'
  | .cond c a b, D, U => match liveC a D (addT D U [c]) with
    | (_, U1) => match liveC b D U1 with
      | (_, U2) => (D, U2)
  | .block _ c, D, U => (D, (liveC c D U).2)
  | .loop c, D, U => (D, (liveC c D U).2)
  | .rangeFunc g _ a b, D, U => (D, readsC b (readsC a (addT D U [g])))
  | _, D, U => (D, U)
def live (c : Code) : List Nat := (liveC c [] []).2
/-- Behind a round: what the round made beyond N goes, if nothing that lives on leads there. -/
def sanE (N : Nat) (D : List Nat) (e : Env) : Env := fun t => if D.contains t && !(e t).under N then .junk else e t
def trimL (N : Nat) (c : Code) (e : Env) (m : Mem) : Env × Mem :=
  if m.length ≤ N then (e, m) else if (m.take N).all (blkUnder N 0) && underL N ((live c).map e) then (sanE N (dsts c) e, m.take N) else (e, m)
def evLoop (N : Nat) (c : Code) (body : Env → Mem → Run) : Nat → Env → Mem → Run
  | 0, _, _ => none
  | k + 1, e, m => match body e m with
    | some (.normal, e', m') => evLoop N c body k (trimL N c e' m').1 (trimL N c e' m').2
    | r => r
def evCode (cx : Cx) (F Y : CallT) (n : Nat) (top : Bool) : Code → Env → Mem → Run
  | .skip, e, m => some (.normal, e, m)
  | .region _ ops draw, e, m => match evList cx draw F Y ops (if draw then drawn ops else ops.toList) e m with
    | some (e', m') => some (.normal, e', m')
    | none => none
  | .seq a b, e, m => match evCode cx F Y n top a e m with
    | some (.normal, e', m') => evCode cx F Y n top b e' m'
    | r => r
  | .cond c a b, e, m => match evX cx e c with
    | some (.bool t) => if t then evCode cx F Y n top a e m else evCode cx F Y n top b e m
    | _ => none
  | .block id c, e, m => match evCode cx F Y n top c e m with
    | some (.exit id', e', m') => if id' = id then some (.normal, e', m') else some (.exit id', e', m')
    | r => r
  | .loop c, e, m => evLoop m.length c (fun e m => evCode cx F Y n top c e m) n e m
  | .exit id, e, m => some (.exit id, e, m)
  | .ret, e, m => some (.ret, e, m)
  | .rangeFunc g ps a b, e, m =>
    if top then match evX cx e g with
      | some (.fn f first cap) =>
        match F f (first ++ [.yld m.length] ++ cap) (m ++ [.lp e ps.toList a b .ready none]) with
        | some rm => match rm.2[m.length]? with
          | some (.lp _ _ _ _ st pend) =>
            if (rm.2.take m.length).all (blkUnder m.length 0) then
              match st, pend with
              | .ready, none => some (.normal, e, rm.2.take m.length)
              | .done, some .ret => some (.ret, e, rm.2.take m.length)
              | .done, some (.exit id) => some (.exit id, e, rm.2.take m.length)
              | _, _ => none
            else none
          | _ => none
        | none => none
      | _ => none
    else none
  | _, _, _ => none

def resVar (cx : Cx) (e : Env) (m : Mem) : ResultVar → Option AV
  | .tmp t => some (e t)
  | .cell a t => loadA cx.P m t (e a)
def evRes (cx : Cx) (fn : Func) (e : Env) (m : Mem) : Option AV :=
  match fn.results.toList with
  | [r] => resVar cx e m r
  | rs => (rs.mapM (resVar cx e m)).map .tup
def argEnv (args : List AV) : Env := fun t => args.getD t .undef

def setLp (m : Mem) (id : Nat) (st : LoopState) (pend : Option Code) : Option Mem :=
  match m[id]? with
  | some (.lp e ps a b _ _) => some (m.set id (.lp e ps a b st pend))
  | _ => none
def lpState (m : Mem) (id : Nat) : Option (LoopState × Option Code) :=
  match m[id]? with
  | some (.lp _ _ _ _ st p) => some (st, p)
  | _ => none
def putAll (e : Env) : List (Nat × AV) → Env
  | [] => e
  | (t, x) :: r => putAll (upd e t x) r
def evYldW (cx : Cx) (F Y : CallT) (n : Nat) (id : Nat) (args : List AV) (m : Mem) : Option (AV × Mem) :=
  match m[id]? with
  | some (.lp e ps a b .ready none) =>
    if args.length = ps.length then
      match evCode cx F Y n false a (putAll e (ps.zip args)) m with
      | some (.normal, e1, m1) =>
        match lpState m1 id with
        | some (.ready, none) => match setLp m1 id .busy none with
          | some m2 => match evCode cx F Y n false b e1 m2 with
            | some (x, _, m3) => match lpState m3 id with
              | some (.busy, none) => match x with
                | .normal => (setLp m3 id .ready none).map fun m4 => (.bool true, m4)
                | .ret => (setLp m3 id .done (some .ret)).map fun m4 => (.bool false, m4)
                | .exit j => (setLp m3 id .done (some (.exit j))).map fun m4 => (.bool false, m4)
                | _ => none
              | _ => none
            | none => none
          | none => none
        | _ => none
      | _ => none
    else none
  | _ => none
def evFunW (cx : Cx) (F Y : CallT) (n : Nat) (f : Nat) (args : List AV) (m : Mem) : Option (AV × Mem) :=
  match cx.P.funcs[f]? with
  | some fn =>
    if okF fn then match fn.body with
      | some c => match evCode cx F Y n true c (argEnv args) m with
        | some (.normal, e, m') => (evRes cx fn e m').map fun r => (r, m')
        | some (.ret, e, m') => (evRes cx fn e m').map fun r => (r, m')
        | _ => none
      | none => none
    else none
  | none => none
/-- Functions and rounds, with so much fuel. -/
def evAll (cx : Cx) : Nat → CallT × CallT
  | 0 => (fun _ _ _ => none, fun _ _ _ => none)
  | n + 1 => (evFunW cx (evAll cx n).1 (evAll cx n).2 n, evYldW cx (evAll cx n).1 (evAll cx n).2 n)
abbrev evFun (cx : Cx) (n : Nat) : CallT := (evAll cx n).1
abbrev evYld (cx : Cx) (n : Nat) : CallT := (evAll cx n).2
/-- A call with pure arguments, in a memory of its own. -/
def evPure (cx : Cx) (n f : Nat) (args : List AV) : Option AV :=
  match evFun cx n f args [] with
  | some rm => fz rm.2 6 rm.1
  | none => none
end Go.Ab

/- What an abstract value says of a value in a world; how a world may go on. -/
set_option linter.unusedVariables false
namespace Go.Ab
open Go

/-- A world seen through an abstract memory. S: the blocks that are never written again. rs: where an abstract block lies. cp: an abstract array's capacity. -/
structure Vw where
  w : World
  S : Nat → Prop
  rs : Nat → Option Nat
  cp : Nat → Nat
  mem : Mem

def isVecB : Blk → Bool
  | .vec .. => true
  | _ => false
def isVec (m : Mem) (id : Nat) : Bool := match m[id]? with
  | some k => isVecB k
  | none => false
theorem isVec_app {m l : Mem} {id : Nat} (h : id < m.length) : isVec (m ++ l) id = isVec m id := by unfold isVec; rw [List.getElem?_append_left h]
theorem isVec_set_ne {m : Mem} {id j : Nat} {k : Blk} (h : j ≠ id) : isVec (m.set id k) j = isVec m j := by
  unfold isVec; rw [List.getElem?_set_ne (fun e => h e.symm)]
theorem isVec_set_self {m : Mem} {id : Nat} {k : Blk} (h : id < m.length) : isVec (m.set id k) id = isVecB k := by
  unfold isVec; rw [List.getElem?_set_self h]
theorem isVec_some {m : Mem} {id : Nat} {k : Blk} (h : m[id]? = some k) : isVec m id = isVecB k := by unfold isVec; rw [h]
theorem isVec_take {m : Mem} {N id : Nat} (h : id < N) : isVec (m.take N) id = isVec m id := by unfold isVec; rw [List.getElem?_take_of_lt h]
/-- A handle that has not been overtaken. -/
def Vw.hd (V : Vw) (id ver : Nat) : Prop := id < V.mem.length ∧ ∀ v0, verOf V.mem id = some v0 → ver ≤ v0


inductive Rep (V : Vw) : AV → Value → Prop
  | int (k : IntKind) (n : Int) : Rep V (.int k n) (.int k n)
  | bool (b : Bool) : Rep V (.bool b) (.bool b)
  | str (s : ByteArray) : Rep V (.str s) (.string s)
  | agg (xs : List AV) (cs : Array Value) (h : cs.size = xs.length) (hl : ∀ x ∈ xs, x.leaf = true) (hr : ∀ (j : Nat) (x : AV) (c : Value), xs[j]? = some x → cs[j]? = some c → Rep V x c) : Rep V (.agg xs) (.agg cs)
  | tup (xs : List AV) (cs : Array Value) (h : cs.size = xs.length) (hr : ∀ (j : Nat) (x : AV) (c : Value), xs[j]? = some x → cs[j]? = some c → Rep V x c) : Rep V (.tup xs) (.tuple cs)
  | seqNil (full : Bool) (sz : Nat) : Rep V (.seq true full sz []) (.slice none 0 0)
  | seq (full : Bool) (sz : Nat) (xs : List AV) (ad : Addr) (c : Nat) (us : Nat → Nat → Value) (hc : xs.length ≤ c) (hf : full = true → c = xs.length)
      (hS : xs ≠ [] → V.S ad.block) (h0 : xs ≠ [] → 0 < sz) (hsz : ∀ x ∈ xs, x.cells.length = sz ∧ ∀ y ∈ x.cells, y.leaf = true)
      (hu : ∀ (j : Nat) (x : AV) (m : Nat) (y : AV), xs[j]? = some x → x.cells[m]? = some y → V.w.cell? (ad.add (j * sz + m)) = some (us j m))
      (hr : ∀ (j : Nat) (x : AV) (m : Nat) (y : AV), xs[j]? = some x → x.cells[m]? = some y → Rep V y (us j m)) : Rep V (.seq false full sz xs) (.slice (some ad) xs.length c)
  | own (id ver : Nat) (v : Value) (h1 : v.oneCell' = true) (h : V.hd id ver) (hv : verOf V.mem id = some ver → (∃ b, V.rs id = some b ∧ v = .slice (some ⟨b, 0, none⟩) ver (V.cp id)) ∨ (V.rs id = none ∧ ver = 0 ∧ v = .slice none 0 0 ∧ isVec V.mem id = true)) : Rep V (.own id ver) v
  | ptr (id ver off : Nat) (v : Value) (h1 : v.oneCell' = true) (h : V.hd id ver) (hv : verOf V.mem id = some ver → ∃ b, V.rs id = some b ∧ v = .pointer (some ⟨b, off, none⟩)) : Rep V (.ptr id ver off) v
  | aptr (id ver sz i f : Nat) (v : Value) (h1 : v.oneCell' = true) (h : V.hd id ver) (hv : verOf V.mem id = some ver → ∃ b, V.rs id = some b ∧ v = .pointer (some ⟨b, i * sz + f, none⟩)) : Rep V (.aptr id ver sz i f) v
  | rptr (xs : List AV) (ad : Addr) (us : Nat → Value) (h0 : xs ≠ []) (hl : ∀ x ∈ xs, x.leaf = true) (hS : V.S ad.block)
      (hu : ∀ (m : Nat) (y : AV), xs[m]? = some y → V.w.cell? (ad.add m) = some (us m)) (hr : ∀ (m : Nat) (y : AV), xs[m]? = some y → Rep V y (us m)) : Rep V (.rptr xs) (.pointer (some ad))
  | nilptr : Rep V .nilptr (.pointer none)
  | fn (f : Nat) (xs ys : List AV) (fs cs : Array Value) (h : fs.size = xs.length) (h' : cs.size = ys.length)
      (hr : ∀ (j : Nat) (x : AV) (c : Value), xs[j]? = some x → fs[j]? = some c → Rep V x c) (hr' : ∀ (j : Nat) (x : AV) (c : Value), ys[j]? = some x → cs[j]? = some c → Rep V x c) : Rep V (.fn f xs ys) (.func (.func f) fs cs)
  | nilfn : Rep V .nilfn .nilFunc
  | yld (id : Nat) (v : Value) (h1 : v.oneCell' = true) (h : V.hd id 0) (hv : verOf V.mem id = some 0 → ∃ b, V.rs id = some b ∧ v = .func (.yield b) #[] #[]) : Rep V (.yld id) v
  | mp (id : Nat) (v : Value) (h1 : v.oneCell' = true) (h : V.hd id 0) (hv : verOf V.mem id = some 0 → ∃ b, V.rs id = some b ∧ v = .map (some b)) : Rep V (.mp id) v
  | nilmp : Rep V .nilmp (.map none)
  | smap (ks vs : List AV) (b : Nat) (es : Array MapEntry) (cl : Nat) (hS : V.S b) (hb : V.w.heap[b]? = some (.map es cl)) (h1 : es.size = ks.length) (h2 : es.size = vs.length)
      (hk : ∀ (j : Nat) (x : AV) (e : MapEntry), ks[j]? = some x → es[j]? = some e → Rep V x e.key) (hv : ∀ (j : Nat) (x : AV) (e : MapEntry), vs[j]? = some x → es[j]? = some e → Rep V x e.val) : Rep V (.smap ks vs) (.map (some b))
  | junk (v : Value) : Rep V .junk v

/-- How a view may go on. -/
structure Ext (V V' : Vw) : Prop where
  os : V'.w.os = V.w.os
  tape : V'.w.tape = V.w.tape
  output : V'.w.output = V.w.output
  size : V.w.heap.size ≤ V'.w.heap.size
  frame : ∀ b, b < V.w.heap.size → (∀ id, V.rs id ≠ some b) → V'.w.heap[b]? = V.w.heap[b]?
  stab : ∀ b, V.S b → V'.w.heap[b]? = V.w.heap[b]?
  sm : ∀ b, V.S b → V'.S b
  sn : ∀ b, V'.S b → V.S b ∨ V.w.heap.size ≤ b ∨ ∃ id, V.rs id = some b
  len : V.mem.length ≤ V'.mem.length
  ver : ∀ id, id < V.mem.length → ∀ v', verOf V'.mem id = some v' → ∃ v0, verOf V.mem id = some v0 ∧ v0 ≤ v' ∧ (v0 = v' → V'.rs id = V.rs id ∧ V'.cp id = V.cp id ∧ isVec V'.mem id = isVec V.mem id)
  rn : ∀ id b, V'.rs id = some b → V.w.heap.size ≤ b ∨ ∃ id', V.rs id' = some b
  nn : ∀ id, id < V.mem.length → V.rs id = none → isVec V.mem id = false → V'.rs id = none ∧ (V'.mem[id]? = V.mem[id]? ∨ V'.mem[id]? = some .dead)

theorem Ext.refl (V : Vw) : Ext V V := ⟨rfl, rfl, rfl, Nat.le_refl _, fun _ _ _ => rfl, fun _ _ => rfl, fun _ h => h, fun _ h => .inl h, Nat.le_refl _, fun _ _ v' h => ⟨v', h, Nat.le_refl _, fun _ => ⟨rfl, rfl, rfl⟩⟩, fun id _ h => .inr ⟨id, h⟩, fun _ _ h _ => ⟨h, .inl rfl⟩⟩

theorem verOf_lt {m : Mem} {id v : Nat} (h : verOf m id = some v) : id < m.length := by
  unfold verOf shp at h
  cases hm : m[id]? with
  | none => simp [hm] at h
  | some b => exact (List.getElem?_eq_some_iff.1 hm).1

theorem Ext.trans {A B C : Vw} (h : Ext A B) (k : Ext B C) : Ext A C where
  os := k.os.trans h.os
  tape := k.tape.trans h.tape
  output := k.output.trans h.output
  size := Nat.le_trans h.size k.size
  frame := fun b hb hn => (k.frame b (Nat.lt_of_lt_of_le hb h.size) (fun id e => by
    rcases h.rn id b e with h1 | ⟨id', h1⟩
    · omega
    · exact hn id' h1)).trans (h.frame b hb hn)
  stab := fun b hb => (k.stab b (h.sm b hb)).trans (h.stab b hb)
  sm := fun b hb => k.sm b (h.sm b hb)
  sn := fun b hb => by
    rcases k.sn b hb with h1 | h1 | ⟨id, h1⟩
    · exact h.sn b h1
    · exact .inr (.inl (Nat.le_trans h.size h1))
    · rcases h.rn id b h1 with h2 | h2
      · exact .inr (.inl h2)
      · exact .inr (.inr h2)
  len := Nat.le_trans h.len k.len
  ver := fun id hid v' hv => by
    obtain ⟨v1, h1, hle1, he1⟩ := k.ver id (Nat.lt_of_lt_of_le hid h.len) v' hv
    obtain ⟨v0, h0, hle0, he0⟩ := h.ver id hid v1 h1
    refine ⟨v0, h0, Nat.le_trans hle0 hle1, fun e => ?_⟩
    have e1 : v1 = v' := by omega
    have e0 : v0 = v1 := by omega
    exact ⟨(he1 e1).1.trans (he0 e0).1, (he1 e1).2.1.trans (he0 e0).2.1, (he1 e1).2.2.trans (he0 e0).2.2⟩
  rn := fun id b hb => by
    rcases k.rn id b hb with h1 | ⟨id', h1⟩
    · exact .inl (Nat.le_trans h.size h1)
    · exact h.rn id' b h1
  nn := fun id hid hn hvc => by
    obtain ⟨h1, h2⟩ := h.nn id hid hn hvc
    obtain ⟨h3, h4⟩ := k.nn id (Nat.lt_of_lt_of_le hid h.len) h1 (by
      rcases h2 with h2 | h2
      · unfold isVec at hvc ⊢; rw [h2]; exact hvc
      · rw [isVec_some h2]; rfl)
    refine ⟨h3, ?_⟩
    rcases h4 with h4 | h4
    · rcases h2 with h2 | h2
      · exact .inl (h4.trans h2)
      · exact .inr (h4.trans h2)
    · exact .inr h4

theorem Ext.hd {V V' : Vw} (e : Ext V V') {id ver : Nat} (h : V.hd id ver) : V'.hd id ver :=
  ⟨Nat.lt_of_lt_of_le h.1 e.len, fun v' hv => by
    obtain ⟨v0, h0, hle, _⟩ := e.ver id h.1 v' hv
    exact Nat.le_trans (h.2 v0 h0) hle⟩
/-- A handle that is good now was good before, and leads to the same block. -/
theorem Ext.back {V V' : Vw} (e : Ext V V') {id ver : Nat} (h : V.hd id ver) (hv : verOf V'.mem id = some ver) :
    verOf V.mem id = some ver ∧ V'.rs id = V.rs id ∧ V'.cp id = V.cp id ∧ isVec V'.mem id = isVec V.mem id := by
  obtain ⟨v0, h0, hle, he⟩ := e.ver id h.1 ver hv
  have : v0 = ver := Nat.le_antisymm hle (h.2 v0 h0)
  subst this
  exact ⟨h0, he rfl⟩

theorem cell_same {w w' : World} {a : Addr} (h : w'.heap[a.block]? = w.heap[a.block]?) : w'.cell? a = w.cell? a := by simp [World.cell?, h]
theorem add_block (a : Addr) (n : Nat) : (a.add n).block = a.block := by unfold Addr.add; split <;> rfl
theorem add_add (a : Addr) (i j : Nat) : (a.add i).add j = a.add (i + j) := by
  unfold Addr.add
  by_cases hi : i = 0 <;> by_cases hj : j = 0 <;> simp [hi, hj]
  omega
theorem add_lit (b o n : Nat) : (⟨b, o, none⟩ : Addr).add n = ⟨b, o + n, none⟩ := by unfold Addr.add; split <;> simp_all

theorem Rep.mono {V V' : Vw} (e : Ext V V') {x : AV} {v : Value} (h : Rep V x v) : Rep V' x v := by
  induction h with
  | int k n => exact .int k n
  | bool b => exact .bool b
  | str s => exact .str s
  | agg xs cs h hl _ ih => exact .agg xs cs h hl ih
  | tup xs cs h _ ih => exact .tup xs cs h ih
  | seqNil full sz => exact .seqNil full sz
  | seq full sz xs ad c us hc hf hS h0 hsz hu _ ih =>
    exact .seq full sz xs ad c us hc hf (fun hx => e.sm _ (hS hx)) h0 hsz (fun j x m y hj hm => by
      have hx : xs ≠ [] := fun hx => by subst hx; simp at hj
      rw [cell_same (w := V.w) (by rw [add_block]; exact e.stab _ (hS hx))]
      exact hu j x m y hj hm) ih
  | own id ver v h1 h hv => exact .own id ver v h1 (e.hd h) (fun hv' => by
      obtain ⟨h1, h2, h3, h4⟩ := e.back h hv'
      rcases hv h1 with ⟨b, hb, rfl⟩ | ⟨hb, k1, k2, k3⟩
      · exact .inl ⟨b, h2.trans hb, by rw [h3]⟩
      · exact .inr ⟨h2.trans hb, k1, k2, h4.trans k3⟩)
  | ptr id ver off v h1 h hv => exact .ptr id ver off v h1 (e.hd h) (fun hv' => by
      obtain ⟨h1, h2, h3, _⟩ := e.back h hv'
      obtain ⟨b, hb, rfl⟩ := hv h1
      exact ⟨b, h2.trans hb, rfl⟩)
  | aptr id ver sz i f v h1 h hv => exact .aptr id ver sz i f v h1 (e.hd h) (fun hv' => by
      obtain ⟨h1, h2, h3, _⟩ := e.back h hv'
      obtain ⟨b, hb, rfl⟩ := hv h1
      exact ⟨b, h2.trans hb, rfl⟩)
  | rptr xs ad us h0 hl hS hu _ ih =>
    exact .rptr xs ad us h0 hl (e.sm _ hS) (fun m y hm => by
      rw [cell_same (w := V.w) (by rw [add_block]; exact e.stab _ hS)]
      exact hu m y hm) ih
  | nilptr => exact .nilptr
  | fn f xs ys fs cs h h' _ _ ih ih' => exact .fn f xs ys fs cs h h' ih ih'
  | nilfn => exact .nilfn
  | yld id v h1 h hv => exact .yld id v h1 (e.hd h) (fun hv' => by
      obtain ⟨h1, h2, h3, _⟩ := e.back h hv'
      obtain ⟨b, hb, rfl⟩ := hv h1
      exact ⟨b, h2.trans hb, rfl⟩)
  | mp id v h1 h hv => exact .mp id v h1 (e.hd h) (fun hv' => by
      obtain ⟨h1, h2, h3, _⟩ := e.back h hv'
      obtain ⟨b, hb, rfl⟩ := hv h1
      exact ⟨b, h2.trans hb, rfl⟩)
  | nilmp => exact .nilmp
  | smap ks vs b es cl hS hb h1 h2 _ _ ih ih' => exact .smap ks vs b es cl (e.sm _ hS) ((e.stab _ hS).trans hb) h1 h2 ih ih'
  | junk v => exact .junk v

/-! ### Cells -/
/-- A list of cells, one by one. -/
def Reps (V : Vw) (xs : List AV) (cs : List Value) : Prop := cs.length = xs.length ∧ ∀ (j : Nat) (x : AV) (c : Value), xs[j]? = some x → cs[j]? = some c → Rep V x c
theorem Reps.mono {V V' : Vw} (e : Ext V V') {xs : List AV} {cs : List Value} (h : Reps V xs cs) : Reps V' xs cs := ⟨h.1, fun j x c hx hc => (h.2 j x c hx hc).mono e⟩
theorem Reps.get {V : Vw} {xs : List AV} {cs : List Value} (h : Reps V xs cs) {j : Nat} {x : AV} (hx : xs[j]? = some x) : ∃ c, cs[j]? = some c ∧ Rep V x c := by
  have hj := (List.getElem?_eq_some_iff.1 hx).1
  have : j < cs.length := by rw [h.1]; exact hj
  exact ⟨cs[j], List.getElem?_eq_getElem this, h.2 j x _ hx (List.getElem?_eq_getElem this)⟩
theorem Reps.take {V : Vw} {xs : List AV} {cs : List Value} (h : Reps V xs cs) (n : Nat) : Reps V (xs.take n) (cs.take n) :=
  ⟨by simp [h.1], fun j x c hx hc => by
    rw [List.getElem?_take] at hx hc
    split at hx
    · rename_i hj; rw [if_pos hj] at hc; exact h.2 j x c hx hc
    · cases hx⟩
theorem Reps.drop {V : Vw} {xs : List AV} {cs : List Value} (h : Reps V xs cs) (n : Nat) : Reps V (xs.drop n) (cs.drop n) :=
  ⟨by simp [h.1], fun j x c hx hc => by
    rw [List.getElem?_drop] at hx hc
    exact h.2 _ x c hx hc⟩
theorem Reps.append {V : Vw} {xs ys : List AV} {cs ds : List Value} (h : Reps V xs cs) (k : Reps V ys ds) : Reps V (xs ++ ys) (cs ++ ds) :=
  ⟨by simp [h.1, k.1], fun j x c hx hc => by
    by_cases hj : j < xs.length
    · rw [List.getElem?_append_left hj] at hx
      rw [List.getElem?_append_left (by rw [h.1]; exact hj)] at hc
      exact h.2 j x c hx hc
    · rw [List.getElem?_append_right (by omega)] at hx
      rw [List.getElem?_append_right (by rw [h.1]; omega), h.1] at hc
      exact k.2 _ x c hx hc⟩
theorem Reps.nil (V : Vw) : Reps V [] [] := ⟨rfl, fun j x c hx => by simp at hx⟩
theorem Reps.cons {V : Vw} {x : AV} {c : Value} {xs : List AV} {cs : List Value} (h : Rep V x c) (k : Reps V xs cs) : Reps V (x :: xs) (c :: cs) :=
  ⟨by simp [k.1], fun j y d hy hd => by
    cases j with
    | zero => simp at hy hd; subst hy; subst hd; exact h
    | succ j => simp at hy hd; exact k.2 j y d hy hd⟩
theorem Reps.inv {V : Vw} {x : AV} {xs : List AV} {cs : List Value} (h : Reps V (x :: xs) cs) : ∃ c cs', cs = c :: cs' ∧ Rep V x c ∧ Reps V xs cs' := by
  cases cs with
  | nil => have := h.1; simp at this
  | cons c cs' => exact ⟨c, cs', rfl, h.2 0 x c rfl rfl, by have := h.1; simpa using this, fun j y d hy hd => h.2 (j + 1) y d (by simpa using hy) (by simpa using hd)⟩

theorem Rep.one {V : Vw} {x : AV} {v : Value} (h : Rep V x v) (hx : x.leaf = true) : v.oneCell' = true := by
  cases h <;> first | rfl | assumption | (simp [AV.leaf] at hx)
theorem cells_of_one {v : Value} (h : v.oneCell' = true) : v.cells = #[v] := by
  cases v <;> first | rfl | (simp [Value.oneCell'] at h)
theorem cells_leaf {x : AV} (hx : x.leaf = true) : x.cells = [x] := by cases x <;> first | rfl | (simp [AV.leaf] at hx)
/-- A value's cells. (A tuple has no place in memory.) -/
theorem Rep.cells {V : Vw} {x : AV} {v : Value} (h : Rep V x v) (hx : x.data = true) : Reps V x.cells v.cells.toList ∧ (∀ y ∈ x.cells, y.leaf = true) ∧ ∀ u ∈ v.cells.toList, u.oneCell' = true := by
  by_cases hl : x.leaf = true
  · rw [cells_leaf hl, cells_of_one (h.one hl)]
    exact ⟨Reps.cons h (Reps.nil V), by simpa using hl, by simpa using h.one hl⟩
  · cases h with
    | agg xs cs hs hll hr =>
      refine ⟨⟨by simpa [AV.cells, Value.cells] using hs, fun j x c hx hc => hr j x c hx (by simpa [Value.cells] using hc)⟩, hll, fun u hu => ?_⟩
      obtain ⟨j, hj, rfl⟩ := List.getElem_of_mem hu
      have hj' : j < xs.length := by have : j < cs.size := by simpa [Value.cells] using hj
                                     omega
      have := hr j xs[j] cs[j] (List.getElem?_eq_getElem hj') (Array.getElem?_eq_getElem (by omega))
      simp only [Value.cells, Array.getElem_toList]
      exact this.one (hll _ (List.getElem_mem hj'))
    | tup xs cs => simp [AV.data] at hx
    | junk v => simp [AV.data] at hx
    | _ => exact absurd rfl hl
end Go.Ab

/- What holds of a view throughout; the ways in which it goes on. -/
set_option linter.unusedVariables false
namespace Go.Ab
open Go

def wide (x : AV) (sz : Nat) : Prop := x.cells.length = sz ∧ ∀ y ∈ x.cells, y.leaf = true
def flatC (xs : List AV) : List AV := xs.flatMap AV.cells

/-- A loop's code fits the temporaries. -/
def LpOk (n : Nat) (ps : List Nat) (a bd : Code) : Prop := ∃ k, k ≤ n ∧ okCode k a = true ∧ okCode k bd = true ∧ ∀ p ∈ ps, p < k
def BlkOk (V : Vw) (id b : Nat) : Blk → Prop
  | .box cs => ∃ vs t, V.w.heap[b]? = some (.cells vs t (0, 0)) ∧ Reps V cs vs.toList ∧ ∀ y ∈ cs, y.leaf = true
  | .arr e sz xs => 0 < sz ∧ xs.length ≤ V.cp id ∧ V.cp id ≤ maxLen ∧ (∀ x ∈ xs, wide x sz) ∧
      ∃ vs, V.w.heap[b]? = some (.cells vs e (0, 0)) ∧ vs.size = V.cp id * sz ∧ Reps V (flatC xs) (vs.toList.take (xs.length * sz))
  | .lp env ps a bd st pend => ∃ r : Loop, V.w.heap[b]? = some (.loop r) ∧ r.state = st ∧ r.pending = pend ∧ (r.params = ps.toArray ∧ LpOk r.tmps.size ps a bd) ∧ r.assign = a ∧ r.body = bd ∧
      (∀ t, (env t).under id = true) ∧ ∀ t, Rep V (env t) (r.tmps.getD t undef)
  | .mp ks vs => ∃ (es : Array MapEntry) (cl : Nat), V.w.heap[b]? = some (.map es cl) ∧ Reps V ks (es.toList.map (·.key)) ∧ Reps V vs (es.toList.map (·.val))
  | .vec e sz xs => xs ≠ [] ∧ 0 < sz ∧ xs.length ≤ V.cp id ∧ V.cp id ≤ maxLen ∧ (∀ x ∈ xs, wide x sz) ∧
      ∃ vs, V.w.heap[b]? = some (.cells vs e (0, 0)) ∧ vs.size = V.cp id * sz ∧ Reps V (flatC xs) (vs.toList.take (xs.length * sz))
  | .dead => True

theorem BlkOk.mono {V V' : Vw} (e : Ext V V') {id b : Nat} {k : Blk} (h : BlkOk V id b k) (hb : V'.w.heap[b]? = V.w.heap[b]?) (hc : V'.cp id = V.cp id) : BlkOk V' id b k := by
  cases k with
  | box cs =>
    obtain ⟨vs, t, h1, h2, h3⟩ := h
    exact ⟨vs, t, hb.trans h1, h2.mono e, h3⟩
  | arr ty sz xs =>
    obtain ⟨h1, h2, h3, h4, vs, h5, h6, h7⟩ := h
    exact ⟨h1, by rw [hc]; exact h2, by rw [hc]; exact h3, h4, vs, hb.trans h5, by rw [hc]; exact h6, h7.mono e⟩
  | lp env ps a bd st pend =>
    obtain ⟨r, h1, h2, h3, h4, h5, h6, h6', h7⟩ := h
    exact ⟨r, hb.trans h1, h2, h3, h4, h5, h6, h6', fun t => (h7 t).mono e⟩
  | mp ks vs =>
    obtain ⟨es, cl, h1, h2, h3⟩ := h
    exact ⟨es, cl, hb.trans h1, h2.mono e, h3.mono e⟩
  | vec ty sz xs =>
    obtain ⟨h0, h1, h2, h3, h4, vs, h5, h6, h7⟩ := h
    exact ⟨h0, h1, by rw [hc]; exact h2, by rw [hc]; exact h3, h4, vs, hb.trans h5, by rw [hc]; exact h6, h7.mono e⟩
  | dead => trivial

structure Ok (V : Vw) : Prop where
  sb : ∀ b, V.S b → b < V.w.heap.size
  rb : ∀ id b, V.rs id = some b → b < V.w.heap.size ∧ id < V.mem.length
  sep : ∀ id b v, verOf V.mem id = some v → V.rs id = some b → ¬ V.S b
  inj : ∀ id id' b v v', verOf V.mem id = some v → verOf V.mem id' = some v' → V.rs id = some b → V.rs id' = some b → id = id'
  blk : ∀ id b k, V.mem[id]? = some k → V.rs id = some b → BlkOk V id b k

theorem verOf_some {m : Mem} {id : Nat} {k : Blk} (h : m[id]? = some k) : verOf m id = (shpB k).map (·.1) := by simp [verOf, shp, h]
theorem verOf_append {m : Mem} {l : Mem} {id : Nat} (h : id < m.length) : verOf (m ++ l) id = verOf m id := by simp [verOf, shp, List.getElem?_append_left h]
theorem verOf_set_ne {m : Mem} {id j : Nat} {k : Blk} (h : j ≠ id) : verOf (m.set id k) j = verOf m j := by
  unfold verOf shp; rw [List.getElem?_set_ne (fun e => h e.symm)]
theorem verOf_set_self {m : Mem} {id : Nat} {k : Blk} (h : id < m.length) : verOf (m.set id k) id = (shpB k).map (·.1) := by
  unfold verOf shp; rw [List.getElem?_set_self h]; rfl

/-- From one view to the next: what must be shown anew. -/
theorem Ok.step {V V' : Vw} (o : Ok V) (e : Ext V V') (sb : ∀ b, V'.S b → b < V'.w.heap.size) (rb : ∀ id b, V'.rs id = some b → b < V'.w.heap.size ∧ id < V'.mem.length)
    (sep : ∀ id b v, verOf V'.mem id = some v → V'.rs id = some b → ¬ V'.S b)
    (inj : ∀ id id' b v v', verOf V'.mem id = some v → verOf V'.mem id' = some v' → V'.rs id = some b → V'.rs id' = some b → id = id')
    (hk : ∀ id b k, V'.mem[id]? = some k → V'.rs id = some b → k ≠ .dead → (V.mem[id]? = some k ∧ V.rs id = some b ∧ V'.cp id = V.cp id ∧ V'.w.heap[b]? = V.w.heap[b]?) ∨ BlkOk V' id b k) : Ok V' :=
  ⟨sb, rb, sep, inj, fun id b k hm hr => by
    by_cases hd : k = .dead
    · subst hd; trivial
    · rcases hk id b k hm hr hd with ⟨h1, h2, h3, h4⟩ | h
      · exact (o.blk id b k h1 h2).mono e h4 h3
      · exact h⟩

/-! ### The heap stays -/
def Vw.at (V : Vw) (w : World) : Vw := { V with w := w }
theorem ext_sameHeap {V : Vw} {w : World} (ho : w.os = V.w.os) (ht : w.tape = V.w.tape) (hp : w.output = V.w.output) (hh : w.heap = V.w.heap) : Ext V (V.at w) where
  os := ho
  tape := ht
  output := hp
  size := by simp [Vw.at, hh]
  frame := fun b _ _ => by simp [Vw.at, hh]
  stab := fun b _ => by simp [Vw.at, hh]
  sm := fun _ h => h
  sn := fun _ h => .inl h
  len := Nat.le_refl _
  ver := fun _ _ v' h => ⟨v', h, Nat.le_refl _, fun _ => ⟨rfl, rfl, rfl⟩⟩
  rn := fun id _ h => .inr ⟨id, h⟩
  nn := fun _ _ h _ => ⟨h, .inl rfl⟩
theorem ok_sameHeap {V : Vw} (o : Ok V) {w : World} (ho : w.os = V.w.os) (ht : w.tape = V.w.tape) (hp : w.output = V.w.output) (hh : w.heap = V.w.heap) : Ok (V.at w) :=
  o.step (ext_sameHeap ho ht hp hh) (fun b h => by simpa [Vw.at, hh] using o.sb b h) (fun id b h => by simpa [Vw.at, hh] using o.rb id b h) o.sep o.inj
    (fun id b k hm hr _ => .inl ⟨hm, hr, rfl, by simp [Vw.at, hh]⟩)

/-! ### The abstract memory grows, not yet laid -/
def Vw.grow (V : Vw) (l : Mem) : Vw := { V with mem := V.mem ++ l }
theorem ext_grow (V : Vw) (l : Mem) : Ext V (V.grow l) where
  os := rfl
  tape := rfl
  output := rfl
  size := Nat.le_refl _
  frame := fun _ _ _ => rfl
  stab := fun _ _ => rfl
  sm := fun _ h => h
  sn := fun _ h => .inl h
  len := by simp [Vw.grow]
  ver := fun id hid v' h => ⟨v', by rw [← verOf_append (l := l) hid]; exact h, Nat.le_refl _, fun _ => ⟨rfl, rfl, isVec_app hid⟩⟩
  rn := fun id _ h => .inr ⟨id, h⟩
  nn := fun id hid h _ => ⟨h, .inl (List.getElem?_append_left hid)⟩
theorem ok_grow {V : Vw} (o : Ok V) (l : Mem) : Ok (V.grow l) := by
  have hlt : ∀ id b, V.rs id = some b → id < V.mem.length := fun id b h => (o.rb id b h).2
  refine o.step (ext_grow V l) o.sb (fun id b h => ⟨(o.rb id b h).1, by have := hlt id b h; simp [Vw.grow]; omega⟩) (fun id b v hv hr => ?_) (fun id id' b v v' hv hv' hr hr' => ?_) (fun id b k hm hr _ => .inl ⟨?_, hr, rfl, rfl⟩)
  · have : verOf V.mem id = some v := by rw [← verOf_append (l := l) (hlt id b hr)]; exact hv
    exact o.sep id b v this hr
  · have h1 : verOf V.mem id = some v := by rw [← verOf_append (l := l) (hlt id b hr)]; exact hv
    have h2 : verOf V.mem id' = some v' := by rw [← verOf_append (l := l) (hlt id' b hr')]; exact hv'
    exact o.inj id id' b v v' h1 h2 hr hr'
  · have : (V.mem ++ l)[id]? = some k := hm
    rwa [List.getElem?_append_left (hlt id b hr)] at this

/-! ### A new block that is an abstract one's -/
def Vw.lay (V : Vw) (id : Nat) (o : Obj) (c : Nat) : Vw :=
  { V with w := V.w.alloc o, rs := fun j => if j = id then some V.w.heap.size else V.rs j, cp := fun j => if j = id then c else V.cp j }
theorem heap_alloc_lt {w : World} {o : Obj} {b : Nat} (h : b < w.heap.size) : (w.alloc o).heap[b]? = w.heap[b]? := by
  show (w.heap.push o)[b]? = _
  rw [Array.getElem?_push, if_neg (by omega)]
theorem ext_lay {V0 V : Vw} (e : Ext V0 V) (o : Ok V) {id : Nat} (ob : Obj) (hid : V0.mem.length ≤ id) : Ext V0 (V.lay id ob (V.cp id)) where
  os := e.os
  tape := e.tape
  output := e.output
  size := by have := e.size; simp [Vw.lay]; omega
  frame := fun b hb hn => (heap_alloc_lt (Nat.lt_of_lt_of_le hb e.size)).trans (e.frame b hb hn)
  stab := fun b hb => (heap_alloc_lt (o.sb b (e.sm b hb))).trans (e.stab b hb)
  sm := e.sm
  sn := e.sn
  len := e.len
  ver := fun j hj v' h => by
    obtain ⟨v0, h0, h1, h2⟩ := e.ver j hj v' h
    have hne : j ≠ id := by omega
    exact ⟨v0, h0, h1, fun he => ⟨by simp only [Vw.lay, if_neg hne]; exact (h2 he).1, by simp only [Vw.lay, if_neg hne]; exact (h2 he).2.1, (h2 he).2.2⟩⟩
  rn := fun j b h => by
    simp only [Vw.lay] at h
    split at h
    · cases h; exact .inl e.size
    · exact e.rn j b h
  nn := fun j hj h hvc => by
    have hne : j ≠ id := by omega
    simp only [Vw.lay, if_neg hne]
    exact e.nn j hj h hvc
/-- What stands for a value goes on when a block that nothing leads to yet is laid. -/
theorem lay_rep {V : Vw} (o : Ok V) {id : Nat} (ob : Obj) (hn : V.rs id = none) (hvc : isVec V.mem id = false) {x : AV} {v : Value} (h : Rep V x v) : Rep (V.lay id ob (V.cp id)) x v := by
  have hcp : ∀ j, (V.lay id ob (V.cp id)).cp j = V.cp j := fun j => by simp only [Vw.lay]; split <;> simp_all
  have hrs : ∀ j b, V.rs j = some b → (V.lay id ob (V.cp id)).rs j = some b := fun j b hb => by
    simp only [Vw.lay]
    split
    · rename_i e; subst e; rw [hn] at hb; cases hb
    · exact hb
  induction h with
  | int k n => exact .int k n
  | bool b => exact .bool b
  | str s => exact .str s
  | agg xs cs h hl _ ih => exact .agg xs cs h hl ih
  | tup xs cs h _ ih => exact .tup xs cs h ih
  | seqNil full sz => exact .seqNil full sz
  | seq full sz xs ad c us hc hf hS h0 hsz hu _ ih =>
    exact .seq full sz xs ad c us hc hf hS h0 hsz (fun j x m y hj hm => by
      have hx : xs ≠ [] := fun hx => by subst hx; simp at hj
      rw [cell_same (w := V.w) (by rw [add_block]; exact heap_alloc_lt (o.sb _ (hS hx)))]
      exact hu j x m y hj hm) ih
  | own j ver v h1 h hv => exact .own j ver v h1 h (fun hv' => by
      rcases hv hv' with ⟨b, hb, he⟩ | ⟨hb, k1, k2, k3⟩
      · exact .inl ⟨b, hrs j b hb, by rw [hcp]; exact he⟩
      · refine .inr ⟨?_, k1, k2, k3⟩
        simp only [Vw.lay]
        split
        · rename_i e; subst e; rw [hvc] at k3; cases k3
        · exact hb)
  | ptr j ver off v h1 h hv => exact .ptr j ver off v h1 h (fun hv' => by
      obtain ⟨b, hb, he⟩ := hv hv'
      exact ⟨b, hrs j b hb, he⟩)
  | aptr j ver sz i f v h1 h hv => exact .aptr j ver sz i f v h1 h (fun hv' => by
      obtain ⟨b, hb, he⟩ := hv hv'
      exact ⟨b, hrs j b hb, he⟩)
  | rptr xs ad us h0 hl hS hu _ ih =>
    exact .rptr xs ad us h0 hl hS (fun m y hm => by
      rw [cell_same (w := V.w) (by rw [add_block]; exact heap_alloc_lt (o.sb _ hS))]
      exact hu m y hm) ih
  | nilptr => exact .nilptr
  | fn f xs ys fs cs h h' _ _ ih ih' => exact .fn f xs ys fs cs h h' ih ih'
  | nilfn => exact .nilfn
  | yld j v h1 h hv => exact .yld j v h1 h (fun hv' => by
      obtain ⟨b, hb, he⟩ := hv hv'
      exact ⟨b, hrs j b hb, he⟩)
  | mp j v h1 h hv => exact .mp j v h1 h (fun hv' => by
      obtain ⟨b, hb, he⟩ := hv hv'
      exact ⟨b, hrs j b hb, he⟩)
  | nilmp => exact .nilmp
  | smap ks vs b es cl hS hb h1 h2 _ _ ih ih' => exact .smap ks vs b es cl hS ((heap_alloc_lt (o.sb _ hS)).trans hb) h1 h2 ih ih'
  | junk v => exact .junk v
theorem lay_blk {V : Vw} (o : Ok V) {id : Nat} (ob : Obj) (hn : V.rs id = none) (hvc : isVec V.mem id = false) {j b : Nat} {k : Blk} (hb : b < V.w.heap.size) (h : BlkOk V j b k) : BlkOk (V.lay id ob (V.cp id)) j b k := by
  have hcp : ∀ j, (V.lay id ob (V.cp id)).cp j = V.cp j := fun j => by simp only [Vw.lay]; split <;> simp_all
  have hh : (V.lay id ob (V.cp id)).w.heap[b]? = V.w.heap[b]? := heap_alloc_lt hb
  have hrp : ∀ {xs : List AV} {us : List Value}, Reps V xs us → Reps (V.lay id ob (V.cp id)) xs us := fun hr => ⟨hr.1, fun j x c hx hc => lay_rep o ob hn hvc (hr.2 j x c hx hc)⟩
  cases k with
  | box cs => obtain ⟨vs, t, h1, h2, h3⟩ := h; exact ⟨vs, t, hh.trans h1, hrp h2, h3⟩
  | arr ty sz xs =>
    obtain ⟨h1, h2, h3, h4, vs, h5, h6, h7⟩ := h
    exact ⟨h1, by rw [hcp]; exact h2, by rw [hcp]; exact h3, h4, vs, hh.trans h5, by rw [hcp]; exact h6, hrp h7⟩
  | lp env ps a bd st pend =>
    obtain ⟨r, h1, h2, h3, h4, h5, h6, h6', h7⟩ := h
    exact ⟨r, hh.trans h1, h2, h3, h4, h5, h6, h6', fun t => lay_rep o ob hn hvc (h7 t)⟩
  | mp ks vs =>
    obtain ⟨es, cl, h1, h2, h3⟩ := h
    exact ⟨es, cl, hh.trans h1, hrp h2, hrp h3⟩
  | vec ty sz xs =>
    obtain ⟨h0, h1, h2, h3, h4, vs, h5, h6, h7⟩ := h
    exact ⟨h0, h1, by rw [hcp]; exact h2, by rw [hcp]; exact h3, h4, vs, hh.trans h5, by rw [hcp]; exact h6, hrp h7⟩
  | dead => trivial
theorem ok_lay {V : Vw} (o : Ok V) {id : Nat} (ob : Obj) (hid : id < V.mem.length) (hn : V.rs id = none) (hvc : isVec V.mem id = false) (hb : ∀ k, V.mem[id]? = some k → BlkOk (V.lay id ob (V.cp id)) id V.w.heap.size k) : Ok (V.lay id ob (V.cp id)) := by
  have hsz : (V.lay id ob (V.cp id)).w.heap.size = V.w.heap.size + 1 := by simp [Vw.lay]
  have hrs : ∀ j b, (V.lay id ob (V.cp id)).rs j = some b → (j = id ∧ b = V.w.heap.size) ∨ (j ≠ id ∧ V.rs j = some b) := by
    intro j b h
    simp only [Vw.lay] at h
    split at h
    · rename_i e; cases h; exact .inl ⟨e, rfl⟩
    · rename_i e; exact .inr ⟨e, h⟩
  refine ⟨fun b h => by have := o.sb b h; omega, fun j b h => ?_, fun j b v hv hr => ?_, fun j j' b v v' hv hv' hr hr' => ?_, fun j b k hm hr => ?_⟩
  · rcases hrs j b h with ⟨rfl, hb'⟩ | ⟨_, h⟩
    · exact ⟨by omega, hid⟩
    · have := o.rb j b h; exact ⟨by omega, this.2⟩
  · rcases hrs j b hr with ⟨rfl, rfl⟩ | ⟨_, h⟩
    · intro hS; have := o.sb _ hS; omega
    · exact o.sep j b v hv h
  · rcases hrs j b hr with ⟨hj, hb1⟩ | ⟨hj, h⟩ <;> rcases hrs j' b hr' with ⟨hj', hb2⟩ | ⟨hj', h'⟩
    · exact hj.trans hj'.symm
    · have := (o.rb j' _ h').1; omega
    · have := (o.rb j _ h).1; omega
    · exact o.inj j j' b v v' hv hv' h h'
  · rcases hrs j b hr with ⟨rfl, rfl⟩ | ⟨hj, h⟩
    · exact hb k hm
    · exact lay_blk o ob hn hvc (o.rb j b h).1 (o.blk j b k hm h)

/-! ### A block written anew, as long as it was -/
def Vw.wr (V : Vw) (id : Nat) (w : World) (k : Blk) : Vw := { V with w := w, mem := V.mem.set id k }
theorem ext_wr {V : Vw} (o : Ok V) {id b v : Nat} {w : World} {k k0 : Blk} (hm : V.mem[id]? = some k0) (hv : verOf V.mem id = some v) (hk : (shpB k).map (·.1) = some v) (hr : V.rs id = some b)
    (ho : w.os = V.w.os) (ht : w.tape = V.w.tape) (hp : w.output = V.w.output) (hs : w.heap.size = V.w.heap.size) (hh : ∀ j, j ≠ b → w.heap[j]? = V.w.heap[j]?) (hkv : isVecB k = isVecB k0 := by rfl) : Ext V (V.wr id w k) where
  os := ho
  tape := ht
  output := hp
  size := Nat.le_of_eq hs.symm
  frame := fun j _ hn => hh j (fun e => hn id (by rw [hr, e]))
  stab := fun j hj => hh j (fun e => o.sep id b v hv hr (e ▸ hj))
  sm := fun _ h => h
  sn := fun _ h => .inl h
  len := by simp [Vw.wr]
  ver := fun j hj v' h => by
    refine ⟨v', ?_, Nat.le_refl _, fun _ => ⟨rfl, rfl, ?_⟩⟩
    · by_cases e : j = id
      · subst e
        have h' : verOf (V.mem.set j k) j = some v' := h
        rw [verOf_set_self hj, hk] at h'
        cases h'; exact hv
      · rw [← verOf_set_ne (k := k) e]; exact h
    · show isVec (V.mem.set id k) j = _
      by_cases e : j = id
      · subst e; rw [isVec_set_self hj, isVec_some hm, hkv]
      · exact isVec_set_ne e
  rn := fun id _ h => .inr ⟨id, h⟩
  nn := fun j hj h _ => ⟨h, .inl (by
    have e : j ≠ id := fun e => by subst e; rw [hr] at h; cases h
    show (V.mem.set id k)[j]? = _
    rw [List.getElem?_set_ne (fun h => e h.symm)])⟩
theorem ok_wr {V : Vw} (o : Ok V) {id b v : Nat} {w : World} {k k0 : Blk} (hm : V.mem[id]? = some k0) (hv : verOf V.mem id = some v) (hk : (shpB k).map (·.1) = some v) (hr : V.rs id = some b)
    (ho : w.os = V.w.os) (ht : w.tape = V.w.tape) (hp : w.output = V.w.output) (hs : w.heap.size = V.w.heap.size) (hh : ∀ j, j ≠ b → w.heap[j]? = V.w.heap[j]?)
    (hb : BlkOk (V.wr id w k) id b k) (hkv : isVecB k = isVecB k0 := by rfl) : Ok (V.wr id w k) := by
  have hid : id < V.mem.length := verOf_lt hv
  have hver : ∀ j v', verOf (V.mem.set id k) j = some v' → verOf V.mem j = some v' := by
    intro j v' h
    by_cases e : j = id
    · subst e; rw [verOf_set_self hid, hk] at h; cases h; exact hv
    · rw [verOf_set_ne e] at h; exact h
  refine o.step (ext_wr o hm hv hk hr ho ht hp hs hh hkv) (fun j h => by have := o.sb j h; simp [Vw.wr]; omega) (fun j b' h => by have := o.rb j b' h; simp [Vw.wr]; omega)
    (fun j b' v' hv' hr' => o.sep j b' v' (hver j v' hv') hr') (fun j j' b' v1 v2 h1 h2 h3 h4 => o.inj j j' b' v1 v2 (hver _ _ h1) (hver _ _ h2) h3 h4) (fun j b' k' hm' hr' hd => ?_)
  have hm'' : (V.mem.set id k)[j]? = some k' := hm'
  by_cases e : j = id
  · subst e
    rw [List.getElem?_set_self hid] at hm''
    cases hm''
    have : b' = b := by have h' : V.rs j = some b' := hr'; rw [hr] at h'; cases h'; rfl
    subst this
    exact .inr hb
  · rw [List.getElem?_set_ne (fun h => e h.symm)] at hm''
    refine .inl ⟨hm'', hr', rfl, hh b' (fun hb' => ?_)⟩
    subst hb'
    have h1 : verOf V.mem j = (shpB k').map (·.1) := verOf_some hm''
    cases hsk : shpB k' with
    | none => cases k' <;> simp [shpB] at hsk; exact hd rfl
    | some s => exact e (o.inj j id b' s.1 v (by rw [h1, hsk]; rfl) hv hr' hr)

/-! ### A block given up; blocks that are never written again -/
def Vw.die (V : Vw) (id : Nat) : Vw := { V with mem := V.mem.set id .dead }
theorem verOf_die {m : Mem} {id j v : Nat} (h : verOf (m.set id .dead) j = some v) : j ≠ id ∧ verOf m j = some v := by
  by_cases e : j = id
  · subst e
    by_cases hid : j < m.length
    · rw [verOf_set_self hid] at h; simp [shpB] at h
    · have := verOf_lt h; simp at this; omega
  · exact ⟨e, by rw [verOf_set_ne e] at h; exact h⟩
theorem ext_die (V : Vw) (id : Nat) : Ext V (V.die id) where
  os := rfl
  tape := rfl
  output := rfl
  size := Nat.le_refl _
  frame := fun _ _ _ => rfl
  stab := fun _ _ => rfl
  sm := fun _ h => h
  sn := fun _ h => .inl h
  len := by simp [Vw.die]
  ver := fun j hj v' h => ⟨v', (verOf_die h).2, Nat.le_refl _, fun _ => ⟨rfl, rfl, isVec_set_ne (verOf_die h).1⟩⟩
  rn := fun id _ h => .inr ⟨id, h⟩
  nn := fun j hj h _ => ⟨h, by
    show (V.mem.set id .dead)[j]? = _ ∨ (V.mem.set id .dead)[j]? = _
    by_cases e : j = id
    · subst e; exact .inr (List.getElem?_set_self hj)
    · exact .inl (List.getElem?_set_ne (fun h => e h.symm))⟩
theorem ok_die {V : Vw} (o : Ok V) (id : Nat) : Ok (V.die id) := by
  refine o.step (ext_die V id) o.sb (fun j b h => by have := o.rb j b h; simp [Vw.die]; exact this) (fun j b v hv hr => o.sep j b v (verOf_die hv).2 hr)
    (fun j j' b v v' h1 h2 h3 h4 => o.inj j j' b v v' (verOf_die h1).2 (verOf_die h2).2 h3 h4) (fun j b k hm hr hd => ?_)
  have hm' : (V.mem.set id .dead)[j]? = some k := hm
  by_cases e : j = id
  · subst e
    by_cases hid : j < V.mem.length
    · rw [List.getElem?_set_self hid] at hm'; cases hm'; exact absurd rfl hd
    · have := (List.getElem?_eq_some_iff.1 hm').1; simp at this; omega
  · rw [List.getElem?_set_ne (fun h => e h.symm)] at hm'
    exact .inl ⟨hm', hr, rfl, rfl⟩
def Vw.kills (V : Vw) (l : List Nat) : Vw := { V with mem := kill V.mem l }
theorem kills_nil (V : Vw) : V.kills [] = V := rfl
theorem kills_cons (V : Vw) (id : Nat) (l : List Nat) : V.kills (id :: l) = (V.die id).kills l := rfl
theorem ok_kills : ∀ (l : List Nat) {V : Vw}, Ok V → Ok (V.kills l) ∧ Ext V (V.kills l)
  | [], V, o => ⟨o, Ext.refl V⟩
  | id :: l, V, o => by
    rw [kills_cons]
    obtain ⟨h1, h2⟩ := ok_kills l (ok_die o id)
    exact ⟨h1, (ext_die V id).trans h2⟩
theorem verOf_kill : ∀ (l : List Nat) {m : Mem} {j v : Nat}, verOf (kill m l) j = some v → j ∉ l ∧ verOf m j = some v
  | [], m, j, v, h => ⟨by simp, h⟩
  | id :: l, m, j, v, h => by
    obtain ⟨h1, h2⟩ := verOf_kill l (m := m.set id .dead) h
    obtain ⟨h3, h4⟩ := verOf_die h2
    exact ⟨by simp [h1, h3], h4⟩

/-- Blocks that no living abstract block lies in may be called never written again. -/
def Vw.calm (V : Vw) (D : Nat → Prop) : Vw := { V with S := fun b => V.S b ∨ D b }
theorem ext_calm {V : Vw} {D : Nat → Prop} (h : ∀ b, D b → ∃ id, V.rs id = some b) : Ext V (V.calm D) where
  os := rfl
  tape := rfl
  output := rfl
  size := Nat.le_refl _
  frame := fun _ _ _ => rfl
  stab := fun _ _ => rfl
  sm := fun _ h => .inl h
  sn := fun b hb => by rcases hb with h1 | h1; exact .inl h1; exact .inr (.inr (h b h1))
  len := Nat.le_refl _
  ver := fun _ _ v' h => ⟨v', h, Nat.le_refl _, fun _ => ⟨rfl, rfl, rfl⟩⟩
  rn := fun id _ h => .inr ⟨id, h⟩
  nn := fun _ _ h _ => ⟨h, .inl rfl⟩
theorem ok_calm {V : Vw} (o : Ok V) {D : Nat → Prop} (h : ∀ b, D b → ∃ id, V.rs id = some b) (hl : ∀ id b v, verOf V.mem id = some v → V.rs id = some b → ¬ D b) : Ok (V.calm D) :=
  o.step (ext_calm h) (fun b hb => by rcases hb with h1 | h1; exact o.sb b h1; obtain ⟨id, hid⟩ := h b h1; exact (o.rb id b hid).1) o.rb
    (fun id b v hv hr hS => by rcases hS with h1 | h1; exact o.sep id b v hv hr h1; exact hl id b v hv hr h1) o.inj (fun id b k hm hr _ => .inl ⟨hm, hr, rfl, rfl⟩)

/-! ### A new block that is never written again -/
def Vw.lit (V : Vw) (ob : Obj) : Vw := { V with w := V.w.alloc ob, S := fun b => V.S b ∨ b = V.w.heap.size }
theorem ext_lit {V : Vw} (o : Ok V) (ob : Obj) : Ext V (V.lit ob) where
  os := rfl
  tape := rfl
  output := rfl
  size := by simp [Vw.lit]
  frame := fun b hb _ => heap_alloc_lt hb
  stab := fun b hb => heap_alloc_lt (o.sb b hb)
  sm := fun _ h => .inl h
  sn := fun b hb => by rcases hb with h1 | h1; exact .inl h1; exact .inr (.inl (by omega))
  len := Nat.le_refl _
  ver := fun _ _ v' h => ⟨v', h, Nat.le_refl _, fun _ => ⟨rfl, rfl, rfl⟩⟩
  rn := fun id _ h => .inr ⟨id, h⟩
  nn := fun _ _ h _ => ⟨h, .inl rfl⟩
theorem ok_lit {V : Vw} (o : Ok V) (ob : Obj) : Ok (V.lit ob) := by
  have hsz : (V.lit ob).w.heap.size = V.w.heap.size + 1 := by simp [Vw.lit]
  exact o.step (ext_lit o ob) (fun b hb => by rcases hb with h1 | h1; have := o.sb b h1; omega; omega) (fun id b h => ⟨by have := (o.rb id b h).1; omega, (o.rb id b h).2⟩)
    (fun id b v hv hr hS => by
      rcases hS with h1 | h1
      · exact o.sep id b v hv hr h1
      · have := (o.rb id b hr).1; omega) o.inj (fun id b k hm hr _ => .inl ⟨hm, hr, rfl, heap_alloc_lt (o.rb id b hr).1⟩)
theorem lit_new (V : Vw) (ob : Obj) : (V.lit ob).w.heap[V.w.heap.size]? = some ob := by
  show (V.w.heap.push ob)[V.w.heap.size]? = _
  simp
theorem lay_new (V : Vw) (id : Nat) (ob : Obj) (c : Nat) : (V.lay id ob c).w.heap[V.w.heap.size]? = some ob := by
  show (V.w.heap.push ob)[V.w.heap.size]? = _
  simp

/-! ### A new abstract block and its place -/
def Vw.new (V : Vw) (k : Blk) (ob : Obj) (c : Nat) : Vw :=
  { w := V.w.alloc ob, S := V.S, rs := fun j => if j = V.mem.length then some V.w.heap.size else V.rs j, cp := fun j => if j = V.mem.length then c else V.cp j, mem := V.mem ++ [k] }
theorem ext_new {V : Vw} (o : Ok V) (k : Blk) (ob : Obj) (c : Nat) : Ext V (V.new k ob c) where
  os := rfl
  tape := rfl
  output := rfl
  size := by simp [Vw.new]
  frame := fun b hb _ => heap_alloc_lt hb
  stab := fun b hb => heap_alloc_lt (o.sb b hb)
  sm := fun _ h => h
  sn := fun _ h => .inl h
  len := by simp [Vw.new]
  ver := fun j hj v' h => ⟨v', by have h' : verOf (V.mem ++ [k]) j = some v' := h; rwa [verOf_append hj] at h', Nat.le_refl _, fun _ =>
    ⟨by simp only [Vw.new, if_neg (Nat.ne_of_lt hj)], by simp only [Vw.new, if_neg (Nat.ne_of_lt hj)], isVec_app hj⟩⟩
  rn := fun j b h => by
    simp only [Vw.new] at h
    split at h
    · cases h; exact .inl (Nat.le_refl _)
    · exact .inr ⟨j, h⟩
  nn := fun j hj h _ => ⟨by simp only [Vw.new, if_neg (Nat.ne_of_lt hj)]; exact h, .inl (List.getElem?_append_left hj)⟩
theorem ok_new {V : Vw} (o : Ok V) (k : Blk) (ob : Obj) (c : Nat) (hb : BlkOk (V.new k ob c) V.mem.length V.w.heap.size k) : Ok (V.new k ob c) := by
  have hsz : (V.new k ob c).w.heap.size = V.w.heap.size + 1 := by simp [Vw.new]
  have hln : (V.new k ob c).mem.length = V.mem.length + 1 := by simp [Vw.new]
  have hrs : ∀ j b, (V.new k ob c).rs j = some b → (j = V.mem.length ∧ b = V.w.heap.size) ∨ (j < V.mem.length ∧ V.rs j = some b) := by
    intro j b h
    simp only [Vw.new] at h
    split at h
    · rename_i e; cases h; exact .inl ⟨e, rfl⟩
    · exact .inr ⟨(o.rb j b h).2, h⟩
  have hvr : ∀ j v, j < V.mem.length → verOf (V.new k ob c).mem j = some v → verOf V.mem j = some v := fun j v hj h => by
    have h' : verOf (V.mem ++ [k]) j = some v := h
    rwa [verOf_append hj] at h'
  refine o.step (ext_new o k ob c) (fun b h => by have := o.sb b h; omega) (fun j b h => ?_) (fun j b v hv hr => ?_) (fun j j' b v v' hv hv' hr hr' => ?_) (fun j b k' hm hr hd => ?_)
  · rcases hrs j b h with ⟨hj, hb'⟩ | ⟨hj, h⟩
    · omega
    · have := (o.rb j b h).1; omega
  · rcases hrs j b hr with ⟨hj, hb'⟩ | ⟨hj, h⟩
    · intro hS; have := o.sb _ hS; omega
    · exact o.sep j b v (hvr j v hj hv) h
  · rcases hrs j b hr with ⟨hj, hb1⟩ | ⟨hj, h⟩ <;> rcases hrs j' b hr' with ⟨hj', hb2⟩ | ⟨hj', h'⟩
    · exact hj.trans hj'.symm
    · have := (o.rb j' _ h').1; omega
    · have := (o.rb j _ h).1; omega
    · exact o.inj j j' b v v' (hvr j v hj hv) (hvr j' v' hj' hv') h h'
  · have hm' : (V.mem ++ [k])[j]? = some k' := hm
    rcases hrs j b hr with ⟨hj, hb1⟩ | ⟨hj, h⟩
    · subst hj
      subst hb1
      simp at hm'
      subst hm'
      exact .inr hb
    · rw [List.getElem?_append_left hj] at hm'
      exact .inl ⟨hm', h, by simp only [Vw.new, if_neg (Nat.ne_of_lt hj)], heap_alloc_lt (o.rb j b h).1⟩
theorem new_heap (V : Vw) (k : Blk) (ob : Obj) (c : Nat) : (V.new k ob c).w.heap[V.w.heap.size]? = some ob := by
  show (V.w.heap.push ob)[V.w.heap.size]? = _
  simp
theorem new_mem (V : Vw) (k : Blk) (ob : Obj) (c : Nat) : (V.new k ob c).mem[V.mem.length]? = some k := by simp [Vw.new]
theorem new_rs (V : Vw) (k : Blk) (ob : Obj) (c : Nat) : (V.new k ob c).rs V.mem.length = some V.w.heap.size := by simp [Vw.new]
theorem new_cp (V : Vw) (k : Blk) (ob : Obj) (c : Nat) : (V.new k ob c).cp V.mem.length = c := by simp [Vw.new]
theorem new_hd (V : Vw) (k : Blk) (ob : Obj) (c : Nat) {v : Nat} (h : (shpB k).map (·.1) = some v) : (V.new k ob c).hd V.mem.length v :=
  ⟨by simp [Vw.new], fun v0 h0 => by rw [verOf_some (new_mem V k ob c), h] at h0; cases h0; exact Nat.le_refl _⟩
end Go.Ab

/- The operations on memory: what the abstract one gives, the model's gives. -/
set_option linter.unusedVariables false
set_option linter.unusedSimpArgs false
namespace Go.Ab
open Go

variable {P : Program}

theorem run_und {t : Nat} {d : TypeDesc} (h : P.underlying t = some d) (w : World) : (underlying t).run P w = .ok d w := by
  simp [underlying, h]
theorem run_tinfo {t : Nat} {i : TypeInfo} (h : P.info? t = some i) (w : World) : (typeInfo t).run P w = .ok i w := by
  simp [typeInfo, h]
theorem run_szOf {t n : Nat} (h : szT P t = some n) (w : World) : (sizeOf t).run P w = .ok n w := by
  unfold szT at h
  obtain ⟨i, hi, rfl⟩ := Option.map_eq_some_iff.1 h
  simp [sizeOf, run_tinfo hi]
theorem run_isAgg_true {t : Nat} (h : aggT P t = true) (w : World) : (isAgg t).run P w = .ok true w := by
  unfold aggT at h
  split at h
  · rename_i f hd; simp [isAgg, run_und hd]
  · rename_i n e hd; simp [isAgg, run_und hd]
  · cases h
theorem run_isAgg_false {t : Nat} (h : aggT P t = false) (h' : hasT P t = true) (w : World) : (isAgg t).run P w = .ok false w := by
  unfold aggT at h
  unfold hasT at h'
  obtain ⟨d, hd⟩ := Option.isSome_iff_exists.1 h'
  simp only [hd] at h
  simp only [isAgg, Sem.run_bind, run_und hd, Result.andThen_ok]
  split at h <;> simp_all

/-- cs lie from ad on. -/
def Lies (V : Vw) (ad : Addr) (cs : List AV) : Prop := ∃ us : List Value, Reps V cs us ∧ ∀ m u, us[m]? = some u → V.w.cell? (ad.add m) = some u

theorem run_load_cell {w : World} {a : Addr} {v : Value} (h : w.cell? a = some v) : (load a).run P w = .ok v w := by simp [h]
theorem Lies.drop {V : Vw} {ad : Addr} {cs : List AV} (h : Lies V ad cs) (n : Nat) : Lies V (ad.add n) (cs.drop n) := by
  obtain ⟨us, hr, hc⟩ := h
  exact ⟨us.drop n, hr.drop n, fun m u hu => by rw [add_add]; rw [List.getElem?_drop] at hu; exact hc _ u hu⟩

theorem load_take {V : Vw} {t : Nat} {ad : Addr} {cs : List AV} {r : AV} (hl : Lies V ad cs) (hlf : ∀ y ∈ cs, y.leaf = true) (h : takeT P t cs = some r) :
    ∃ u, (loadVar t ad).run P V.w = .ok u V.w ∧ Rep V r u := by
  obtain ⟨us, hr, hc⟩ := hl
  unfold takeT at h
  split at h
  · rename_i ha
    split at h
    · rename_i n hn
      split at h
      · rename_i hle
        cases h
        have hlen : (us.take n).length = n := by rw [List.length_take, hr.1]; omega
        have hrun := run_loadCells_list (P := P) (w := V.w) ad (us.take n) (fun j v hv => by
          rw [List.getElem?_take] at hv
          split at hv
          · exact hc j v hv
          · cases hv)
        rw [hlen] at hrun
        refine ⟨.agg (us.take n).toArray, ?_, ?_⟩
        · simp only [loadVar, Sem.run_bind, run_isAgg_true ha, Result.andThen_ok, if_true, run_szOf hn, hrun, Sem.run_pure]
        · have hr' := hr.take n
          exact .agg _ _ (by simpa using hr'.1) (fun y hy => hlf y (List.mem_of_mem_take hy)) (fun j x c hx hcx => hr'.2 j x c hx (by simpa using hcx))
      · cases h
    · cases h
  · rename_i ha
    split at h
    · rename_i hh
      cases cs with
      | nil => simp at h
      | cons x cs =>
        simp at h; subst h
        obtain ⟨c, us', rfl, h1, h2⟩ := hr.inv
        have := hc 0 c (by simp)
        refine ⟨c, ?_, h1⟩
        simp only [loadVar, Sem.run_bind, run_isAgg_false (by simpa using ha) hh, Result.andThen_ok, Bool.false_eq_true, if_false]
        exact run_load_cell (by simpa [Addr.add] using this)
    · cases h

/-! ### A flat list of wide elements -/
theorem flatC_length {xs : List AV} {sz : Nat} (h : ∀ x ∈ xs, wide x sz) : (flatC xs).length = xs.length * sz := by
  induction xs with
  | nil => simp [flatC]
  | cons x xs ih =>
    have h1 := (h x (by simp)).1
    have h2 := ih (fun y hy => h y (by simp [hy]))
    simp only [flatC, List.flatMap_cons, List.length_append, List.length_cons] at h2 ⊢
    rw [h1, h2, Nat.succ_mul]; omega
theorem flatC_get {xs : List AV} {sz : Nat} (h : ∀ x ∈ xs, wide x sz) {j m : Nat} {x : AV} (hj : xs[j]? = some x) (hm : m < sz) : (flatC xs)[j * sz + m]? = x.cells[m]? := by
  induction xs generalizing j with
  | nil => simp at hj
  | cons y ys ih =>
    have h1 := (h y (by simp)).1
    cases j with
    | zero =>
      simp at hj; subst hj
      simp only [flatC, List.flatMap_cons, Nat.zero_mul, Nat.zero_add]
      rw [List.getElem?_append_left (by omega)]
    | succ j =>
      simp only [List.getElem?_cons_succ] at hj
      have := ih (fun z hz => h z (by simp [hz])) hj
      simp only [flatC, List.flatMap_cons] at this ⊢
      rw [List.getElem?_append_right (by rw [h1, Nat.succ_mul]; omega), h1]
      rw [show (j + 1) * sz + m - sz = j * sz + m from by rw [Nat.succ_mul]; omega]
      exact this
theorem flatC_drop {xs : List AV} {sz : Nat} (h : ∀ x ∈ xs, wide x sz) {j : Nat} {x : AV} (hj : xs[j]? = some x) (f : Nat) (hf : f ≤ sz) :
    ∃ r, (flatC xs).drop (j * sz + f) = x.cells.drop f ++ r := by
  induction xs generalizing j with
  | nil => simp at hj
  | cons y ys ih =>
    have h1 := (h y (by simp)).1
    cases j with
    | zero =>
      simp at hj; subst hj
      refine ⟨flatC ys, ?_⟩
      simp only [flatC, List.flatMap_cons, Nat.zero_mul, Nat.zero_add]
      rw [List.drop_append_of_le_length (by omega)]
    | succ j =>
      simp only [List.getElem?_cons_succ] at hj
      obtain ⟨r, hr⟩ := ih (fun z hz => h z (by simp [hz])) hj
      refine ⟨r, ?_⟩
      simp only [flatC, List.flatMap_cons] at hr ⊢
      rw [show (j + 1) * sz + f = y.cells.length + (j * sz + f) from by rw [h1, Nat.succ_mul]; omega, List.drop_append, List.drop_eq_nil_of_le (by omega), Nat.add_sub_cancel_left, hr]
      rfl

theorem cell_block {w : World} {b o : Nat} {vs : Array Value} {t : Nat} (h : w.heap[b]? = some (.cells vs t (0, 0))) : w.cell? ⟨b, o, none⟩ = vs[o]? := by
  simp [World.cell?, h]
theorem lies_box {V : Vw} {b o : Nat} {vs : Array Value} {t : Nat} {cs : List AV} (h : V.w.heap[b]? = some (.cells vs t (0, 0))) (hr : Reps V cs vs.toList) : Lies V ⟨b, o, none⟩ (cs.drop o) :=
  ⟨vs.toList.drop o, hr.drop o, fun m u hu => by
    rw [add_lit, cell_block h]
    rw [List.getElem?_drop] at hu
    simpa using hu⟩
theorem Lies.app {V : Vw} {ad : Addr} {a b : List AV} (h : Lies V ad (a ++ b)) : Lies V ad a := by
  obtain ⟨us, hr, hc⟩ := h
  have hr' := hr.take a.length
  rw [List.take_left' rfl] at hr'
  exact ⟨us.take a.length, hr', fun m u hu => by
    rw [List.getElem?_take] at hu
    split at hu
    · exact hc m u hu
    · cases hu⟩
theorem lies_arr {V : Vw} {b : Nat} {vs : Array Value} {t sz : Nat} {xs : List AV} (h : V.w.heap[b]? = some (.cells vs t (0, 0))) (hw : ∀ x ∈ xs, wide x sz)
    (hr : Reps V (flatC xs) (vs.toList.take (xs.length * sz))) {i : Nat} {x : AV} (hi : xs[i]? = some x) (f : Nat) (hf : f ≤ sz) : Lies V ⟨b, i * sz + f, none⟩ (x.cells.drop f) := by
  obtain ⟨r, hd⟩ := flatC_drop hw hi f hf
  have hr' := hr.drop (i * sz + f)
  rw [hd] at hr'
  refine Lies.app (b := r) ⟨_, hr', fun m u hu => ?_⟩
  rw [add_lit, cell_block h]
  rw [List.getElem?_drop, List.getElem?_take] at hu
  split at hu
  · simpa using hu
  · cases hu

theorem verOf_box {m : Mem} {id : Nat} {cs : List AV} (h : m[id]? = some (.box cs)) : verOf m id = some cs.length := by simp [verOf_some h, shpB]
theorem verOf_vec {m : Mem} {id e sz : Nat} {xs : List AV} (h : m[id]? = some (.vec e sz xs)) : verOf m id = some xs.length := by simp [verOf, shp, h, shpB]
theorem verOf_arr {m : Mem} {id e sz : Nat} {xs : List AV} (h : m[id]? = some (.arr e sz xs)) : verOf m id = some xs.length := by simp [verOf_some h, shpB]

theorem load_ok {V : Vw} (o : Ok V) {t : Nat} {x r : AV} {v : Value} (hv : Rep V x v) (h : loadA P V.mem t x = some r) :
    ∃ u, (Instr.loadAt t v).run P V.w = .ok u V.w ∧ Rep V r u := by
  unfold loadA at h
  cases hv with
  | rptr xs ad us h0 hl hS hu hr =>
    have hL : Lies V ad xs := ⟨(List.range xs.length).map us, ⟨by simp, fun j x c hx hc => by
      have hj := (List.getElem?_eq_some_iff.1 hx).1
      simp [List.getElem?_map, List.getElem?_range hj] at hc
      subst hc; exact hr j x hx⟩, fun m u hm => by
      by_cases hj : m < xs.length
      · simp [List.getElem?_map, List.getElem?_range hj] at hm
        subst hm; exact hu m xs[m] (List.getElem?_eq_getElem hj)
      · simp [List.getElem?_map, List.getElem?_eq_none (show (List.range xs.length).length ≤ m by simp; omega)] at hm⟩
    simpa [Instr.loadAt, Instr.sureAddr] using load_take hL hl h
  | ptr id ver off v h1 hh hv =>
    cases hm : V.mem[id]? with
    | none => simp [hm] at h
    | some k =>
      cases k with
      | box cs =>
        simp only [hm] at h
        split at h
        · rename_i hlen
          obtain ⟨b, hb, rfl⟩ := hv (by rw [verOf_box hm, hlen])
          obtain ⟨vs, ty, h2, h3, h4⟩ := o.blk id b _ hm hb
          have hL := lies_box (o := off) h2 h3
          simpa [Instr.loadAt, Instr.sureAddr] using load_take hL (fun y hy => h4 y (List.mem_of_mem_drop hy)) h
        · cases h
      | _ => simp [hm] at h
  | aptr id ver sz i f v h1 hh hv =>
    cases hm : V.mem[id]? with
    | none => simp [hm] at h
    | some k =>
      cases k with
      | arr e sz' xs =>
        simp only [hm] at h
        split at h
        · rename_i hc
          obtain ⟨hlen, rfl⟩ := hc
          obtain ⟨b, hb, rfl⟩ := hv (by rw [verOf_arr hm, hlen])
          obtain ⟨h2, h3, h4, h5, vs, h6, h7, h8⟩ := o.blk id b _ hm hb
          obtain ⟨x, hx, hx'⟩ := Option.bind_eq_some_iff.1 h
          have hxm : x ∈ xs := List.mem_of_getElem? hx
          by_cases hf : f ≤ sz
          · have hL := lies_arr h6 h5 h8 hx f hf
            simpa [Instr.loadAt, Instr.sureAddr] using load_take hL (fun y hy => (h5 x hxm).2 y (List.mem_of_mem_drop hy)) hx'
          · have hnil : x.cells.drop f = [] := List.drop_eq_nil_of_le (by rw [(h5 x hxm).1]; omega)
            have hL : Lies V ⟨b, i * sz + f, none⟩ (x.cells.drop f) := by rw [hnil]; exact ⟨[], Reps.nil V, fun m u hu => by simp at hu⟩
            simpa [Instr.loadAt, Instr.sureAddr] using load_take hL (fun y hy => (h5 x hxm).2 y (List.mem_of_mem_drop hy)) hx'
        · cases h
      | _ => simp [hm] at h
  | _ => cases h
end Go.Ab

/- The operations on memory, second part: stores, new boxes, addresses. -/
set_option linter.unusedVariables false
set_option linter.unusedSimpArgs false
namespace Go.Ab
open Go

variable {P : Program}

theorem over_length {cs vs : List AV} {off : Nat} (h : off + vs.length ≤ cs.length) : (over cs off vs).length = cs.length := by
  unfold over; simp; omega
theorem reps_over {V : Vw} {cs ys : List AV} {us vs : List Value} {off : Nat} (h : Reps V cs us) (k : Reps V ys vs) : Reps V (over cs off ys) (us.take off ++ vs ++ us.drop (off + vs.length)) := by
  unfold over
  rw [k.1]
  exact ((h.take off).append k).append (h.drop _)
theorem leaf_over {cs ys : List AV} {off : Nat} (h : ∀ y ∈ cs, y.leaf = true) (k : ∀ y ∈ ys, y.leaf = true) : ∀ y ∈ over cs off ys, y.leaf = true := by
  intro y hy
  unfold over at hy
  simp only [List.mem_append] at hy
  rcases hy with (hy | hy) | hy
  · exact h y (List.mem_of_mem_take hy)
  · exact k y hy
  · exact h y (List.mem_of_mem_drop hy)

theorem setRow_same {w : World} {g k : Nat} {cs : Array Value} (h : k ≠ g) : (w.setRow g cs).heap[k]? = w.heap[k]? := setRow_other w g k cs h
theorem not_tup {x : AV} (h : x.data = true) : x.data = true := h
theorem store_row {V : Vw} (o : Ok V) {t b off : Nat} {vs : Array Value} {ty : Nat} {x : AV} {vx : Value} (hb : V.w.heap[b]? = some (.cells vs ty (0, 0)))
    (hx : Rep V x vx) (hd : x.data = true) (hsz : szT P t = some x.cells.length) (hle : off + x.cells.length ≤ vs.size) :
    (Instr.storeAt t (.pointer (some ⟨b, off, none⟩)) vx).run P V.w = .ok () (V.w.setRow b (vs.toList.take off ++ vx.cells.toList ++ vs.toList.drop (off + vx.cells.toList.length)).toArray) := by
  obtain ⟨hr, hl, h1⟩ := hx.cells (not_tup hd)
  have hlen : vx.cells.size = x.cells.length := by have := hr.1; simpa using this
  have hst := run_storeCells_at P b off ty vx.cells.toList 0 vs V.w hb (by simp; omega) h1
  simp only [Nat.add_zero] at hst
  simp only [Instr.storeAt, Instr.sureAddr, storeVar, Sem.run_bind, Sem.run_pure, Result.andThen_ok, run_szOf hsz, hlen, ne_eq, not_true_eq_false, if_false, hst]

theorem verOf_set_same {m : Mem} {id : Nat} {k k0 : Blk} (h : m[id]? = some k0) : verOf (m.set id k) id = (shpB k).map (·.1) := verOf_set_self (List.getElem?_eq_some_iff.1 h).1

theorem store_ok {V : Vw} (o : Ok V) {t : Nat} {a x : AV} {va vx : Value} {m' : Mem} (ha : Rep V a va) (hx : Rep V x vx) (h : storeA P V.mem t a x = some m') :
    ∃ V', (Instr.storeAt t va vx).run P V.w = .ok () V'.w ∧ V'.mem = m' ∧ Ok V' ∧ Ext V V' := by
  unfold storeA at h
  split at h
  case isFalse => cases h
  rename_i hc
  obtain ⟨hsz, hd⟩ := hc
  cases ha with
  | ptr id ver off v h1 hh hv =>
    cases hm : V.mem[id]? with
    | none => simp [hm] at h
    | some k =>
      cases k with
      | box cs =>
        simp only [hm] at h
        split at h
        case isFalse => cases h
        rename_i hc
        obtain ⟨hlen, hle⟩ := hc
        cases h
        have hver := verOf_box hm
        obtain ⟨b, hb, rfl⟩ := hv (by rw [hver, hlen])
        obtain ⟨vs, ty, h2, h3, h4⟩ := o.blk id b _ hm hb
        have hvs : vs.size = cs.length := by simpa using h3.1
        have hrun := store_row (P := P) (t := t) (off := off) o h2 hx hd hsz (by omega)
        obtain ⟨hr, hl, h1⟩ := hx.cells (not_tup hd)
        have hk : (shpB (.box (over cs off x.cells))).map (·.1) = some cs.length := by simp [shpB, over_length hle]
        have e := ext_wr (w := V.w.setRow b (vs.toList.take off ++ vx.cells.toList ++ vs.toList.drop (off + vx.cells.toList.length)).toArray) o hm hver hk hb rfl rfl rfl (by simp) (fun j hj => setRow_same hj)
        refine ⟨V.wr id (V.w.setRow b (vs.toList.take off ++ vx.cells.toList ++ vs.toList.drop (off + vx.cells.toList.length)).toArray) _, hrun, rfl, ok_wr o hm hver hk hb rfl rfl rfl (by simp) (fun j hj => setRow_same hj) ⟨_, ty, setRow_heap V.w b vs _ ty (0, 0) h2, ?_, leaf_over h4 hl⟩, e⟩
        rw [List.toList_toArray]
        exact (reps_over (off := off) h3 hr).mono e
      | _ => simp [hm] at h
  | aptr id ver sz i f v h1 hh hv =>
    cases hm : V.mem[id]? with
    | none => simp [hm] at h
    | some k =>
      cases k with
      | arr ety sz' xs =>
        simp only [hm] at h
        have hver := verOf_arr hm
        have key : ∀ (hlen : xs.length = ver) (x0 y : AV) (hx0 : xs[i]? = some x0) (hwy : wide y sz') (hsz' : sz = sz') (hle : f + x.cells.length ≤ sz') (hyc : y.cells = over x0.cells f x.cells),
            ∃ V', (Instr.storeAt t va vx).run P V.w = .ok () V'.w ∧ V'.mem = V.mem.set id (.arr ety sz' (xs.set i y)) ∧ Ok V' ∧ Ext V V' := by
          intro hlen x0 y hx0 hwy hsz' hle hyc
          subst hsz'
          obtain ⟨b, hb, rfl⟩ := hv (by rw [hver, hlen])
          obtain ⟨h2, h3, h4, h5, vs, h6, h7, h8⟩ := o.blk id b _ hm hb
          obtain ⟨hr, hl, h1⟩ := hx.cells (not_tup hd)
          have hi : i < xs.length := (List.getElem?_eq_some_iff.1 hx0).1
          have hlt : (i + 1) * sz ≤ xs.length * sz := Nat.mul_le_mul_right _ hi
          rw [Nat.succ_mul] at hlt
          have hcap : xs.length * sz ≤ V.cp id * sz := Nat.mul_le_mul_right _ h3
          have hrun := store_row (P := P) (t := t) (off := i * sz + f) o h6 hx hd hsz (by omega)
          have hk : (shpB (.arr ety sz (xs.set i y))).map (·.1) = some xs.length := by simp [shpB]
          have hvl : vx.cells.toList.length = x.cells.length := hr.1
          have e := ext_wr (w := V.w.setRow b (vs.toList.take (i * sz + f) ++ vx.cells.toList ++ vs.toList.drop (i * sz + f + vx.cells.toList.length)).toArray) o hm hver hk hb rfl rfl rfl (by simp) (fun j hj => setRow_same hj)
          have hw' : ∀ z ∈ xs.set i y, wide z sz := by
            intro z hz
            rcases List.mem_or_eq_of_mem_set hz with hz | rfl
            · exact h5 z hz
            · exact hwy
          refine ⟨V.wr id (V.w.setRow b (vs.toList.take (i * sz + f) ++ vx.cells.toList ++ vs.toList.drop (i * sz + f + vx.cells.toList.length)).toArray) _, hrun, rfl, ok_wr o hm hver hk hb rfl rfl rfl (by simp) (fun j hj => setRow_same hj) ⟨h2, by rw [List.length_set]; exact h3, h4, hw', _, setRow_heap V.w b vs _ ety (0, 0) h6, ?_, ?_⟩, e⟩
          · have hvsl : vs.toList.length = vs.size := by simp
            show (List.toArray _).size = V.cp id * sz
            simp only [List.size_toArray, List.length_append, List.length_take, List.length_drop, hvl, hvsl]
            omega
          · have hfl : (flatC (xs.set i y)).length = xs.length * sz := by rw [flatC_length hw']; simp
            have hxw := h5 x0 (List.mem_of_getElem? hx0)
            have hxl := hxw.1
            have hvl2 : vx.cells.size = x.cells.length := by simpa using hr.1
            refine ⟨?_, fun j z c hz hc => ?_⟩
            · simp only [List.toList_toArray, List.length_take, List.length_append, List.length_drop, hvl, hfl, List.length_set]
              have hvsl : vs.toList.length = vs.size := by simp
              simp only [hvsl]
              omega
            · -- cell j of the flat list
              simp only [List.length_set, List.getElem?_take] at hc
              split at hc
              case isFalse => cases hc
              rename_i hj
              have hq : j / sz < xs.length := (Nat.div_lt_iff_lt_mul h2).2 hj
              have hm' : j % sz < sz := Nat.mod_lt _ h2
              have hje : j / sz * sz + j % sz = j := by rw [Nat.mul_comm]; exact Nat.div_add_mod j sz
              obtain ⟨z0, hz0⟩ : ∃ z0, (xs.set i y)[j / sz]? = some z0 := ⟨_, List.getElem?_eq_getElem (by simpa using hq)⟩
              have hflat := flatC_get hw' hz0 hm'
              rw [hje] at hflat
              rw [hflat] at hz
              simp only [List.append_assoc] at hc
              by_cases hiq : j / sz = i
              · have hz0' : z0 = y := by rw [hiq, List.getElem?_set_self hi] at hz0; cases hz0; rfl
                subst hz0'
                rw [hyc] at hz
                unfold over at hz
                have hjl : j = i * sz + j % sz := by rw [← hiq]; exact hje.symm
                by_cases ha : j % sz < f
                · rw [List.append_assoc, List.getElem?_append_left (by simp; omega), List.getElem?_take_of_lt ha] at hz
                  rw [List.getElem?_append_left (by simp; omega), List.getElem?_take_of_lt (by omega)] at hc
                  have hf0 := flatC_get h5 hx0 hm'
                  rw [← hjl] at hf0
                  refine (h8.2 j z c (by rw [hf0]; exact hz) (by rw [List.getElem?_take_of_lt hj]; simpa using hc)).mono e
                · by_cases hb2 : j % sz < f + x.cells.length
                  · rw [List.append_assoc, List.getElem?_append_right (by simp; omega), List.getElem?_append_left (by simp; omega)] at hz
                    rw [List.getElem?_append_right (by simp; omega), List.getElem?_append_left (by simp; omega)] at hc
                    simp only [List.length_take] at hz hc
                    have hvsl : vs.toList.length = vs.size := by simp
                    rw [show min f x0.cells.length = f from by rw [hxw.1]; omega] at hz
                    rw [show min (i * sz + f) vs.toList.length = i * sz + f from by rw [hvsl]; omega, show j - (i * sz + f) = j % sz - f from by omega] at hc
                    exact (hr.2 _ z c hz hc).mono e
                  · rw [List.getElem?_append_right (by simp; omega)] at hz
                    rw [List.getElem?_append_right (by simp; omega), List.getElem?_append_right (by simp [hvl]; omega)] at hc
                    simp only [List.length_append, List.length_take, List.getElem?_drop, hvl] at hz hc
                    have hvsl : vs.toList.length = vs.size := by simp
                    rw [show min f x0.cells.length = f from by rw [hxw.1]; omega, show f + x.cells.length + (j % sz - (f + x.cells.length)) = j % sz from by omega] at hz
                    rw [show min (i * sz + f) vs.toList.length = i * sz + f from by rw [hvsl]; omega, show i * sz + f + x.cells.length + (j - (i * sz + f) - x.cells.length) = j from by omega] at hc
                    have hf0 := flatC_get h5 hx0 hm'
                    rw [← hjl] at hf0
                    exact (h8.2 j z c (by rw [hf0]; exact hz) (by rw [List.getElem?_take_of_lt hj]; exact hc)).mono e
              · rw [List.getElem?_set_ne (fun h => hiq h.symm)] at hz0
                have hf0 := flatC_get h5 hz0 hm'
                rw [hje] at hf0
                have hsame : vs.toList[j]? = some c := by
                  by_cases hlt2 : j / sz < i
                  · have : (j / sz + 1) * sz ≤ i * sz := Nat.mul_le_mul_right _ hlt2
                    rw [Nat.succ_mul] at this
                    rw [List.getElem?_append_left (by simp; omega), List.getElem?_take_of_lt (by omega)] at hc
                    exact hc
                  · have : (i + 1) * sz ≤ j / sz * sz := Nat.mul_le_mul_right _ (by omega)
                    rw [Nat.succ_mul] at this
                    rw [List.getElem?_append_right (by simp; omega), List.getElem?_append_right (by simp [hvl]; omega)] at hc
                    simp only [List.length_take, List.getElem?_drop, hvl] at hc
                    have hvsl : vs.toList.length = vs.size := by simp
                    rw [show min (i * sz + f) vs.toList.length = i * sz + f from by rw [hvsl]; omega, show i * sz + f + x.cells.length + (j - (i * sz + f) - x.cells.length) = j from by omega] at hc
                    exact hc
                exact (h8.2 j z c (by rw [hf0]; exact hz) (by rw [List.getElem?_take_of_lt hj]; exact hsame)).mono e
        split at h
        · rename_i hc
          obtain ⟨hlen, rfl, hle, hsz1⟩ := hc
          cases hx0 : xs[i]? with
          | none => simp [hx0] at h
          | some x0 =>
            simp only [hx0, Option.map_some] at h
            cases h
            have hleaf : ∀ y ∈ x.cells, y.leaf = true := (hx.cells (not_tup hd)).2.1
            obtain ⟨b, hb, hb'⟩ := hv (by rw [hver, hlen])
            have h5 := (o.blk id b _ hm hb).2.2.2.1
            have hxw := h5 x0 (List.mem_of_getElem? hx0)
            exact key hlen x0 (.agg (over x0.cells f x.cells)) hx0 ⟨by show (over x0.cells f x.cells).length = sz; rw [over_length (by rw [hxw.1]; exact hle)]; exact hxw.1, leaf_over hxw.2 hleaf⟩ rfl hle rfl
        · split at h
          · rename_i hc
            obtain ⟨hlen, hszz, hf0, hsz1, hi⟩ := hc
            have hx1 : x.leaf = true ∧ m' = V.mem.set id (.arr ety sz (xs.set i x)) := by
              cases x <;> first | (simp at h; done) | (simp [AV.data] at hd; done) | (simp at h; exact ⟨rfl, h.symm⟩)
            obtain ⟨hleaf, rfl⟩ := hx1
            subst hszz
            subst hf0
            have hcl := cells_leaf hleaf
            have hx0 : xs[i]? = some xs[i] := List.getElem?_eq_getElem hi
            obtain ⟨b, hb, hb'⟩ := hv (by rw [hver, hlen])
            have h5 := (o.blk id b _ hm hb).2.2.2.1
            have hxw := h5 xs[i] (List.mem_of_getElem? hx0)
            refine key hlen xs[i] x hx0 ⟨by rw [hcl, hsz1]; rfl, by rw [hcl]; simpa using hleaf⟩ rfl (by rw [hcl]; simp; omega) ?_
            unfold over
            rw [hcl]
            have : (xs[i]).cells.length = 1 := by rw [hxw.1, hsz1]
            rw [List.take_zero, List.nil_append, List.drop_eq_nil_of_le (by simp; omega), List.append_nil]
          · cases h
      | _ => simp [hm] at h
  | _ => cases h
end Go.Ab

/- The operations on memory, third part: new boxes, addresses, parts. -/
set_option linter.unusedVariables false
set_option linter.unusedSimpArgs false
namespace Go.Ab
open Go

variable {P : Program}

mutual
theorem ofV_rep (V : Vw) : ∀ (v : Value) (x : AV), ofV v = some x → Rep V x v
  | .bool b, x, h => by simp [ofV] at h; subst h; exact .bool b
  | .int k n, x, h => by simp [ofV] at h; subst h; exact .int k n
  | .string s, x, h => by simp [ofV] at h; subst h; exact .str s
  | .pointer none, x, h => by simp [ofV] at h; subst h; exact .nilptr
  | .pointer (some a), x, h => by simp [ofV] at h
  | .slice none 0 0, x, h => by simp [ofV] at h; subst h; exact .seqNil true 0
  | .slice none 0 (_ + 1), x, h => by simp [ofV] at h
  | .slice none (_ + 1) _, x, h => by simp [ofV] at h
  | .slice (some _) _ _, x, h => by simp [ofV] at h
  | .nilFunc, x, h => by simp [ofV] at h; subst h; exact .nilfn
  | .agg ⟨cs⟩, x, h => by
    simp only [ofV] at h
    cases hc : ofVs cs with
    | none => simp [hc] at h
    | some xs =>
      simp only [hc] at h
      split at h
      · rename_i hl
        cases h
        have := ofVs_reps V cs xs hc
        exact .agg xs ⟨cs⟩ this.1 (by simpa using hl) (fun j x c hx hcx => this.2 j x c hx (by simpa using hcx))
      · cases h
  | .tuple ⟨cs⟩, x, h => by
    simp only [ofV] at h
    cases hc : ofVs cs with
    | none => simp [hc] at h
    | some xs =>
      simp [hc] at h
      subst h
      have := ofVs_reps V cs xs hc
      exact .tup xs ⟨cs⟩ this.1 (fun j x c hx hcx => this.2 j x c hx (by simpa using hcx))
  | .float _ _, x, h => by simp [ofV] at h
  | .complex _ _ _, x, h => by simp [ofV] at h
  | .map none, x, h => by simp [ofV] at h; subst h; exact .nilmp
  | .map (some _), x, h => by simp [ofV] at h
  | .chan _, x, h => by simp [ofV] at h
  | .func _ _ _, x, h => by simp [ofV] at h
  | .iface _ _, x, h => by simp [ofV] at h
  | .nilIface, x, h => by simp [ofV] at h
theorem ofVs_reps (V : Vw) : ∀ (vs : List Value) (xs : List AV), ofVs vs = some xs → Reps V xs vs
  | [], xs, h => by simp [ofVs] at h; subst h; exact Reps.nil V
  | v :: vs, xs, h => by
    simp only [ofVs] at h
    cases h1 : ofV v with
    | none => simp [h1] at h
    | some x =>
      cases h2 : ofVs vs with
      | none => simp [h1, h2] at h
      | some ys =>
        simp [h1, h2] at h
        subst h
        exact Reps.cons (ofV_rep V v x h1) (ofVs_reps V vs ys h2)
end

theorem zero_rep {t : Nat} {z : AV} (h : zeroT P t = some z) : ∃ (i : TypeInfo) (v : Value), P.info? t = some i ∧ i.zero = some v ∧ ofV v = some z ∧ ∀ V, Rep V z v := by
  unfold zeroT at h
  obtain ⟨v, h1, h2⟩ := Option.bind_eq_some_iff.1 h
  obtain ⟨i, h3, h4⟩ := Option.bind_eq_some_iff.1 h1
  exact ⟨i, v, h3, h4, h2, fun V => ofV_rep V v z h2⟩

theorem box_ok {V : Vw} (o : Ok V) {t : Nat} {x : AV} {v : Value} (hv : Rep V x v) (hd : x.data = true) :
    ∃ V', (newVar t v).run P V.w = .ok ⟨V.w.heap.size, 0, none⟩ V'.w ∧ V'.mem = V.mem ++ [.box x.cells] ∧ Ok V' ∧ Ext V V' ∧ Rep V' (.ptr V.mem.length x.cells.length 0) (.pointer (some ⟨V.w.heap.size, 0, none⟩)) := by
  obtain ⟨hr, hl, h1⟩ := hv.cells (not_tup hd)
  have e := ext_new o (.box x.cells) (.cells v.cells t) 0
  refine ⟨V.new (.box x.cells) (.cells v.cells t) 0, rfl, rfl, ok_new o _ _ _ ⟨v.cells, t, new_heap V _ _ _, hr.mono e, hl⟩, e, ?_⟩
  exact .ptr _ _ _ _ rfl (new_hd V _ _ _ rfl) (fun _ => ⟨_, new_rs V _ _ _, rfl⟩)

theorem alloc_ok {V : Vw} (o : Ok V) {t : Nat} {z : AV} (hz : zeroT P t = some z) (hd : z.data = true) :
    ∃ V', (Instr.alloc t true (.tuple #[])).run P V.w = .ok (.pointer (some ⟨V.w.heap.size, 0, none⟩)) V'.w ∧ V'.mem = V.mem ++ [.box z.cells] ∧ Ok V' ∧ Ext V V' ∧
      Rep V' (.ptr V.mem.length z.cells.length 0) (.pointer (some ⟨V.w.heap.size, 0, none⟩)) := by
  obtain ⟨i, v, h1, h2, h3, h4⟩ := zero_rep hz
  obtain ⟨V', hr, r⟩ := box_ok (P := P) (t := t) o (h4 V) hd
  refine ⟨V', ?_, r⟩
  have hzr : (zeroValue t).run P V.w = .ok v V.w := by simp [zeroValue, run_tinfo h1, h2]
  simp only [Instr.alloc, Sem.run_bind, hzr, Result.andThen_ok, hr, Sem.run_pure]

theorem vecC_length : ∀ (l : List (Nat × Nat × Nat)) (N : Nat) (cs : List AV), (vecC l N cs).length = cs.length
  | [], N, cs => rfl
  | (o, e, sz) :: l, N, cs => by
    unfold vecC
    split
    · rw [vecC_length l (N + 1)]; simp
    · exact vecC_length l (N + 1) cs
theorem vecC_rep {U : Vw} : ∀ (l : List (Nat × Nat × Nat)) (N : Nat) {cs : List AV} {us : List Value}, (∀ j, j < l.length → U.rs (N + j) = none ∧ ∃ e sz, U.mem[N + j]? = some (.vec e sz [])) →
    Reps U cs us → (∀ y ∈ cs, y.leaf = true) → Reps U (vecC l N cs) us ∧ ∀ y ∈ vecC l N cs, y.leaf = true
  | [], N, cs, us, _, h, hl => ⟨h, hl⟩
  | (o, e, sz) :: l, N, cs, us, hn, h, hl => by
    have hn' : ∀ j, j < l.length → U.rs (N + 1 + j) = none ∧ ∃ e sz, U.mem[N + 1 + j]? = some (.vec e sz []) := fun j hj => by
      have := hn (j + 1) (by simpa using hj)
      rwa [show N + (j + 1) = N + 1 + j from by omega] at this
    unfold vecC
    split
    · rename_i f sz' hc
      refine vecC_rep l (N + 1) hn' ⟨by rw [h.1]; simp, fun j x c hx hcx => ?_⟩ (fun y hy => ?_)
      · by_cases hj : j = o
        · subst hj
          have hlt : j < cs.length := (List.getElem?_eq_some_iff.1 hc).1
          rw [List.getElem?_set_self hlt] at hx
          cases hx
          have := h.2 j _ c hc hcx
          cases this
          obtain ⟨h1, e', s', h2⟩ := hn 0 (by simp)
          rw [Nat.add_zero] at h1 h2
          refine .own N 0 _ rfl ⟨(List.getElem?_eq_some_iff.1 h2).1, fun v0 _ => Nat.zero_le _⟩ (fun _ => .inr ⟨h1, rfl, rfl, by rw [isVec_some h2]; rfl⟩)
        · rw [List.getElem?_set_ne (fun e => hj e.symm)] at hx
          exact h.2 j x c hx hcx
      · rcases List.mem_or_eq_of_mem_set hy with hy | rfl
        · exact hl y hy
        · rfl
    · exact vecC_rep l (N + 1) hn' h hl
/-- A new box, its nil slices as growing ones. -/
theorem alloc_vz_ok {V : Vw} (o : Ok V) {t : Nat} {z : AV} (hz : zeroT P t = some z) (hd : z.data = true) (l : List (Nat × Nat × Nat)) :
    ∃ V', (Instr.alloc t true (.tuple #[])).run P V.w = .ok (.pointer (some ⟨V.w.heap.size, 0, none⟩)) V'.w ∧ V'.mem = V.mem ++ vecB l ++ [.box (vecC l V.mem.length z.cells)] ∧ Ok V' ∧ Ext V V' ∧
      Rep V' (.ptr (V.mem.length + l.length) z.cells.length 0) (.pointer (some ⟨V.w.heap.size, 0, none⟩)) := by
  obtain ⟨i, v, h1, h2, h3, h4⟩ := zero_rep hz
  obtain ⟨hr, hl, _⟩ := (h4 V).cells (not_tup hd)
  have o1 := ok_grow o (vecB l)
  have e1 := ext_grow V (vecB l)
  have e2 := ext_new o1 (.box (vecC l V.mem.length z.cells)) (.cells v.cells t) 0
  have hlen : (V.grow (vecB l)).mem.length = V.mem.length + l.length := by simp [Vw.grow, vecB]
  have hn : ∀ j, j < l.length → ((V.grow (vecB l)).new (.box (vecC l V.mem.length z.cells)) (.cells v.cells t) 0).rs (V.mem.length + j) = none ∧ ∃ e sz, ((V.grow (vecB l)).new (.box (vecC l V.mem.length z.cells)) (.cells v.cells t) 0).mem[V.mem.length + j]? = some (.vec e sz []) := by
    intro j hj
    have hne : V.mem.length + j ≠ (V.grow (vecB l)).mem.length := by omega
    refine ⟨?_, l[j].2.1, l[j].2.2, ?_⟩
    · simp only [Vw.new, if_neg hne]
      cases hq : (V.grow (vecB l)).rs (V.mem.length + j) with
      | none => rfl
      | some b => have := (o.rb _ b hq).2; omega
    · show ((V.mem ++ vecB l) ++ [_])[V.mem.length + j]? = _
      rw [List.getElem?_append_left (by simp [vecB]; omega), List.getElem?_append_right (by omega), Nat.add_sub_cancel_left]
      simp [vecB, List.getElem?_eq_getElem hj]
  obtain ⟨hr', hl'⟩ := vecC_rep l V.mem.length hn (hr.mono (e1.trans e2)) hl
  refine ⟨(V.grow (vecB l)).new (.box (vecC l V.mem.length z.cells)) (.cells v.cells t) 0, ?_, rfl, ok_new o1 _ _ _ ⟨v.cells, t, new_heap _ _ _ _, hr', hl'⟩, e1.trans e2, ?_⟩
  · have hzr : (zeroValue t).run P V.w = .ok v V.w := by simp [zeroValue, run_tinfo h1, h2]
    simp only [Instr.alloc, Sem.run_bind, hzr, Result.andThen_ok]
    rfl
  · rw [← hlen]
    exact .ptr _ _ _ _ rfl (new_hd _ _ _ _ (by simp [shpB, vecC_length])) (fun _ => ⟨_, new_rs _ _ _ _, rfl⟩)

theorem ptr_valid {V : Vw} {id ver off : Nat} {v : Value} (h : Rep V (.ptr id ver off) v) (hv : verOf V.mem id = some ver) : ∃ b, V.rs id = some b ∧ v = .pointer (some ⟨b, off, none⟩) := by
  cases h with | ptr _ _ _ _ _ _ h => exact h hv
theorem aptr_valid {V : Vw} {id ver sz i f : Nat} {v : Value} (h : Rep V (.aptr id ver sz i f) v) (hv : verOf V.mem id = some ver) : ∃ b, V.rs id = some b ∧ v = .pointer (some ⟨b, i * sz + f, none⟩) := by
  cases h with | aptr _ _ _ _ _ _ _ _ h => exact h hv
theorem own_any {V : Vw} {id ver : Nat} {v : Value} (h : Rep V (.own id ver) v) (hv : verOf V.mem id = some ver) : (∃ b, V.rs id = some b ∧ v = .slice (some ⟨b, 0, none⟩) ver (V.cp id)) ∨ (V.rs id = none ∧ ver = 0 ∧ v = .slice none 0 0 ∧ isVec V.mem id = true) := by
  cases h with | own _ _ _ _ _ h => exact h hv
theorem own_valid {V : Vw} {id ver : Nat} {v : Value} (h : Rep V (.own id ver) v) (hv : verOf V.mem id = some ver) (hn : ver ≠ 0 ∨ isVec V.mem id = false) : ∃ b, V.rs id = some b ∧ v = .slice (some ⟨b, 0, none⟩) ver (V.cp id) := by
  rcases own_any h hv with h1 | ⟨_, h2, _, h4⟩
  · exact h1
  · rcases hn with hn | hn
    · exact absurd h2 hn
    · rw [hn] at h4; cases h4
theorem ptr_hd {V : Vw} {id ver off : Nat} {v : Value} (h : Rep V (.ptr id ver off) v) : V.hd id ver := by cases h with | ptr _ _ _ _ _ h _ => exact h
theorem aptr_hd {V : Vw} {id ver sz i f : Nat} {v : Value} (h : Rep V (.aptr id ver sz i f) v) : V.hd id ver := by cases h with | aptr _ _ _ _ _ _ _ h _ => exact h
theorem own_hd {V : Vw} {id ver : Nat} {v : Value} (h : Rep V (.own id ver) v) : V.hd id ver := by cases h with | own _ _ _ _ h _ => exact h

theorem rptr_drop {V : Vw} {cs : List AV} {v : Value} (h : Rep V (.rptr cs) v) {n : Nat} (hn : n < cs.length) : ∃ ad, v = .pointer (some ad) ∧ Rep V (.rptr (cs.drop n)) (.pointer (some (ad.add n))) := by
  cases h with
  | rptr xs ad us h0 hl hS hu hr =>
    refine ⟨ad, rfl, .rptr _ _ (fun m => us (n + m)) (fun e => ?_) (fun x hx => hl x (List.mem_of_mem_drop hx)) (by rw [add_block]; exact hS) (fun m y hm => ?_) (fun m y hm => ?_)⟩
    · have := congrArg List.length e; simp at this; omega
    · rw [List.getElem?_drop] at hm; rw [add_add]; exact hu _ y hm
    · rw [List.getElem?_drop] at hm; exact hr _ y hm

theorem fieldAddr_ok {V : Vw} {s j : Nat} {x r : AV} {v : Value} (hv : Rep V x v) (h : fieldAddrA P V.mem s j x = some r) :
    ∃ u, (Instr.fieldAt s v j).run P V.w = .ok u V.w ∧ Rep V r u := by
  unfold fieldAddrA at h
  cases hf : fldT P s j with
  | none => simp [hf] at h
  | some p =>
    obtain ⟨ft, off⟩ := p
    simp only [hf] at h
    split at h
    case isFalse => cases h
    rename_i hz
    obtain ⟨n, hn, hpos⟩ := (Option.any_eq_true _ _).1 hz
    unfold fldT at hf
    split at hf
    case h_2 => cases hf
    rename_i fs hu
    obtain ⟨f, hfj, hfe⟩ := Option.map_eq_some_iff.1 hf
    simp only [Prod.mk.injEq] at hfe
    obtain ⟨rfl, rfl⟩ := hfe
    have hpl : ∀ a : Addr, (fieldPlace a f).run P V.w = .ok (a.add f.offset) V.w := by
      intro a
      have hne : n ≠ 0 := by simp at hpos; omega
      simp only [fieldPlace, Sem.run_bind, run_szOf hn, Result.andThen_ok, if_neg hne, Sem.run_pure]
    have hrun : ∀ a : Addr, (Instr.fieldAt s (.pointer (some a)) j).run P V.w = .ok (.pointer (some (a.add f.offset))) V.w := by
      intro a
      simp [Instr.fieldAt, run_und hu, hfj, Instr.sureAddr, hpl]
    cases x with
    | rptr cs =>
      simp only at h
      split at h
      · rename_i hlt
        cases h
        obtain ⟨ad, rfl, hr⟩ := rptr_drop hv hlt
        exact ⟨_, hrun ad, hr⟩
      · cases h
    | ptr id ver off =>
      simp only at h
      split at h
      · rename_i hver
        cases h
        obtain ⟨b, hb, rfl⟩ := ptr_valid hv hver
        refine ⟨_, hrun _, ?_⟩
        rw [add_lit]
        exact .ptr _ _ _ _ rfl (ptr_hd hv) (fun _ => ⟨b, hb, rfl⟩)
      · cases h
    | aptr id ver sz i f' =>
      simp only at h
      split at h
      · rename_i hver
        cases h
        obtain ⟨b, hb, rfl⟩ := aptr_valid hv hver
        refine ⟨_, hrun _, ?_⟩
        rw [add_lit, Nat.add_assoc]
        exact .aptr _ _ _ _ _ _ rfl (aptr_hd hv) (fun _ => ⟨b, hb, rfl⟩)
      · cases h
    | _ => cases h

theorem part_ok {V : Vw} {t off : Nat} {cs : List AV} {vs : Array Value} {r : AV} (hr : Reps V cs vs.toList) (hl : ∀ y ∈ cs, y.leaf = true) (h : partA P t cs off = some r) :
    ∃ u, (part t vs off).run P V.w = .ok u V.w ∧ Rep V r u := by
  have hvs : vs.size = cs.length := by simpa using hr.1
  unfold partA at h
  split at h
  · rename_i ha
    split at h
    · rename_i n hn
      split at h
      · rename_i hle
        cases h
        refine ⟨.agg (vs.extract off (off + n)), ?_, ?_⟩
        · simp only [part, Sem.run_bind, run_isAgg_true ha, Result.andThen_ok, if_true, run_szOf hn, Sem.run_pure]
        · have hr' := (hr.drop off).take n
          have he : (vs.extract off (off + n)).toList = (vs.toList.drop off).take n := by simp
          rw [← he] at hr'
          exact .agg _ _ (by rw [← Array.length_toList]; exact hr'.1) (fun y hy => hl y (List.mem_of_mem_drop (List.mem_of_mem_take hy))) (fun j x c hx hc => hr'.2 j x c hx (by rw [Array.getElem?_toList]; exact hc))
      · cases h
    · cases h
  · rename_i ha
    split at h
    · rename_i hh
      obtain ⟨c, hc, hrep⟩ := hr.get h
      refine ⟨c, ?_, hrep⟩
      have hc' : vs[off]? = some c := by simpa using hc
      simp only [part, Sem.run_bind, run_isAgg_false (by simpa using ha) hh, Result.andThen_ok, Bool.false_eq_true, if_false, hc', Sem.run_pure]
    · cases h

theorem agg_inv {V : Vw} {cs : List AV} {v : Value} (h : Rep V (.agg cs) v) : ∃ vs, v = .agg vs ∧ Reps V cs vs.toList ∧ ∀ y ∈ cs, y.leaf = true := by
  cases h with
  | agg xs vs hs hl hr => exact ⟨vs, rfl, ⟨by simpa using hs, fun j x c hx hc => hr j x c hx (by simpa using hc)⟩, hl⟩

theorem field_ok {V : Vw} {s j : Nat} {x r : AV} {v : Value} (hv : Rep V x v) (h : fieldA P s j x = some r) :
    ∃ u, (Instr.field s v j).run P V.w = .ok u V.w ∧ Rep V r u := by
  unfold fieldA at h
  split at h
  case h_2 => cases h
  rename_i ft off cs hf
  unfold fldT at hf
  split at hf
  case h_2 => cases hf
  rename_i fs hu
  obtain ⟨f, hfj, hfe⟩ := Option.map_eq_some_iff.1 hf
  simp only [Prod.mk.injEq] at hfe
  obtain ⟨rfl, rfl⟩ := hfe
  obtain ⟨vs, rfl, hr, hl⟩ := agg_inv hv
  obtain ⟨u, h1, h2⟩ := part_ok hr hl h
  exact ⟨u, by simp [Instr.field, run_und hu, hfj, asAgg, h1], h2⟩

theorem seq_at {V : Vw} {z full : Bool} {sz : Nat} {xs : List AV} {v : Value} (h : Rep V (.seq z full sz xs) v) {i : Nat} {x : AV} (hi : xs[i]? = some x) (hne : x.cells ≠ []) :
    ∃ ad c, v = .slice (some ad) xs.length c ∧ Rep V (.rptr x.cells) (.pointer (some (ad.add (i * sz)))) := by
  cases h with
  | seqNil => simp at hi
  | seq full sz xs ad c us hc hf hS h0 hsz hu hr =>
    have hx : xs ≠ [] := fun e => by subst e; simp at hi
    refine ⟨ad, c, rfl, .rptr _ _ (us i) hne (hsz x (List.mem_of_getElem? hi)).2 (by rw [add_block]; exact hS hx) (fun m y hm => ?_) (fun m y hm => hr i x m y hi hm)⟩
    rw [add_add]
    exact hu i x m y hi hm

theorem indexAddr_ok {V : Vw} (o : Ok V) {t : Nat} {x ix r : AV} {v vi : Value} (hv : Rep V x v) (hi : Rep V ix vi) (h : indexAddrA P V.mem t x ix = some r) :
    ∃ u, (Instr.indexAt t v vi).run P V.w = .ok u V.w ∧ Rep V r u := by
  unfold indexAddrA at h
  cases hi with
  | int k i =>
    simp only at h
    cases he : elemT P t with
    | some e =>
      simp only [he] at h
      unfold elemT at he
      split at he
      case h_2 => cases he
      rename_i e' hu
      cases he
      have hrun : ∀ (ad : Addr) (len c sz : Nat), szT P e = some sz → 0 ≤ i → i < len → (Instr.indexAt t (.slice (some ad) len c) (.int k i)).run P V.w = .ok (.pointer (some (ad.add (i.toNat * sz)))) V.w := by
        intro ad len c sz hsz h0 h1
        simp [Instr.indexAt, asIntOf, run_und hu, h0, h1, run_szOf hsz]
      cases x with
      | seq z full sz xs =>
        simp only at h
        split at h
        case isFalse => cases h
        rename_i hc
        obtain ⟨y, hy, hr⟩ := Option.bind_eq_some_iff.1 h
        split at hr
        · cases hr
        · rename_i hne
          cases hr
          obtain ⟨ad, c, rfl, hrep⟩ := seq_at hv hy hne
          have hlt := (List.getElem?_eq_some_iff.1 hy).1
          exact ⟨_, hrun ad _ c sz hc.1 hc.2 (by omega), hrep⟩
      | own id ver =>
        simp only at h
        cases hs : shp V.mem id with
        | none => simp [hs] at h
        | some p =>
          obtain ⟨v1, sz⟩ := p
          simp only [hs] at h
          split at h
          · rename_i hc
            obtain ⟨h1, rfl, h2, h3, h4⟩ := hc
            cases h
            have hver : verOf V.mem id = some v1 := by simp [verOf, hs]
            obtain ⟨b, hb, rfl⟩ := own_valid hv hver (.inl (by omega))
            refine ⟨_, hrun _ _ _ sz h1 h3 (by omega), ?_⟩
            rw [add_lit]
            exact .aptr _ _ _ _ _ _ rfl (own_hd hv) (fun _ => ⟨b, hb, by simp⟩)
          · cases h
      | _ => cases h
    | none =>
      simp only [he] at h
      cases ha : arrT P t with
      | none => simp [ha] at h
      | some p =>
        obtain ⟨n, e⟩ := p
        simp only [ha] at h
        unfold arrT at ha
        split at ha
        case h_2 => cases ha
        rename_i n' e' hu
        simp only [Option.some.injEq, Prod.mk.injEq] at ha
        obtain ⟨rfl, rfl⟩ := ha
        cases hs : szT P e' with
        | none => simp [hs] at h
        | some sz =>
          simp only [hs] at h
          split at h
          case isFalse => cases h
          rename_i hc
          obtain ⟨h0, h1, h2⟩ := hc
          have hrun : ∀ (ad : Addr), (Instr.indexAt t (.pointer (some ad)) (.int k i)).run P V.w = .ok (.pointer (some (ad.add (i.toNat * sz)))) V.w := by
            intro ad
            simp [Instr.indexAt, asIntOf, run_und hu, Instr.sureAddr, h0, h1, run_szOf hs]
          cases x with
          | rptr cs =>
            simp only at h
            split at h
            · rename_i hlt
              cases h
              obtain ⟨ad, rfl, hr⟩ := rptr_drop hv hlt
              exact ⟨_, hrun ad, hr⟩
            · cases h
          | ptr id ver off =>
            simp only at h
            split at h
            · rename_i hver
              cases h
              obtain ⟨b, hb, rfl⟩ := ptr_valid hv hver
              refine ⟨_, hrun _, ?_⟩
              rw [add_lit]
              exact .ptr _ _ _ _ rfl (ptr_hd hv) (fun _ => ⟨b, hb, rfl⟩)
            · cases h
          | aptr id ver az j f' =>
            simp only at h
            split at h
            · rename_i hver
              cases h
              obtain ⟨b, hb, rfl⟩ := aptr_valid hv hver
              refine ⟨_, hrun _, ?_⟩
              rw [add_lit, Nat.add_assoc]
              exact .aptr _ _ _ _ _ _ rfl (aptr_hd hv) (fun _ => ⟨b, hb, rfl⟩)
            · cases h
          | _ => cases h
  | _ => cases h

theorem index_ok {V : Vw} {t : Nat} {x ix r : AV} {v vi : Value} (hv : Rep V x v) (hi : Rep V ix vi) (h : indexA P t x ix = some r) :
    ∃ u, (Instr.index t v vi).run P V.w = .ok u V.w ∧ Rep V r u := by
  unfold indexA at h
  cases hi with
  | int k i =>
    simp only at h
    split at h
    case isFalse => cases h
    rename_i h0
    cases x with
    | str s =>
      simp only at h
      split at h
      · rename_i ht
        unfold strT at ht
        split at ht
        case h_2 => cases ht
        rename_i hu
        obtain ⟨b, hb, rfl⟩ := Option.map_eq_some_iff.1 h
        cases hv
        exact ⟨_, by simp [Instr.index, asIntOf, run_und hu, h0, hb], .int _ _⟩
      · cases h
    | agg cs =>
      simp only at h
      cases ha : arrT P t with
      | none => simp [ha] at h
      | some p =>
        obtain ⟨n, e⟩ := p
        simp only [ha] at h
        unfold arrT at ha
        split at ha
        case h_2 => cases ha
        rename_i n' e' hu
        simp only [Option.some.injEq, Prod.mk.injEq] at ha
        obtain ⟨rfl, rfl⟩ := ha
        cases hs : szT P e' with
        | none => simp [hs] at h
        | some sz =>
          simp only [hs] at h
          split at h
          · rename_i hlt
            obtain ⟨vs, rfl, hr, hl⟩ := agg_inv hv
            obtain ⟨u, h1, h2⟩ := part_ok hr hl h
            exact ⟨u, by simp [Instr.index, asIntOf, run_und hu, h0, hlt, run_szOf hs, h1], h2⟩
          · cases h
    | _ => cases h
  | _ => cases h
end Go.Ab
