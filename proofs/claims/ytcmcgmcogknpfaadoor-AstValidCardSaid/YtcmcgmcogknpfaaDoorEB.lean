/- The abstract evaluator, second part: operations, regions, code, calls. -/
import Derived.Test.YtcmcgmcogknpfaaDoorEA
set_option linter.unusedVariables false
namespace Go.Ab
open Go

abbrev CallT := Nat → List AV → Mem → Option (AV × Mem)

/-! ### Regions that draw their order: when any order gives what the text's order gives -/
def bindE (e : Edge) : Bool := Region.binds .any e
/-- Of each operation all that must come before it (bit i of the number: operation i). -/
def ancsAux : List Oper → List Nat → List Nat
  | [], acc => acc
  | o :: os, acc => ancsAux os (acc ++ [o.after.toList.foldl (fun b e => if bindE e then b ||| (1 <<< e.on) ||| acc.getD e.on 0 else b) 0])
def ancs (ops : List Oper) : List Nat := ancsAux ops []
def isA (o : Oper) : Bool := match o.op with | .alloc _ => true | _ => false
def freshSrc (ops : Array Oper) (c : Call) : Bool := match c.args.toList with
  | .tmp t :: _ => ops.any fun o => o.dst == some t && (match o.op with | .buildSlice .. => true | .slice _ _ _ _ (some _) => true | _ => false)
  | .const _ :: _ => true
  | _ => false
/-- What an operation has to do with memory: 0 nothing · 1 it asks how long blocks are · 2 it reads · 3 it lays new blocks · 4 it stores · 5 it may lengthen a block · 6 an allocation. -/
def cls (ops : Array Oper) (o : Oper) : Nat := match o.op with
  | .alloc _ => 6
  | .store .. => 4
  | .box .. | .makeSlice .. => 3
  | .fieldAddr .. | .indexAddr .. | .nilCheck _ => 1
  | .binOp op .. => (match op with | .eql | .neq => 1 | _ => 0)
  | .load .. => 2
  | .lookup .. => 2
  | .mapUpdate .. => 4
  | .makeMap .. => 3
  | .call c => (match c.callee with
    | .builtin .append => if freshSrc ops c then 3 else 5
    | .builtin .len => 1
    | .builtin .max | .builtin .min => 0
    | .value (.tmp _) => 5
    | _ => 2)
  | _ => 0
def confl (a b : Nat) : Bool :=
  a != 6 && b != 6 && a != 0 && b != 0 && ((3 ≤ a && 3 ≤ b) || (a == 2 && 4 ≤ b) || (b == 2 && 4 ≤ a) || (a == 1 && b == 5) || (b == 1 && a == 5))
def pairOK (ops : Array Oper) (an : List Nat) (i j : Nat) (x y : Oper) : Bool :=
  let ord := (an.getD j 0).testBit i
  (match x.dst with
    | some d => y.dst != some d && (!(y.looksAt ops).contains d || ord)
    | none => true) &&
  (match y.dst with
    | some d => !(x.looksAt ops).contains d || ord
    | none => true) &&
  (!confl (cls ops x) (cls ops y) || ord)
def regOK (ops : Array Oper) : Bool :=
  let l := ops.toList
  let an := ancs l
  (l.zipIdx.all fun (o, i) => o.after.toList.all (fun e => !bindE e || e.on < i) && (!isA o || (o.guard.isNone && o.after.isEmpty && o.dst.isSome))) &&
  (l.zipIdx.all fun (y, j) => l.zipIdx.all fun (x, i) => j ≤ i || pairOK ops an i j x y)

def okOps (nt : Nat) (ops : Array Oper) : Bool := ops.toList.all fun o => match o.dst with | some d => decide (d < nt) | none => true
def okCode (nt : Nat) : Code → Bool
  | .skip | .exit _ | .ret => true
  | .region _ ops draw => okOps nt ops && (!draw || regOK ops)
  | .seq a b => okCode nt a && okCode nt b
  | .cond _ a b => okCode nt a && okCode nt b
  | .block _ c => okCode nt c
  | .loop c => okCode nt c
  | .rangeFunc _ ps a b => ps.toList.all (· < nt) && okCode nt a && okCode nt b
  | _ => false
def okF (fn : Func) : Bool := fn.name != "runtime.NumGoroutine" && (match fn.body with | some c => okCode fn.ntmps c | none => false)

/-! ### Calls -/
def blkUnder (N nt : Nat) : Blk → Bool
  | .box cs => underL N cs
  | .arr _ _ xs => underL N xs
  | .lp .. => true
  | .mp ks vs => underL N ks && underL N vs
  | .dead => true
/-- Behind a call that shared the memory: what the callee made beyond N goes, its result frozen. -/
def retrunc (N : Nat) (rm : AV × Mem) : Option (AV × Mem) :=
  if (rm.2.take N).all (blkUnder N 0) then
    if rm.1.under N then some (rm.1, rm.2.take N)
    else if (idsD rm.2 6 rm.1).all (N ≤ ·) then (fz rm.2 6 rm.1).map fun r => (r, rm.2.take N)
    else none
  else none
def settle (ro : Bool) (m : Mem) (as : List AV) (r : AV) : Option (AV × Mem) :=
  if r.pure then
    if r.flat || (idsDL m as).isEmpty then some (r, m)
    else if ro then none else some (r, kill m (idsDL m as))
  else none
/-- Owned slices handed to a call that shares the memory become immutable ones. -/
def lendOwn (m : Mem) : List AV → Option (List AV × List Nat)
  | [] => some ([], [])
  | .own id ver :: r => match fz m 6 (.own id ver), lendOwn m r with
    | some x, some (xs, is) => some (x :: xs, idsD m 6 (.own id ver) ++ is)
    | _, _ => none
  | x :: r => match lendOwn m r with
    | some (xs, is) => some (x :: xs, is)
    | none => none
def callV (cx : Cx) (ro : Bool) (F Y : CallT) (m : Mem) (c : AV) (args : List AV) : Option (AV × Mem) :=
  match c with
  | .fn f first cap =>
    match cx.X f with
    | some g => match fzs m (first ++ args ++ cap) with
      | some as' => match g as' with
        | some r => settle ro m (first ++ args ++ cap) r
        | none => none
      | none => none
    | none =>
      if cx.sh f then
        if ro then none else match lendOwn m (first ++ args ++ cap) with
          | some (xs, is) => match F f xs (kill m is) with
            | some rm => retrunc m.length rm
            | none => none
          | none => none
      else match fzs m (first ++ args ++ cap) with
        | some as' => match F f as' [] with
          | some rm => match fz rm.2 6 rm.1 with
            | some r => settle ro m (first ++ args ++ cap) r
            | none => none
          | none => none
        | none => none
  | .yld id => if ro then none else match lendOwn m args with
      | some (xs, is) => match Y id xs (kill m is) with
        | some rm => retrunc m.length rm
        | none => none
      | none => none
  | _ => none

/-! ### One operation -/
def isSeq : AV → Bool | .seq .. => true | _ => false
def noMem (m : Mem) (r : Option AV) : Option (AV × Mem) := r.map fun x => (x, m)
def validA (m : Mem) : AV → Bool
  | .ptr id ver _ => verOf m id == some ver
  | .aptr id ver .. => verOf m id == some ver
  | .rptr _ => true
  | .fn .. => true
  | _ => false
/-- md: 0 whatever the operation does · 1 it may not change the memory · 2 it may lay new blocks alone. -/
def evOp (cx : Cx) (md : Nat) (F Y : CallT) (e : Env) (m : Mem) (op : Op) : Option (AV × Mem) :=
  match op with
  | .move x | .assign x => noMem m (evX cx e x)
  | .pick c a b => match evX cx e c with
    | some (.bool t) => noMem m (evX cx e (if t then a else b))
    | _ => none
  | .alloc t => if md = 1 then none else match zeroT cx.P t with
    | some z => if z.data then some (.ptr m.length z.cells.length 0, m ++ [.box z.cells]) else none
    | none => none
  | .box _ x => if md = 1 then none else match evX cx e x with
    | some v => if v.data then some (.ptr m.length v.cells.length 0, m ++ [.box v.cells]) else none
    | none => none
  | .build t parts => match zeroT cx.P t, evParts cx e parts.toList with
    | some (.agg z), some ps => if plT cx.P t then noMem m ((fillA cx.P t z ps).map .agg) else none
    | _, _ => none
  | .buildSlice t len parts => match elemT cx.P t, evParts cx e parts.toList with
    | some et, some ps => match szT cx.P et, zeroT cx.P et with
      | some sz, some z => if z.cells.length = sz ∧ z.data = true ∧ 0 < sz ∧ len * sz ≤ 16777216 then noMem m ((fillS sz (List.replicate len z) ps).map (.seq false true sz)) else none
      | _, _ => none
    | _, _ => none
  | .load t a => match evX cx e a with
    | some x => noMem m (loadA cx.P m t x)
    | none => none
  | .store t a x => match evX cx e a, evX cx e x with
    | some a, some v => if md ≠ 0 then none else (storeA cx.P m t a v).map fun m' => (.undef, m')
    | _, _ => none
  | .makeMap _ r => match r with
    | none => if md = 1 then none else some (.mp m.length, m ++ [.mp [] []])
    | some _ => none
  | .makeSlice t l c => match evX cx e l, evX cx e c, elemT cx.P t with
    | some (.int _ l), some (.int _ c), some et => match szT cx.P et, byT cx.P et, zeroT cx.P et with
      | some sz, some b, some z => if md ≠ 1 ∧ 0 ≤ l ∧ l ≤ c ∧ b * c.toNat ≤ 140737488355328 ∧ c.toNat ≤ 140737488350000 ∧ z.cells.length = sz ∧ z.data = true ∧ 0 < sz then
          some (.own m.length l.toNat, m ++ [.arr et sz (List.replicate l.toNat z)]) else none
      | _, _, _ => none
    | _, _, _ => none
  | .lookup t x k ok => match evX cx e x, evX cx e k with
    | some x, some k => noMem m (lookA cx.P m t x k ok)
    | _, _ => none
  | .mapUpdate t x k v => match evX cx e x, evX cx e k, evX cx e v with
    | some x, some k, some v => if md ≠ 0 then none else (updA cx.P m t x k v).map fun m' => (.undef, m')
    | _, _, _ => none
  | .nilCheck x => match evX cx e x with
    | some v => if validA m v then some (v, m) else none
    | none => none
  | .binOp op t x y _ => match evX cx e x, evX cx e y with
    | some a, some b => noMem m (binA cx.P m op t a b)
    | _, _ => none
  | .unOp op _ x => match evX cx e x with
    | some a => noMem m (unA op a)
    | none => none
  | .convert src dst x => match evX cx e x with
    | some a => noMem m (convA cx.P src dst a)
    | none => none
  | .makeFunc fn first cap => match fn, evXs cx e first.toList, evXs cx e cap.toList with
    | .func f, some a, some b => some (.fn f a b, m)
    | _, _, _ => none
  | .slice t x lo hi mx => match evX cx e x, lo.mapM (evX cx e), hi.mapM (evX cx e), mx.mapM (evX cx e) with
    | some x, some lo, some hi, some mx => noMem m (sliceA cx.P t x lo hi mx)
    | _, _, _, _ => none
  | .fieldAddr s x j => match evX cx e x with
    | some x => noMem m (fieldAddrA cx.P m s j x)
    | none => none
  | .field s x j => match evX cx e x with
    | some x => noMem m (fieldA cx.P s j x)
    | none => none
  | .indexAddr t x ix => match evX cx e x, evX cx e ix with
    | some x, some i => noMem m (indexAddrA cx.P m t x i)
    | _, _ => none
  | .index t x ix => match evX cx e x, evX cx e ix with
    | some x, some i => noMem m (indexA cx.P t x i)
    | _, _ => none
  | .extract x j => match evX cx e x with
    | some (.tup xs) => noMem m xs[j]?
    | _ => none
  | .call c => match c.callee with
    | .value f => match evX cx e f, evXs cx e c.args.toList with
      | some f, some as => callV cx (md != 0) F Y m f as
      | _, _ => none
    | .builtin b => match evXs cx e c.args.toList, b, c.argTypes.toList with
      | some [x], .len, [t] => noMem m (lenA cx.P m t x)
      | some [x, y], .append, [t, t'] => if md = 0 ∨ (md = 2 ∧ isSeq x = true) then appendA cx.P m t t' x y else none
      | some xs, .max, _ => noMem m (maxA true xs)
      | some xs, .min, _ => noMem m (maxA false xs)
      | _, _, _ => none
    | _ => none
  | _ => none

def wantA (ops : Array Oper) (e : Env) (o : Oper) : Option Bool :=
  match o.guard with
  | none => some true
  | some (j, want) => match (ops[j]?).bind (·.dst) with
    | none => some false
    | some d => match e d with
      | .bool b => some (b == want)
      | .tup [] => some false
      | _ => none
def evOne (cx : Cx) (ro : Bool) (F Y : CallT) (ops : Array Oper) (o : Oper) (e : Env) (m : Mem) : Option (Env × Mem) :=
  match wantA ops e o with
  | some true => match evOp cx (if ro then (if cls ops o < 3 then 1 else if cls ops o == 3 then 2 else 0) else 0) F Y e m o.op with
    | some (r, m') => some (put e o.dst r, m')
    | none => none
  | some false => some (put e o.dst .undef, m)
  | none => none
def evList (cx : Cx) (ro : Bool) (F Y : CallT) (ops : Array Oper) : List Oper → Env → Mem → Option (Env × Mem)
  | [], e, m => some (e, m)
  | o :: os, e, m => match evOne cx ro F Y ops o e m with
    | some (e', m') => evList cx ro F Y ops os e' m'
    | none => none
def drawn (ops : Array Oper) : List Oper := ops.toList.filter isA ++ ops.toList.filter (fun o => !isA o)

/-! ### Code -/
abbrev Run := Option (Exit × Env × Mem)
/-- The temporaries that a code writes. -/
def dstO : List Oper → List Nat
  | [] => []
  | o :: os => match o.dst with | some d => d :: dstO os | none => dstO os
def dsts : Code → List Nat
  | .region _ ops _ => dstO ops.toList
  | .seq a b => dsts a ++ dsts b
  | .cond _ a b => dsts a ++ dsts b
  | .block _ c => dsts c
  | .loop c => dsts c
  | _ => []
/-- The temporaries that a code may read before it writes them (U: found so far, D: written for sure). -/
def addT (D U : List Nat) : List Operand → List Nat
  | [] => U
  | .tmp t :: os => addT D (if D.contains t || U.contains t then U else t :: U) os
  | _ :: os => addT D U os
def liveO : List Oper → List Nat → List Nat → List Nat × List Nat
  | [], D, U => (D, U)
  | o :: os, D, U => liveO os (match o.dst with | some d => d :: D | none => D) (addT D U o.op.operands.toList)
def readsC : Code → List Nat → List Nat
  | .region _ ops _, U => (liveO ops.toList [] U).2
  | .seq a b, U => readsC b (readsC a U)
  | .cond c a b, U => readsC b (readsC a (addT [] U [c]))
  | .block _ c, U => readsC c U
  | .loop c, U => readsC c U
  | .rangeFunc g _ a b, U => readsC b (readsC a (addT [] U [g]))
  | _, U => U
def liveC : Code → List Nat → List Nat → List Nat × List Nat
  | .region _ ops _, D, U => liveO ops.toList D U
  | .seq a b, D, U => match liveC a D U with
    | (D', U') => liveC b D' U'
  | .cond c a b, D, U => match liveC a D (addT D U [c]) with
    | (_, U1) => match liveC b D U1 with
      | (_, U2) => (D, U2)
  | .block _ c, D, U => (D, (liveC c D U).2)
  | .loop c, D, U => (D, (liveC c D U).2)
  | .rangeFunc g _ a b, D, U => (D, readsC b (readsC a (addT D U [g])))
  | _, D, U => (D, U)
def live (c : Code) : List Nat := (liveC c [] []).2
/-- Behind a round: what the round made beyond N goes, if nothing that lives on leads there. -/
def sanE (N : Nat) (D : List Nat) (e : Env) : Env := fun t => if D.contains t && !(e t).under N then .junk else e t
def trimL (N : Nat) (c : Code) (e : Env) (m : Mem) : Env × Mem :=
  if m.length ≤ N then (e, m) else if (m.take N).all (blkUnder N 0) && underL N ((live c).map e) then (sanE N (dsts c) e, m.take N) else (e, m)
def evLoop (N : Nat) (c : Code) (body : Env → Mem → Run) : Nat → Env → Mem → Run
  | 0, _, _ => none
  | k + 1, e, m => match body e m with
    | some (.normal, e', m') => evLoop N c body k (trimL N c e' m').1 (trimL N c e' m').2
    | r => r
def evCode (cx : Cx) (F Y : CallT) (n : Nat) (top : Bool) : Code → Env → Mem → Run
  | .skip, e, m => some (.normal, e, m)
  | .region _ ops draw, e, m => match evList cx draw F Y ops (if draw then drawn ops else ops.toList) e m with
    | some (e', m') => some (.normal, e', m')
    | none => none
  | .seq a b, e, m => match evCode cx F Y n top a e m with
    | some (.normal, e', m') => evCode cx F Y n top b e' m'
    | r => r
  | .cond c a b, e, m => match evX cx e c with
    | some (.bool t) => if t then evCode cx F Y n top a e m else evCode cx F Y n top b e m
    | _ => none
  | .block id c, e, m => match evCode cx F Y n top c e m with
    | some (.exit id', e', m') => if id' = id then some (.normal, e', m') else some (.exit id', e', m')
    | r => r
  | .loop c, e, m => evLoop m.length c (fun e m => evCode cx F Y n top c e m) n e m
  | .exit id, e, m => some (.exit id, e, m)
  | .ret, e, m => some (.ret, e, m)
  | .rangeFunc g ps a b, e, m =>
    if top then match evX cx e g with
      | some (.fn f first cap) =>
        match F f (first ++ [.yld m.length] ++ cap) (m ++ [.lp e ps.toList a b .ready none]) with
        | some rm => match rm.2[m.length]? with
          | some (.lp _ _ _ _ st pend) =>
            if (rm.2.take m.length).all (blkUnder m.length 0) then
              match st, pend with
              | .ready, none => some (.normal, e, rm.2.take m.length)
              | .done, some .ret => some (.ret, e, rm.2.take m.length)
              | .done, some (.exit id) => some (.exit id, e, rm.2.take m.length)
              | _, _ => none
            else none
          | _ => none
        | none => none
      | _ => none
    else none
  | _, _, _ => none

def resVar (cx : Cx) (e : Env) (m : Mem) : ResultVar → Option AV
  | .tmp t => some (e t)
  | .cell a t => loadA cx.P m t (e a)
def evRes (cx : Cx) (fn : Func) (e : Env) (m : Mem) : Option AV :=
  match fn.results.toList with
  | [r] => resVar cx e m r
  | rs => (rs.mapM (resVar cx e m)).map .tup
def argEnv (args : List AV) : Env := fun t => args.getD t .undef

def setLp (m : Mem) (id : Nat) (st : LoopState) (pend : Option Code) : Option Mem :=
  match m[id]? with
  | some (.lp e ps a b _ _) => some (m.set id (.lp e ps a b st pend))
  | _ => none
def lpState (m : Mem) (id : Nat) : Option (LoopState × Option Code) :=
  match m[id]? with
  | some (.lp _ _ _ _ st p) => some (st, p)
  | _ => none
def putAll (e : Env) : List (Nat × AV) → Env
  | [] => e
  | (t, x) :: r => putAll (upd e t x) r
def evYldW (cx : Cx) (F Y : CallT) (n : Nat) (id : Nat) (args : List AV) (m : Mem) : Option (AV × Mem) :=
  match m[id]? with
  | some (.lp e ps a b .ready none) =>
    if args.length = ps.length then
      match evCode cx F Y n false a (putAll e (ps.zip args)) m with
      | some (.normal, e1, m1) =>
        match lpState m1 id with
        | some (.ready, none) => match setLp m1 id .busy none with
          | some m2 => match evCode cx F Y n false b e1 m2 with
            | some (x, _, m3) => match lpState m3 id with
              | some (.busy, none) => match x with
                | .normal => (setLp m3 id .ready none).map fun m4 => (.bool true, m4)
                | .ret => (setLp m3 id .done (some .ret)).map fun m4 => (.bool false, m4)
                | .exit j => (setLp m3 id .done (some (.exit j))).map fun m4 => (.bool false, m4)
                | _ => none
              | _ => none
            | none => none
          | none => none
        | _ => none
      | _ => none
    else none
  | _ => none
def evFunW (cx : Cx) (F Y : CallT) (n : Nat) (f : Nat) (args : List AV) (m : Mem) : Option (AV × Mem) :=
  match cx.P.funcs[f]? with
  | some fn =>
    if okF fn then match fn.body with
      | some c => match evCode cx F Y n true c (argEnv args) m with
        | some (.normal, e, m') => (evRes cx fn e m').map fun r => (r, m')
        | some (.ret, e, m') => (evRes cx fn e m').map fun r => (r, m')
        | _ => none
      | none => none
    else none
  | none => none
/-- Functions and rounds, with so much fuel. -/
def evAll (cx : Cx) : Nat → CallT × CallT
  | 0 => (fun _ _ _ => none, fun _ _ _ => none)
  | n + 1 => (evFunW cx (evAll cx n).1 (evAll cx n).2 n, evYldW cx (evAll cx n).1 (evAll cx n).2 n)
abbrev evFun (cx : Cx) (n : Nat) : CallT := (evAll cx n).1
abbrev evYld (cx : Cx) (n : Nat) : CallT := (evAll cx n).2
/-- A call with pure arguments, in a memory of its own. -/
def evPure (cx : Cx) (n f : Nat) (args : List AV) : Option AV :=
  match evFun cx n f args [] with
  | some rm => fz rm.2 6 rm.1
  | none => none
end Go.Ab
