/- What must be shown for a code to run: conditions that the kernel makes out of the code. Shapes of unknown results are said ahead. -/
import Derived.Test.YtcmcgmcogknpfaaDoorQA
set_option linter.unusedVariables false
namespace Go.Ab
open Go

inductive Sh where
  | int (k : IntKind)
  | bool
  | str
  | agg (l : List Sh)
  | tup (l : List Sh)
  | seq (sz : Nat)
  | own (id : Nat)
  | fn
  | any
  | is (v : AV)
mutual
/-- Some value of this shape. -/
def exS : Sh → (AV → Prop) → Prop
  | .int k, Q => ∃ n : Int, Q (.int k n)
  | .bool, Q => ∃ b : Bool, Q (.bool b)
  | .str, Q => ∃ s : ByteArray, Q (.str s)
  | .agg l, Q => exSs l fun xs => Q (.agg xs)
  | .tup l, Q => exSs l fun xs => Q (.tup xs)
  | .seq sz, Q => ∃ z : Bool, ∃ fl : Bool, ∃ xs : List AV, Q (.seq z fl sz xs)
  | .own id, Q => ∃ v : Nat, Q (.own id v)
  | .fn, Q => ∃ g : Nat, Q (.fn g [] [])
  | .any, Q => ∃ v : AV, Q v
  | .is v, Q => Q v
def exSs : List Sh → (List AV → Prop) → Prop
  | [], Q => Q []
  | s :: ss, Q => exS s fun x => exSs ss fun xs => Q (x :: xs)
end
/-- A branch. -/
def br (b : Bool) (T E : Prop) : Prop := match b with
  | true => T
  | false => E

inductive Hint where
  | sh (s : Sh)
  | auto (s : Sh)
  | callv (s : Sh)
  | split
inductive BSh where
  | keep
  | more
  | arr (e sz : Nat)
  | box (l : List Sh)
structure LAlt where
  x : Exit
  us : List (Nat × Sh)
  mem : List BSh
structure LHint where
  ts : List Nat
  alts : List LAlt
structure Hs where
  op : List (Nat × Hint)
  lp : List LHint
def hintAt : List (Nat × Hint) → Nat → Option Hint
  | [], _ => none
  | (d, h) :: l, t => match Nat.beq d t with
    | true => some h
    | false => hintAt l t
def hintOf (H : Hs) (o : Oper) : Option Hint := match o.dst with
  | some d => hintAt H.op d
  | none => match o.op with
    | .store _ (.tmp t) _ => hintAt H.op (1000 + t)
    | _ => none

/-- Handles, as far as memory is not followed through immutable values. -/
def hids : Nat → Mem → AV → List Nat
  | 0, _, _ => []
  | n + 1, m, x => match x with
    | .own id _ => [id]
    | .ptr id _ off => id :: (match m[id]? with
      | some (.box cs) => (cs.drop off).flatMap (hids n m)
      | _ => [])
    | .agg xs => xs.flatMap (hids n m)
    | .tup xs => xs.flatMap (hids n m)
    | .fn _ a b => a.flatMap (hids n m) ++ b.flatMap (hids n m)
    | .mp id => [id]
    | _ => []
def fzWs (f : AV → (AV → Prop) → Prop) : List AV → (List AV → Prop) → Prop
  | [], Q => Q []
  | x :: xs, Q => f x fun y => fzWs f xs fun ys => Q (y :: ys)
/-- The value frozen. -/
def fzW : Nat → Mem → AV → (AV → Prop) → Prop
  | 0, m, x, Q => br x.pure (Q x) False
  | n + 1, m, x, Q => match x with
    | .own id ver => match m[id]? with
      | some (.arr _ sz xs) => br (decide (xs.length = ver)) (br (pureL xs) (Q (.seq false false sz xs)) False) False
      | _ => False
    | .ptr id ver off => match m[id]? with
      | some (.box cs) => br (decide (cs.length = ver ∧ off < cs.length)) (fzWs (fzW n m) (cs.drop off) fun ys => Q (.rptr ys)) False
      | _ => False
    | .agg xs => fzWs (fzW n m) xs fun ys => Q (.agg ys)
    | .tup xs => fzWs (fzW n m) xs fun ys => Q (.tup ys)
    | .fn f a b => fzWs (fzW n m) a fun a' => fzWs (fzW n m) b fun b' => Q (.fn f a' b')
    | .mp id => match m[id]? with
      | some (.mp ks vs) => br (pureL ks) (br (pureL vs) (Q (.smap ks vs)) False) False
      | _ => False
    | .seq z fl sz xs => br (pureL xs) (Q (.seq z fl sz xs)) False
    | .rptr xs => br (pureL xs) (Q (.rptr xs)) False
    | .smap ks vs => br (pureL ks) (br (pureL vs) (Q (.smap ks vs)) False) False
    | .int k n => Q (.int k n)
    | .bool b => Q (.bool b)
    | .str s => Q (.str s)
    | .nilptr => Q .nilptr
    | .nilfn => Q .nilfn
    | .nilmp => Q .nilmp
    | _ => False

def callW (cx : Cx) (ro : Bool) (e : Env) (m : Mem) (c : Call) (s : Sh) (Q : AV → Mem → Prop) : Prop :=
  match c.callee with
  | .value f => match evX cx e f, evXs cx e c.args.toList with
    | some (.fn g first cap), some as => match cx.X g, cx.sh g with
      | none, false => match (first ++ as ++ cap).flatMap (hids 6 m) with
        | [] => exS s fun r => Pw cx g (first ++ as ++ cap) r ∧ Q r m
        | id :: ids => fzWs (fzW 6 m) (first ++ as ++ cap) fun L => exS s fun r => Pw cx g L r ∧ (match ro with
          | true => br r.flat (Q r m) False
          | false => br r.flat (Q r m) (Q r (kill m (id :: ids))))
      | _, _ => False
    | _, _ => False
  | _ => False
def callvW (cx : Cx) (e : Env) (m : Mem) (c : Call) (s : Sh) (Q : AV → Mem → Prop) : Prop :=
  match c.callee with
  | .value f => match evX cx e f, evXs cx e c.args.toList with
    | some (.fn g first cap), some as => match cx.X g with
      | none => br (!cx.sh g) (exS s fun r => Pw cx g (first ++ as ++ cap) r ∧ Q r m) False
      | _ => False
    | _, _ => False
  | _ => False
def elemsW (m : Mem) (y : AV) (K : List AV → Prop) : Prop := match y with
  | .seq _ _ _ ys => K ys
  | .own id ver => match m[id]? with
    | some (.arr _ _ ys) => br (decide (ys.length = ver)) (K ys) False
    | _ => False
  | _ => False
def appW (P : Program) (m : Mem) (t t' : Nat) (x y : AV) (Q : AV → Mem → Prop) : Prop :=
  match elemT P t with
  | some e => match szT P e, byT P e with
    | some sz, some bytes => match decide (t = t') && decide (0 < sz) && (zeroT P e).any (fun z => z.cells.length == sz) with
      | true => elemsW m y fun ys => br (allCells sz ys) (match x with
        | .own id ver => match m[id]? with
          | some (.arr e' sz' xs) => br (decide (e' = e ∧ sz' = sz)) (br (decide (xs.length = ver ∧ (xs.length + ys.length) * bytes ≤ 140737488355328 ∧ xs.length + ys.length ≤ 140737488355328)) (Q (.own id (ver + ys.length)) (m.set id (.arr e sz (xs ++ ys)))) False) False
          | _ => False
        | .seq z full sz' xs => br (decide ((xs.length + ys.length) * bytes ≤ 140737488355328 ∧ xs.length + ys.length ≤ 140737488355328)) (br ys.isEmpty
            (br z (Q (.seq true full sz []) m) (br (full && decide (sz' = sz)) (Q (.seq false true sz xs) m) False))
            (br z (Q (.own m.length ys.length) (m ++ [.arr e sz ys])) (br (full && decide (sz' = sz)) (br (allCells sz xs) (Q (.own m.length (xs.length + ys.length)) (m ++ [.arr e sz (xs ++ ys)])) False) False))) False
        | _ => False) False
      | false => False
    | _, _ => False
  | none => False
def boundW (x : Option AV) (d top : Nat) (K : Nat → Prop) : Prop := match x with
  | none => K d
  | some (.int _ i) => br (decide (0 ≤ i ∧ i ≤ top)) (K i.toNat) False
  | some _ => False
def cutW (P : Program) (m : Mem) (t : Nat) (x : AV) (lo hi mx : Option AV) (Q : AV → Mem → Prop) : Prop := match x with
  | .str s => br (decide (strT P t = true ∧ mx.isNone = true)) (boundW hi s.size s.size fun h => boundW lo 0 h fun l => Q (.str (s.extract l h)) m) False
  | .seq z full sz xs => match elemT P t with
    | some e => br (decide (szT P e = some sz)) (match mx with
      | none => (match hi with
        | none => boundW lo 0 xs.length fun l => Q (.seq z full sz (xs.drop l)) m
        | some hi => boundW (some hi) 0 xs.length fun h => boundW lo 0 h fun l => Q (.seq z (full && h == xs.length) sz ((xs.take h).drop l)) m)
      | some mx => boundW (some mx) 0 xs.length fun mm => (match hi with
        | none => False
        | some hi => boundW (some hi) 0 mm fun h => br (decide (h = mm)) (boundW lo 0 h fun l => Q (.seq z true sz ((xs.take h).drop l)) m) False)) False
    | none => False
  | _ => False
def ixW (P : Program) (m : Mem) (t : Nat) (x : AV) (i : Int) (s : Sh) (Q : AV → Mem → Prop) : Prop :=
  match elemT P t with
  | some et => match x with
    | .seq _ _ sz xs => br (decide (szT P et = some sz)) (br (decide (0 ≤ i)) (exS s fun y => xs[i.toNat]? = some y ∧ (match y.cells with
      | [] => False
      | c :: cs => Q (.rptr (c :: cs)) m)) False) False
    | .own id ver => match m[id]? with
      | some (.arr _ sz xs) => br (decide (szT P et = some sz ∧ 0 < sz)) (br (decide (xs.length = ver)) (br (decide (0 ≤ i ∧ i.toNat < ver)) (Q (.aptr id ver sz i.toNat 0) m) False) False) False
      | _ => False
    | _ => False
  | none => False
def arW (m : Mem) (o : BinOp) (x y : AV) (Q : AV → Mem → Prop) : Prop := match x, y with
  | .int k a, .int k' b => (match o with
    | .shl => br (decide (0 ≤ b)) (Q (.int k (k.wrap (a * 2 ^ (min b.toNat k.bits)))) m) False
    | .shr => br (decide (0 ≤ b)) (Q (.int k (a.fdiv (2 ^ (min b.toNat k.bits)))) m) False
    | o => br (decide (k = k')) (match o with
      | .add => br (decide (k.wrap (a + b) = a + b)) (Q (.int k (a + b)) m) False
      | .sub => br (decide (k.wrap (a - b) = a - b)) (Q (.int k (a - b)) m) False
      | .mul => br (decide (k.wrap (a * b) = a * b)) (Q (.int k (a * b)) m) False
      | .quo => br (decide (b ≠ 0)) (Q (.int k (k.wrap (a.tdiv b))) m) False
      | .rem => br (decide (b ≠ 0)) (Q (.int k (a.tmod b)) m) False
      | _ => False) False)
  | .str a, .str b => (match o with
    | .add => br (decide (((a.size + b.size : Nat) : Int) ≤ IntKind.i64.max)) (Q (.str (a ++ b)) m) False
    | _ => False)
  | _, _ => False
def storeW (P : Program) (m : Mem) (t : Nat) (a v : AV) (s : Sh) (Q : AV → Mem → Prop) : Prop :=
  match a with
  | .aptr id ver sz i f => br (decide (szT P t = some v.cells.length) && v.data) (match m[id]? with
    | some (.arr e sz' xs) => br (decide (xs.length = ver)) (br (decide (sz = sz')) (match decide (1 < sz) with
      | true => br (decide (f + v.cells.length ≤ sz)) (exS s fun y => xs[i]? = some y ∧ Q .undef (m.set id (.arr e sz (xs.set i (.agg (over y.cells f v.cells)))))) False
      | false => br (decide (sz = 1 ∧ f = 0)) (br (decide (i < xs.length)) (match v with
        | .agg _ => False
        | v => Q .undef (m.set id (.arr e sz (xs.set i v)))) False) False) False) False
    | _ => False) False
  | _ => False
def lookAt (P : Program) (t : Nat) (m : Mem) (x k : AV) (ok : Bool) : Option AV := lookA P m t x k ok
def autoW (cx : Cx) (md : Nat) (e : Env) (m : Mem) (op : Op) (s : Sh) (Q : AV → Mem → Prop) : Prop :=
  match op with
  | .call c => (match c.callee with
    | .value _ => callW cx (md != 0) e m c s Q
    | .builtin b => (match evXs cx e c.args.toList, b, c.argTypes.toList with
      | some [.own id ver], .len, [t] => (match m[id]? with
        | some (.arr _ _ xs) => br (sliceT cx.P t) (br (decide (xs.length = ver)) (Q (.int .i64 ver) m) False) False
        | _ => False)
      | some [x, y], .append, [t, t'] => br (decide (md = 0 ∨ (md = 2 ∧ isSeq x = true))) (appW cx.P m t t' x y Q) False
      | _, _, _ => False)
    | _ => False)
  | .binOp o _ x y _ => (match evX cx e x, evX cx e y with
    | some a, some b => arW m o a b Q
    | _, _ => False)
  | .indexAddr t x ix => (match evX cx e x, evX cx e ix with
    | some x, some (.int _ i) => ixW cx.P m t x i s Q
    | _, _ => False)
  | .index t x ix => (match evX cx e x, evX cx e ix with
    | some (.str a), some (.int _ i) => br (strT cx.P t) (br (decide (0 ≤ i)) (∃ b : UInt8, a.data.toList[i.toNat]? = some b ∧ Q (.int .u8 (b.toNat : Nat)) m) False) False
    | _, _ => False)
  | .load t a => (match evX cx e a with
    | some (.aptr id ver sz i f) => (match m[id]? with
      | some (.arr _ sz' xs) => br (decide (xs.length = ver)) (br (decide (sz = sz')) (exS s fun y => xs[i]? = some y ∧ (match takeT cx.P t (y.cells.drop f) with
        | some v => Q v m
        | none => False)) False) False
      | _ => False)
    | _ => False)
  | .store t a x => (match evX cx e a, evX cx e x with
    | some a, some v => br (decide (md = 0)) (storeW cx.P m t a v s Q) False
    | _, _ => False)
  | .slice t x lo hi mx => (match evX cx e x, lo.mapM (evX cx e), hi.mapM (evX cx e), mx.mapM (evX cx e) with
    | some x, some lo, some hi, some mx => cutW cx.P m t x lo hi mx Q
    | _, _, _, _ => False)
  | .lookup t x k ok => (match evX cx e x, evX cx e k with
    | some x, some k => exS s fun r => lookA cx.P m t x k ok = some r ∧ Q r m
    | _, _ => False)
  | _ => False
def opW (cx : Cx) (md : Nat) (e : Env) (m : Mem) (op : Op) (h : Option Hint) (Q : AV → Mem → Prop) : Prop :=
  match h with
  | none => match evOp cx md (Fi cx) (Yi cx) e m op with
    | some (r, m') => Q r m'
    | none => False
  | some (.sh s) => exS s fun r => evOp cx md (Fi cx) (Yi cx) e m op = some (r, m) ∧ Q r m
  | some .split => match evOp cx md (Fi cx) (Yi cx) e m op with
    | some (.bool b, m') => br b (Q (.bool true) m') (Q (.bool false) m')
    | _ => False
  | some (.callv s) => match op with
    | .call c => callvW cx e m c s Q
    | _ => False
  | some (.auto s) => autoW cx md e m op s Q

def modeOf (ro : Bool) (ops : Array Oper) (o : Oper) : Nat := if ro then (if cls ops o < 3 then 1 else if cls ops o == 3 then 2 else 0) else 0
def oneW (cx : Cx) (ro : Bool) (H : Hs) (ops : Array Oper) (o : Oper) (e : Env) (m : Mem) (K : Env → Mem → Prop) : Prop :=
  match o.guard with
  | none => opW cx (modeOf ro ops o) e m o.op (hintOf H o) fun r m' => K (put e o.dst r) m'
  | some (j, want) => match (ops[j]?).bind (·.dst) with
    | none => K (put e o.dst .undef) m
    | some d => match e d with
      | .bool g => br g
        (match want with
          | true => opW cx (modeOf ro ops o) (upd e d (.bool true)) m o.op (hintOf H o) fun r m' => K (put (upd e d (.bool true)) o.dst r) m'
          | false => K (put (upd e d (.bool true)) o.dst .undef) m)
        (match want with
          | true => K (put (upd e d (.bool false)) o.dst .undef) m
          | false => opW cx (modeOf ro ops o) (upd e d (.bool false)) m o.op (hintOf H o) fun r m' => K (put (upd e d (.bool false)) o.dst r) m')
      | .tup [] => K (put e o.dst .undef) m
      | _ => False
def listW (cx : Cx) (ro : Bool) (H : Hs) (ops : Array Oper) : List Oper → Env → Mem → (Env → Mem → Prop) → Prop
  | [], e, m, K => K e m
  | o :: os, e, m, K => oneW cx ro H ops o e m fun e' m' => listW cx ro H ops os e' m' K
def nl : Code → Nat
  | .seq a b => nl a + nl b
  | .cond _ a b => nl a + nl b
  | .block _ c => nl c
  | .loop _ => 1
  | _ => 0
def exUs : List (Nat × Sh) → (List AV → Prop) → Prop
  | [], Q => Q []
  | (_, s) :: us, Q => exS s fun x => exUs us fun xs => Q (x :: xs)
def exMem : List BSh → Mem → (Mem → Prop) → Prop
  | [], m, Q => Q m
  | .keep :: l, b :: m, Q => exMem l m fun m' => Q (b :: m')
  | .keep :: _, [], _ => False
  | .more :: _, _, Q => ∃ g : Mem, Q g
  | .arr e sz :: l, m, Q => ∃ xs : List AV, exMem l m.tail fun m' => Q (.arr e sz xs :: m')
  | .box ss :: l, m, Q => exSs ss fun cs => exMem l m.tail fun m' => Q (.box cs :: m')
def altW (cx : Cx) (top : Bool) (c : Code) (ts : List Nat) (e : Env) (m : Mem) (K : Exit → Env → Mem → Prop) (a : LAlt) : Prop :=
  exUs a.us fun ws => exMem a.mem m fun m' => LoopAns cx top m.length c ts (ts.map e) m a.x (a.us.map (·.1)) ws m' ∧ ∀ e0 : Env, K a.x (envL (a.us.map (·.1)) ws (mixE (dsts c) e0 e)) m'
def altsW (cx : Cx) (top : Bool) (c : Code) (ts : List Nat) (e : Env) (m : Mem) (K : Exit → Env → Mem → Prop) : List LAlt → Prop
  | [] => False
  | [a] => altW cx top c ts e m K a
  | a :: b :: as => altW cx top c ts e m K a ∨ altsW cx top c ts e m K (b :: as)
def setX (e : Env) (x : Operand) (b : Bool) : Env := match x with
  | .tmp t => upd e t (.bool b)
  | _ => e
def codeW (cx : Cx) (top : Bool) (H : Hs) : Code → Nat → Env → Mem → (Exit → Env → Mem → Prop) → Prop
  | .skip, _, e, m, Q => Q .normal e m
  | .region _ ops draw, _, e, m, Q => listW cx draw H ops (if draw then drawn ops else ops.toList) e m fun e' m' => Q .normal e' m'
  | .seq a b, j, e, m, Q => codeW cx top H a j e m fun x e' m' => match x with
    | .normal => codeW cx top H b (j + nl a) e' m' Q
    | x => Q x e' m'
  | .cond c a b, j, e, m, Q => match evX cx e c with
    | some (.bool t) => br t (codeW cx top H a j (setX e c true) m Q) (codeW cx top H b (j + nl a) (setX e c false) m Q)
    | _ => False
  | .block id c, j, e, m, Q => codeW cx top H c j e m fun x e' m' => match x with
    | .exit id' => (match Nat.beq id' id with
      | true => Q .normal e' m'
      | false => Q (.exit id') e' m')
    | x => Q x e' m'
  | .loop c, j, e, m, Q => match H.lp[j]? with
    | some h => altsW cx top c h.ts e m Q h.alts
    | none => False
  | .exit id, _, e, m, Q => Q (.exit id) e m
  | .ret, _, e, m, Q => Q .ret e m
  | _, _, _, _, _ => False
/-- The j-th loop of a code. -/
def loopIn (c : Code) (j : Nat) : Code := ((loopsOf c)[j]?).getD .skip
/-- A function's call, in the memory m. -/
def funW (cx : Cx) (H : Hs) (f : Nat) (as : List AV) (m : Mem) (Q : AV → Mem → Prop) : Prop :=
  match cx.P.funcs[f]? with
  | some fn => match okF fn with
    | true => match fn.body with
      | some c => codeW cx true H c 0 (argEnv as) m fun x e m' => (match x with
        | .normal => (match evRes cx fn e m' with
          | some r => Q r m'
          | none => False)
        | .ret => (match evRes cx fn e m' with
          | some r => Q r m'
          | none => False)
        | _ => False)
      | none => False
    | false => False
  | none => False
/-- A call with pure arguments. -/
def pureW (cx : Cx) (H : Hs) (f : Nat) (as : List AV) (Q : AV → Prop) : Prop := funW cx H f as [] fun r m => fzW 6 m r Q
/-- One round of a loop. -/
def roundW (cx : Cx) (top : Bool) (H : Hs) (c : Code) (ts : List Nat) (vs : List AV) (us : List Nat) (e : Env) (m : Mem) (Q : Exit → List AV → Mem → Prop) : Prop :=
  codeW cx top H c 0 (envL ts vs e) m fun x e' m' => Q x (us.map e') m'
end Go.Ab
