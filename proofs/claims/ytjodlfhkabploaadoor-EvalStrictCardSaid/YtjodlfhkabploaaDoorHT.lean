/- Arithmetic and the values of expressions: the program's and the reference's. -/
import Derived.Test.YtjodlfhkabploaaDoorHS
set_option linter.unusedVariables false
set_option linter.unusedSimpArgs false
namespace Go.Ab
open Go Go.Proofs

def pairV (p : Int × Int) : AV := .tup [.int .i64 p.1, .int .i64 p.2]
def flagI (b : Bool) : Int := match b with
  | true => 1
  | false => 0
theorem flag_pw (b : Bool) : Pw cx 117 [.bool b] (.int .i64 (flagI b)) := by cases b <;> exact flag_w rfl rfl
theorem truth_pw (b : Bool) : Pw cx 96 [.bool b] (.int .i64 (flagI b)) := by cases b <;> exact truth_w rfl rfl
def w64 (n : Int) : Int := IntKind.wrap IntKind.i64 n
def bitN (o : Int) (x y : Int) : Int :=
  if o = 13 then w64 (↑(BitVec.toNat (BitVec.ofInt (IntKind.bits IntKind.i64) x &&& BitVec.ofInt (IntKind.bits IntKind.i64) y)) : Int)
  else if o = 14 then w64 (↑(BitVec.toNat (BitVec.ofInt (IntKind.bits IntKind.i64) x ||| BitVec.ofInt (IntKind.bits IntKind.i64) y)) : Int)
  else w64 (↑(BitVec.toNat (BitVec.ofInt (IntKind.bits IntKind.i64) x ^^^ BitVec.ofInt (IntKind.bits IntKind.i64) y)) : Int)
/-- A binary operator: the value, an error number. -/
def apN (o x y : Int) : Int × Int :=
  if o = 8 then (w64 (x + y), 0)
  else if o = 9 then (w64 (x - y), 0)
  else if o = 10 then (w64 (x * y), 0)
  else if o = 11 then (if y = 0 then (0, 11) else (w64 (x.tdiv y), 0))
  else if o = 12 then (if y = 0 then (0, 11) else (x.tmod y, 0))
  else if o = 13 ∨ o = 14 ∨ o = 15 then (bitN o x y, 0)
  else if o = 16 then (flagI (decide (x = y)), 0)
  else if o = 17 then (flagI (!decide (x = y)), 0)
  else if o = 18 then (flagI (decide (x < y)), 0)
  else if o = 19 then (flagI (decide (x ≤ y)), 0)
  else if o = 20 then (flagI (decide (y < x)), 0)
  else if o = 21 then (flagI (decide (y ≤ x)), 0)
  else if o = 22 then (flagI (!decide (x = 0) && !decide (y = 0)), 0)
  else if o = 23 then (flagI (!decide (x = 0) || !decide (y = 0)), 0)
  else (0, 7)
def unN (o x : Int) : Int × Int :=
  if o = 6 then (w64 (0 - x), 0) else if o = 7 then (flagI (decide (x = 0)), 0) else (0, 7)
theorem divide_pw (x y : Int) (h : y ≠ 0) : Pw cx 118 [.int .i64 x, .int .i64 y] (pairV (w64 (x.tdiv y), x.tmod y)) := by
  by_cases h1 : y = -1
  · subst h1
    refine divide_w rfl (br_yes rfl ?_)
    have e1 : x.tdiv (-1) = 0 - x := by rw [Int.tdiv_neg, Int.tdiv_one]; omega
    have e2 : x.tmod (-1) = 0 := by rw [Int.tmod_neg, Int.tmod_one]
    unfold pairV w64
    rw [e1, e2]
  · exact divide_w rfl (br_no h1 (br_yes h (br_yes h rfl)))
theorem op_cases (o : Int) : o = 8 ∨ o = 9 ∨ o = 10 ∨ o = 11 ∨ o = 12 ∨ o = 13 ∨ o = 14 ∨ o = 15 ∨ o = 16 ∨ o = 17 ∨ o = 18 ∨ o = 19 ∨ o = 20 ∨ o = 21 ∨ o = 22 ∨ o = 23 ∨ (o < 8 ∨ 23 < o) := by omega
theorem ap_out {o x y : Int} (h : o < 8 ∨ 23 < o) : apN o x y = (0, 7) := by
  unfold apN
  repeat' first
    | rw [if_neg (by omega)]
    | rfl
    | fail
theorem apply8 (x y : Int) : Pw cx 95 [.int .u8 8, .int .i64 x, .int .i64 y] (pairV (apN 8 x y)) := by
  have hp : pureL [AV.int .u8 8, .int .i64 x, .int .i64 y] = true := rfl
  have hd := divide_pw x y
  refine apply_w hp ?_
  by_cases hy : y = 0 <;> by_cases hx : x = 0
  all_goals repeat' first
    | refine br_yes (by omega) ?_
    | refine br_no (by omega) ?_
    | refine ⟨_, flag_pw _, ?_⟩
    | refine ⟨_, _, hd (by assumption), ?_⟩
    | (simp [pairV, apN, flagI, bitN, w64]; done)
    | (simp_all [pairV, apN, flagI, bitN, w64]; done)
    | refine br_mk (fun hb => ?_) (fun hb => ?_)
    | fail
theorem apply9 (x y : Int) : Pw cx 95 [.int .u8 9, .int .i64 x, .int .i64 y] (pairV (apN 9 x y)) := by
  have hp : pureL [AV.int .u8 9, .int .i64 x, .int .i64 y] = true := rfl
  have hd := divide_pw x y
  refine apply_w hp ?_
  by_cases hy : y = 0 <;> by_cases hx : x = 0
  all_goals repeat' first
    | refine br_yes (by omega) ?_
    | refine br_no (by omega) ?_
    | refine ⟨_, flag_pw _, ?_⟩
    | refine ⟨_, _, hd (by assumption), ?_⟩
    | (simp [pairV, apN, flagI, bitN, w64]; done)
    | (simp_all [pairV, apN, flagI, bitN, w64]; done)
    | refine br_mk (fun hb => ?_) (fun hb => ?_)
    | fail
theorem apply10 (x y : Int) : Pw cx 95 [.int .u8 10, .int .i64 x, .int .i64 y] (pairV (apN 10 x y)) := by
  have hp : pureL [AV.int .u8 10, .int .i64 x, .int .i64 y] = true := rfl
  have hd := divide_pw x y
  refine apply_w hp ?_
  by_cases hy : y = 0 <;> by_cases hx : x = 0
  all_goals repeat' first
    | refine br_yes (by omega) ?_
    | refine br_no (by omega) ?_
    | refine ⟨_, flag_pw _, ?_⟩
    | refine ⟨_, _, hd (by assumption), ?_⟩
    | (simp [pairV, apN, flagI, bitN, w64]; done)
    | (simp_all [pairV, apN, flagI, bitN, w64]; done)
    | refine br_mk (fun hb => ?_) (fun hb => ?_)
    | fail
theorem apply11 (x y : Int) : Pw cx 95 [.int .u8 11, .int .i64 x, .int .i64 y] (pairV (apN 11 x y)) := by
  have hp : pureL [AV.int .u8 11, .int .i64 x, .int .i64 y] = true := rfl
  have hd := divide_pw x y
  refine apply_w hp ?_
  by_cases hy : y = 0 <;> by_cases hx : x = 0
  all_goals repeat' first
    | refine br_yes (by omega) ?_
    | refine br_no (by omega) ?_
    | refine ⟨_, flag_pw _, ?_⟩
    | refine ⟨_, _, hd (by assumption), ?_⟩
    | (simp [pairV, apN, flagI, bitN, w64]; done)
    | (simp_all [pairV, apN, flagI, bitN, w64]; done)
    | refine br_mk (fun hb => ?_) (fun hb => ?_)
    | fail
theorem apply12 (x y : Int) : Pw cx 95 [.int .u8 12, .int .i64 x, .int .i64 y] (pairV (apN 12 x y)) := by
  have hp : pureL [AV.int .u8 12, .int .i64 x, .int .i64 y] = true := rfl
  have hd := divide_pw x y
  refine apply_w hp ?_
  by_cases hy : y = 0 <;> by_cases hx : x = 0
  all_goals repeat' first
    | refine br_yes (by omega) ?_
    | refine br_no (by omega) ?_
    | refine ⟨_, flag_pw _, ?_⟩
    | refine ⟨_, _, hd (by assumption), ?_⟩
    | (simp [pairV, apN, flagI, bitN, w64]; done)
    | (simp_all [pairV, apN, flagI, bitN, w64]; done)
    | refine br_mk (fun hb => ?_) (fun hb => ?_)
    | fail
theorem apply13 (x y : Int) : Pw cx 95 [.int .u8 13, .int .i64 x, .int .i64 y] (pairV (apN 13 x y)) := by
  have hp : pureL [AV.int .u8 13, .int .i64 x, .int .i64 y] = true := rfl
  have hd := divide_pw x y
  refine apply_w hp ?_
  by_cases hy : y = 0 <;> by_cases hx : x = 0
  all_goals repeat' first
    | refine br_yes (by omega) ?_
    | refine br_no (by omega) ?_
    | refine ⟨_, flag_pw _, ?_⟩
    | refine ⟨_, _, hd (by assumption), ?_⟩
    | (simp [pairV, apN, flagI, bitN, w64]; done)
    | (simp_all [pairV, apN, flagI, bitN, w64]; done)
    | refine br_mk (fun hb => ?_) (fun hb => ?_)
    | fail
theorem apply14 (x y : Int) : Pw cx 95 [.int .u8 14, .int .i64 x, .int .i64 y] (pairV (apN 14 x y)) := by
  have hp : pureL [AV.int .u8 14, .int .i64 x, .int .i64 y] = true := rfl
  have hd := divide_pw x y
  refine apply_w hp ?_
  by_cases hy : y = 0 <;> by_cases hx : x = 0
  all_goals repeat' first
    | refine br_yes (by omega) ?_
    | refine br_no (by omega) ?_
    | refine ⟨_, flag_pw _, ?_⟩
    | refine ⟨_, _, hd (by assumption), ?_⟩
    | (simp [pairV, apN, flagI, bitN, w64]; done)
    | (simp_all [pairV, apN, flagI, bitN, w64]; done)
    | refine br_mk (fun hb => ?_) (fun hb => ?_)
    | fail
theorem apply15 (x y : Int) : Pw cx 95 [.int .u8 15, .int .i64 x, .int .i64 y] (pairV (apN 15 x y)) := by
  have hp : pureL [AV.int .u8 15, .int .i64 x, .int .i64 y] = true := rfl
  have hd := divide_pw x y
  refine apply_w hp ?_
  by_cases hy : y = 0 <;> by_cases hx : x = 0
  all_goals repeat' first
    | refine br_yes (by omega) ?_
    | refine br_no (by omega) ?_
    | refine ⟨_, flag_pw _, ?_⟩
    | refine ⟨_, _, hd (by assumption), ?_⟩
    | (simp [pairV, apN, flagI, bitN, w64]; done)
    | (simp_all [pairV, apN, flagI, bitN, w64]; done)
    | refine br_mk (fun hb => ?_) (fun hb => ?_)
    | fail
theorem apply16 (x y : Int) : Pw cx 95 [.int .u8 16, .int .i64 x, .int .i64 y] (pairV (apN 16 x y)) := by
  have hp : pureL [AV.int .u8 16, .int .i64 x, .int .i64 y] = true := rfl
  have hd := divide_pw x y
  refine apply_w hp ?_
  by_cases hy : y = 0 <;> by_cases hx : x = 0
  all_goals repeat' first
    | refine br_yes (by omega) ?_
    | refine br_no (by omega) ?_
    | refine ⟨_, flag_pw _, ?_⟩
    | refine ⟨_, _, hd (by assumption), ?_⟩
    | (simp [pairV, apN, flagI, bitN, w64]; done)
    | (simp_all [pairV, apN, flagI, bitN, w64]; done)
    | refine br_mk (fun hb => ?_) (fun hb => ?_)
    | fail
theorem apply17 (x y : Int) : Pw cx 95 [.int .u8 17, .int .i64 x, .int .i64 y] (pairV (apN 17 x y)) := by
  have hp : pureL [AV.int .u8 17, .int .i64 x, .int .i64 y] = true := rfl
  have hd := divide_pw x y
  refine apply_w hp ?_
  by_cases hy : y = 0 <;> by_cases hx : x = 0
  all_goals repeat' first
    | refine br_yes (by omega) ?_
    | refine br_no (by omega) ?_
    | refine ⟨_, flag_pw _, ?_⟩
    | refine ⟨_, _, hd (by assumption), ?_⟩
    | (simp [pairV, apN, flagI, bitN, w64]; done)
    | (simp_all [pairV, apN, flagI, bitN, w64]; done)
    | refine br_mk (fun hb => ?_) (fun hb => ?_)
    | fail
theorem apply18 (x y : Int) : Pw cx 95 [.int .u8 18, .int .i64 x, .int .i64 y] (pairV (apN 18 x y)) := by
  have hp : pureL [AV.int .u8 18, .int .i64 x, .int .i64 y] = true := rfl
  have hd := divide_pw x y
  refine apply_w hp ?_
  by_cases hy : y = 0 <;> by_cases hx : x = 0
  all_goals repeat' first
    | refine br_yes (by omega) ?_
    | refine br_no (by omega) ?_
    | refine ⟨_, flag_pw _, ?_⟩
    | refine ⟨_, _, hd (by assumption), ?_⟩
    | (simp [pairV, apN, flagI, bitN, w64]; done)
    | (simp_all [pairV, apN, flagI, bitN, w64]; done)
    | refine br_mk (fun hb => ?_) (fun hb => ?_)
    | fail
theorem apply19 (x y : Int) : Pw cx 95 [.int .u8 19, .int .i64 x, .int .i64 y] (pairV (apN 19 x y)) := by
  have hp : pureL [AV.int .u8 19, .int .i64 x, .int .i64 y] = true := rfl
  have hd := divide_pw x y
  refine apply_w hp ?_
  by_cases hy : y = 0 <;> by_cases hx : x = 0
  all_goals repeat' first
    | refine br_yes (by omega) ?_
    | refine br_no (by omega) ?_
    | refine ⟨_, flag_pw _, ?_⟩
    | refine ⟨_, _, hd (by assumption), ?_⟩
    | (simp [pairV, apN, flagI, bitN, w64]; done)
    | (simp_all [pairV, apN, flagI, bitN, w64]; done)
    | refine br_mk (fun hb => ?_) (fun hb => ?_)
    | fail
theorem apply20 (x y : Int) : Pw cx 95 [.int .u8 20, .int .i64 x, .int .i64 y] (pairV (apN 20 x y)) := by
  have hp : pureL [AV.int .u8 20, .int .i64 x, .int .i64 y] = true := rfl
  have hd := divide_pw x y
  refine apply_w hp ?_
  by_cases hy : y = 0 <;> by_cases hx : x = 0
  all_goals repeat' first
    | refine br_yes (by omega) ?_
    | refine br_no (by omega) ?_
    | refine ⟨_, flag_pw _, ?_⟩
    | refine ⟨_, _, hd (by assumption), ?_⟩
    | (simp [pairV, apN, flagI, bitN, w64]; done)
    | (simp_all [pairV, apN, flagI, bitN, w64]; done)
    | refine br_mk (fun hb => ?_) (fun hb => ?_)
    | fail
theorem apply21 (x y : Int) : Pw cx 95 [.int .u8 21, .int .i64 x, .int .i64 y] (pairV (apN 21 x y)) := by
  have hp : pureL [AV.int .u8 21, .int .i64 x, .int .i64 y] = true := rfl
  have hd := divide_pw x y
  refine apply_w hp ?_
  by_cases hy : y = 0 <;> by_cases hx : x = 0
  all_goals repeat' first
    | refine br_yes (by omega) ?_
    | refine br_no (by omega) ?_
    | refine ⟨_, flag_pw _, ?_⟩
    | refine ⟨_, _, hd (by assumption), ?_⟩
    | (simp [pairV, apN, flagI, bitN, w64]; done)
    | (simp_all [pairV, apN, flagI, bitN, w64]; done)
    | refine br_mk (fun hb => ?_) (fun hb => ?_)
    | fail
theorem apply22 (x y : Int) : Pw cx 95 [.int .u8 22, .int .i64 x, .int .i64 y] (pairV (apN 22 x y)) := by
  have hp : pureL [AV.int .u8 22, .int .i64 x, .int .i64 y] = true := rfl
  have hd := divide_pw x y
  refine apply_w hp ?_
  by_cases hy : y = 0 <;> by_cases hx : x = 0
  all_goals repeat' first
    | refine br_yes (by omega) ?_
    | refine br_no (by omega) ?_
    | refine ⟨_, flag_pw _, ?_⟩
    | refine ⟨_, _, hd (by assumption), ?_⟩
    | (simp [pairV, apN, flagI, bitN, w64]; done)
    | (simp_all [pairV, apN, flagI, bitN, w64]; done)
    | refine br_mk (fun hb => ?_) (fun hb => ?_)
    | fail
theorem apply23 (x y : Int) : Pw cx 95 [.int .u8 23, .int .i64 x, .int .i64 y] (pairV (apN 23 x y)) := by
  have hp : pureL [AV.int .u8 23, .int .i64 x, .int .i64 y] = true := rfl
  have hd := divide_pw x y
  refine apply_w hp ?_
  by_cases hy : y = 0 <;> by_cases hx : x = 0
  all_goals repeat' first
    | refine br_yes (by omega) ?_
    | refine br_no (by omega) ?_
    | refine ⟨_, flag_pw _, ?_⟩
    | refine ⟨_, _, hd (by assumption), ?_⟩
    | (simp [pairV, apN, flagI, bitN, w64]; done)
    | (simp_all [pairV, apN, flagI, bitN, w64]; done)
    | refine br_mk (fun hb => ?_) (fun hb => ?_)
    | fail
theorem apply_pw (o x y : Int) : Pw cx 95 [.int .u8 o, .int .i64 x, .int .i64 y] (pairV (apN o x y)) := by
  rcases op_cases o with rfl | rfl | rfl | rfl | rfl | rfl | rfl | rfl | rfl | rfl | rfl | rfl | rfl | rfl | rfl | rfl | hout
  · exact apply8 x y
  · exact apply9 x y
  · exact apply10 x y
  · exact apply11 x y
  · exact apply12 x y
  · exact apply13 x y
  · exact apply14 x y
  · exact apply15 x y
  · exact apply16 x y
  · exact apply17 x y
  · exact apply18 x y
  · exact apply19 x y
  · exact apply20 x y
  · exact apply21 x y
  · exact apply22 x y
  · exact apply23 x y
  · rw [ap_out hout]
    have hp : pureL [AV.int .u8 o, .int .i64 x, .int .i64 y] = true := rfl
    refine apply_w hp ?_
    repeat' first
      | refine br_no (by omega) ?_
      | exact rfl
      | fail
theorem rapply8 (x y : Int) : Pw cx 65 [.int .u8 8, .int .i64 x, .int .i64 y] (pairV (apN 8 x y)) := by
  have hp : pureL [AV.int .u8 8, .int .i64 x, .int .i64 y] = true := rfl
  refine rapply_w hp ?_
  by_cases hy : y = 0 <;> by_cases hx : x = 0
  all_goals repeat' first
    | refine br_yes (by omega) ?_
    | refine br_no (by omega) ?_
    | refine ⟨_, truth_pw _, ?_⟩
    | (simp [pairV, apN, flagI, bitN, w64]; done)
    | (simp_all [pairV, apN, flagI, bitN, w64]; done)
    | refine br_mk (fun hb => ?_) (fun hb => ?_)
    | fail
theorem rapply9 (x y : Int) : Pw cx 65 [.int .u8 9, .int .i64 x, .int .i64 y] (pairV (apN 9 x y)) := by
  have hp : pureL [AV.int .u8 9, .int .i64 x, .int .i64 y] = true := rfl
  refine rapply_w hp ?_
  by_cases hy : y = 0 <;> by_cases hx : x = 0
  all_goals repeat' first
    | refine br_yes (by omega) ?_
    | refine br_no (by omega) ?_
    | refine ⟨_, truth_pw _, ?_⟩
    | (simp [pairV, apN, flagI, bitN, w64]; done)
    | (simp_all [pairV, apN, flagI, bitN, w64]; done)
    | refine br_mk (fun hb => ?_) (fun hb => ?_)
    | fail
theorem rapply10 (x y : Int) : Pw cx 65 [.int .u8 10, .int .i64 x, .int .i64 y] (pairV (apN 10 x y)) := by
  have hp : pureL [AV.int .u8 10, .int .i64 x, .int .i64 y] = true := rfl
  refine rapply_w hp ?_
  by_cases hy : y = 0 <;> by_cases hx : x = 0
  all_goals repeat' first
    | refine br_yes (by omega) ?_
    | refine br_no (by omega) ?_
    | refine ⟨_, truth_pw _, ?_⟩
    | (simp [pairV, apN, flagI, bitN, w64]; done)
    | (simp_all [pairV, apN, flagI, bitN, w64]; done)
    | refine br_mk (fun hb => ?_) (fun hb => ?_)
    | fail
theorem rapply11 (x y : Int) : Pw cx 65 [.int .u8 11, .int .i64 x, .int .i64 y] (pairV (apN 11 x y)) := by
  have hp : pureL [AV.int .u8 11, .int .i64 x, .int .i64 y] = true := rfl
  refine rapply_w hp ?_
  by_cases hy : y = 0 <;> by_cases hx : x = 0
  all_goals repeat' first
    | refine br_yes (by omega) ?_
    | refine br_no (by omega) ?_
    | refine ⟨_, truth_pw _, ?_⟩
    | (simp [pairV, apN, flagI, bitN, w64]; done)
    | (simp_all [pairV, apN, flagI, bitN, w64]; done)
    | refine br_mk (fun hb => ?_) (fun hb => ?_)
    | fail
theorem rapply12 (x y : Int) : Pw cx 65 [.int .u8 12, .int .i64 x, .int .i64 y] (pairV (apN 12 x y)) := by
  have hp : pureL [AV.int .u8 12, .int .i64 x, .int .i64 y] = true := rfl
  refine rapply_w hp ?_
  by_cases hy : y = 0 <;> by_cases hx : x = 0
  all_goals repeat' first
    | refine br_yes (by omega) ?_
    | refine br_no (by omega) ?_
    | refine ⟨_, truth_pw _, ?_⟩
    | (simp [pairV, apN, flagI, bitN, w64]; done)
    | (simp_all [pairV, apN, flagI, bitN, w64]; done)
    | refine br_mk (fun hb => ?_) (fun hb => ?_)
    | fail
theorem rapply13 (x y : Int) : Pw cx 65 [.int .u8 13, .int .i64 x, .int .i64 y] (pairV (apN 13 x y)) := by
  have hp : pureL [AV.int .u8 13, .int .i64 x, .int .i64 y] = true := rfl
  refine rapply_w hp ?_
  by_cases hy : y = 0 <;> by_cases hx : x = 0
  all_goals repeat' first
    | refine br_yes (by omega) ?_
    | refine br_no (by omega) ?_
    | refine ⟨_, truth_pw _, ?_⟩
    | (simp [pairV, apN, flagI, bitN, w64]; done)
    | (simp_all [pairV, apN, flagI, bitN, w64]; done)
    | refine br_mk (fun hb => ?_) (fun hb => ?_)
    | fail
theorem rapply14 (x y : Int) : Pw cx 65 [.int .u8 14, .int .i64 x, .int .i64 y] (pairV (apN 14 x y)) := by
  have hp : pureL [AV.int .u8 14, .int .i64 x, .int .i64 y] = true := rfl
  refine rapply_w hp ?_
  by_cases hy : y = 0 <;> by_cases hx : x = 0
  all_goals repeat' first
    | refine br_yes (by omega) ?_
    | refine br_no (by omega) ?_
    | refine ⟨_, truth_pw _, ?_⟩
    | (simp [pairV, apN, flagI, bitN, w64]; done)
    | (simp_all [pairV, apN, flagI, bitN, w64]; done)
    | refine br_mk (fun hb => ?_) (fun hb => ?_)
    | fail
theorem rapply15 (x y : Int) : Pw cx 65 [.int .u8 15, .int .i64 x, .int .i64 y] (pairV (apN 15 x y)) := by
  have hp : pureL [AV.int .u8 15, .int .i64 x, .int .i64 y] = true := rfl
  refine rapply_w hp ?_
  by_cases hy : y = 0 <;> by_cases hx : x = 0
  all_goals repeat' first
    | refine br_yes (by omega) ?_
    | refine br_no (by omega) ?_
    | refine ⟨_, truth_pw _, ?_⟩
    | (simp [pairV, apN, flagI, bitN, w64]; done)
    | (simp_all [pairV, apN, flagI, bitN, w64]; done)
    | refine br_mk (fun hb => ?_) (fun hb => ?_)
    | fail
theorem rapply16 (x y : Int) : Pw cx 65 [.int .u8 16, .int .i64 x, .int .i64 y] (pairV (apN 16 x y)) := by
  have hp : pureL [AV.int .u8 16, .int .i64 x, .int .i64 y] = true := rfl
  refine rapply_w hp ?_
  by_cases hy : y = 0 <;> by_cases hx : x = 0
  all_goals repeat' first
    | refine br_yes (by omega) ?_
    | refine br_no (by omega) ?_
    | refine ⟨_, truth_pw _, ?_⟩
    | (simp [pairV, apN, flagI, bitN, w64]; done)
    | (simp_all [pairV, apN, flagI, bitN, w64]; done)
    | refine br_mk (fun hb => ?_) (fun hb => ?_)
    | fail
theorem rapply17 (x y : Int) : Pw cx 65 [.int .u8 17, .int .i64 x, .int .i64 y] (pairV (apN 17 x y)) := by
  have hp : pureL [AV.int .u8 17, .int .i64 x, .int .i64 y] = true := rfl
  refine rapply_w hp ?_
  by_cases hy : y = 0 <;> by_cases hx : x = 0
  all_goals repeat' first
    | refine br_yes (by omega) ?_
    | refine br_no (by omega) ?_
    | refine ⟨_, truth_pw _, ?_⟩
    | (simp [pairV, apN, flagI, bitN, w64]; done)
    | (simp_all [pairV, apN, flagI, bitN, w64]; done)
    | refine br_mk (fun hb => ?_) (fun hb => ?_)
    | fail
theorem rapply18 (x y : Int) : Pw cx 65 [.int .u8 18, .int .i64 x, .int .i64 y] (pairV (apN 18 x y)) := by
  have hp : pureL [AV.int .u8 18, .int .i64 x, .int .i64 y] = true := rfl
  refine rapply_w hp ?_
  by_cases hy : y = 0 <;> by_cases hx : x = 0
  all_goals repeat' first
    | refine br_yes (by omega) ?_
    | refine br_no (by omega) ?_
    | refine ⟨_, truth_pw _, ?_⟩
    | (simp [pairV, apN, flagI, bitN, w64]; done)
    | (simp_all [pairV, apN, flagI, bitN, w64]; done)
    | refine br_mk (fun hb => ?_) (fun hb => ?_)
    | fail
theorem rapply19 (x y : Int) : Pw cx 65 [.int .u8 19, .int .i64 x, .int .i64 y] (pairV (apN 19 x y)) := by
  have hp : pureL [AV.int .u8 19, .int .i64 x, .int .i64 y] = true := rfl
  refine rapply_w hp ?_
  by_cases hy : y = 0 <;> by_cases hx : x = 0
  all_goals repeat' first
    | refine br_yes (by omega) ?_
    | refine br_no (by omega) ?_
    | refine ⟨_, truth_pw _, ?_⟩
    | (simp [pairV, apN, flagI, bitN, w64]; done)
    | (simp_all [pairV, apN, flagI, bitN, w64]; done)
    | refine br_mk (fun hb => ?_) (fun hb => ?_)
    | fail
theorem rapply20 (x y : Int) : Pw cx 65 [.int .u8 20, .int .i64 x, .int .i64 y] (pairV (apN 20 x y)) := by
  have hp : pureL [AV.int .u8 20, .int .i64 x, .int .i64 y] = true := rfl
  refine rapply_w hp ?_
  by_cases hy : y = 0 <;> by_cases hx : x = 0
  all_goals repeat' first
    | refine br_yes (by omega) ?_
    | refine br_no (by omega) ?_
    | refine ⟨_, truth_pw _, ?_⟩
    | (simp [pairV, apN, flagI, bitN, w64]; done)
    | (simp_all [pairV, apN, flagI, bitN, w64]; done)
    | refine br_mk (fun hb => ?_) (fun hb => ?_)
    | fail
theorem rapply21 (x y : Int) : Pw cx 65 [.int .u8 21, .int .i64 x, .int .i64 y] (pairV (apN 21 x y)) := by
  have hp : pureL [AV.int .u8 21, .int .i64 x, .int .i64 y] = true := rfl
  refine rapply_w hp ?_
  by_cases hy : y = 0 <;> by_cases hx : x = 0
  all_goals repeat' first
    | refine br_yes (by omega) ?_
    | refine br_no (by omega) ?_
    | refine ⟨_, truth_pw _, ?_⟩
    | (simp [pairV, apN, flagI, bitN, w64]; done)
    | (simp_all [pairV, apN, flagI, bitN, w64]; done)
    | refine br_mk (fun hb => ?_) (fun hb => ?_)
    | fail
theorem rapply22 (x y : Int) : Pw cx 65 [.int .u8 22, .int .i64 x, .int .i64 y] (pairV (apN 22 x y)) := by
  have hp : pureL [AV.int .u8 22, .int .i64 x, .int .i64 y] = true := rfl
  refine rapply_w hp ?_
  by_cases hy : y = 0 <;> by_cases hx : x = 0
  all_goals repeat' first
    | refine br_yes (by omega) ?_
    | refine br_no (by omega) ?_
    | refine ⟨_, truth_pw _, ?_⟩
    | (simp [pairV, apN, flagI, bitN, w64]; done)
    | (simp_all [pairV, apN, flagI, bitN, w64]; done)
    | refine br_mk (fun hb => ?_) (fun hb => ?_)
    | fail
theorem rapply23 (x y : Int) : Pw cx 65 [.int .u8 23, .int .i64 x, .int .i64 y] (pairV (apN 23 x y)) := by
  have hp : pureL [AV.int .u8 23, .int .i64 x, .int .i64 y] = true := rfl
  refine rapply_w hp ?_
  by_cases hy : y = 0 <;> by_cases hx : x = 0
  all_goals repeat' first
    | refine br_yes (by omega) ?_
    | refine br_no (by omega) ?_
    | refine ⟨_, truth_pw _, ?_⟩
    | (simp [pairV, apN, flagI, bitN, w64]; done)
    | (simp_all [pairV, apN, flagI, bitN, w64]; done)
    | refine br_mk (fun hb => ?_) (fun hb => ?_)
    | fail
theorem rapply_pw (o x y : Int) : Pw cx 65 [.int .u8 o, .int .i64 x, .int .i64 y] (pairV (apN o x y)) := by
  rcases op_cases o with rfl | rfl | rfl | rfl | rfl | rfl | rfl | rfl | rfl | rfl | rfl | rfl | rfl | rfl | rfl | rfl | hout
  · exact rapply8 x y
  · exact rapply9 x y
  · exact rapply10 x y
  · exact rapply11 x y
  · exact rapply12 x y
  · exact rapply13 x y
  · exact rapply14 x y
  · exact rapply15 x y
  · exact rapply16 x y
  · exact rapply17 x y
  · exact rapply18 x y
  · exact rapply19 x y
  · exact rapply20 x y
  · exact rapply21 x y
  · exact rapply22 x y
  · exact rapply23 x y
  · rw [ap_out hout]
    have hp : pureL [AV.int .u8 o, .int .i64 x, .int .i64 y] = true := rfl
    refine rapply_w hp ?_
    repeat' first
      | refine br_no (by omega) ?_
      | exact rfl
      | fail
theorem unary_pw (o x : Int) : Pw cx 94 [.int .u8 o, .int .i64 x] (pairV (unN o x)) := by
  refine unary_w rfl (br_mk (fun h => ?_) (fun h => br_mk (fun h2 => ⟨_, flag_pw _, ?_⟩) (fun h2 => ?_))) <;> simp_all [pairV, unN, w64]
theorem runary_pw (o x : Int) : Pw cx 64 [.int .u8 o, .int .i64 x] (pairV (unN o x)) := by
  refine runary_w rfl (br_mk (fun h => ?_) (fun h => br_mk (fun h2 => ⟨_, truth_pw _, ?_⟩) (fun h2 => ?_))) <;> simp_all [pairV, unN, w64]

/-! ### Values of expressions -/
def varN (cs : List Cel) (k : Int) (s : ByteArray) (r : Int × Int) : Int × Int := match cellC s cs with
  | none => (0, 6)
  | some c =>
    if k = 2 then (if (c.l.length : Int) = 1 then (c.l.getD 0 0, 0) else (0, 7))
    else if k = 4 then (if (c.l.length : Int) = 0 then (0, 13) else (c.l.getD (c.l.length - 1) 0, 0))
    else if k = 5 then ((c.l.length : Int), 0)
    else if r.2 ≠ 0 then (0, r.2)
    else if r.1 < 0 ∨ (c.l.length : Int) ≤ r.1 then (0, 12) else (c.l.getD r.1.toNat 0, 0)
def evN (cs : List Cel) (k num : Int) (s : ByteArray) (rs : List (Int × Int)) : Int × Int :=
  if k = 1 then (num, 0)
  else if k = 2 ∨ k = 3 ∨ k = 4 ∨ k = 5 then varN cs k s (rs.getD 0 (0, 0))
  else if (rs.getD 0 (0, 0)).2 ≠ 0 then (0, (rs.getD 0 (0, 0)).2)
  else if k = 6 ∨ k = 7 then unN k (rs.getD 0 (0, 0)).1
  else if (rs.getD 1 (0, 0)).2 ≠ 0 then (0, (rs.getD 1 (0, 0)).2)
  else apN k (rs.getD 0 (0, 0)).1 (rs.getD 1 (0, 0)).1
mutual
def evT (cs : List Cel) : Tr → Int × Int
  | .mk k num s _ _ kids => evN cs k num s (evL cs kids)
def evL (cs : List Cel) : List Tr → List (Int × Int)
  | [] => []
  | t :: ts => evT cs t :: evL cs ts
end
theorem cellC_ok {cs : List Cel} (ho : ∀ c ∈ cs, c.ok) {t : ByteArray} : ∀ {c : Cel}, cellC t cs = some c → c.ok := by
  induction cs with
  | nil => intro c h; simp [cellC] at h
  | cons a cs ih =>
    intro c h
    unfold cellC at h
    split at h
    · cases h; exact ho _ (by simp)
    · exact ih (fun c hc => ho c (List.mem_cons_of_mem _ hc)) h
theorem iav_at {l : List Int} {i : Nat} (h : i < l.length) : (iavs l)[i]? = some (.int .i64 (l.getD i 0)) := by
  rw [iavs_get, List.getElem?_eq_getElem h]
  simp [List.getD_eq_getElem?_getD, List.getElem?_eq_getElem h, iav]
theorem var_pw {zc fc : Bool} {cs : List Cel} (hb : cs.length ≤ maxLen) (ho : ∀ c ∈ cs, c.ok) {k num : Int} {s : ByteArray} {z fl : Bool} {kids : List Tr} {r : Int × Int}
    (h0 : k ≠ 2 → k ≠ 4 → k ≠ 5 → ∃ t, kids[0]? = some t ∧ Pw cx 60 [lkup zc fc cs, t.av] (pairV r)) :
    Pw cx 93 [lkup zc fc cs, nd k num s (.seq z fl 4 (avs kids))] (pairV (varN cs k s r)) := by
  have hp : pureL [lkup zc fc cs, nd k num s (.seq z fl 4 (avs kids))] = true := by simp [pureL, AV.pure, avs_pure, lkup_pure]
  have hl := lookup1_pw (zc := zc) (fc := fc) (t := s) hb
  unfold lkA at hl
  unfold varN
  cases hc : cellC s cs with
  | none => rw [hc] at hl; dsimp only at hl; exact var_w hp (.inr ⟨hl, rfl⟩)
  | some c =>
    rw [hc] at hl
    dsimp only at hl ⊢
    have hco := (cellC_ok ho hc).2
    have hml := maxLen_le
    refine var_w hp (.inl ⟨_, _, _, _, hl, br_f rfl ?_⟩)
    rw [iavs_length]
    by_cases k2 : k = 2
    · rw [if_pos k2]
      refine br_yes k2 ?_
      by_cases h1 : (c.l.length : Int) = 1
      · rw [if_pos h1]
        exact br_f (by simp [h1]) ⟨_, iav_at (by omega), rfl⟩
      · rw [if_neg h1]
        exact br_t (by simp [h1]) rfl
    rw [if_neg k2]
    refine br_no k2 ?_
    by_cases k4 : k = 4
    · rw [if_pos k4]
      refine br_yes k4 ?_
      by_cases h1 : (c.l.length : Int) = 0
      · rw [if_pos h1]
        exact br_yes h1 rfl
      · rw [if_neg h1]
        have hn : Int.toNat ((c.l.length : Int) - 1) = c.l.length - 1 := by omega
        exact br_no h1 (br_yes (wrap_in (by omega) (by omega)) (br_yes (by omega) ⟨_, by rw [hn]; exact iav_at (by omega), rfl⟩))
    rw [if_neg k4]
    refine br_no k4 ?_
    by_cases k5 : k = 5
    · rw [if_pos k5]
      exact br_yes k5 rfl
    rw [if_neg k5]
    refine br_no k5 ?_
    obtain ⟨t, ht, hq⟩ := h0 k2 k4 k5
    cases t with
    | mk k' num' s' z' fl' kids' =>
      have hg : (avs kids)[0]? = some (Tr.mk k' num' s' z' fl' kids').av := by rw [avs_get, ht]; rfl
      refine ⟨_, _, _, _, _, _, hg, _, _, hq, ?_⟩
      by_cases e0 : r.2 ≠ 0
      · rw [if_pos e0]
        exact br_t (by simp [e0]) rfl
      · rw [if_neg e0]
        refine br_f (by simpa using e0) ?_
        by_cases r0 : r.1 < 0
        · rw [if_pos (.inl r0)]
          exact br_yes r0 rfl
        by_cases r1 : (c.l.length : Int) ≤ r.1
        · rw [if_pos (.inr r1)]
          exact br_no r0 (br_yes r1 rfl)
        · rw [if_neg (by omega)]
          exact br_no r0 (br_no r1 (br_yes (by omega) ⟨_, iav_at (by omega), rfl⟩))
theorem rvar_pw {zc fc : Bool} {cs : List Cel} (hb : cs.length ≤ maxLen) (ho : ∀ c ∈ cs, c.ok) {k num : Int} {s : ByteArray} {z fl : Bool} {kids : List Tr} {r : Int × Int}
    (h0 : k ≠ 2 → k ≠ 4 → k ≠ 5 → ∃ t, kids[0]? = some t ∧ Pw cx 26 [t.av, .seq zc fc 2 (cavs cs)] (pairV r)) :
    Pw cx 63 [nd k num s (.seq z fl 4 (avs kids)), .seq zc fc 2 (cavs cs)] (pairV (varN cs k s r)) := by
  have hp : pureL [nd k num s (.seq z fl 4 (avs kids)), .seq zc fc 2 (cavs cs)] = true := by simp [pureL, AV.pure, avs_pure, cavs_pure]
  have h1 := find_pw (zc := zc) (fc := fc) (t := s) hb
  have h2 := findC_get s cs 0
  unfold varN
  cases hf : findC s cs 0 with
  | none =>
    rw [hf] at h1 h2
    rw [h2]
    exact rvar_w hp ⟨_, h1, br_yes (by decide) rfl⟩
  | some j =>
    rw [hf] at h1 h2
    obtain ⟨q, hq, c, hcg, hc⟩ := h2
    have hjq : j = q := by omega
    subst hjq
    rw [hc]
    dsimp only at h1 ⊢
    have hco := (cellC_ok ho hc).2
    have hml := maxLen_le
    have hg0 : (cavs cs)[Int.toNat ((j : Nat) : Int)]? = some c.av := by rw [Int.toNat_natCast, cavs_get, hcg]; rfl
    refine rvar_w hp ⟨_, h1, br_no (show ¬ ((j : Nat) : Int) < 0 by omega) (br_yes (show 0 ≤ ((j : Nat) : Int) by omega) ⟨_, _, _, _, hg0, ?_⟩)⟩
    rw [iavs_length]
    by_cases k2 : k = 2
    · rw [if_pos k2]
      refine br_yes k2 ?_
      by_cases h1 : (c.l.length : Int) = 1
      · rw [if_pos h1]
        exact br_f (by simp [h1]) ⟨_, iav_at (by omega), rfl⟩
      · rw [if_neg h1]
        exact br_t (by simp [h1]) rfl
    rw [if_neg k2]
    refine br_no k2 ?_
    by_cases k5 : k = 5
    · have k4 : k ≠ 4 := by omega
      rw [if_neg k4, if_pos k5]
      exact br_yes k5 rfl
    refine br_no k5 ?_
    by_cases k4 : k = 4
    · rw [if_pos k4]
      refine br_yes k4 ?_
      by_cases h1 : (c.l.length : Int) = 0
      · rw [if_pos h1]
        exact br_yes h1 rfl
      · rw [if_neg h1]
        have hn : Int.toNat ((c.l.length : Int) - 1) = c.l.length - 1 := by omega
        exact br_no h1 (br_yes (wrap_in (by omega) (by omega)) (br_yes (by omega) ⟨_, by rw [hn]; exact iav_at (by omega), rfl⟩))
    rw [if_neg k4, if_neg k5]
    refine br_no k4 ?_
    obtain ⟨t, ht, hq⟩ := h0 k2 k4 k5
    cases t with
    | mk k' num' s' z' fl' kids' =>
      have hg : (avs kids)[0]? = some (Tr.mk k' num' s' z' fl' kids').av := by rw [avs_get, ht]; rfl
      refine ⟨_, _, _, _, _, _, hg, _, _, hq, ?_⟩
      by_cases e0 : r.2 ≠ 0
      · rw [if_pos e0]
        exact br_t (by simp [e0]) rfl
      · rw [if_neg e0]
        refine br_f (by simpa using e0) ?_
        by_cases r0 : r.1 < 0
        · rw [if_pos (.inl r0)]
          exact br_yes r0 rfl
        by_cases r1 : (c.l.length : Int) ≤ r.1
        · rw [if_pos (.inr r1)]
          exact br_no r0 (br_yes r1 rfl)
        · rw [if_neg (by omega)]
          exact br_no r0 (br_no r1 (br_yes (by omega) ⟨_, iav_at (by omega), rfl⟩))
end Go.Ab
