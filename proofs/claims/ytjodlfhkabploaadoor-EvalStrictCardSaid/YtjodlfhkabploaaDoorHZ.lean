/- Laws of layer 13 over abstract values, third part: EvalStrict. -/
import Derived.Test.YtjodlfhkabploaaDoorLD
set_option linter.unusedVariables false
set_option linter.unusedSimpArgs false
namespace Go.Ab
open Go Go.Proofs

/-! ### EvalStrict -/
def nilS : ByteArray := ByteArray.mk #[]
def bin2 (o : Int) (a b : Tr) : Tr := .mk o 0 nilS false true [a, b]
theorem bin2_expr {o : Int} {a b : Tr} (h : 8 ≤ o ∧ o ≤ 23) (ha : isExpr a = true) (hb : isExpr b = true) : isExpr (bin2 o a b) = true := by
  rw [bin2, isExpr]
  unfold exprB
  rw [if_neg (by omega), if_neg (by omega), if_neg (by omega), if_neg (by omega), if_pos h]
  simp [allExpr, ha, hb, emptyS, nilS]
theorem bin2_ev {o : Int} {a b : Tr} (h : 8 ≤ o ∧ o ≤ 23) (cs : List Cel) : evT cs (bin2 o a b) = if (evT cs a).2 ≠ 0 then (0, (evT cs a).2) else if (evT cs b).2 ≠ 0 then (0, (evT cs b).2) else apN o (evT cs a).1 (evT cs b).1 := by
  rw [bin2, evT]
  unfold evN
  rw [if_neg (by omega), if_neg (by omega)]
  show (if (evT cs a).2 ≠ 0 then _ else _) = _
  rw [if_neg (show ¬ (o = 6 ∨ o = 7) by omega)]
  rfl
def sx : ByteArray := ByteArray.mk #[120]
def sy : ByteArray := ByteArray.mk #[121]
/-- A variable as the law writes it: its children are the nil of a literal. -/
def leafV (s : ByteArray) : AV := nd 2 0 s (.seq true true 0 [])
def cel2 (a b : Int) : List Cel := [Cel.mk sx false true [a], Cel.mk sy false true [b]]
theorem leaf_x (a b : Int) : Pw cx 60 [lkup false true (cel2 a b), leafV sx] (.tup [.int .i64 a, .int .i64 0]) := Pw.of_ev (n := 80) rfl (by kernel_rfl)
theorem leaf_y (a b : Int) : Pw cx 60 [lkup false true (cel2 a b), leafV sy] (.tup [.int .i64 b, .int .i64 0]) := Pw.of_ev (n := 80) rfl (by kernel_rfl)
theorem leaf_exprs : Pw cx 59 [.seq false true 4 [leafV sx, leafV sy], .int .i64 2] (.bool true) := Pw.of_ev (n := 150) rfl (by kernel_rfl)
theorem two_pw {o : Int} (h : 8 ≤ o ∧ o ≤ 23) (a b : Int) : Pw cx 22 [nd o 0 nilS (.seq false true 4 [leafV sx, leafV sy]), lkup false true (cel2 a b)] (pairV (apN o a b)) := by
  have hx : pureL [leafV sx, leafV sy] = true := rfl
  have hp : pureL [nd o 0 nilS (.seq false true 4 [leafV sx, leafV sy])] = true := nd_pure hx
  have hb : Pw cx 57 [nd o 0 nilS (.seq false true 4 [leafV sx, leafV sy])] (.bool true) := bare_w hp rfl
  have i1 : Pw cx 20 [nd o 0 nilS (.seq false true 4 [leafV sx, leafV sy])] (.bool true) :=
    isExpr_w hp (br_no (by omega) (br_no (by omega) (br_no (by omega) (br_no (by omega) (br_no (by omega) (br_no (by omega) (br_no (by omega) (br_yes (by omega) (br_yes (by omega) ⟨_, hb, br_t rfl (br_t rfl ⟨_, leaf_exprs, rfl⟩)⟩)))))))))
  have hp2 : pureL [lkup false true (cel2 a b), nd o 0 nilS (.seq false true 4 [leafV sx, leafV sy])] = true := rfl
  have hp3 : pureL [nd o 0 nilS (.seq false true 4 [leafV sx, leafV sy]), lkup false true (cel2 a b)] = true := rfl
  have hap := apply_pw o a b
  have e1 : Pw cx 60 [lkup false true (cel2 a b), nd o 0 nilS (.seq false true 4 [leafV sx, leafV sy])] (pairV (apN o a b)) :=
    expr2_w hp2 (br_no (by omega) (br_no (by omega) (br_no (by omega) (br_no (by omega) (br_no (by omega) (br_no (by omega) (br_no (by omega) ⟨_, _, leaf_x a b, br_f rfl ⟨_, _, leaf_y a b, br_f rfl ⟨_, _, hap, rfl⟩⟩⟩)))))))
  exact evalExpr_w hp3 ⟨_, i1, br_f rfl ⟨_, _, e1, rfl⟩⟩
theorem lawStrict_pw (o : Int) (x y : Tr) (zc fc : Bool) (cs : List Cel) (ho' : 0 ≤ o ∧ o ≤ 255) (hx : x.ok) (hy : y.ok) (hb : cs.length ≤ maxLen) (ho : ∀ c ∈ cs, c.ok) : Pw cx 4 [.int .u8 o, x.av, y.av, .seq zc fc 2 (cavs cs)] (.bool true) := by
  obtain ⟨r, hg⟩ := greatE_pw x hx (zc := zc) (fc := fc) hb
  obtain ⟨r2, hg2⟩ := greatE_pw y hy (zc := zc) (fc := fc) hb
  have i1 := isExpr_pw x hx
  have i2 := isExpr_pw y hy
  have hlk := lookup_pw zc fc cs
  have e1 := evalExpr_pw (zc := zc) (fc := fc) hb ho x hx
  have e2 := evalExpr_pw (zc := zc) (fc := fc) hb ho y hy
  unfold exprA at e1 e2
  have hp : pureL [.int .u8 o, x.av, y.av, .seq zc fc 2 (cavs cs)] = true := by simp [pureL, AV.pure, cavs_pure, av_pure]
  by_cases hox : 8 ≤ o ∧ o ≤ 23
  case neg =>
    obtain ⟨k, num, s, z, fl, kids⟩ := x
    obtain ⟨ka, na, sa, za, fa, kidsa⟩ := y
    refine lawStrict_w hp ⟨_, aw13_pw, br_f rfl ⟨_, hg, br_mk (fun _ => rfl) (fun _ => ⟨_, hg2, br_mk (fun _ => rfl) (fun _ => ⟨_, i1, br_mk (fun _ => rfl) (fun _ => ⟨_, i2, br_mk (fun _ => rfl) (fun _ => ?_)⟩)⟩)⟩)⟩⟩
    by_cases h1 : o < 8
    · exact br_yes h1 rfl
    · exact br_no h1 (br_yes (by omega) rfl)
  cases hix : isExpr x with
  | false =>
    rw [hix] at i1
    obtain ⟨k, num, s, z, fl, kids⟩ := x
    obtain ⟨ka, na, sa, za, fa, kidsa⟩ := y
    exact lawStrict_w hp ⟨_, aw13_pw, br_f rfl ⟨_, hg, br_mk (fun _ => rfl) (fun _ => ⟨_, hg2, br_mk (fun _ => rfl) (fun _ => ⟨_, i1, br_t rfl rfl⟩)⟩)⟩⟩
  | true =>
  cases hiy : isExpr y with
  | false =>
    rw [hix] at i1
    rw [hiy] at i2
    obtain ⟨k, num, s, z, fl, kids⟩ := x
    obtain ⟨ka, na, sa, za, fa, kidsa⟩ := y
    exact lawStrict_w hp ⟨_, aw13_pw, br_f rfl ⟨_, hg, br_mk (fun _ => rfl) (fun _ => ⟨_, hg2, br_mk (fun _ => rfl) (fun _ => ⟨_, i1, br_f rfl ⟨_, i2, br_t rfl rfl⟩⟩)⟩)⟩⟩
  | true =>
  rw [hix] at i1 e1
  rw [hiy] at i2 e2
  rw [if_pos rfl] at e1 e2
  have hok : (bin2 o x y).ok := by
    refine ⟨?_, by decide, Nat.zero_le _, by have := maxLen_ge; simp; omega, ⟨hx, hy, trivial⟩⟩
    simp only [Lit.wf, Bool.and_eq_true, decide_eq_true_eq]
    have h1 : IntKind.u8.min = 0 := by decide +kernel
    have h2 : IntKind.u8.max = 255 := by decide +kernel
    omega
  have i3 := isExpr_pw (bin2 o x y) hok
  rw [bin2_expr hox hix hiy] at i3
  have e3 := evalExpr_pw (zc := zc) (fc := fc) hb ho (bin2 o x y) hok
  unfold exprA at e3
  rw [bin2_expr hox hix hiy, if_pos rfl, bin2_ev hox] at e3
  generalize evT cs x = a at e1 e3
  generalize evT cs y = b at e2 e3
  -- the variables that stand for the operands
  have hml := maxLen_ge
  have e4 := two_pw hox a.1 b.1
  have hl2 := lookup_pw false true (cel2 a.1 b.1)
  obtain ⟨k, num, s, z, fl, kids⟩ := x
  obtain ⟨ka, na, sa, za, fa, kidsa⟩ := y
  refine lawStrict_w hp ⟨_, aw13_pw, br_f rfl ⟨_, hg, br_mk (fun _ => rfl) (fun _ => ⟨_, hg2, br_mk (fun _ => rfl) (fun _ => ⟨_, i1, br_f rfl ⟨_, i2, br_f rfl (br_no (by omega) (br_no (by omega) ⟨_, i3, br_f rfl ⟨_, _, _, hlk, _, _, e1, _, _, _, hlk, _, _, e2, _, _, _, hlk, _, _, e3, ?_⟩⟩))⟩⟩)⟩)⟩⟩
  by_cases a0 : a.2 = 0
  · refine br_f (by simp [a0]) ?_
    rw [if_neg (by simpa using a0)]
    by_cases b0 : b.2 = 0
    · rw [if_neg (by simpa using b0)]
      exact br_f (by simp [b0]) ⟨_, _, _, hl2, _, _, e4, br_yes rfl (by rw [dec_eq])⟩
    · rw [if_pos b0]
      exact br_t (by simp [b0]) (br_yes rfl (by rw [dec_eq]))
  · rw [if_pos a0]
    exact br_t (by simp [a0]) (br_yes rfl (by rw [dec_eq]))
theorem lawStrict_go (o : Int) (x y : Tr) (c : CelL) (ho : (Lit.int .u8 o).wf = true) (hx : x.ok) (hy : y.ok) (hc : c.ok) : Pw cx 4 [.int .u8 o, x.av, y.av, c.av] (.bool true) := by
  have h : 0 ≤ o ∧ o ≤ 255 := by
    simp only [Lit.wf, Bool.and_eq_true, decide_eq_true_eq] at ho
    have h1 : IntKind.u8.min = 0 := by decide +kernel
    have h2 : IntKind.u8.max = 255 := by decide +kernel
    omega
  exact lawStrict_pw o x y c.z c.z c.l h hx hy hc.1 hc.2

end Go.Ab
