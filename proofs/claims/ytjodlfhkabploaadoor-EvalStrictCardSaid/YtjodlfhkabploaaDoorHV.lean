/- Expressions evaluated: the program's and the reference's answer; laws of layer 13 over abstract values. -/
import Derived.Test.YtjodlfhkabploaaDoorHT
import Derived.Test.YtjodlfhkabploaaDoorHU
set_option linter.unusedVariables false
set_option linter.unusedSimpArgs false
namespace Go.Ab
open Go Go.Proofs

/-- What is known of a valid expression's node. -/
theorem exprB_shape {k num : Int} {s : ByteArray} {l : Nat} {all : Bool} (h : exprB k num s l all = true) :
    k = 1 ∨ ((k = 2 ∨ k = 4 ∨ k = 5) ∧ l = 0) ∨ (k = 3 ∧ l = 1 ∧ all = true) ∨ ((k = 6 ∨ k = 7) ∧ l = 1 ∧ all = true) ∨ (8 ≤ k ∧ k ≤ 23 ∧ l = 2 ∧ all = true) := by
  unfold exprB at h
  split at h
  · rename_i h1; exact .inl h1
  · split at h
    · rename_i h1; simp at h; exact .inr (.inl ⟨h1, h.2⟩)
    · split at h
      · rename_i h1; simp at h; exact .inr (.inr (.inl ⟨h1, h.2.1, h.2.2⟩))
      · split at h
        · rename_i h1; simp at h; exact .inr (.inr (.inr (.inl ⟨h1, h.2.1, h.2.2⟩)))
        · split at h
          · rename_i h1; simp at h; exact .inr (.inr (.inr (.inr ⟨h1.1, h1.2, h.2.1, h.2.2⟩)))
          · cases h
theorem br_by {p : Prop} [Decidable p] {T E : Prop} (h : p → T) (k : ¬p → E) : br (decide p) T E := by
  by_cases hp : p
  · exact br_yes hp (h hp)
  · exact br_no hp (k hp)
theorem nd1 {ts : List Tr} (h : ts.length = 1) : ∃ a, ts = [a] := by
  match ts, h with
  | [a], _ => exact ⟨a, rfl⟩
theorem nd2 {ts : List Tr} (h : ts.length = 2) : ∃ a b, ts = [a, b] := by
  match ts, h with
  | [a, b], _ => exact ⟨a, b, rfl⟩
/-- A node's value out of its children's. -/
theorem expr_node {zc fc : Bool} {cs : List Cel} (hb : cs.length ≤ maxLen) (ho : ∀ c ∈ cs, c.ok) {k num : Int} {s : ByteArray} {z fl : Bool} {kids : List Tr} (hw : exprB k num s kids.length (allExpr kids) = true)
    (h0 : allExpr kids = true → ∀ t ∈ kids, Pw cx 60 [lkup zc fc cs, t.av] (pairV (evT cs t))) :
    Pw cx 60 [lkup zc fc cs, nd k num s (.seq z fl 4 (avs kids))] (pairV (evN cs k num s (evL cs kids))) := by
  have hp : pureL [lkup zc fc cs, nd k num s (.seq z fl 4 (avs kids))] = true := by simp [pureL, AV.pure, avs_pure, lkup_pure]
  have hun := unary_pw k
  have hap := apply_pw k
  refine expr_w hp ?_
  rcases exprB_shape hw with h | ⟨h, hl⟩ | ⟨h, hl, ha⟩ | ⟨h, hl, ha⟩ | ⟨h1, h2, hl, ha⟩
  · exact br_yes h (by simp [evN, h, pairV])
  · have hv := var_pw (zc := zc) (fc := fc) hb ho (k := k) (num := num) (s := s) (z := z) (fl := fl) (kids := kids) (r := ((evL cs kids).getD 0 (0, 0))) (fun h2 h4 h5 => by omega)
    have e : evN cs k num s (evL cs kids) = varN cs k s ((evL cs kids).getD 0 (0, 0)) := by unfold evN; rw [if_neg (by omega), if_pos (by omega)]
    rw [e]
    repeat' first
      | refine br_yes (by omega) ?_
      | refine br_no (by omega) ?_
      | exact ⟨_, _, hv, rfl⟩
      | refine br_by (fun hx => ?_) (fun hx => ?_)
      | (exfalso; omega)
      | fail
  · obtain ⟨a, rfl⟩ := nd1 hl
    have hv := var_pw (zc := zc) (fc := fc) hb ho (k := k) (num := num) (s := s) (z := z) (fl := fl) (kids := [a]) (r := evT cs a) (fun h2 h4 h5 => ⟨a, rfl, h0 ha a (by simp)⟩)
    have e : evN cs k num s (evL cs [a]) = varN cs k s (evT cs a) := by unfold evN; rw [if_neg (by omega), if_pos (by omega)]; rfl
    rw [e]
    repeat' first
      | refine br_yes (by omega) ?_
      | refine br_no (by omega) ?_
      | exact ⟨_, _, hv, rfl⟩
      | refine br_by (fun hx => ?_) (fun hx => ?_)
      | (exfalso; omega)
      | fail
  · obtain ⟨a, rfl⟩ := nd1 hl
    have hq := h0 ha a (by simp)
    have e : evN cs k num s (evL cs [a]) = if (evT cs a).2 ≠ 0 then (0, (evT cs a).2) else unN k (evT cs a).1 := by
      unfold evN; rw [if_neg (by omega), if_neg (by omega)]
      show (if (evT cs a).2 ≠ 0 then _ else _) = _
      rw [if_pos (show k = 6 ∨ k = 7 by omega)]; rfl
    rw [e]
    cases a with
    | mk k' num' s' z' fl' kids' =>
      have hg : (avs [Tr.mk k' num' s' z' fl' kids'])[0]? = some (Tr.mk k' num' s' z' fl' kids').av := rfl
      generalize evT cs (.mk k' num' s' z' fl' kids') = r at hq ⊢
      have leaf : (∃ n1 n2, Pw cx 94 [.int .u8 k, .int .i64 r.1] (.tup [.int .i64 n1, .int .i64 n2]) ∧ AV.tup [.int .i64 n1, .int .i64 n2] = pairV (unN k r.1)) := ⟨_, _, hun r.1, rfl⟩
      by_cases e0 : r.2 = 0
      · rw [if_neg (by simpa using e0)]
        repeat' first
          | refine br_yes (by omega) ?_
          | refine br_no (by omega) ?_
          | exact ⟨_, _, _, _, _, _, hg, _, _, hq, br_f (by simp [e0]) leaf⟩
          | refine br_by (fun hx => ?_) (fun hx => ?_)
          | (exfalso; omega)
          | fail
      · rw [if_pos e0]
        repeat' first
          | refine br_yes (by omega) ?_
          | refine br_no (by omega) ?_
          | exact ⟨_, _, _, _, _, _, hg, _, _, hq, br_t (by simp [e0]) rfl⟩
          | refine br_by (fun hx => ?_) (fun hx => ?_)
          | (exfalso; omega)
          | fail
  · obtain ⟨a, b, rfl⟩ := nd2 hl
    have hq := h0 ha a (by simp)
    have hq2 := h0 ha b (by simp)
    have e : evN cs k num s (evL cs [a, b]) = if (evT cs a).2 ≠ 0 then (0, (evT cs a).2) else if (evT cs b).2 ≠ 0 then (0, (evT cs b).2) else apN k (evT cs a).1 (evT cs b).1 := by
      unfold evN; rw [if_neg (by omega), if_neg (by omega)]
      show (if (evT cs a).2 ≠ 0 then _ else _) = _
      rw [if_neg (show ¬ (k = 6 ∨ k = 7) by omega)]; rfl
    rw [e]
    cases a with
    | mk k' num' s' z' fl' kids' =>
    cases b with
    | mk k2 num2 s2 z2 fl2 kids2 =>
      have hg : (avs [Tr.mk k' num' s' z' fl' kids', Tr.mk k2 num2 s2 z2 fl2 kids2])[0]? = some (Tr.mk k' num' s' z' fl' kids').av := rfl
      have hg2 : (avs [Tr.mk k' num' s' z' fl' kids', Tr.mk k2 num2 s2 z2 fl2 kids2])[1]? = some (Tr.mk k2 num2 s2 z2 fl2 kids2).av := rfl
      generalize evT cs (.mk k' num' s' z' fl' kids') = r at hq ⊢
      generalize evT cs (.mk k2 num2 s2 z2 fl2 kids2) = q at hq2 ⊢
      by_cases e0 : r.2 = 0
      · rw [if_neg (by simpa using e0)]
        by_cases e1 : q.2 = 0
        · rw [if_neg (by simpa using e1)]
          repeat' first
            | refine br_yes (by omega) ?_
            | refine br_no (by omega) ?_
            | exact ⟨_, _, _, _, _, _, hg, _, _, hq, br_f (by simp [e0]) ⟨_, _, _, _, _, _, hg2, _, _, hq2, br_f (by simp [e1]) ⟨_, _, hap r.1 q.1, rfl⟩⟩⟩
            | refine br_by (fun hx => ?_) (fun hx => ?_)
            | (exfalso; omega)
            | fail
        · rw [if_pos e1]
          repeat' first
            | refine br_yes (by omega) ?_
            | refine br_no (by omega) ?_
            | exact ⟨_, _, _, _, _, _, hg, _, _, hq, br_f (by simp [e0]) ⟨_, _, _, _, _, _, hg2, _, _, hq2, br_t (by simp [e1]) rfl⟩⟩
            | refine br_by (fun hx => ?_) (fun hx => ?_)
            | (exfalso; omega)
            | fail
      · rw [if_pos e0]
        repeat' first
          | refine br_yes (by omega) ?_
          | refine br_no (by omega) ?_
          | exact ⟨_, _, _, _, _, _, hg, _, _, hq, br_t (by simp [e0]) rfl⟩
          | refine br_by (fun hx => ?_) (fun hx => ?_)
          | (exfalso; omega)
          | fail
/-- And the reference's. -/
theorem rexpr_node {zc fc : Bool} {cs : List Cel} (hb : cs.length ≤ maxLen) (ho : ∀ c ∈ cs, c.ok) {k num : Int} {s : ByteArray} {z fl : Bool} {kids : List Tr} (hw : exprB k num s kids.length (allExpr kids) = true)
    (h0 : allExpr kids = true → ∀ t ∈ kids, Pw cx 26 [t.av, .seq zc fc 2 (cavs cs)] (pairV (evT cs t))) :
    Pw cx 26 [nd k num s (.seq z fl 4 (avs kids)), .seq zc fc 2 (cavs cs)] (pairV (evN cs k num s (evL cs kids))) := by
  have hp : pureL [nd k num s (.seq z fl 4 (avs kids)), .seq zc fc 2 (cavs cs)] = true := by simp [pureL, AV.pure, avs_pure, cavs_pure]
  have hun := runary_pw k
  have hap := rapply_pw k
  refine rEval_w hp ?_
  rcases exprB_shape hw with h | ⟨h, hl⟩ | ⟨h, hl, ha⟩ | ⟨h, hl, ha⟩ | ⟨h1, h2, hl, ha⟩
  · exact br_yes h (by simp [evN, h, pairV])
  · have hv := rvar_pw (zc := zc) (fc := fc) hb ho (k := k) (num := num) (s := s) (z := z) (fl := fl) (kids := kids) (r := ((evL cs kids).getD 0 (0, 0))) (fun h2 h4 h5 => by omega)
    have e : evN cs k num s (evL cs kids) = varN cs k s ((evL cs kids).getD 0 (0, 0)) := by unfold evN; rw [if_neg (by omega), if_pos (by omega)]
    rw [e]
    repeat' first
      | refine br_yes (by omega) ?_
      | refine br_no (by omega) ?_
      | exact ⟨_, _, hv, rfl⟩
      | refine br_by (fun hx => ?_) (fun hx => ?_)
      | (exfalso; omega)
      | fail
  · obtain ⟨a, rfl⟩ := nd1 hl
    have hv := rvar_pw (zc := zc) (fc := fc) hb ho (k := k) (num := num) (s := s) (z := z) (fl := fl) (kids := [a]) (r := evT cs a) (fun h2 h4 h5 => ⟨a, rfl, h0 ha a (by simp)⟩)
    have e : evN cs k num s (evL cs [a]) = varN cs k s (evT cs a) := by unfold evN; rw [if_neg (by omega), if_pos (by omega)]; rfl
    rw [e]
    repeat' first
      | refine br_yes (by omega) ?_
      | refine br_no (by omega) ?_
      | exact ⟨_, _, hv, rfl⟩
      | refine br_by (fun hx => ?_) (fun hx => ?_)
      | (exfalso; omega)
      | fail
  · obtain ⟨a, rfl⟩ := nd1 hl
    have hq := h0 ha a (by simp)
    have e : evN cs k num s (evL cs [a]) = if (evT cs a).2 ≠ 0 then (0, (evT cs a).2) else unN k (evT cs a).1 := by
      unfold evN; rw [if_neg (by omega), if_neg (by omega)]
      show (if (evT cs a).2 ≠ 0 then _ else _) = _
      rw [if_pos (show k = 6 ∨ k = 7 by omega)]; rfl
    rw [e]
    cases a with
    | mk k' num' s' z' fl' kids' =>
      have hg : (avs [Tr.mk k' num' s' z' fl' kids'])[0]? = some (Tr.mk k' num' s' z' fl' kids').av := rfl
      generalize evT cs (.mk k' num' s' z' fl' kids') = r at hq ⊢
      have leaf : (∃ n1 n2, Pw cx 64 [.int .u8 k, .int .i64 r.1] (.tup [.int .i64 n1, .int .i64 n2]) ∧ AV.tup [.int .i64 n1, .int .i64 n2] = pairV (unN k r.1)) := ⟨_, _, hun r.1, rfl⟩
      by_cases e0 : r.2 = 0
      · rw [if_neg (by simpa using e0)]
        repeat' first
          | refine br_yes (by omega) ?_
          | refine br_no (by omega) ?_
          | exact ⟨_, _, _, _, _, _, hg, _, _, hq, br_f (by simp [e0]) leaf⟩
          | refine br_by (fun hx => ?_) (fun hx => ?_)
          | (exfalso; omega)
          | fail
      · rw [if_pos e0]
        repeat' first
          | refine br_yes (by omega) ?_
          | refine br_no (by omega) ?_
          | exact ⟨_, _, _, _, _, _, hg, _, _, hq, br_t (by simp [e0]) rfl⟩
          | refine br_by (fun hx => ?_) (fun hx => ?_)
          | (exfalso; omega)
          | fail
  · obtain ⟨a, b, rfl⟩ := nd2 hl
    have hq := h0 ha a (by simp)
    have hq2 := h0 ha b (by simp)
    have e : evN cs k num s (evL cs [a, b]) = if (evT cs a).2 ≠ 0 then (0, (evT cs a).2) else if (evT cs b).2 ≠ 0 then (0, (evT cs b).2) else apN k (evT cs a).1 (evT cs b).1 := by
      unfold evN; rw [if_neg (by omega), if_neg (by omega)]
      show (if (evT cs a).2 ≠ 0 then _ else _) = _
      rw [if_neg (show ¬ (k = 6 ∨ k = 7) by omega)]; rfl
    rw [e]
    cases a with
    | mk k' num' s' z' fl' kids' =>
    cases b with
    | mk k2 num2 s2 z2 fl2 kids2 =>
      have hg : (avs [Tr.mk k' num' s' z' fl' kids', Tr.mk k2 num2 s2 z2 fl2 kids2])[0]? = some (Tr.mk k' num' s' z' fl' kids').av := rfl
      have hg2 : (avs [Tr.mk k' num' s' z' fl' kids', Tr.mk k2 num2 s2 z2 fl2 kids2])[1]? = some (Tr.mk k2 num2 s2 z2 fl2 kids2).av := rfl
      generalize evT cs (.mk k' num' s' z' fl' kids') = r at hq ⊢
      generalize evT cs (.mk k2 num2 s2 z2 fl2 kids2) = q at hq2 ⊢
      by_cases e0 : r.2 = 0
      · rw [if_neg (by simpa using e0)]
        by_cases e1 : q.2 = 0
        · rw [if_neg (by simpa using e1)]
          repeat' first
            | refine br_yes (by omega) ?_
            | refine br_no (by omega) ?_
            | exact ⟨_, _, _, _, _, _, hg, _, _, hq, br_f (by simp [e0]) ⟨_, _, _, _, _, _, hg2, _, _, hq2, br_f (by simp [e1]) ⟨_, _, hap r.1 q.1, rfl⟩⟩⟩
            | refine br_by (fun hx => ?_) (fun hx => ?_)
            | (exfalso; omega)
            | fail
        · rw [if_pos e1]
          repeat' first
            | refine br_yes (by omega) ?_
            | refine br_no (by omega) ?_
            | exact ⟨_, _, _, _, _, _, hg, _, _, hq, br_f (by simp [e0]) ⟨_, _, _, _, _, _, hg2, _, _, hq2, br_t (by simp [e1]) rfl⟩⟩
            | refine br_by (fun hx => ?_) (fun hx => ?_)
            | (exfalso; omega)
            | fail
      · rw [if_pos e0]
        repeat' first
          | refine br_yes (by omega) ?_
          | refine br_no (by omega) ?_
          | exact ⟨_, _, _, _, _, _, hg, _, _, hq, br_t (by simp [e0]) rfl⟩
          | refine br_by (fun hx => ?_) (fun hx => ?_)
          | (exfalso; omega)
          | fail
mutual
theorem expr_pw {zc fc : Bool} {cs : List Cel} (hb : cs.length ≤ maxLen) (ho : ∀ c ∈ cs, c.ok) : ∀ t : Tr, isExpr t = true → Pw cx 60 [lkup zc fc cs, t.av] (pairV (evT cs t))
  | .mk k num s z fl kids, h => by
    have hw : exprB k num s kids.length (allExpr kids) = true := by rw [isExpr] at h; exact h
    have e : evT cs (.mk k num s z fl kids) = evN cs k num s (evL cs kids) := by rw [evT]
    rw [e]
    exact expr_node hb ho hw (exprs_pw2 hb ho kids)
theorem exprs_pw2 {zc fc : Bool} {cs : List Cel} (hb : cs.length ≤ maxLen) (ho : ∀ c ∈ cs, c.ok) : ∀ ts : List Tr, allExpr ts = true → ∀ t ∈ ts, Pw cx 60 [lkup zc fc cs, t.av] (pairV (evT cs t))
  | [], _, t, ht => by simp at ht
  | u :: ts, h, t, ht => by
    rw [allExpr, Bool.and_eq_true] at h
    rcases List.mem_cons.1 ht with he | ht
    · rw [he]; exact expr_pw hb ho u h.1
    · exact exprs_pw2 hb ho ts h.2 t ht
end
mutual
theorem rEval_pw {zc fc : Bool} {cs : List Cel} (hb : cs.length ≤ maxLen) (ho : ∀ c ∈ cs, c.ok) : ∀ t : Tr, isExpr t = true → Pw cx 26 [t.av, .seq zc fc 2 (cavs cs)] (pairV (evT cs t))
  | .mk k num s z fl kids, h => by
    have hw : exprB k num s kids.length (allExpr kids) = true := by rw [isExpr] at h; exact h
    have e : evT cs (.mk k num s z fl kids) = evN cs k num s (evL cs kids) := by rw [evT]
    rw [e]
    exact rexpr_node hb ho hw (rEvals_pw hb ho kids)
theorem rEvals_pw {zc fc : Bool} {cs : List Cel} (hb : cs.length ≤ maxLen) (ho : ∀ c ∈ cs, c.ok) : ∀ ts : List Tr, allExpr ts = true → ∀ t ∈ ts, Pw cx 26 [t.av, .seq zc fc 2 (cavs cs)] (pairV (evT cs t))
  | [], _, t, ht => by simp at ht
  | u :: ts, h, t, ht => by
    rw [allExpr, Bool.and_eq_true] at h
    rcases List.mem_cons.1 ht with he | ht
    · rw [he]; exact rEval_pw hb ho u h.1
    · exact rEvals_pw hb ho ts h.2 t ht
end
/-- What eval.Expr answers. -/
def exprA (cs : List Cel) (t : Tr) : Int × Int := if isExpr t then evT cs t else (0, 3)
theorem evalExpr_pw {zc fc : Bool} {cs : List Cel} (hb : cs.length ≤ maxLen) (ho : ∀ c ∈ cs, c.ok) (t : Tr) (hk : t.ok) : Pw cx 22 [t.av, lkup zc fc cs] (pairV (exprA cs t)) := by
  have h1 := isExpr_pw t hk
  have h2 := expr_pw (zc := zc) (fc := fc) hb ho t
  unfold exprA
  generalize isExpr t = b at h1 h2 ⊢
  generalize evT cs t = r at h2 ⊢
  obtain ⟨k, num, s, z, fl, kids⟩ := t
  have hp : pureL [nd k num s (.seq z fl 4 (avs kids)), lkup zc fc cs] = true := by simp [pureL, AV.pure, avs_pure, lkup_pure]
  cases b with
  | false => exact evalExpr_w hp ⟨_, h1, br_t rfl rfl⟩
  | true => exact evalExpr_w hp ⟨_, h1, br_f rfl ⟨_, _, h2 rfl, rfl⟩⟩
theorem evalTest_pw {zc fc : Bool} {cs : List Cel} (hb : cs.length ≤ maxLen) (ho : ∀ c ∈ cs, c.ok) (t : Tr) (hk : t.ok) : Pw cx 25 [t.av, lkup zc fc cs] (.tup [.bool (!decide ((exprA cs t).1 = 0)), .int .i64 (exprA cs t).2]) := by
  have h1 := evalExpr_pw (zc := zc) (fc := fc) hb ho t hk
  generalize exprA cs t = r at h1 ⊢
  obtain ⟨k, num, s, z, fl, kids⟩ := t
  have hp : pureL [nd k num s (.seq z fl 4 (avs kids)), lkup zc fc cs] = true := by simp [pureL, AV.pure, avs_pure, lkup_pure]
  exact evalTest_w hp ⟨_, _, h1, rfl⟩
/-! ### An error comes with the value 0 -/
theorem ap_zero (o x y : Int) : (apN o x y).2 ≠ 0 → (apN o x y).1 = 0 := by
  rcases op_cases o with rfl | rfl | rfl | rfl | rfl | rfl | rfl | rfl | rfl | rfl | rfl | rfl | rfl | rfl | rfl | rfl | hout
  case inr.inr.inr.inr.inr.inr.inr.inr.inr.inr.inr.inr.inr.inr.inr.inr => rw [ap_out hout]; simp
  all_goals by_cases hy : y = 0
  all_goals simp [apN, hy]
theorem un_zero (o x : Int) : (unN o x).2 ≠ 0 → (unN o x).1 = 0 := by
  unfold unN
  by_cases h1 : o = 6 <;> by_cases h2 : o = 7 <;> simp [h1, h2]
theorem var_zero (cs : List Cel) (k : Int) (s : ByteArray) (r : Int × Int) : (varN cs k s r).2 ≠ 0 → (varN cs k s r).1 = 0 := by
  unfold varN
  cases cellC s cs with
  | none => simp
  | some c =>
    dsimp only
    repeat' first
      | (split)
      | fail
    all_goals simp
theorem evN_zero (cs : List Cel) (k num : Int) (s : ByteArray) (rs : List (Int × Int)) : (evN cs k num s rs).2 ≠ 0 → (evN cs k num s rs).1 = 0 := by
  unfold evN
  split
  · simp
  split
  · exact var_zero _ _ _ _
  split
  · simp
  split
  · exact un_zero _ _
  split
  · simp
  · exact ap_zero _ _ _
theorem ev_zero (cs : List Cel) (t : Tr) (h : isExpr t = true) (e : ¬ (evT cs t).2 = 0) : (evT cs t).1 = 0 := by
  cases t with
  | mk k num s z fl kids =>
    rw [evT] at e ⊢
    exact evN_zero _ _ _ _ _ e
end Go.Ab
