/- Constants: the program's and the reference's answer; the law ConstfoldConst over abstract values. -/
import Derived.Test.YtjodlfhkabploaaDoorLA
import Derived.Test.YtjodlfhkabploaaDoorHY
set_option linter.unusedVariables false
set_option linter.unusedSimpArgs false
namespace Go.Ab
open Go Go.Proofs
theorem aw07_pw : Pw cx 32 [] (.bool true) := Pw.of_ev (n := 150) rfl (by kernel_rfl)

theorem closed_loop {k num : Int} {s : ByteArray} {z fl : Bool} {ts : List Tr} (hb : ts.length ≤ maxLen) (h0 : ∀ t ∈ ts, Pw cx 70 [t.av] (.bool (!varsT t))) : ∀ (us : List Tr) (i : Nat), ts.drop i = us →
    (match varsL us with
      | true => ∃ g, closed_r_L k num s z fl (avs ts) i .ret [.bool false] (bx k num s z fl (avs ts) :: g)
      | false => closed_r_L k num s z fl (avs ts) i (.exit 0) [.bool false] [bx k num s z fl (avs ts)])
  | [], i, hd => by
    have := drop_nil hd
    exact closed_r fun e => br_no (by rw [avs_length]; omega) ⟨rfl, rfl, rfl⟩
  | .mk k' num' s' z' fl' kids :: us, i, hd => by
    obtain ⟨g1, g2, g3⟩ := drop_cons hd
    have hg : (avs ts)[i]? = some (Tr.mk k' num' s' z' fl' kids).av := by rw [avs_get, g1]; rfl
    have hl : ((i : Nat) : Int) < ((avs ts).length : Nat) := by rw [avs_length]; omega
    have hq := h0 _ (List.mem_of_getElem? g1)
    have ih := closed_loop (k := k) (num := num) (s := s) (z := z) (fl := fl) hb h0 us (i + 1) g3
    rw [varsL]
    cases hc : varsT (.mk k' num' s' z' fl' kids) with
    | true => rw [hc] at hq; exact ⟨[], closed_r fun e => br_yes hl ⟨_, _, _, _, _, _, hg, _, hq, br_t rfl ⟨rfl, rfl, rfl⟩⟩⟩
    | false =>
      rw [hc] at hq
      rw [Bool.false_or]
      have go : ∀ {x : Exit} {w : AV} {m' : Mem}, closed_r_L k num s z fl (avs ts) (i + 1) x [w] m' → closed_r_L k num s z fl (avs ts) i x [w] m' := fun h =>
        closed_r fun e => br_yes hl ⟨_, _, _, _, _, _, hg, _, hq, br_f rfl (br_yes (wrap_up (by have := maxLen_le; omega)) h)⟩
      cases hv : varsL us with
      | true => rw [hv] at ih; obtain ⟨g, ih⟩ := ih; exact ⟨g, go ih⟩
      | false => rw [hv] at ih; exact go ih
mutual
theorem closed_pw : ∀ t : Tr, t.ok → Pw cx 70 [t.av] (.bool (!varsT t))
  | .mk k num s z fl kids, ho => by
    obtain ⟨_, _, hsz, hl, hk⟩ := ho
    have hlp := closed_loop (k := k) (num := num) (s := s) (z := z) (fl := fl) hl (closeds_pw kids hk) kids 0 rfl
    have hp : pureL [(Tr.mk k num s z fl kids).av] = true := nd_pure (avs_pure kids)
    rw [varsT]
    by_cases hx : 2 ≤ k ∧ k ≤ 5
    · refine closed_w hp ?_
      have e : (!(decide (2 ≤ k) && decide (k ≤ 5) || varsL kids)) = false := by simp [hx.1, hx.2]
      rw [e]
      refine br_by (fun _ => rfl) fun h2 => br_by (fun _ => rfl) fun h3 => br_by (fun _ => rfl) fun h4 => br_yes (by omega) rfl
    · have e : (!(decide (2 ≤ k) && decide (k ≤ 5) || varsL kids)) = !(varsL kids) := by
        have : (decide (2 ≤ k) && decide (k ≤ 5)) = false := by simp; omega
        rw [this, Bool.false_or]
      rw [e]
      refine closed_w hp (br_no (by omega) (br_no (by omega) (br_no (by omega) (br_no (by omega) ?_))))
      cases hv : varsL kids with
      | true =>
        rw [hv] at hlp
        obtain ⟨g, hlp⟩ := hlp
        exact .inl ⟨_, _, hlp, fun e => rfl⟩
      | false =>
        rw [hv] at hlp
        exact .inr ⟨_, hlp, fun e => rfl⟩
theorem closeds_pw : ∀ ts : List Tr, okL ts → ∀ t ∈ ts, Pw cx 70 [t.av] (.bool (!varsT t))
  | [], _, t, ht => by simp at ht
  | u :: ts, h, t, ht => by
    rcases List.mem_cons.1 ht with he | ht
    · rw [he]; exact closed_pw u h.1
    · exact closeds_pw ts h.2 t ht
end
/-- The reference's value of an expression without variables. -/
theorem refEval_node {k num : Int} {s : ByteArray} {z fl : Bool} {kids : List Tr} (hw : exprB k num s kids.length (allExpr kids) = true) (hv : ¬ (2 ≤ k ∧ k ≤ 5))
    (h0 : allExpr kids = true → ∀ t ∈ kids, Pw cx 40 [t.av, .nilmp] (pairV (evT [] t))) :
    Pw cx 40 [nd k num s (.seq z fl 4 (avs kids)), .nilmp] (pairV (evN [] k num s (evL [] kids))) := by
  have hp : pureL [nd k num s (.seq z fl 4 (avs kids)), .nilmp] = true := by simp [pureL, AV.pure, avs_pure]
  have hun := runary_pw k
  have hap := rapply_pw k
  refine refEval_w hp ?_
  rw [avs_length]
  rcases exprB_shape hw with h | ⟨h, hl⟩ | ⟨h, hl, ha⟩ | ⟨h, hl, ha⟩ | ⟨h1, h2, hl, ha⟩
  · have hl : kids.length = 0 := by
      unfold exprB at hw
      rw [if_pos h] at hw
      simp at hw
      rw [hw.2]; rfl
    have e : evN [] k num s (evL [] kids) = (num, 0) := by simp [evN, h]
    rw [e]
    exact br_no (by omega) (br_no (by omega) (br_yes h rfl))
  · omega
  · omega
  · obtain ⟨a, rfl⟩ := nd1 hl
    have hq := h0 ha a (by simp)
    have e : evN [] k num s (evL [] [a]) = if (evT [] a).2 ≠ 0 then (0, (evT [] a).2) else unN k (evT [] a).1 := by
      unfold evN; rw [if_neg (by omega), if_neg (by omega)]
      show (if (evT [] a).2 ≠ 0 then _ else _) = _
      rw [if_pos (show k = 6 ∨ k = 7 by omega)]; rfl
    rw [e]
    cases a with
    | mk k' num' s' z' fl' kids' =>
      have hg : (avs [Tr.mk k' num' s' z' fl' kids'])[0]? = some (Tr.mk k' num' s' z' fl' kids').av := rfl
      generalize evT [] (.mk k' num' s' z' fl' kids') = r at hq ⊢
      have leaf : (∃ n1 n2, Pw cx 64 [.int .u8 k, .int .i64 r.1] (.tup [.int .i64 n1, .int .i64 n2]) ∧ AV.tup [.int .i64 n1, .int .i64 n2] = pairV (unN k r.1)) := ⟨_, _, hun r.1, rfl⟩
      refine br_yes (by simp) ⟨_, _, _, _, _, _, hg, _, _, hq, ?_⟩
      by_cases e0 : r.2 = 0
      · rw [if_neg (by simpa using e0)]
        refine br_f (by simp [e0]) (br_no (by simp) (br_no (by omega) (br_no (by omega) (br_no (by omega) (br_no (by omega) (br_no (by omega) (br_by (fun _ => leaf) (fun h6 => br_yes (by omega) leaf))))))))
      · rw [if_pos e0]
        exact br_t (by simp [e0]) rfl
  · obtain ⟨a, b, rfl⟩ := nd2 hl
    have hq := h0 ha a (by simp)
    have hq2 := h0 ha b (by simp)
    have e : evN [] k num s (evL [] [a, b]) = if (evT [] a).2 ≠ 0 then (0, (evT [] a).2) else if (evT [] b).2 ≠ 0 then (0, (evT [] b).2) else apN k (evT [] a).1 (evT [] b).1 := by
      unfold evN; rw [if_neg (by omega), if_neg (by omega)]
      show (if (evT [] a).2 ≠ 0 then _ else _) = _
      rw [if_neg (show ¬ (k = 6 ∨ k = 7) by omega)]; rfl
    rw [e]
    cases a with
    | mk k' num' s' z' fl' kids' =>
    cases b with
    | mk k2 num2 s2 z2 fl2 kids2 =>
      have hg : (avs [Tr.mk k' num' s' z' fl' kids', Tr.mk k2 num2 s2 z2 fl2 kids2])[0]? = some (Tr.mk k' num' s' z' fl' kids').av := rfl
      have hg2 : (avs [Tr.mk k' num' s' z' fl' kids', Tr.mk k2 num2 s2 z2 fl2 kids2])[1]? = some (Tr.mk k2 num2 s2 z2 fl2 kids2).av := rfl
      generalize evT [] (.mk k' num' s' z' fl' kids') = r at hq ⊢
      generalize evT [] (.mk k2 num2 s2 z2 fl2 kids2) = q at hq2 ⊢
      refine br_yes (by simp) ⟨_, _, _, _, _, _, hg, _, _, hq, ?_⟩
      by_cases e0 : r.2 = 0
      · rw [if_neg (by simpa using e0)]
        refine br_f (by simp [e0]) (br_yes (by simp) ⟨_, _, _, _, _, _, hg2, _, _, hq2, ?_⟩)
        by_cases e1 : q.2 = 0
        · rw [if_neg (by simpa using e1)]
          exact br_f (by simp [e1]) (br_no (by omega) (br_no (by omega) (br_no (by omega) (br_no (by omega) (br_no (by omega) (br_no (by omega) (br_no (by omega) ⟨_, _, hap r.1 q.1, rfl⟩)))))))
        · rw [if_pos e1]
          exact br_t (by simp [e1]) rfl
      · rw [if_pos e0]
        exact br_t (by simp [e0]) rfl
theorem vars_cons {k num : Int} {s : ByteArray} {z fl : Bool} {kids : List Tr} (h : varsT (.mk k num s z fl kids) = false) : ¬ (2 ≤ k ∧ k ≤ 5) ∧ varsL kids = false := by
  rw [varsT] at h
  simp only [Bool.or_eq_false_iff, Bool.and_eq_false_iff, decide_eq_false_iff_not] at h
  exact ⟨by omega, h.2⟩
mutual
theorem refEval_pw : ∀ t : Tr, isExpr t = true → varsT t = false → Pw cx 40 [t.av, .nilmp] (pairV (evT [] t))
  | .mk k num s z fl kids, h, hv => by
    have hw : exprB k num s kids.length (allExpr kids) = true := by rw [isExpr] at h; exact h
    have e : evT [] (.mk k num s z fl kids) = evN [] k num s (evL [] kids) := by rw [evT]
    rw [e]
    obtain ⟨v1, v2⟩ := vars_cons hv
    exact refEval_node hw v1 (fun ha => refEvals_pw kids ha v2)
theorem refEvals_pw : ∀ ts : List Tr, allExpr ts = true → varsL ts = false → ∀ t ∈ ts, Pw cx 40 [t.av, .nilmp] (pairV (evT [] t))
  | [], _, _, t, ht => by simp at ht
  | u :: ts, h, hv, t, ht => by
    rw [allExpr, Bool.and_eq_true] at h
    rw [varsL, Bool.or_eq_false_iff] at hv
    rcases List.mem_cons.1 ht with he | ht
    · rw [he]; exact refEval_pw u h.1 hv.1
    · exact refEvals_pw ts h.2 hv.2 t ht
end
/-- What the reference's Const answers. -/
def rconstA (t : Tr) : Int × Bool := if isExpr t && !varsT t then ((evT [] t).1, decide ((evT [] t).2 = 0)) else (0, false)
theorem rconst_pw (t : Tr) (hk : t.ok) : Pw cx 34 [t.av] (valV (rconstA t)) := by
  have h1 := rexpr_pw t hk
  have h2 := closed_pw t hk
  have h3 := refEval_pw t
  unfold rconstA
  generalize isExpr t = b at h1 h3 ⊢
  generalize varsT t = v at h2 h3 ⊢
  generalize evT [] t = r at h3 ⊢
  obtain ⟨k, num, s, z, fl, kids⟩ := t
  have hp : pureL [nd k num s (.seq z fl 4 (avs kids))] = true := nd_pure (avs_pure kids)
  cases b with
  | false => exact refConst_w hp ⟨_, h1, br_t rfl rfl⟩
  | true =>
    cases v with
    | true => exact refConst_w hp ⟨_, h1, br_f rfl ⟨_, h2, br_t rfl rfl⟩⟩
    | false => exact refConst_w hp ⟨_, h1, br_f rfl ⟨_, h2, br_f rfl ⟨_, _, h3 rfl rfl, rfl⟩⟩⟩
/-- The program's constant is the reference's. -/
theorem valN_vars {k num : Int} {l : Nat} {rs : List (Int × Bool)} (h : 2 ≤ k ∧ k ≤ 5) : valN k num l rs = (0, false) := by
  unfold valN; rw [if_neg (by omega), if_pos (by omega)]
mutual
theorem val_same : ∀ t : Tr, isExpr t = true → valT t = if varsT t then (0, false) else ((evT [] t).1, decide ((evT [] t).2 = 0))
  | .mk k num s z fl kids, h => by
    have hw : exprB k num s kids.length (allExpr kids) = true := by rw [isExpr] at h; exact h
    have ih := val_sames kids
    rw [valT, varsT, evT]
    rcases exprB_shape hw with k1 | ⟨h, hl⟩ | ⟨h, hl, ha⟩ | ⟨h, hl, ha⟩ | ⟨h1, h2, hl, ha⟩
    · have hl : kids = [] := by
        unfold exprB at hw
        rw [if_pos k1] at hw
        simp at hw
        exact hw.2
      subst hl
      subst k1
      simp [valN, evN, varsL]
    · rw [valN_vars (by omega), if_pos (by simp; omega)]
    · rw [valN_vars (by omega), if_pos (by simp; omega)]
    · have c0 : (decide (2 ≤ k) && decide (k ≤ 5)) = false := by simp; omega
      rw [c0, Bool.false_or]
      obtain ⟨a, rfl⟩ := nd1 hl
      have ia := ih ha a (by simp)
      have g1 : valN k num [a].length (valL [a]) = if (valT a).2 = false then (0, false) else ((unN k (valT a).1).1, decide ((unN k (valT a).1).2 = 0)) := by
        unfold valN; rw [if_neg (by omega), if_neg (by omega)]; rfl
      have g2 : evN [] k num s (evL [] [a]) = if (evT [] a).2 ≠ 0 then (0, (evT [] a).2) else unN k (evT [] a).1 := by
        unfold evN; rw [if_neg (by omega), if_neg (by omega)]
        show (if (evT [] a).2 ≠ 0 then _ else _) = _
        rw [if_pos (show k = 6 ∨ k = 7 by omega)]; rfl
      rw [g1, g2, ia]
      rw [varsL, varsL, Bool.or_false]
      cases varsT a with
      | true => rfl
      | false =>
        by_cases e0 : (evT [] a).2 = 0
        · simp [e0]
        · simp [e0]
    · have c0 : (decide (2 ≤ k) && decide (k ≤ 5)) = false := by simp; omega
      rw [c0, Bool.false_or]
      obtain ⟨a, b, rfl⟩ := nd2 hl
      have ia := ih ha a (by simp)
      have ib := ih ha b (by simp)
      have g1 : valN k num [a, b].length (valL [a, b]) = if (valT a).2 = false then (0, false) else if (valT b).2 = false then (0, false) else ((apN k (valT a).1 (valT b).1).1, decide ((apN k (valT a).1 (valT b).1).2 = 0)) := by
        unfold valN; rw [if_neg (by omega), if_neg (by omega)]; rfl
      have g2 : evN [] k num s (evL [] [a, b]) = if (evT [] a).2 ≠ 0 then (0, (evT [] a).2) else if (evT [] b).2 ≠ 0 then (0, (evT [] b).2) else apN k (evT [] a).1 (evT [] b).1 := by
        unfold evN; rw [if_neg (by omega), if_neg (by omega)]
        show (if (evT [] a).2 ≠ 0 then _ else _) = _
        rw [if_neg (show ¬ (k = 6 ∨ k = 7) by omega)]; rfl
      rw [g1, g2, ia, ib]
      rw [varsL, varsL, varsL, Bool.or_false]
      cases varsT a with
      | true => rfl
      | false =>
        by_cases e0 : (evT [] a).2 = 0
        · cases varsT b with
          | true => simp [e0]
          | false =>
            by_cases e1 : (evT [] b).2 = 0
            · simp [e0, e1]
            · simp [e0, e1]
        · cases varsT b with
          | true => simp [e0]
          | false => simp [e0]
theorem val_sames : ∀ ts : List Tr, allExpr ts = true → ∀ t ∈ ts, valT t = if varsT t then (0, false) else ((evT [] t).1, decide ((evT [] t).2 = 0))
  | [], _, t, ht => by simp at ht
  | u :: ts, h, t, ht => by
    rw [allExpr, Bool.and_eq_true] at h
    rcases List.mem_cons.1 ht with he | ht
    · rw [he]; exact val_same u h.1
    · exact val_sames ts h.2 t ht
end
theorem const_same (t : Tr) : constA t = rconstA t := by
  unfold constA rconstA
  cases h : isExpr t with
  | false => rfl
  | true =>
    rw [if_pos rfl, val_same t h]
    cases varsT t <;> rfl
theorem lawCC_go (t : Tr) (hk : t.ok) : Pw cx 11 [t.av] (.bool true) := by
  have h1 := big_pw t hk
  have h2 := const_pw t hk
  have h3 := rconst_pw t hk
  rw [← const_same] at h3
  generalize constA t = p at h2 h3
  generalize big t = b at h1
  obtain ⟨k, num, s, z, fl, kids⟩ := t
  have hp : pureL [nd k num s (.seq z fl 4 (avs kids))] = true := nd_pure (avs_pure kids)
  cases b with
  | true => exact lawCC_w hp ⟨_, aw07_pw, br_f rfl ⟨_, h1, br_t rfl rfl⟩⟩
  | false => exact lawCC_w hp ⟨_, aw07_pw, br_f rfl ⟨_, h1, br_f rfl ⟨_, _, h2, _, _, h3, br_yes rfl (br_t (beq_self_eq_true _) rfl)⟩⟩⟩
end Go.Ab
