/- Laws of layer 13 over abstract values, second part: EvalConst. -/
import Derived.Test.YtjodlfhkabploaaDoorHX
set_option linter.unusedVariables false
set_option linter.unusedSimpArgs false
namespace Go.Ab
open Go Go.Proofs
theorem maxLen_ge : 1000 ≤ maxLen := by decide

/-! ### EvalConst -/
mutual
def varsT : Tr → Bool
  | .mk k _ _ _ _ kids => (decide (2 ≤ k) && decide (k ≤ 5)) || varsL kids
def varsL : List Tr → Bool
  | [] => false
  | t :: ts => varsT t || varsL ts
end
theorem variables_loop {k num : Int} {s : ByteArray} {z fl : Bool} {ts : List Tr} (hb : ts.length ≤ maxLen) (h0 : ∀ t ∈ ts, Pw cx 29 [t.av] (.bool (varsT t))) : ∀ (us : List Tr) (i : Nat), ts.drop i = us →
    (match varsL us with
      | true => ∃ g, variables_r_L k num s z fl (avs ts) i .ret [.bool true] (bx k num s z fl (avs ts) :: g)
      | false => variables_r_L k num s z fl (avs ts) i (.exit 0) [.bool false] [bx k num s z fl (avs ts)])
  | [], i, hd => by
    have := drop_nil hd
    exact variables_r fun e => br_no (by rw [avs_length]; omega) ⟨rfl, rfl, rfl⟩
  | .mk k' num' s' z' fl' kids :: us, i, hd => by
    obtain ⟨g1, g2, g3⟩ := drop_cons hd
    have hg : (avs ts)[i]? = some (Tr.mk k' num' s' z' fl' kids).av := by rw [avs_get, g1]; rfl
    have hl : ((i : Nat) : Int) < ((avs ts).length : Nat) := by rw [avs_length]; omega
    have hq := h0 _ (List.mem_of_getElem? g1)
    have hu := underL_pure (N := 1) (avs_pure ts)
    have ih := variables_loop (k := k) (num := num) (s := s) (z := z) (fl := fl) hb h0 us (i + 1) g3
    rw [varsL]
    cases hc : varsT (.mk k' num' s' z' fl' kids) with
    | true => rw [hc] at hq; exact ⟨_, variables_r fun e => br_yes hl ⟨_, _, _, _, _, _, hg, _, hq, br_t rfl ⟨rfl, rfl, rfl⟩⟩⟩
    | false =>
      rw [hc] at hq
      rw [Bool.false_or]
      have go : ∀ {x : Exit} {w : AV} {m' : Mem}, variables_r_L k num s z fl (avs ts) (i + 1) x [w] m' → variables_r_L k num s z fl (avs ts) i x [w] m' := fun h =>
        variables_r fun e => br_yes hl ⟨_, _, _, _, _, _, hg, _, hq, br_f rfl (br_yes (wrap_up (by have := maxLen_le; omega)) (br_t (by simp [blkUnder, underL, AV.under, hu]) (br_t (by simp [underL, AV.under, hu]) (br_t (by simp [underL, AV.under, hu]) h))))⟩
      cases hv : varsL us with
      | true => rw [hv] at ih; obtain ⟨g, ih⟩ := ih; exact ⟨g, go ih⟩
      | false => rw [hv] at ih; exact go ih
mutual
theorem variables_pw : ∀ t : Tr, t.ok → Pw cx 29 [t.av] (.bool (varsT t))
  | .mk k num s z fl kids, ho => by
    obtain ⟨_, _, hsz, hl, hk⟩ := ho
    have hlp := variables_loop (k := k) (num := num) (s := s) (z := z) (fl := fl) hl (variabless_pw kids hk) kids 0 rfl
    have hp : pureL [(Tr.mk k num s z fl kids).av] = true := nd_pure (avs_pure kids)
    rw [varsT]
    refine variables_w hp ?_
    cases hv : varsL kids with
    | true =>
      rw [hv] at hlp
      obtain ⟨g, hlp⟩ := hlp
      refine br_by (fun h2 => br_by (fun h5 => ?_) (fun h5 => .inl ⟨_, _, hlp, fun e => ?_⟩)) (fun h2 => .inl ⟨_, _, hlp, fun e => ?_⟩)
      all_goals simp
    | false =>
      rw [hv] at hlp
      refine br_by (fun h2 => br_by (fun h5 => ?_) (fun h5 => .inr ⟨_, hlp, fun e => ?_⟩)) (fun h2 => .inr ⟨_, hlp, fun e => ?_⟩)
      all_goals simp [*]
theorem variabless_pw : ∀ ts : List Tr, okL ts → ∀ t ∈ ts, Pw cx 29 [t.av] (.bool (varsT t))
  | [], _, t, ht => by simp at ht
  | u :: ts, h, t, ht => by
    rcases List.mem_cons.1 ht with he | ht
    · rw [he]; exact variables_pw u h.1
    · exact variabless_pw ts h.2 t ht
end
/-- The value of a constant expression, by its children's. -/
def valN (k num : Int) (l : Nat) (rs : List (Int × Bool)) : Int × Bool :=
  if k = 1 then (num, true)
  else if k = 2 ∨ k = 3 ∨ k = 4 ∨ k = 5 then (0, false)
  else if (rs.getD 0 (0, false)).2 = false then (0, false)
  else if l = 1 then ((unN k (rs.getD 0 (0, false)).1).1, decide ((unN k (rs.getD 0 (0, false)).1).2 = 0))
  else if (rs.getD 1 (0, false)).2 = false then (0, false)
  else ((apN k (rs.getD 0 (0, false)).1 (rs.getD 1 (0, false)).1).1, decide ((apN k (rs.getD 0 (0, false)).1 (rs.getD 1 (0, false)).1).2 = 0))
mutual
def valT : Tr → Int × Bool
  | .mk k num _ _ _ kids => valN k num kids.length (valL kids)
def valL : List Tr → List (Int × Bool)
  | [] => []
  | t :: ts => valT t :: valL ts
end
def valV (p : Int × Bool) : AV := .tup [.int .i64 p.1, .bool p.2]
theorem value_node {k num : Int} {s : ByteArray} {z fl : Bool} {kids : List Tr} (hw : exprB k num s kids.length (allExpr kids) = true)
    (h0 : allExpr kids = true → ∀ t ∈ kids, Pw cx 66 [t.av] (valV (valT t))) :
    Pw cx 66 [nd k num s (.seq z fl 4 (avs kids))] (valV (valN k num kids.length (valL kids))) := by
  have hp : pureL [nd k num s (.seq z fl 4 (avs kids))] = true := nd_pure (avs_pure kids)
  have hun := unary_pw k
  have hap := apply_pw k
  refine value_w hp ?_
  rw [avs_length]
  rcases exprB_shape hw with h | ⟨h, hl⟩ | ⟨h, hl, ha⟩ | ⟨h, hl, ha⟩ | ⟨h1, h2, hl, ha⟩
  · exact br_yes h (by simp [valN, h, valV])
  · have e : valN k num kids.length (valL kids) = (0, false) := by unfold valN; rw [if_neg (by omega), if_pos (by omega)]
    rw [e]
    repeat' first
      | refine br_yes (by omega) ?_
      | refine br_no (by omega) ?_
      | exact rfl
      | refine br_by (fun hx => ?_) (fun hx => ?_)
      | (exfalso; omega)
      | fail
  · have e : valN k num kids.length (valL kids) = (0, false) := by unfold valN; rw [if_neg (by omega), if_pos (by omega)]
    rw [e]
    exact br_no (by omega) (br_no (by omega) (br_yes h rfl))
  · obtain ⟨a, rfl⟩ := nd1 hl
    have hq := h0 ha a (by simp)
    have e : valN k num [a].length (valL [a]) = if (valT a).2 = false then (0, false) else ((unN k (valT a).1).1, decide ((unN k (valT a).1).2 = 0)) := by
      unfold valN; rw [if_neg (by omega), if_neg (by omega)]; rfl
    rw [e]
    cases a with
    | mk k' num' s' z' fl' kids' =>
      have hg : (avs [Tr.mk k' num' s' z' fl' kids'])[0]? = some (Tr.mk k' num' s' z' fl' kids').av := rfl
      generalize valT (.mk k' num' s' z' fl' kids') = r at hq ⊢
      obtain ⟨v, b⟩ := r
      refine br_no (by omega) (br_no (by omega) (br_no (by omega) (br_no (by omega) (br_no (by omega) ⟨_, _, _, _, _, _, hg, _, _, hq, ?_⟩))))
      cases b with
      | false => exact br_t rfl rfl
      | true => exact br_f rfl (br_yes (by simp) ⟨_, _, hun v, rfl⟩)
  · obtain ⟨a, b, rfl⟩ := nd2 hl
    have hq := h0 ha a (by simp)
    have hq2 := h0 ha b (by simp)
    have e : valN k num [a, b].length (valL [a, b]) = if (valT a).2 = false then (0, false) else if (valT b).2 = false then (0, false) else ((apN k (valT a).1 (valT b).1).1, decide ((apN k (valT a).1 (valT b).1).2 = 0)) := by
      unfold valN; rw [if_neg (by omega), if_neg (by omega)]; rfl
    rw [e]
    cases a with
    | mk k' num' s' z' fl' kids' =>
    cases b with
    | mk k2 num2 s2 z2 fl2 kids2 =>
      have hg : (avs [Tr.mk k' num' s' z' fl' kids', Tr.mk k2 num2 s2 z2 fl2 kids2])[0]? = some (Tr.mk k' num' s' z' fl' kids').av := rfl
      have hg2 : (avs [Tr.mk k' num' s' z' fl' kids', Tr.mk k2 num2 s2 z2 fl2 kids2])[1]? = some (Tr.mk k2 num2 s2 z2 fl2 kids2).av := rfl
      generalize valT (.mk k' num' s' z' fl' kids') = r at hq ⊢
      generalize valT (.mk k2 num2 s2 z2 fl2 kids2) = q at hq2 ⊢
      obtain ⟨v, b⟩ := r
      obtain ⟨w, c⟩ := q
      refine br_no (by omega) (br_no (by omega) (br_no (by omega) (br_no (by omega) (br_no (by omega) ⟨_, _, _, _, _, _, hg, _, _, hq, ?_⟩))))
      cases b with
      | false => exact br_t rfl rfl
      | true =>
        refine br_f rfl (br_no (by simp) ⟨_, _, _, _, _, _, hg2, _, _, hq2, ?_⟩)
        cases c with
        | false => exact br_t rfl rfl
        | true => exact br_f rfl ⟨_, _, hap v w, rfl⟩
mutual
theorem value_pw : ∀ t : Tr, isExpr t = true → Pw cx 66 [t.av] (valV (valT t))
  | .mk k num s z fl kids, h => by
    have hw : exprB k num s kids.length (allExpr kids) = true := by rw [isExpr] at h; exact h
    have e : valT (.mk k num s z fl kids) = valN k num kids.length (valL kids) := by rw [valT]
    rw [e]
    exact value_node hw (values_pw kids)
theorem values_pw : ∀ ts : List Tr, allExpr ts = true → ∀ t ∈ ts, Pw cx 66 [t.av] (valV (valT t))
  | [], _, t, ht => by simp at ht
  | u :: ts, h, t, ht => by
    rw [allExpr, Bool.and_eq_true] at h
    rcases List.mem_cons.1 ht with he | ht
    · rw [he]; exact value_pw u h.1
    · exact values_pw ts h.2 t ht
end
def constA (t : Tr) : Int × Bool := if isExpr t then valT t else (0, false)
theorem const_pw (t : Tr) (hk : t.ok) : Pw cx 30 [t.av] (valV (constA t)) := by
  have h1 := isExpr_pw t hk
  have h2 := value_pw t
  unfold constA
  generalize isExpr t = b at h1 h2 ⊢
  generalize valT t = r at h2 ⊢
  obtain ⟨k, num, s, z, fl, kids⟩ := t
  have hp : pureL [nd k num s (.seq z fl 4 (avs kids))] = true := nd_pure (avs_pure kids)
  cases b with
  | false => exact cconst_w hp ⟨_, h1, br_t rfl rfl⟩
  | true => exact cconst_w hp ⟨_, h1, br_f rfl ⟨_, _, h2 rfl, rfl⟩⟩
/-- Without variables: the value, wherever it is evaluated. -/
theorem val_ev (cs : List Cel) : ∀ t : Tr, isExpr t = true → varsT t = false → (valT t).2 = decide ((evT cs t).2 = 0) ∧ ((valT t).2 = true → (valT t).1 = (evT cs t).1)
  | .mk k num s z fl kids, h, hv => by
    have hw : exprB k num s kids.length (allExpr kids) = true := by rw [isExpr] at h; exact h
    rw [varsT] at hv
    simp only [Bool.or_eq_false_iff, Bool.and_eq_false_iff, decide_eq_false_iff_not] at hv
    rw [valT, evT]
    rcases exprB_shape hw with h | ⟨h, hl⟩ | ⟨h, hl, ha⟩ | ⟨h, hl, ha⟩ | ⟨h1, h2, hl, ha⟩
    · simp [valN, evN, h]
    · omega
    · omega
    · match kids, hl, ha, hv with
      | [a], _, ha, hv =>
        have ha : isExpr a = true := by simpa [allExpr] using ha
        have hva : varsT a = false := by simpa [varsL] using hv.2
        obtain ⟨e1, e2⟩ := val_ev cs a ha hva
        have g1 : valN k num [a].length (valL [a]) = if (valT a).2 = false then (0, false) else ((unN k (valT a).1).1, decide ((unN k (valT a).1).2 = 0)) := by
          unfold valN; rw [if_neg (by omega), if_neg (by omega)]; rfl
        have g2 : evN cs k num s (evL cs [a]) = if (evT cs a).2 ≠ 0 then (0, (evT cs a).2) else unN k (evT cs a).1 := by
          unfold evN; rw [if_neg (by omega), if_neg (by omega)]
          show (if (evT cs a).2 ≠ 0 then _ else _) = _
          rw [if_pos (show k = 6 ∨ k = 7 by omega)]; rfl
        rw [g1, g2]
        by_cases c : (evT cs a).2 = 0
        · rw [decide_eq_true c] at e1
          rw [if_neg (by rw [e1]; simp), if_neg (by simpa using c), e2 e1]
          exact ⟨rfl, fun _ => rfl⟩
        · rw [decide_eq_false c] at e1
          rw [if_pos e1, if_pos c]
          exact ⟨(decide_eq_false c).symm, fun h => by cases h⟩
    · match kids, hl, ha, hv with
      | [a, b], _, ha, hv =>
        have ha : isExpr a = true ∧ isExpr b = true := by simpa [allExpr] using ha
        have hva : varsT a = false ∧ varsT b = false := by simpa [varsL] using hv.2
        obtain ⟨e1, e2⟩ := val_ev cs a ha.1 hva.1
        obtain ⟨f1, f2⟩ := val_ev cs b ha.2 hva.2
        have g1 : valN k num [a, b].length (valL [a, b]) = if (valT a).2 = false then (0, false) else if (valT b).2 = false then (0, false) else ((apN k (valT a).1 (valT b).1).1, decide ((apN k (valT a).1 (valT b).1).2 = 0)) := by
          unfold valN; rw [if_neg (by omega), if_neg (by omega)]; rfl
        have g2 : evN cs k num s (evL cs [a, b]) = if (evT cs a).2 ≠ 0 then (0, (evT cs a).2) else if (evT cs b).2 ≠ 0 then (0, (evT cs b).2) else apN k (evT cs a).1 (evT cs b).1 := by
          unfold evN; rw [if_neg (by omega), if_neg (by omega)]
          show (if (evT cs a).2 ≠ 0 then _ else _) = _
          rw [if_neg (show ¬ (k = 6 ∨ k = 7) by omega)]; rfl
        rw [g1, g2]
        by_cases c : (evT cs a).2 = 0
        · rw [decide_eq_true c] at e1
          have q1 : ¬ (valT a).2 = false := by rw [e1]; simp
          have q2 : ¬ (evT cs a).2 ≠ 0 := by simpa using c
          rw [if_neg q1, if_neg q2, e2 e1]
          by_cases d : (evT cs b).2 = 0
          · rw [decide_eq_true d] at f1
            have q3 : ¬ (valT b).2 = false := by rw [f1]; simp
            have q4 : ¬ (evT cs b).2 ≠ 0 := by simpa using d
            rw [if_neg q3, if_neg q4, f2 f1]
            exact ⟨rfl, fun _ => rfl⟩
          · rw [decide_eq_false d] at f1
            rw [if_pos f1, if_pos d]
            exact ⟨(decide_eq_false d).symm, fun h => by cases h⟩
        · rw [decide_eq_false c] at e1
          rw [if_pos e1, if_pos c]
          exact ⟨(decide_eq_false c).symm, fun h => by cases h⟩
theorem lawConst_pw (t : Tr) (zc fc : Bool) (cs : List Cel) (hk : t.ok) (hb : cs.length ≤ maxLen) (ho : ∀ c ∈ cs, c.ok) : Pw cx 9 [t.av, .seq zc fc 2 (cavs cs)] (.bool true) := by
  obtain ⟨r, hg⟩ := greatE_pw t hk (zc := zc) (fc := fc) hb
  have h1 := evalExpr_pw (zc := zc) (fc := fc) hb ho t hk
  have h2 := const_pw t hk
  have h3 := isExpr_pw t hk
  have h4 := variables_pw t hk
  have h5 := val_ev cs t
  have hlk := lookup_pw zc fc cs
  unfold exprA at h1
  unfold constA at h2
  generalize isExpr t = b at h1 h2 h3 h5
  generalize evT cs t = q at h1 h5
  generalize valT t = p at h2 h5
  generalize varsT t = v at h4 h5
  obtain ⟨k, num, s, z, fl, kids⟩ := t
  have hp : pureL [nd k num s (.seq z fl 4 (avs kids)), .seq zc fc 2 (cavs cs)] = true := by simp [pureL, AV.pure, avs_pure, cavs_pure]
  refine lawConst_w hp ⟨_, aw13_pw, br_f rfl ⟨_, hg, br_mk (fun _ => rfl) (fun _ => ⟨_, h3, ?_⟩)⟩⟩
  cases b with
  | false => exact br_t rfl rfl
  | true =>
    refine br_f rfl ⟨_, h4, ?_⟩
    cases v with
    | true => exact br_t rfl rfl
    | false =>
      obtain ⟨e1, e2⟩ := h5 rfl rfl
      refine br_f rfl ⟨_, _, _, hlk, _, _, h1, _, _, h2, ?_⟩
      rw [if_pos rfl, if_pos rfl]
      refine br_t (by rw [e1]; exact beq_self_eq_true _) ?_
      cases hpb : p.2 with
      | false => exact br_t rfl rfl
      | true => exact br_f rfl (by rw [e2 hpb, dec_eq])
theorem lawConst_go (t : Tr) (c : CelL) (hk : t.ok) (hc : c.ok) : Pw cx 9 [t.av, c.av] (.bool true) := lawConst_pw t c.z c.z c.l hk hc.1 hc.2
end Go.Ab
