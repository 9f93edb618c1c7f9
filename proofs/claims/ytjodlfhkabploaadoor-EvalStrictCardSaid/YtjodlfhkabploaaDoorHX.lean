/- Laws of layer 13 over abstract values. -/
import Derived.Test.YtjodlfhkabploaaDoorHV
import Derived.Test.YtjodlfhkabploaaDoorHW
import Derived.Test.YtjodlfhkabploaaDoorRQ
set_option linter.unusedVariables false
set_option linter.unusedSimpArgs false
namespace Go.Ab
open Go Go.Proofs

theorem dec_eq {α : Type} [DecidableEq α] (a : α) : decide (a = a) = true := decide_eq_true rfl
theorem lawExprs_pw (t : Tr) (zc fc : Bool) (cs : List Cel) (hk : t.ok) (hb : cs.length ≤ maxLen) (ho : ∀ c ∈ cs, c.ok) : Pw cx 6 [t.av, .seq zc fc 2 (cavs cs)] (.bool true) := by
  obtain ⟨r, hg⟩ := greatE_pw t hk (zc := zc) (fc := fc) hb
  have h1 := evalExpr_pw (zc := zc) (fc := fc) hb ho t hk
  have h2 := evalTest_pw (zc := zc) (fc := fc) hb ho t hk
  have h3 := isExpr_pw t hk
  have h4 := rEval_pw (zc := zc) (fc := fc) hb ho t
  have hlk := lookup_pw zc fc cs
  unfold exprA at h1 h2
  have hz := ev_zero cs t
  generalize isExpr t = b at h1 h2 h3 h4 hz
  generalize evT cs t = q at h1 h2 h4 hz
  obtain ⟨k, num, s, z, fl, kids⟩ := t
  have hp : pureL [nd k num s (.seq z fl 4 (avs kids)), .seq zc fc 2 (cavs cs)] = true := by simp [pureL, AV.pure, avs_pure, cavs_pure]
  refine lawExprs_w hp ⟨_, aw13_pw, br_f rfl ⟨_, hg, br_mk (fun _ => rfl) (fun _ => ⟨_, _, _, hlk, _, _, h1, _, _, _, hlk, _, _, h2, _, h3, ?_⟩)⟩⟩
  cases b with
  | false => exact br_t rfl (br_yes rfl (br_yes rfl (br_t rfl rfl)))
  | true =>
    refine br_f rfl ⟨_, _, h4 rfl, br_yes rfl (br_yes rfl (br_yes rfl (br_mk (fun e => ?_) (fun e => ?_))))⟩
    · rw [if_pos rfl, beq_self_eq_true]
    · rw [if_pos rfl]
      have e : ¬ q.2 = 0 := of_decide_eq_false e
      rw [hz rfl e]
      rfl
theorem lawIndex_pw (t : Tr) (zc fc : Bool) (cs : List Cel) (hk : t.ok) (hb : cs.length ≤ maxLen) (ho : ∀ c ∈ cs, c.ok) : Pw cx 7 [t.av, .seq zc fc 2 (cavs cs)] (.bool true) := by
  obtain ⟨r, hg⟩ := greatE_pw t hk (zc := zc) (fc := fc) hb
  have h3 := isPlace_pw t hk
  have hlk := lookup_pw zc fc cs
  have hsh : isPlace t = true → isExpr t = true ∧ (t.kind = 2 ∨ t.kind = 3) := fun h => by
    cases t with
    | mk k num s z fl kids =>
      simp only [isPlace, Tr.kind, Bool.and_eq_true, Bool.or_eq_true, decide_eq_true_eq] at h ⊢
      exact ⟨h.2, of_decide_eq_true h.1⟩
  have he := fun u => expr_pw (zc := zc) (fc := fc) hb ho u
  have hr := fun u => rEval_pw (zc := zc) (fc := fc) hb ho u
  obtain ⟨k, num, s, z, fl, kids⟩ := t
  have hp : pureL [nd k num s (.seq z fl 4 (avs kids)), .seq zc fc 2 (cavs cs)] = true := by simp [pureL, AV.pure, avs_pure, cavs_pure]
  have hp2 : pureL [nd k num s (.seq z fl 4 (avs kids)), lkup zc fc cs] = true := by simp [pureL, AV.pure, avs_pure, lkup_pure]
  generalize isPlace (.mk k num s z fl kids) = b at h3 hsh
  cases b with
  | false =>
    have hi : Pw cx 27 [nd k num s (.seq z fl 4 (avs kids)), lkup zc fc cs] (.tup [.int .i64 0, .int .i64 3]) := evalIndex_w hp2 ⟨_, h3, br_t rfl rfl⟩
    exact lawIndex_w hp ⟨_, aw13_pw, br_f rfl ⟨_, hg, br_mk (fun _ => rfl) (fun _ => ⟨_, _, _, hlk, _, _, hi, _, h3, br_t rfl (br_yes rfl rfl)⟩)⟩⟩
  | true =>
    obtain ⟨hx, hk2⟩ := hsh rfl
    have hk2 : k = 2 ∨ k = 3 := hk2
    by_cases k2 : k = 2
    · have hi : Pw cx 27 [nd k num s (.seq z fl 4 (avs kids)), lkup zc fc cs] (.tup [.int .i64 0, .int .i64 0]) := evalIndex_w hp2 ⟨_, h3, br_f rfl (br_yes k2 rfl)⟩
      exact lawIndex_w hp ⟨_, aw13_pw, br_f rfl ⟨_, hg, br_mk (fun _ => rfl) (fun _ => ⟨_, _, _, hlk, _, _, hi, _, h3, br_f rfl (br_yes k2 (br_yes rfl rfl))⟩)⟩⟩
    · have hw : exprB k num s kids.length (allExpr kids) = true := by rw [isExpr] at hx; exact hx
      rcases exprB_shape hw with h | ⟨h, hl⟩ | ⟨h, hl, ha⟩ | ⟨h, hl, ha⟩ | ⟨h1, h2, hl, ha⟩
      · omega
      · omega
      · obtain ⟨a, rfl⟩ := nd1 hl
        have ha : isExpr a = true := by simpa [allExpr] using ha
        have q1 := he a ha
        have q2 := hr a ha
        generalize evT cs a = q at q1 q2
        cases a with
        | mk k' num' s' z' fl' kids' =>
          have hg' : (avs [Tr.mk k' num' s' z' fl' kids'])[0]? = some (Tr.mk k' num' s' z' fl' kids').av := rfl
          have hi : Pw cx 27 [nd k num s (.seq z fl 4 (avs [Tr.mk k' num' s' z' fl' kids'])), lkup zc fc cs] (pairV q) := evalIndex_w hp2 ⟨_, h3, br_f rfl (br_no k2 ⟨_, _, _, _, _, _, hg', _, _, q1, rfl⟩)⟩
          exact lawIndex_w hp ⟨_, aw13_pw, br_f rfl ⟨_, hg, br_mk (fun _ => rfl) (fun _ => ⟨_, _, _, hlk, _, _, hi, _, h3, br_f rfl (br_no k2 ⟨_, _, _, _, _, _, hg', _, _, q2, br_yes rfl (by rw [dec_eq])⟩)⟩)⟩⟩
      · omega
      · omega
theorem lawExprs_go (t : Tr) (c : CelL) (hk : t.ok) (hc : c.ok) : Pw cx 6 [t.av, c.av] (.bool true) := lawExprs_pw t c.z c.z c.l hk hc.1 hc.2
theorem lawIndex_go (t : Tr) (c : CelL) (hk : t.ok) (hc : c.ok) : Pw cx 7 [t.av, c.av] (.bool true) := lawIndex_pw t c.z c.z c.l hk hc.1 hc.2
end Go.Ab
