/- The law AstLimits over abstract values. -/
import Derived.Test.YtcmcgmcogknpfaaDoorHP
set_option linter.unusedVariables false
set_option linter.unusedSimpArgs false
namespace Go.Ab
open Go Go.Proofs

theorem vavs_drop (n : Nat) (l : List VarD) : (vavs l).drop n = vavs (l.drop n) := by simp [vavs]
theorem pavs_drop (n : Nat) (l : List Prc) : (pavs l).drop n = pavs (l.drop n) := by simp [pavs]
theorem pavs_take (n : Nat) (l : List Prc) : (pavs l).take n = pavs (l.take n) := by simp [pavs]
theorem pavs_app (l l' : List Prc) : pavs l ++ pavs l' = pavs (l ++ l') := by simp [pavs]
theorem pavs_cells (l : List Prc) : allCells 6 (pavs l) = true := by
  unfold allCells
  rw [List.all_eq_true]
  intro x hx
  simp only [pavs, List.mem_map] at hx
  obtain ⟨p, _, rfl⟩ := hx
  obtain ⟨nm, z, fl, ps, ⟨k, num, s, z', fl', kids⟩⟩ := p
  rfl
theorem pavs_empty (l : List Prc) : (pavs l).isEmpty = decide (l.length = 0) := by cases l <;> rfl
theorem sameB_len {p q : Pgm} (h : p.vars.length ≠ q.vars.length ∨ p.procs.length ≠ q.procs.length) : sameB p q = false := by
  cases hc : sameB p q with
  | false => rfl
  | true =>
    unfold sameB at hc
    simp only [Bool.and_eq_true] at hc
    rcases h with h | h
    · exact absurd (eqVs_length hc.1) h
    · exact absurd (eqPs_length hc.2.2) h
theorem sub_ok {p : Pgm} {zv fv zp fp : Bool} {vs : List VarD} {ps : List Prc} (h1 : vs.Sublist p.vars) (h2 : ps.Sublist p.procs) (ho : p.ok) : (Pgm.mk zv fv vs zp fp ps p.main).ok := by
  refine ⟨?_, fun v hv => ho.2.1 v (h1.subset hv), ?_, fun q hq => ho.2.2.2.1 q (h2.subset hq), ho.2.2.2.2⟩
  · exact Nat.le_trans h1.length_le ho.1
  · exact Nat.le_trans h2.length_le ho.2.2.1
theorem sub_valid {p : Pgm} {zv fv zp fp : Bool} {vs : List VarD} {ps : List Prc} (h1 : vs.Sublist p.vars) (h2 : ps.Sublist p.procs) (h : validB p = true) : validB (Pgm.mk zv fv vs zp fp ps p.main) = true := by
  unfold validB at h ⊢
  simp only [Bool.and_eq_true, decide_eq_true_eq, List.all_eq_true] at h ⊢
  exact ⟨⟨Nat.le_trans h1.length_le h.1.1, fun v hv => h.1.2 v (h1.subset hv)⟩, Nat.le_trans h2.length_le h.2.1, h.2.2.1, fun q hq => h.2.2.2 q (h2.subset hq)⟩
theorem tmod_nat {b : Int} {n : Nat} (h0 : 0 ≤ b) (h1 : b < 256) (hn : 0 < n) : ∃ K : Nat, Int.tmod (IntKind.wrap .i64 b) (n : Int) = (K : Int) ∧ K < n := by
  obtain ⟨m, rfl⟩ := Int.eq_ofNat_of_zero_le h0
  refine ⟨m % n, ?_, Nat.mod_lt _ hn⟩
  rw [IntKind.wrap_i64]
  have : ((m : Int) + 9223372036854775808) % 18446744073709551616 - 9223372036854775808 = m := by omega
  first | rw [this] | skip
  rfl
theorem lawLimits_pw (p : Pgm) (ho : p.ok) (b : Int) (h0 : 0 ≤ b) (hb256 : b < 256) : Pw cx 12 [p.av, .int .u8 b] (.bool true) := by
  have hp : pureL [p.av, .int .u8 b] = true := by simp [pureL, pgm_pure, AV.pure]
  have h1 := bigp_pw p ho
  cases hb : bigP p with
  | true =>
    rw [hb] at h1
    obtain ⟨zv, fv, vars, zp, fp, procs, ⟨k, num, s, z, fl, kids⟩⟩ := p
    exact lawLimits_w hp ⟨_, awake_pw, br_f rfl ⟨_, h1, rfl⟩⟩
  | false =>
    rw [hb] at h1
    obtain ⟨g1, g2⟩ := small_prog hb
    have h2 := valid_pw p ho (by omega) (fun f hf => by have := g2 f hf; omega)
    cases hv : validB p with
    | false =>
      rw [hv] at h2
      obtain ⟨zv, fv, vars, zp, fp, procs, ⟨k, num, s, z, fl, kids⟩⟩ := p
      exact lawLimits_w hp ⟨_, awake_pw, br_f rfl ⟨_, h1, br_f rfl ⟨_, h2, rfl⟩⟩⟩
    | true =>
    rw [hv] at h2
    have h4 := depth_pw p.main ho.2.2.2.2 (by omega)
    have h5 := size_pw p.main ho.2.2.2.2 (by omega)
    have h6 := isBlock_pw p.main ho.2.2.2.2
    have hq : ∀ (zv fv : Bool) (vs : List VarD) (zp fp : Bool) (ps : List Prc), vs.Sublist p.vars → ps.Sublist p.procs →
        Pw cx 40 [(Pgm.mk zv fv vs zp fp ps p.main).av] (.bool true) ∧ Pw cx 42 [p.av, (Pgm.mk zv fv vs zp fp ps p.main).av] (.bool (sameB p (Pgm.mk zv fv vs zp fp ps p.main))) := by
      intro zv fv vs zp fp ps e1 e2
      refine ⟨?_, same_pw _ _ ho⟩
      have := valid_pw (Pgm.mk zv fv vs zp fp ps p.main) (sub_ok e1 e2 ho) (by have := g1; show sizeT p.main ≤ 1000000; omega) (fun f hf => by have := g2 f (e2.subset hf); omega)
      rw [sub_valid e1 e2 hv] at this
      exact this
    have hv' := hv
    unfold validB bodyB at hv'
    simp only [Bool.and_eq_true, decide_eq_true_eq] at hv'
    obtain ⟨⟨v1, _⟩, v2, ⟨v3, v4, v5⟩, _⟩ := hv'
    rw [v3] at h6
    obtain ⟨zv, fv, vars, zp, fp, procs, ⟨k, num, s, z, fl, kids⟩⟩ := p
    simp only at v1 v2 v3 v4 v5 hq h4 h5 h6
    refine lawLimits_w hp ⟨_, awake_pw, br_f rfl ⟨_, h1, br_f rfl ⟨_, h2, br_f rfl ⟨_, h4, br_no (by omega) ⟨_, h5, br_no (by omega) (br_no (by rw [vavs_length]; (try dsimp only at *); omega) ⟨_, h6, br_f rfl ?_⟩)⟩⟩⟩⟩⟩
    have hqs : ∀ (zv' fv' : Bool) (vs : List VarD) (zp' fp' : Bool) (ps : List Prc), vs.Sublist vars → ps.Sublist procs →
        Pw cx 40 [AV.agg [AV.seq zv' fv' 3 (vavs vs), AV.seq zp' fp' 6 (pavs ps), AV.int IntKind.u8 k, AV.int IntKind.i64 num, AV.str s, AV.seq z fl 4 (avs kids)]] (.bool true) ∧ Pw cx 42 [AV.agg [AV.seq zv fv 3 (vavs vars), AV.seq zp fp 6 (pavs procs), AV.int IntKind.u8 k, AV.int IntKind.i64 num, AV.str s, AV.seq z fl 4 (avs kids)], AV.agg [AV.seq zv' fv' 3 (vavs vs), AV.seq zp' fp' 6 (pavs ps), AV.int IntKind.u8 k, AV.int IntKind.i64 num, AV.str s, AV.seq z fl 4 (avs kids)]] (.bool (sameB ⟨zv, fv, vars, zp, fp, procs, .mk k num s z fl kids⟩ ⟨zv', fv', vs, zp', fp', ps, .mk k num s z fl kids⟩)) := hq
    have hqn : ∀ (zv' fv' : Bool) (vs : List VarD) (zp' fp' : Bool), vs.Sublist vars →
        Pw cx 40 [AV.agg [AV.seq zv' fv' 3 (vavs vs), AV.seq zp' fp' 6 [], AV.int IntKind.u8 k, AV.int IntKind.i64 num, AV.str s, AV.seq z fl 4 (avs kids)]] (.bool true) ∧ Pw cx 42 [AV.agg [AV.seq zv fv 3 (vavs vars), AV.seq zp fp 6 (pavs procs), AV.int IntKind.u8 k, AV.int IntKind.i64 num, AV.str s, AV.seq z fl 4 (avs kids)], AV.agg [AV.seq zv' fv' 3 (vavs vs), AV.seq zp' fp' 6 [], AV.int IntKind.u8 k, AV.int IntKind.i64 num, AV.str s, AV.seq z fl 4 (avs kids)]] (.bool (sameB ⟨zv, fv, vars, zp, fp, procs, .mk k num s z fl kids⟩ ⟨zv', fv', vs, zp', fp', [], .mk k num s z fl kids⟩)) := fun _ _ vs _ _ h => hq _ _ vs _ _ [] h (List.nil_sublist _)
    clear hq
    have hw : IntKind.wrap .i64 ((procs.length : Int) + (vars.length : Int)) = (procs.length : Int) + (vars.length : Int) := by
      rw [IntKind.wrap_i64]; omega
    have pv := fun n => vavs_pure (List.drop n vars)
    have pv0 := vavs_pure vars
    have pk := avs_pure kids
    by_cases hp0 : 0 < procs.length
    · obtain ⟨K, hK, hlt⟩ := tmod_nat h0 hb256 hp0
      have hK1 : Int.toNat ((K : Int) + 1) = K + 1 := by omega
      have hK0 : Int.toNat (K : Int) = K := by omega
      have hwK : IntKind.wrap .i64 ((K : Int) + 1) = (K : Int) + 1 := wrap_up (by omega)
      simp only [hK, hK0, hK1, hwK, hw, vavs_drop, pavs_drop, pavs_take, pavs_app, pavs_length, vavs_length, pavs_empty, pavs_cells, List.length_take, List.length_drop, List.length_append, decide_true, pv, pv0, pk, pavs_pure]
      have sd : (procs.drop (K + 1)).Sublist procs := List.drop_sublist ..
      have st : (procs.take K ++ procs.drop (K + 1)).Sublist procs := by
        have : (procs.take K ++ procs.drop (K + 1)).Sublist (procs.take K ++ procs.drop K) := List.Sublist.append_left (by rw [← List.drop_drop]; exact List.drop_sublist ..) _
        rwa [List.take_append_drop] at this
      by_cases hv0 : 0 < vars.length
      all_goals repeat' first
        | exact trivial
        | refine br_yes (by omega) ?_
        | refine br_no (by omega) ?_
        | (with_reducible refine br_t rfl ?_)
        | (with_reducible refine ⟨_, (hqn _ _ _ _ _ (List.Sublist.refl _)).1, ?_⟩)
        | (with_reducible refine ⟨_, (hqn _ _ _ _ _ (List.drop_sublist ..)).1, ?_⟩)
        | (with_reducible refine ⟨_, (hqs _ _ _ _ _ _ (List.Sublist.refl _) sd).1, ?_⟩)
        | (with_reducible refine ⟨_, (hqs _ _ _ _ _ _ (List.drop_sublist ..) sd).1, ?_⟩)
        | (with_reducible refine ⟨_, (hqs _ _ _ _ _ _ (List.Sublist.refl _) st).1, ?_⟩)
        | (with_reducible refine ⟨_, (hqs _ _ _ _ _ _ (List.drop_sublist ..) st).1, ?_⟩)
        | (with_reducible refine ⟨_, (hqn _ _ _ _ _ (List.Sublist.refl _)).2, ?_⟩)
        | (with_reducible refine ⟨_, (hqn _ _ _ _ _ (List.drop_sublist ..)).2, ?_⟩)
        | (with_reducible refine ⟨_, (hqs _ _ _ _ _ _ (List.Sublist.refl _) sd).2, ?_⟩)
        | (with_reducible refine ⟨_, (hqs _ _ _ _ _ _ (List.drop_sublist ..) sd).2, ?_⟩)
        | (with_reducible refine ⟨_, (hqs _ _ _ _ _ _ (List.Sublist.refl _) st).2, ?_⟩)
        | (with_reducible refine ⟨_, (hqs _ _ _ _ _ _ (List.drop_sublist ..) st).2, ?_⟩)
        | (rw [sameB_len (.inr (by simp only [List.length_append, List.length_take, List.length_drop, List.length_nil]; omega)), decide_eq_false (by omega)]; rfl)
        | refine br_mk (fun hx => ?_) (fun hx => ?_) <;> simp only [decide_eq_true_eq, decide_eq_false_iff_not] at hx
        | fail
    · have e : procs = [] := List.length_eq_zero_iff.1 (by omega)
      refine br_no (by rw [pavs_length]; (try dsimp only at *); omega) ?_
      simp only [hw, vavs_drop, pavs_length, vavs_length]
      by_cases hv0 : 0 < vars.length
      · refine br_yes (by omega) (br_yes (by omega) ⟨_, (hqs _ _ (vars.drop 1) _ _ procs (List.drop_sublist ..) (List.Sublist.refl _)).1, br_t rfl ⟨_, (hqs _ _ (vars.drop 1) _ _ procs (List.drop_sublist ..) (List.Sublist.refl _)).2, br_yes trivial ?_⟩⟩)
        rw [sameB_len (.inl (by simp only [List.length_drop]; omega)), decide_eq_false (by omega)]; rfl
      · refine br_no (by omega) ⟨_, (hqs _ _ vars _ _ procs (List.Sublist.refl _) (List.Sublist.refl _)).1, br_t rfl ⟨_, (hqs _ _ vars _ _ procs (List.Sublist.refl _) (List.Sublist.refl _)).2, br_yes trivial ?_⟩⟩
        rw [decide_eq_true (by omega)]
        simp [sameB, eqVs_refl, eqT_refl, eqPs_refl]
theorem lawLimits_go (p : Pgm) (b : Int) (ho : p.ok) (hb : (Lit.int .u8 b).wf = true) : Pw cx 12 [p.av, .int .u8 b] (.bool true) := by
  have h : 0 ≤ b ∧ b < 256 := by
    simp only [Lit.wf, Bool.and_eq_true, decide_eq_true_eq] at hb
    have h1 : IntKind.u8.min = 0 := by decide +kernel
    have h2 : IntKind.u8.max = 255 := by decide +kernel
    omega
  exact lawLimits_pw p ho b h.1 h.2
end Go.Ab
