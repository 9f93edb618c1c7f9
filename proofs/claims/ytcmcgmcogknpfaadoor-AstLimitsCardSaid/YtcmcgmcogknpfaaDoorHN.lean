/- Validity of programs, both texts; the law AstValid over abstract values. -/
import Derived.Test.YtcmcgmcogknpfaaDoorHM
set_option linter.unusedVariables false
set_option linter.unusedSimpArgs false
namespace Go.Ab
open Go Go.Proofs

theorem valid_loop {p : Pgm} (ho : p.ok) (hs : ∀ f ∈ p.procs, sizeT f.body ≤ 1000000) : ∀ (us : List Prc) (i : Nat), p.procs.drop i = us →
    (match us.all procB with
      | true => LoopAns cx true 1 (loopC Tryd.prog 40 0) [2, 22, 23, 24] [.bool false, .seq p.zp p.fp 6 (pavs p.procs), .int .i64 ((pavs p.procs).length : Nat), .int .i64 (i : Nat)] [pbx p] (.exit 0) [2] [.bool false] [pbx p]
      | false => ∃ g, LoopAns cx true 1 (loopC Tryd.prog 40 0) [2, 22, 23, 24] [.bool false, .seq p.zp p.fp 6 (pavs p.procs), .int .i64 ((pavs p.procs).length : Nat), .int .i64 (i : Nat)] [pbx p] .ret [2] [.bool false] (pbx p :: g))
  | [], i, hd => by
    obtain ⟨zv, fv, vars, zp, fp, procs, ⟨k, num, s, z, fl, kids⟩⟩ := p
    exact valid_r fun e => br_no (by have := drop_nil hd; rw [pavs_length]; (try dsimp only at *); omega) ⟨rfl, rfl, rfl⟩
  | f :: us, i, hd => by
    have ih := valid_loop ho hs us (i + 1) (drop_cons hd).2.2
    obtain ⟨zv, fv, vars, zp, fp, procs, ⟨k, num, s, z, fl, kids⟩⟩ := p
    obtain ⟨h1, h2, h3⟩ := drop_cons hd
    simp only at h1 h2 h3 ih
    have hm := List.mem_of_getElem? h1
    have hok := ho.2.2.2.1 f hm
    have hn := name_pw hok.1
    have hd2 := decls_pw (z := f.z) (fl := f.fl) 8 hok.2.1 hok.2.2.1
    have hb := body_pw f.body hok.2.2.2 (hs f hm)
    have hlen : procs.length ≤ maxLen := ho.2.2.1
    have hw := wrap_up (i := i) (by have := maxLen_le; omega)
    have hu := pbx_under (N := 1) (zv := zv) (fv := fv) (zp := zp) (fp := fp) (k := k) (num := num) (s := s) (z := z) (fl := fl) (vavs_pure vars) (pavs_pure procs) (avs_pure kids)
    have pu := underL_pure (N := 1) (pavs_pure procs)
    have hg : (pavs procs)[i]? = some f.av := by rw [pavs_get, h1]; rfl
    have hl : ((i : Nat) : Int) < ((pavs procs).length : Nat) := by rw [pavs_length]; omega
    rw [List.all_cons]
    have hpb : procB f = (nameB f.name && ((decide (f.params.length ≤ 8) && f.params.all isDecl) && bodyB f.body)) := rfl
    generalize procB f = pb at hpb ⊢
    generalize nameB f.name = nb at hn hpb
    generalize (decide (f.params.length ≤ 8) && f.params.all isDecl) = db at hd2 hpb
    generalize bodyB f.body = bb at hb hpb
    obtain ⟨nm, zf, ff, params, ⟨k', num', s', z', fl', kids'⟩⟩ := f
    subst hpb
    cases hpb : (nb && (db && bb)) with
    | false =>
      rw [Bool.false_and]
      refine ⟨[.box (Prc.av ⟨nm, zf, ff, params, .mk k' num' s' z' fl' kids'⟩).cells], valid_r fun e => br_yes hl ⟨_, _, _, _, _, _, _, _, _, _, hg, ?_⟩⟩
      refine ⟨_, hn, br_mk (fun _ => ⟨rfl, rfl, rfl⟩) (fun g1 => ⟨_, hd2, br_mk (fun _ => ⟨rfl, rfl, rfl⟩) (fun g2 => ⟨_, hb, br_mk (fun _ => ⟨rfl, rfl, rfl⟩) (fun g3 => ?_)⟩)⟩)⟩
      simp_all
    | true =>
      simp only [Bool.and_eq_true] at hpb
      obtain ⟨rfl, rfl, rfl⟩ := hpb
      rw [Bool.true_and]
      have go : ∀ {x : Exit} {g : Mem}, LoopAns cx true 1 (loopC Tryd.prog 40 0) [2, 22, 23, 24] [.bool false, .seq zp fp 6 (pavs procs), .int .i64 ((pavs procs).length : Nat), .int .i64 ((i + 1 : Nat) : Int)] [pbx ⟨zv, fv, vars, zp, fp, procs, .mk k num s z fl kids⟩] x [2] [.bool false] g →
          LoopAns cx true 1 (loopC Tryd.prog 40 0) [2, 22, 23, 24] [.bool false, .seq zp fp 6 (pavs procs), .int .i64 ((pavs procs).length : Nat), .int .i64 (i : Nat)] [pbx ⟨zv, fv, vars, zp, fp, procs, .mk k num s z fl kids⟩] x [2] [.bool false] g := by
        intro x g h
        refine valid_r fun e => br_yes hl ⟨_, _, _, _, _, _, _, _, _, _, hg, _, hn, br_f rfl ⟨_, hd2, br_f rfl ⟨_, hb, br_f rfl (br_yes hw (br_t hu (br_t ?_ (br_t ?_ h))))⟩⟩⟩
        · simp [underL, AV.under, pu]
        · simp [underL, AV.under, pu]
      cases hc : us.all procB with
      | true => rw [hc] at ih; exact go ih
      | false => rw [hc] at ih; obtain ⟨g, ih⟩ := ih; exact ⟨g, go ih⟩
theorem valid_pw (p : Pgm) (ho : p.ok) (hm : sizeT p.main ≤ 1000000) (hs : ∀ f ∈ p.procs, sizeT f.body ≤ 1000000) : Pw cx 40 [p.av] (.bool (validB p)) := by
  have hp : pureL [p.av] = true := by simp [pureL, pgm_pure]
  have hlp := valid_loop ho hs p.procs 0 rfl
  have hb := body_pw p.main ho.2.2.2.2 hm
  have hd := decls_pw (z := p.zv) (fl := p.fv) 32 ho.1 ho.2.1
  unfold validB
  generalize (p.procs.all procB) = q at hlp ⊢
  generalize (decide (p.vars.length ≤ 32) && p.vars.all isDecl) = db at hd ⊢
  generalize bodyB p.main = bb at hb ⊢
  obtain ⟨zv, fv, vars, zp, fp, procs, ⟨k, num, s, z, fl, kids⟩⟩ := p
  simp only at hb hd hlp ⊢
  refine valid_w hp ⟨_, hd, br_mk (fun h1 => ?_) (fun h1 => ?_)⟩
  · have h1 : db = false := by simpa using h1
    rw [h1]; rfl
  have h1 : db = true := by simpa using h1
  rw [h1, Bool.true_and]
  by_cases h2 : procs.length ≤ 64
  · refine br_no (by rw [pavs_length]; (try dsimp only at *); omega) ⟨_, hb, br_mk (fun h3 => ?_) (fun h3 => ?_)⟩
    · have h3 : bb = false := by simpa using h3
      rw [h3]; simp
    · have h3 : bb = true := by simpa using h3
      rw [h3, decide_eq_true h2, Bool.true_and, Bool.true_and]
      cases q with
      | true => exact .inr ⟨_, hlp, fun e => rfl⟩
      | false => obtain ⟨g, hlp⟩ := hlp; exact .inl ⟨_, g, hlp, fun e => rfl⟩
  · refine br_yes (by rw [pavs_length]; (try dsimp only at *); omega) ?_
    rw [decide_eq_false h2]; rfl

/-! ### The reference's -/
theorem rvalid_loop {p : Pgm} (ho : p.ok) : ∀ (us : List VarD) (i : Nat), p.vars.drop i = us →
    LoopAns cx true 1 (loopC Tryd.prog 41 0) [1, 2, 3] [.ptr 0 6 0, .bool false, .int .i64 (i : Nat)] [pbx p] (if us.all isDecl then .exit 0 else .ret) [2] [.bool false] [pbx p]
  | [], i, hd => by
    obtain ⟨zv, fv, vars, zp, fp, procs, ⟨k, num, s, z, fl, kids⟩⟩ := p
    exact rvalid_r fun e => br_no (by have := drop_nil hd; rw [vavs_length]; (try dsimp only at *); omega) ⟨rfl, rfl, rfl⟩
  | v :: us, i, hd => by
    have ih := rvalid_loop ho us (i + 1) (drop_cons hd).2.2
    obtain ⟨zv, fv, vars, zp, fp, procs, ⟨k, num, s, z, fl, kids⟩⟩ := p
    obtain ⟨h1, h2, h3⟩ := drop_cons hd
    simp only at h1 h2 h3 ih
    have hq := rdecl_pw v (ho.2.1 v (List.mem_of_getElem? h1))
    have hg : (vavs vars)[i]? = some v.av := by rw [vavs_get, h1]; rfl
    have hl : ((i : Nat) : Int) < ((vavs vars).length : Nat) := by rw [vavs_length]; omega
    have hlen : vars.length ≤ maxLen := ho.1
    have hw := wrap_up (i := i) (by have := maxLen_le; omega)
    rw [List.all_cons]
    cases hc : isDecl v with
    | false =>
      rw [hc] at hq
      exact rvalid_r fun e => br_yes hl ⟨_, _, _, hg, false, hq, rfl, rfl, rfl⟩
    | true =>
      rw [hc] at hq
      rw [Bool.true_and]
      exact rvalid_r fun e => br_yes hl ⟨_, _, _, hg, true, hq, br_f rfl (br_yes hw ih)⟩
theorem rvalid_inner {p : Pgm} {f : Prc} (hlen : f.params.length ≤ maxLen) (hv : ∀ v ∈ f.params, v.ok) : ∀ (us : List VarD) (i : Nat), f.params.drop i = us →
    LoopAns cx true 2 (loopIn (loopC Tryd.prog 41 1) 0) [2, 5, 6] [.bool false, .ptr 1 6 0, .int .i64 (i : Nat)] [pbx p, .box f.av.cells] (if us.all isDecl then .exit 4 else .ret) [2] [.bool false] [pbx p, .box f.av.cells]
  | [], i, hd => by
    obtain ⟨zv, fv, vars, zp, fp, procs, ⟨k, num, s, z, fl, kids⟩⟩ := p
    obtain ⟨nm, zf, ff, params, ⟨k', num', s', z', fl', kids'⟩⟩ := f
    exact rvalid_q fun e => br_no (by have := drop_nil hd; rw [vavs_length]; (try dsimp only at *); omega) ⟨rfl, rfl, rfl⟩
  | v :: us, i, hd => by
    have ih := rvalid_inner (p := p) hlen hv us (i + 1) (drop_cons hd).2.2
    obtain ⟨zv, fv, vars, zp, fp, procs, ⟨k, num, s, z, fl, kids⟩⟩ := p
    obtain ⟨nm, zf, ff, params, ⟨k', num', s', z', fl', kids'⟩⟩ := f
    obtain ⟨h1, h2, h3⟩ := drop_cons hd
    simp only at h1 h2 h3 ih hlen hv
    have hq := rdecl_pw v (hv v (List.mem_of_getElem? h1))
    have hg : (vavs params)[i]? = some v.av := by rw [vavs_get, h1]; rfl
    have hl : ((i : Nat) : Int) < ((vavs params).length : Nat) := by rw [vavs_length]; omega
    have hw := wrap_up (i := i) (by have := maxLen_le; omega)
    rw [List.all_cons]
    cases hc : isDecl v with
    | false =>
      rw [hc] at hq
      exact rvalid_q fun e => br_yes hl ⟨_, _, _, hg, false, hq, rfl, rfl, rfl⟩
    | true =>
      rw [hc] at hq
      rw [Bool.true_and]
      exact rvalid_q fun e => br_yes hl ⟨_, _, _, hg, true, hq, br_f rfl (br_yes hw ih)⟩
theorem rvalid_procs {p : Pgm} (ho : p.ok) (hs : ∀ f ∈ p.procs, sizeT f.body ≤ 1000000) : ∀ (us : List Prc) (i : Nat), p.procs.drop i = us →
    (match us.all procB with
      | true => LoopAns cx true 1 (loopC Tryd.prog 41 1) [1, 2, 4] [.ptr 0 6 0, .bool false, .int .i64 (i : Nat)] [pbx p] (.exit 2) [2] [.bool false] [pbx p]
      | false => ∃ g, LoopAns cx true 1 (loopC Tryd.prog 41 1) [1, 2, 4] [.ptr 0 6 0, .bool false, .int .i64 (i : Nat)] [pbx p] .ret [2] [.bool false] (pbx p :: g))
  | [], i, hd => by
    obtain ⟨zv, fv, vars, zp, fp, procs, ⟨k, num, s, z, fl, kids⟩⟩ := p
    exact rvalid_p fun e => br_no (by have := drop_nil hd; rw [pavs_length]; (try dsimp only at *); omega) ⟨rfl, rfl, rfl⟩
  | f :: us, i, hd => by
    have ih := rvalid_procs ho hs us (i + 1) (drop_cons hd).2.2
    have hm0 := List.mem_of_getElem? (drop_cons hd).1
    have hok := ho.2.2.2.1 f hm0
    have hin := rvalid_inner (p := p) (f := f) hok.2.1 hok.2.2.1 f.params 0 rfl
    have hn := rname_pw hok.1
    have hb := rbody_pw f.body hok.2.2.2 (hs f hm0)
    obtain ⟨zv, fv, vars, zp, fp, procs, ⟨k, num, s, z, fl, kids⟩⟩ := p
    obtain ⟨h1, h2, h3⟩ := drop_cons hd
    simp only at h1 h2 h3 ih
    have hlen : procs.length ≤ maxLen := ho.2.2.1
    have hw := wrap_up (i := i) (by have := maxLen_le; omega)
    have hu := pbx_under (N := 1) (zv := zv) (fv := fv) (zp := zp) (fp := fp) (k := k) (num := num) (s := s) (z := z) (fl := fl) (vavs_pure vars) (pavs_pure procs) (avs_pure kids)
    have hg : (pavs procs)[i]? = some f.av := by rw [pavs_get, h1]; rfl
    have hl : ((i : Nat) : Int) < ((pavs procs).length : Nat) := by rw [pavs_length]; omega
    rw [List.all_cons]
    have hpb : procB f = (nameB f.name && ((decide (f.params.length ≤ 8) && f.params.all isDecl) && bodyB f.body)) := rfl
    generalize procB f = pb at hpb ⊢
    generalize nameB f.name = nb at hn hpb
    generalize f.params.all isDecl = db at hin hpb
    generalize bodyB f.body = bb at hb hpb
    obtain ⟨nm, zf, ff, params, ⟨k', num', s', z', fl', kids'⟩⟩ := f
    simp only at hpb hin hb hn
    subst hpb
    by_cases h8 : params.length ≤ 8
    case neg =>
      have h8' : (8 : Int) < ((vavs params).length : Nat) := by rw [vavs_length]; omega
      rw [decide_eq_false h8, Bool.false_and, Bool.false_and, Bool.and_false, Bool.false_and]
      exact ⟨[.box (Prc.av ⟨nm, zf, ff, params, .mk k' num' s' z' fl' kids'⟩).cells], rvalid_p fun e => br_yes hl ⟨_, _, _, _, _, _, _, _, _, _, hg, _, hn, br_mk (fun _ => ⟨rfl, rfl, rfl⟩) (fun _ => br_yes h8' ⟨rfl, rfl, rfl⟩)⟩⟩
    have h8' : ¬ (8 : Int) < ((vavs params).length : Nat) := by rw [vavs_length]; omega
    rw [decide_eq_true h8, Bool.true_and]
    cases hpb : (nb && (db && bb)) with
    | false =>
      rw [Bool.false_and]
      refine ⟨[.box (Prc.av ⟨nm, zf, ff, params, .mk k' num' s' z' fl' kids'⟩).cells], rvalid_p fun e => br_yes hl ⟨_, _, _, _, _, _, _, _, _, _, hg, ?_⟩⟩
      refine ⟨_, hn, br_mk (fun _ => ⟨rfl, rfl, rfl⟩) (fun g1 => br_no h8' ⟨_, hb, br_mk (fun _ => ⟨rfl, rfl, rfl⟩) (fun g3 => ?_)⟩)⟩
      have e1 : nb = true := by simpa using g1
      have e3 : bb = true := by simpa using g3
      have e2 : db = false := by subst e1; subst e3; simpa using hpb
      subst e2
      exact .inl ⟨_, _, hin, fun e => ⟨rfl, rfl, rfl⟩⟩
    | true =>
      simp only [Bool.and_eq_true] at hpb
      obtain ⟨rfl, rfl, rfl⟩ := hpb
      rw [Bool.true_and]
      have go : ∀ {x : Exit} {g : Mem}, LoopAns cx true 1 (loopC Tryd.prog 41 1) [1, 2, 4] [.ptr 0 6 0, .bool false, .int .i64 ((i + 1 : Nat) : Int)] [pbx ⟨zv, fv, vars, zp, fp, procs, .mk k num s z fl kids⟩] x [2] [.bool false] g →
          LoopAns cx true 1 (loopC Tryd.prog 41 1) [1, 2, 4] [.ptr 0 6 0, .bool false, .int .i64 (i : Nat)] [pbx ⟨zv, fv, vars, zp, fp, procs, .mk k num s z fl kids⟩] x [2] [.bool false] g := by
        intro x g h
        refine rvalid_p fun e => br_yes hl ⟨_, _, _, _, _, _, _, _, _, _, hg, _, hn, br_f rfl (br_no h8' ⟨_, hb, br_f rfl (.inr ⟨_, hin, fun e => br_yes hw (br_t hu h)⟩)⟩)⟩
      cases hc : us.all procB with
      | true => rw [hc] at ih; exact go ih
      | false => rw [hc] at ih; obtain ⟨g, ih⟩ := ih; exact ⟨g, go ih⟩
theorem rvalid_pw (p : Pgm) (ho : p.ok) (hm : sizeT p.main ≤ 1000000) (hs : ∀ f ∈ p.procs, sizeT f.body ≤ 1000000) : Pw cx 41 [p.av] (.bool (validB p)) := by
  have hp : pureL [p.av] = true := by simp [pureL, pgm_pure]
  have hl1 := rvalid_loop ho p.vars 0 rfl
  have hl2 := rvalid_procs ho hs p.procs 0 rfl
  have hb := rbody_pw p.main ho.2.2.2.2 hm
  unfold validB
  generalize (p.procs.all procB) = q at hl2 ⊢
  generalize (p.vars.all isDecl) = db at hl1 ⊢
  generalize bodyB p.main = bb at hb ⊢
  obtain ⟨zv, fv, vars, zp, fp, procs, ⟨k, num, s, z, fl, kids⟩⟩ := p
  simp only at hb hl1 hl2 ⊢
  refine rvalid_w hp ?_
  rw [vavs_length, pavs_length]
  by_cases h1 : vars.length ≤ 32
  case neg =>
    refine br_yes (by (try dsimp only at *); omega) ?_
    rw [decide_eq_false h1]; rfl
  refine br_no (by (try dsimp only at *); omega) ?_
  rw [decide_eq_true h1, Bool.true_and]
  by_cases h2 : procs.length ≤ 64
  case neg =>
    refine br_yes (by (try dsimp only at *); omega) ?_
    rw [decide_eq_false h2]; simp
  refine br_no (by (try dsimp only at *); omega) ?_
  rw [decide_eq_true h2, Bool.true_and]
  refine ⟨_, hb, br_mk (fun h3 => ?_) (fun h3 => ?_)⟩
  · have h3 : bb = false := by simpa using h3
    rw [h3]; simp
  have h3 : bb = true := by simpa using h3
  rw [h3, Bool.true_and]
  cases db with
  | false => exact .inl ⟨_, _, hl1, fun e => rfl⟩
  | true =>
    rw [Bool.true_and]
    refine .inr ⟨_, hl1, fun e => ?_⟩
    cases q with
    | true => exact .inr ⟨_, hl2, fun e => rfl⟩
    | false => obtain ⟨g, hl2⟩ := hl2; exact .inl ⟨_, g, hl2, fun e => rfl⟩
theorem small_prog {p : Pgm} (h : bigP p = false) : sizeT p.main ≤ 400 ∧ ∀ f ∈ p.procs, sizeT f.body ≤ 400 := by
  unfold bigP at h
  simp only [Bool.or_eq_false_iff, List.any_eq_false, Bool.or_eq_true, not_or, Bool.not_eq_true] at h
  exact ⟨(small_of h.2.2.1).1, fun f hf => (small_of (h.2.2.2 f hf).2).1⟩
theorem lawValid_pw (p : Pgm) (ho : p.ok) : Pw cx 9 [p.av] (.bool true) := by
  have hp : pureL [p.av] = true := by simp [pureL, pgm_pure]
  have h1 := bigp_pw p ho
  cases hb : bigP p with
  | true =>
    rw [hb] at h1
    obtain ⟨zv, fv, vars, zp, fp, procs, ⟨k, num, s, z, fl, kids⟩⟩ := p
    exact lawValid_w hp ⟨_, awake_pw, br_f rfl ⟨_, h1, rfl⟩⟩
  | false =>
    rw [hb] at h1
    obtain ⟨g1, g2⟩ := small_prog hb
    have h2 := valid_pw p ho (by omega) (fun f hf => by have := g2 f hf; omega)
    have h3 := rvalid_pw p ho (by omega) (fun f hf => by have := g2 f hf; omega)
    obtain ⟨zv, fv, vars, zp, fp, procs, ⟨k, num, s, z, fl, kids⟩⟩ := p
    exact lawValid_w hp ⟨_, awake_pw, br_f rfl ⟨_, h1, br_f rfl ⟨_, h2, _, h3, by rw [beq_self_eq_true]⟩⟩⟩
end Go.Ab
