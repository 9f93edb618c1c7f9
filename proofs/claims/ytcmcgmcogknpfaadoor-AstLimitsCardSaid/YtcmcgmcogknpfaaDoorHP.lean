/- Equality of programs (ast.Same); the law AstLimits over abstract values. -/
import Derived.Test.YtcmcgmcogknpfaaDoorHN
import Derived.Test.YtcmcgmcogknpfaaDoorHJ
import Derived.Test.YtcmcgmcogknpfaaDoorHO
set_option linter.unusedVariables false
set_option linter.unusedSimpArgs false
namespace Go.Ab
open Go Go.Proofs

def eqV (v w : VarD) : Bool := (v.name.data.toList == w.name.data.toList) && (decide (v.kind = w.kind) && (decide (v.len = w.len) && true))
def eqVs : List VarD → List VarD → Bool
  | [], [] => true
  | [], _ :: _ => false
  | _ :: _, [] => false
  | a :: al, b :: bl => eqV a b && eqVs al bl
theorem eqVs_length : ∀ {a b : List VarD}, eqVs a b = true → a.length = b.length
  | [], [], _ => rfl
  | [], _ :: _, h => by simp [eqVs] at h
  | _ :: _, [], h => by simp [eqVs] at h
  | a :: al, b :: bl, h => by
    rw [eqVs, Bool.and_eq_true] at h
    simp [eqVs_length h.2]
theorem eqVs_refl : ∀ a : List VarD, eqVs a a = true
  | [] => rfl
  | a :: al => by rw [eqVs, eqVs_refl al]; simp [eqV]
def eqP (f g : Prc) : Bool := (f.name.data.toList == g.name.data.toList) && (eqVs f.params g.params && eqT f.body g.body)
def eqPs : List Prc → List Prc → Bool
  | [], [] => true
  | [], _ :: _ => false
  | _ :: _, [] => false
  | a :: al, b :: bl => eqP a b && eqPs al bl
theorem eqPs_length : ∀ {a b : List Prc}, eqPs a b = true → a.length = b.length
  | [], [], _ => rfl
  | [], _ :: _, h => by simp [eqPs] at h
  | _ :: _, [], h => by simp [eqPs] at h
  | a :: al, b :: bl, h => by
    rw [eqPs, Bool.and_eq_true] at h
    simp [eqPs_length h.2]
theorem eqPs_refl : ∀ a : List Prc, eqPs a a = true
  | [] => rfl
  | a :: al => by rw [eqPs, eqPs_refl al]; simp [eqP, eqVs_refl, eqT_refl]
def sameB (p q : Pgm) : Bool := eqVs p.vars q.vars && (eqT p.main q.main && eqPs p.procs q.procs)

theorem eqv_loop {z fl y gl : Bool} {ts us : List VarD} (hb : ts.length ≤ maxLen) (hlen : ts.length = us.length) : ∀ (tl ul : List VarD) (i : Nat), ts.drop i = tl → us.drop i = ul →
    LoopAns cx true 0 (loopC Tryd.prog 64 0) [0, 1, 4, 12, 13] [.seq z fl 3 (vavs ts), .seq y gl 3 (vavs us), .bool false, .int .i64 ((vavs ts).length : Nat), .int .i64 (i : Nat)] [] (if eqVs tl ul then .exit 0 else .ret) [4] [.bool false] []
  | [], [], i, hd, hu => by
    rw [eqVs]
    exact eqv_r fun e => br_no (by have := drop_nil hd; rw [vavs_length]; omega) ⟨rfl, rfl, rfl⟩
  | [], u :: ul, i, hd, hu => by have := drop_nil hd; have := (drop_cons hu).2.1; omega
  | t :: tl, [], i, hd, hu => by have := drop_nil hu; have := (drop_cons hd).2.1; omega
  | v :: tl, w :: ul, i, hd, hu => by
    obtain ⟨h1, h2, h3⟩ := drop_cons hd
    obtain ⟨u1, u2, u3⟩ := drop_cons hu
    have hg : (vavs ts)[i]? = some v.av := by rw [vavs_get, h1]; rfl
    have hg' : (vavs us)[i]? = some w.av := by rw [vavs_get, u1]; rfl
    have hl : ((i : Nat) : Int) < ((vavs ts).length : Nat) := by rw [vavs_length]; omega
    have ih := eqv_loop (z := z) (fl := fl) (y := y) (gl := gl) hb hlen tl ul (i + 1) h3 u3
    rw [eqVs]
    cases he : eqV v w with
    | false => exact eqv_r fun e => br_yes hl ⟨_, _, _, hg, _, _, _, hg', br_t (by unfold eqV at he; rw [he]; rfl) ⟨rfl, rfl, rfl⟩⟩
    | true =>
      rw [Bool.true_and]
      exact eqv_r fun e => br_yes hl ⟨_, _, _, hg, _, _, _, hg', br_f (by unfold eqV at he; rw [he]; rfl) (br_yes (wrap_up (by have := maxLen_le; omega)) ih)⟩
theorem eqv_pw {z fl y gl : Bool} {ts us : List VarD} (hb : ts.length ≤ maxLen) : Pw cx 64 [.seq z fl 3 (vavs ts), .seq y gl 3 (vavs us)] (.bool (eqVs ts us)) := by
  have hp : pureL [.seq z fl 3 (vavs ts), .seq y gl 3 (vavs us)] = true := by simp [pureL, AV.pure, vavs_pure]
  refine eqv_w hp ?_
  rw [vavs_length, vavs_length]
  by_cases hlen : ts.length = us.length
  · refine br_f (by simp [hlen]) ?_
    have := eqv_loop (z := z) (fl := fl) (y := y) (gl := gl) hb hlen ts us 0 rfl rfl
    rw [vavs_length] at this
    cases hc : eqVs ts us with
    | true => rw [hc] at this; exact .inr ⟨_, this, fun e => rfl⟩
    | false => rw [hc] at this; exact .inl ⟨_, _, this, fun e => rfl⟩
  · have : eqVs ts us = false := by
      cases hc : eqVs ts us with
      | false => rfl
      | true => exact absurd (eqVs_length hc) hlen
    rw [this]
    exact br_t (by simp; omega) rfl
theorem same1_pw (f g : Prc) (ho : f.ok) : Pw cx 66 [f.av, g.av] (.bool (eqP f g)) := by
  have hp : pureL [f.av, g.av] = true := by simp [pureL, prc_pure]
  have h1 := eqv_pw (z := f.z) (fl := f.fl) (y := g.z) (gl := g.fl) (us := g.params) ho.2.1
  have h2 := equal_pw f.body g.body ho.2.2.2
  unfold eqP
  generalize eqVs f.params g.params = b1 at h1 ⊢
  generalize eqT f.body g.body = b2 at h2 ⊢
  obtain ⟨nm, zf, ff, params, ⟨k', num', s', z', fl', kids'⟩⟩ := f
  obtain ⟨nm2, zf2, ff2, params2, ⟨k2, num2, s2, z2, fl2, kids2⟩⟩ := g
  refine same1_w hp (br_mk (fun g1 => ⟨_, h1, br_mk (fun g2 => ⟨_, h2, ?_⟩) (fun g2 => ?_)⟩) (fun g1 => ?_))
  · simp_all
  · simp_all
  · simp_all
theorem eqp_loop {z fl y gl : Bool} {ts us : List Prc} (hb : ts.length ≤ maxLen) (ho : ∀ f ∈ ts, f.ok) (hlen : ts.length = us.length) : ∀ (tl ul : List Prc) (i : Nat), ts.drop i = tl → us.drop i = ul →
    (match eqPs tl ul with
      | true => LoopAns cx true 0 (loopC Tryd.prog 65 0) [1, 2, 6, 15, 16, 17] [.seq y gl 6 (pavs us), .fn 66 [] [], .bool false, .seq z fl 6 (pavs ts), .int .i64 ((pavs ts).length : Nat), .int .i64 (i : Nat)] [] (.exit 0) [6] [.bool false] []
      | false => ∃ m', LoopAns cx true 0 (loopC Tryd.prog 65 0) [1, 2, 6, 15, 16, 17] [.seq y gl 6 (pavs us), .fn 66 [] [], .bool false, .seq z fl 6 (pavs ts), .int .i64 ((pavs ts).length : Nat), .int .i64 (i : Nat)] [] .ret [6] [.bool false] m')
  | [], [], i, hd, hu => by
    rw [eqPs]
    exact eqp_r fun e => br_no (by have := drop_nil hd; rw [pavs_length]; omega) ⟨rfl, rfl, rfl⟩
  | [], u :: ul, i, hd, hu => by have := drop_nil hd; have := (drop_cons hu).2.1; omega
  | t :: tl, [], i, hd, hu => by have := drop_nil hu; have := (drop_cons hd).2.1; omega
  | f :: tl, g :: ul, i, hd, hu => by
    obtain ⟨h1, h2, h3⟩ := drop_cons hd
    obtain ⟨u1, u2, u3⟩ := drop_cons hu
    have hg : (pavs ts)[i]? = some f.av := by rw [pavs_get, h1]; rfl
    have hg' : (pavs us)[i]? = some g.av := by rw [pavs_get, u1]; rfl
    have hq := same1_pw f g (ho f (List.mem_of_getElem? h1))
    have hl : ((i : Nat) : Int) < ((pavs ts).length : Nat) := by rw [pavs_length]; omega
    have pt := underL_pure (N := 0) (pavs_pure ts)
    have pu := underL_pure (N := 0) (pavs_pure us)
    have ih := eqp_loop (z := z) (fl := fl) (y := y) (gl := gl) hb ho hlen tl ul (i + 1) h3 u3
    rw [eqPs]
    generalize eqP f g = b at hq ⊢
    obtain ⟨nm, zf, ff, params, ⟨k', num', s', z', fl', kids'⟩⟩ := f
    obtain ⟨nm2, zf2, ff2, params2, ⟨k2, num2, s2, z2, fl2, kids2⟩⟩ := g
    cases b with
    | false => exact ⟨_, eqp_r fun e => br_yes hl ⟨_, _, _, _, _, _, _, _, _, _, hg, _, _, _, _, _, _, _, _, _, _, hg', br_t rfl ⟨false, hq, rfl, rfl, rfl⟩⟩⟩
    | true =>
      rw [Bool.true_and]
      have go : ∀ {x : Exit} {m' : Mem}, LoopAns cx true 0 (loopC Tryd.prog 65 0) [1, 2, 6, 15, 16, 17] [.seq y gl 6 (pavs us), .fn 66 [] [], .bool false, .seq z fl 6 (pavs ts), .int .i64 ((pavs ts).length : Nat), .int .i64 ((i + 1 : Nat) : Int)] [] x [6] [.bool false] m' →
          LoopAns cx true 0 (loopC Tryd.prog 65 0) [1, 2, 6, 15, 16, 17] [.seq y gl 6 (pavs us), .fn 66 [] [], .bool false, .seq z fl 6 (pavs ts), .int .i64 ((pavs ts).length : Nat), .int .i64 (i : Nat)] [] x [6] [.bool false] m' := fun h =>
        eqp_r fun e => br_yes hl ⟨_, _, _, _, _, _, _, _, _, _, hg, _, _, _, _, _, _, _, _, _, _, hg', br_t rfl ⟨true, hq, br_f rfl (br_yes (wrap_up (by have := maxLen_le; omega)) (br_t (by simp [underL, AV.under, pt, pu]) (br_t (by simp [underL, AV.under, pt, pu]) h)))⟩⟩
      cases hc : eqPs tl ul with
      | true => rw [hc] at ih; exact go ih
      | false => rw [hc] at ih; obtain ⟨m', ih⟩ := ih; exact ⟨m', go ih⟩
theorem eqp_pw {z fl y gl : Bool} {ts us : List Prc} (hb : ts.length ≤ maxLen) (ho : ∀ f ∈ ts, f.ok) : Pw cx 65 [.seq z fl 6 (pavs ts), .seq y gl 6 (pavs us), .fn 66 [] []] (.bool (eqPs ts us)) := by
  have hp : pureL [.seq z fl 6 (pavs ts), .seq y gl 6 (pavs us), .fn 66 [] []] = true := by simp [pureL, AV.pure, pavs_pure]
  refine eqp_w hp ?_
  rw [pavs_length, pavs_length]
  by_cases hlen : ts.length = us.length
  · refine br_f (by simp [hlen]) ?_
    have := eqp_loop (z := z) (fl := fl) (y := y) (gl := gl) hb ho hlen ts us 0 rfl rfl
    rw [pavs_length] at this
    cases hc : eqPs ts us with
    | true => rw [hc] at this; exact .inr ⟨_, this, fun e => rfl⟩
    | false => rw [hc] at this; obtain ⟨m', this⟩ := this; exact .inl ⟨_, m', this, fun e => rfl⟩
  · have : eqPs ts us = false := by
      cases hc : eqPs ts us with
      | false => rfl
      | true => exact absurd (eqPs_length hc) hlen
    rw [this]
    exact br_t (by simp; omega) rfl
theorem same_pw (p q : Pgm) (ho : p.ok) : Pw cx 42 [p.av, q.av] (.bool (sameB p q)) := by
  have hp : pureL [p.av, q.av] = true := by simp [pureL, pgm_pure]
  have h1 := eqv_pw (z := p.zv) (fl := p.fv) (y := q.zv) (gl := q.fv) (us := q.vars) ho.1
  have h2 := equal_pw p.main q.main ho.2.2.2.2
  have h3 := eqp_pw (z := p.zp) (fl := p.fp) (y := q.zp) (gl := q.fp) (us := q.procs) ho.2.2.1 ho.2.2.2.1
  unfold sameB
  generalize eqVs p.vars q.vars = b1 at h1 ⊢
  generalize eqT p.main q.main = b2 at h2 ⊢
  generalize eqPs p.procs q.procs = b3 at h3 ⊢
  obtain ⟨zv, fv, vars, zp, fp, procs, ⟨k, num, s, z, fl, kids⟩⟩ := p
  obtain ⟨zv2, fv2, vars2, zp2, fp2, procs2, ⟨k2, num2, s2, z2, fl2, kids2⟩⟩ := q
  refine same_w hp ⟨_, h1, br_mk (fun g1 => ⟨_, h2, br_mk (fun g2 => ⟨_, h3, ?_⟩) (fun g2 => ?_)⟩) (fun g1 => ?_)⟩
  · simp_all
  · simp_all
  · simp_all
end Go.Ab
