/- Programs: validity, the law AstValid over abstract values. -/
import Derived.Test.YtcmcgmcogknpfaaDoorHL
set_option linter.unusedVariables false
set_option linter.unusedSimpArgs false
namespace Go.Ab
open Go Go.Proofs

def idxV (p : VarD → Bool) : List VarD → Nat → Option Nat
  | [], _ => none
  | x :: xs, i => if p x then some i else idxV p xs (i + 1)
theorem idxV_any (p : VarD → Bool) : ∀ (ts : List VarD) (i : Nat), (idxV p ts i).isSome = ts.any p
  | [], i => rfl
  | t :: ts, i => by
    simp only [idxV, List.any_cons]
    cases p t with
    | true => simp
    | false => simpa using idxV_any p ts (i + 1)
theorem indexV_loop {z fl : Bool} {ts : List VarD} {g : Nat} {p : VarD → Bool} (hb : ts.length ≤ maxLen) (hs : cx.sh g = false) (h0 : ∀ t ∈ ts, Pw cx g [t.av] (.bool (p t))) : ∀ (us : List VarD) (i : Nat), ts.drop i = us →
    ∃ x r, LoopAns cx true 0 (loopC Tryd.prog 88 0) [0, 1, 4, 7, 8] [.seq z fl 3 (vavs ts), .fn g [] [], .int .i64 0, .int .i64 ((vavs ts).length : Nat), .int .i64 (i : Nat)] [] x [4] [.int .i64 r] [] ∧
      (match idxV p us i with | some j => x = .ret ∧ r = (j : Nat) | none => x = .exit 0)
  | [], i, hd => by
    have := drop_nil hd
    exact ⟨.exit 0, 0, indexV_r fun e => br_no (by rw [vavs_length]; omega) ⟨rfl, rfl, rfl⟩, rfl⟩
  | v :: us, i, hd => by
    obtain ⟨h1, h2, h3⟩ := drop_cons hd
    have hg : (vavs ts)[i]? = some v.av := by rw [vavs_get, h1]; rfl
    have hq := h0 _ (List.mem_of_getElem? h1)
    have hl : ((i : Nat) : Int) < ((vavs ts).length : Nat) := by rw [vavs_length]; omega
    cases hp : p v with
    | true =>
      rw [hp] at hq
      refine ⟨.ret, (i : Nat), indexV_r fun e => br_yes hl ⟨_, _, _, hg, br_t (by rw [hs]; rfl) ⟨true, hq, rfl, rfl, rfl⟩⟩, ?_⟩
      simp [idxV, hp]
    | false =>
      rw [hp] at hq
      obtain ⟨x, r, ih, hx⟩ := indexV_loop (z := z) (fl := fl) hb hs h0 us (i + 1) h3
      refine ⟨x, r, indexV_r fun e => br_yes hl ⟨_, _, _, hg, br_t (by rw [hs]; rfl) ⟨false, hq, br_yes (wrap_up (by have := maxLen_le; omega)) ih⟩⟩, ?_⟩
      simpa [idxV, hp] using hx
theorem containsV_pw {z fl : Bool} {ts : List VarD} {g : Nat} {p : VarD → Bool} (hb : ts.length ≤ maxLen) (hs : cx.sh g = false) (h0 : ∀ t ∈ ts, Pw cx g [t.av] (.bool (p t))) :
    Pw cx 73 [.seq z fl 3 (vavs ts), .fn g [] []] (.bool (ts.any p)) := by
  have hp : pureL [.seq z fl 3 (vavs ts), .fn g [] []] = true := by simp [pureL, AV.pure, vavs_pure]
  obtain ⟨x, r, h1, h2⟩ := indexV_loop (z := z) (fl := fl) hb hs h0 ts 0 rfl
  have ha := idxV_any p ts 0
  cases hx : idxV p ts 0 with
  | some j =>
    rw [hx] at h2 ha
    obtain ⟨rfl, rfl⟩ := h2
    rw [← ha]
    exact containsV_w hp ⟨_, indexV_w hp (.inl ⟨_, _, h1, fun e => rfl⟩), by simp⟩
  | none =>
    rw [hx] at h2 ha
    have h2 : x = .exit 0 := h2
    subst h2
    rw [← ha]
    exact containsV_w hp ⟨_, indexV_w hp (.inr ⟨_, h1, fun e => rfl⟩), rfl⟩
theorem any_all {α : Type} (p : α → Bool) : ∀ ts : List α, (!ts.any fun v => !p v) = ts.all p
  | [] => rfl
  | v :: ts => by
    have := any_all p ts
    simp only [List.any_cons, List.all_cons, Bool.not_or, Bool.not_not, this]
theorem decls_pw {z fl : Bool} {ts : List VarD} (m : Nat) (hb : ts.length ≤ maxLen) (ho : ∀ v ∈ ts, v.ok) : Pw cx 60 [.seq z fl 3 (vavs ts), .int .i64 (m : Nat)] (.bool (decide (ts.length ≤ m) && ts.all isDecl)) := by
  have hp : pureL [.seq z fl 3 (vavs ts), .int .i64 (m : Nat)] = true := by simp [pureL, AV.pure, vavs_pure]
  have hc := containsV_pw (z := z) (fl := fl) (g := 74) (p := fun v => !isDecl v) hb rfl (fun v hv => decls1_w rfl ⟨_, decl_pw v (ho v hv), rfl⟩)
  refine decls_w hp ?_
  rw [vavs_length]
  have ha : (!ts.any fun v => !isDecl v) = ts.all isDecl := any_all isDecl ts
  by_cases h : ts.length ≤ m
  · refine br_yes (by omega) ⟨_, hc, ?_⟩
    rw [ha, decide_eq_true h, Bool.true_and]
  · refine br_no (by omega) ?_
    rw [decide_eq_false h]; rfl
abbrev pbx (p : Pgm) : Blk := .box (.seq p.zv p.fv 3 (vavs p.vars) :: .seq p.zp p.fp 6 (pavs p.procs) :: p.main.cells)
def procB (f : Prc) : Bool := nameB f.name && ((decide (f.params.length ≤ 8) && f.params.all isDecl) && bodyB f.body)
def validB (p : Pgm) : Bool := (decide (p.vars.length ≤ 32) && p.vars.all isDecl) && (decide (p.procs.length ≤ 64) && (bodyB p.main && p.procs.all procB))
def bigP (p : Pgm) : Bool := decide (40 < p.vars.length) || (decide (70 < p.procs.length) || (big p.main || p.procs.any fun f => decide (10 < f.params.length) || big f.body))
theorem pbx_under {N : Nat} {zv fv zp fp : Bool} {vs ps : List AV} {k num : Int} {s : ByteArray} {z fl : Bool} {xs : List AV} (h1 : pureL vs = true) (h2 : pureL ps = true) (h3 : pureL xs = true) :
    List.all [Blk.box [AV.seq zv fv 3 vs, AV.seq zp fp 6 ps, AV.int IntKind.u8 k, AV.int IntKind.i64 num, AV.str s, AV.seq z fl 4 xs]] (blkUnder N 0) = true := by
  simp [blkUnder, underL, AV.under, underL_pure h1, underL_pure h2, underL_pure h3]
theorem bigp_loop {p : Pgm} (ho : p.ok) : ∀ (us : List Prc) (i : Nat), p.procs.drop i = us →
    (match us.any (fun f => decide (10 < f.params.length) || big f.body) with
      | true => ∃ g, LoopAns cx true 1 (loopC Tryd.prog 39 0) [1, 2, 3] [.ptr 0 6 0, .bool false, .int .i64 (i : Nat)] [pbx p] .ret [2] [.bool true] (pbx p :: g)
      | false => LoopAns cx true 1 (loopC Tryd.prog 39 0) [1, 2, 3] [.ptr 0 6 0, .bool false, .int .i64 (i : Nat)] [pbx p] (.exit 0) [2] [.bool false] [pbx p])
  | [], i, hd => by
    obtain ⟨zv, fv, vars, zp, fp, procs, ⟨k, num, s, z, fl, kids⟩⟩ := p
    exact bigp_r fun e => br_no (by have := drop_nil hd; rw [pavs_length]; (try dsimp only at *); omega) ⟨rfl, rfl, rfl⟩
  | f :: us, i, hd => by
    have ih := bigp_loop ho us (i + 1) (drop_cons hd).2.2
    obtain ⟨zv, fv, vars, zp, fp, procs, ⟨k, num, s, z, fl, kids⟩⟩ := p
    obtain ⟨h1, h2, h3⟩ := drop_cons hd
    simp only at h1 h2 h3 ih
    have hm := List.mem_of_getElem? h1
    have hok := ho.2.2.2.1 f hm
    have hbig := big_pw f.body hok.2.2.2
    obtain ⟨nm, zf, ff, params, ⟨k', num', s', z', fl', kids'⟩⟩ := f
    have hg : (pavs procs)[i]? = some (Prc.av ⟨nm, zf, ff, params, .mk k' num' s' z' fl' kids'⟩) := by rw [pavs_get, h1]; rfl
    have hl : ((i : Nat) : Int) < ((pavs procs).length : Nat) := by rw [pavs_length]; omega
    have hlen : procs.length ≤ maxLen := ho.2.2.1
    have hw := wrap_up (i := i) (by have := maxLen_le; (try dsimp only at *); omega)
    have hu := pbx_under (N := 1) (zv := zv) (fv := fv) (zp := zp) (fp := fp) (k := k) (num := num) (s := s) (z := z) (fl := fl) (vavs_pure vars) (pavs_pure procs) (avs_pure kids)
    simp only at hbig
    rw [List.any_cons]
    simp only
    by_cases hp : 10 < params.length
    · rw [decide_eq_true hp, Bool.true_or, Bool.true_or]
      exact ⟨_, bigp_r fun e => br_yes hl ⟨_, _, _, _, _, _, _, _, _, _, hg, br_yes (by rw [vavs_length]; (try dsimp only at *); omega) ⟨rfl, rfl, rfl⟩⟩⟩
    rw [decide_eq_false hp, Bool.false_or]
    have hp' : ¬ (10 : Int) < ((vavs params).length : Nat) := by rw [vavs_length]; omega
    cases hbb : big (.mk k' num' s' z' fl' kids') with
    | true =>
      rw [hbb] at hbig
      rw [Bool.true_or]
      refine ⟨[], bigp_r fun e => br_yes hl ⟨_, _, _, _, _, _, _, _, _, _, hg, br_no hp' ?_⟩⟩
      exact ⟨_, _, _, _, _, _, _, _, _, _, hg, true, hbig, rfl, rfl, rfl⟩
    | false =>
      rw [hbb] at hbig
      rw [Bool.false_or]
      have go : ∀ {x : Exit} {b : Bool} {g : Mem}, LoopAns cx true 1 (loopC Tryd.prog 39 0) [1, 2, 3] [.ptr 0 6 0, .bool false, .int .i64 ((i + 1 : Nat) : Int)] [pbx ⟨zv, fv, vars, zp, fp, procs, .mk k num s z fl kids⟩] x [2] [.bool b] g →
          LoopAns cx true 1 (loopC Tryd.prog 39 0) [1, 2, 3] [.ptr 0 6 0, .bool false, .int .i64 (i : Nat)] [pbx ⟨zv, fv, vars, zp, fp, procs, .mk k num s z fl kids⟩] x [2] [.bool b] g := by
        intro x b g h
        refine bigp_r fun e => br_yes hl ⟨_, _, _, _, _, _, _, _, _, _, hg, br_no hp' ?_⟩
        refine ⟨_, _, _, _, _, _, _, _, _, _, hg, false, hbig, br_f rfl (br_yes hw ?_)⟩
        exact h
      cases hc : us.any (fun f => decide (10 < f.params.length) || big f.body) with
      | true => rw [hc] at ih; obtain ⟨g, ih⟩ := ih; exact ⟨g, go ih⟩
      | false => rw [hc] at ih; exact go ih
theorem bigp_pw (p : Pgm) (ho : p.ok) : Pw cx 39 [p.av] (.bool (bigP p)) := by
  have hp : pureL [p.av] = true := by simp [pureL, pgm_pure]
  have hlp := bigp_loop ho p.procs 0 rfl
  have hm := big_pw p.main ho.2.2.2.2
  unfold bigP
  generalize hq : (p.procs.any fun f => decide (10 < f.params.length) || big f.body) = q at hlp
  obtain ⟨zv, fv, vars, zp, fp, procs, ⟨k, num, s, z, fl, kids⟩⟩ := p
  simp only at hm hlp ⊢
  refine bigp_w hp ?_
  rw [vavs_length, pavs_length]
  by_cases h1 : 40 < vars.length
  · refine br_yes (by (try dsimp only at *); omega) ?_
    rw [decide_eq_true h1]; rfl
  refine br_no (by (try dsimp only at *); omega) ?_
  rw [decide_eq_false h1, Bool.false_or]
  by_cases h2 : 70 < procs.length
  · refine br_yes (by (try dsimp only at *); omega) ?_
    rw [decide_eq_true h2]; rfl
  refine br_no (by (try dsimp only at *); omega) ?_
  rw [decide_eq_false h2, Bool.false_or]
  refine ⟨_, hm, br_mk (fun h3 => by rw [h3]; rfl) (fun h3 => ?_)⟩
  rw [h3, Bool.false_or]
  cases q with
  | true => obtain ⟨g, hlp⟩ := hlp; exact .inl ⟨_, g, hlp, fun e => rfl⟩
  | false => exact .inr ⟨_, hlp, fun e => rfl⟩
end Go.Ab
