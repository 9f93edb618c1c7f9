/- Rounds of a range over a function, and the whole: what the evaluator gives, a call does. -/
import Derived.Test.YtcmcgmcogknpfaaDoorEY
set_option linter.unusedVariables false
set_option linter.unusedSimpArgs false
namespace Go.Ab
open Go

variable {cx : Cx} {F Y : CallT}

/-- A loop's record set anew. -/
theorem lp_set {V : Vw} (o : Ok V) {id b : Nat} {e : Env} {ps : List Nat} {a bd : Code} {st st' : LoopState} {pd pd' : Option Code} (hm : V.mem[id]? = some (.lp e ps a bd st pd)) (hr : V.rs id = some b) :
    ∃ r : Loop, V.w.heap[b]? = some (.loop r) ∧ r.state = st ∧ r.pending = pd ∧
      ∃ V', V'.w = V.w.putObj b (.loop { r with state := st', pending := pd' }) ∧ V'.mem = V.mem.set id (.lp e ps a bd st' pd') ∧ V'.rs = V.rs ∧ Ok V' ∧ Ext V V' := by
  obtain ⟨r, h1, h2, h3, h4, h5, h6, h7, h8⟩ := o.blk id b _ hm hr
  refine ⟨r, h1, h2, h3, ?_⟩
  let w' := V.w.putObj b (.loop { r with state := st', pending := pd' })
  have hlt : b < V.w.heap.size := (o.rb id b hr).1
  have hv : verOf V.mem id = some 0 := by rw [verOf_some hm]; rfl
  have ext : Ext V (V.wr id w' (.lp e ps a bd st' pd')) := ext_wr o hm hv rfl hr rfl rfl rfl World.putObj_size (fun j hj => World.putObj_heap_other hj)
  refine ⟨V.wr id w' (.lp e ps a bd st' pd'), rfl, rfl, rfl, ok_wr o hm hv rfl hr rfl rfl rfl World.putObj_size (fun j hj => World.putObj_heap_other hj) ?_, ext⟩
  exact ⟨{ r with state := st', pending := pd' }, World.putObj_heap_same hlt, rfl, rfl, h4, h5, h6, h7, fun t => (h8 t).mono ext⟩

theorem rs_keep {V V' : Vw} (e : Ext V V') {id b : Nat} (hid : id < V.mem.length) (hv : verOf V.mem id = some 0) (hv' : verOf V'.mem id = some 0) (hr : V.rs id = some b) : V'.rs id = some b := by
  obtain ⟨v0, h0, _, h2⟩ := e.ver id hid 0 hv'
  rw [hv] at h0
  cases h0
  exact (h2 rfl).1 b hr
theorem lpState_some {m : Mem} {id : Nat} {st : LoopState} {pd : Option Code} (h : lpState m id = some (st, pd)) : ∃ e ps a b, m[id]? = some (.lp e ps a b st pd) := by
  unfold lpState at h
  split at h
  · rename_i hm; cases h; exact ⟨_, _, _, _, hm⟩
  · cases h
theorem setLp_some {m m' : Mem} {id : Nat} {e : Env} {ps : List Nat} {a b : Code} {st st' : LoopState} {pd pd' : Option Code} (hm : m[id]? = some (.lp e ps a b st pd)) (h : setLp m id st' pd' = some m') : m' = m.set id (.lp e ps a b st' pd') := by
  unfold setLp at h
  rw [hm] at h
  cases h; rfl
theorem lp_ver {m : Mem} {id : Nat} {e : Env} {ps : List Nat} {a b : Code} {st : LoopState} {pd : Option Code} (hm : m[id]? = some (.lp e ps a b st pd)) : verOf m id = some 0 := by rw [verOf_some hm]; rfl

/-- Arguments laid into the temporaries. -/
theorem put_all {V : Vw} : ∀ {ps : List Nat} {args : List AV} {us : List Value} {e : Env} {tmps : Array Value}, Reps V args us → args.length = ps.length → (∀ p ∈ ps, p < tmps.size) → (∀ t, Rep V (e t) (tmps.getD t undef)) →
    (∀ t, Rep V (putAll e (ps.zip args) t) (((ps.zip us).foldl (fun tmps (t, a) => tmps.setIfInBounds t a) tmps).getD t undef)) ∧ ((ps.zip us).foldl (fun tmps (t, a) => tmps.setIfInBounds t a) tmps).size = tmps.size
  | [], args, us, e, tmps, hr, hl, hp, he => by simpa [putAll] using he
  | p :: ps, [], us, e, tmps, hr, hl, hp, he => by simp at hl
  | p :: ps, x :: args, us, e, tmps, hr, hl, hp, he => by
    obtain ⟨u, us', rfl, h1, h2⟩ := hr.inv
    simp only [List.zip_cons_cons, putAll, List.foldl_cons]
    have he' : EnvRep V e { tmps := tmps, defers := [] } := he
    have he2 := he'.put (d := some p) h1 (fun t ht => by cases ht; exact hp p (by simp))
    obtain ⟨g1, g2⟩ := put_all (ps := ps) (e := upd e p x) (tmps := tmps.setIfInBounds p u) h2 (by simpa using hl) (fun q hq => by simpa using hp q (List.mem_cons_of_mem _ hq)) he2
    exact ⟨g1, by rw [g2]; simp⟩

theorem yld_inv {n id : Nat} {args : List AV} {m : Mem} {rm : AV × Mem} (h : evYldW cx F Y n id args m = some rm) : ∃ e ps a b, m[id]? = some (.lp e ps a b .ready none) ∧ args.length = ps.length ∧
    ∃ e1 m1, evCode cx F Y n false a (putAll e (ps.zip args)) m = some (.normal, e1, m1) ∧ lpState m1 id = some (.ready, none) ∧ ∃ m2, setLp m1 id .busy none = some m2 ∧
    ∃ x e3 m3, evCode cx F Y n false b e1 m2 = some (x, e3, m3) ∧ lpState m3 id = some (.busy, none) ∧
      ((x = .normal ∧ rm.1 = .bool true ∧ setLp m3 id .ready none = some rm.2) ∨ (x = .ret ∧ rm.1 = .bool false ∧ setLp m3 id .done (some .ret) = some rm.2) ∨ ∃ j, x = .exit j ∧ rm.1 = .bool false ∧ setLp m3 id .done (some (.exit j)) = some rm.2) := by
  unfold evYldW at h
  split at h
  case h_2 => cases h
  rename_i e ps a b hm
  refine ⟨e, ps, a, b, hm, ?_⟩
  split at h
  case isFalse => cases h
  rename_i hl
  refine ⟨hl, ?_⟩
  split at h
  case h_2 => cases h
  rename_i e1 m1 h1
  refine ⟨e1, m1, h1, ?_⟩
  split at h
  case h_2 => cases h
  rename_i h2
  refine ⟨h2, ?_⟩
  split at h
  case h_2 => cases h
  rename_i m2 h3
  refine ⟨m2, h3, ?_⟩
  split at h
  case h_2 => cases h
  rename_i x e3 m3 h4
  refine ⟨x, e3, m3, h4, ?_⟩
  split at h
  case h_2 => cases h
  rename_i h5
  refine ⟨h5, ?_⟩
  split at h
  · obtain ⟨m4, h6, rfl⟩ := Option.map_eq_some_iff.1 h; exact .inl ⟨rfl, rfl, h6⟩
  · obtain ⟨m4, h6, rfl⟩ := Option.map_eq_some_iff.1 h; exact .inr (.inl ⟨rfl, rfl, h6⟩)
  · rename_i j; obtain ⟨m4, h6, rfl⟩ := Option.map_eq_some_iff.1 h; exact .inr (.inr ⟨j, rfl, rfl, h6⟩)
  · cases h

theorem yld_ok (hF : FunOK cx F) (hY : YldOK cx Y) (hX : CxOK cx) (n : Nat) : YldOK cx (evYldW cx F Y n) where
  live := fun id args m rm h => by
    obtain ⟨e, ps, a, b, hm, _⟩ := yld_inv h
    exact lp_ver hm
  ok := fun id args m r m' V vs b h ok gl hm hr hrs ro => by
    subst hm
    obtain ⟨e, ps, ac, bc, hlp, hlen, e1, m1, hev1, hst1, m2, hset2, x, e3, m3, hev3, hst3, hend⟩ := yld_inv h
    obtain ⟨r0, g1, g2, g3, ⟨g4, kk, g4a, g4b, g4c, g4d⟩, g5, g6, g7, g8⟩ := ok.blk id b _ hlp hrs
    have hidlt : id < V.mem.length := verOf_lt (lp_ver hlp)
    have hsz : vs.size = r0.params.size := by
      have : vs.size = args.length := by simpa using hr.1
      rw [g4]; simp [this, hlen]
    have hrun := run_yield (P := cx.P) g1 hsz
    refine ⟨_, _, _, _, hrun, ?_⟩
    have hpa := put_all (V := V) (ps := ps) (e := e) (tmps := r0.tmps) hr hlen (fun p hp => Nat.lt_of_lt_of_le (g4d p hp) g4a) g8
    have htm : (r0.params.zip vs).foldl (fun tmps (t, a) => tmps.setIfInBounds t a) r0.tmps = (ps.zip vs.toList).foldl (fun tmps (t, a) => tmps.setIfInBounds t a) r0.tmps := by
      rw [← Array.foldl_toList, Array.toList_zip, g4]
    rw [htm, g5, g6]
    refine roundIn_of_wpIn (F := W ro) (n := 0) trivial ?_
    refine code_ok (top := false) (N := 0) (fr := some b) hF hY hX (fun h => by cases h) ac g4b hev1 ok gl rfl hpa.1 (by rw [hpa.2]; exact g4a) rfl (Nat.zero_le _) (fun V1 a1 ok1 ext1 hm1 he1 hs1 hd1 => ?_)
    -- the record is ready: it is busy
    obtain ⟨e', ps', a', b', hlp1⟩ := lpState_some hst1
    rw [← hm1] at hlp1 hset2
    have hrs1 := rs_keep ext1 hidlt (lp_ver hlp) (lp_ver hlp1) hrs
    obtain ⟨r1, k1, k2, k3, V2, w2, mm2, rr2, ok2, ext2⟩ := lp_set (st' := .busy) (pd' := none) ok1 hlp1 hrs1
    have hbeg := run_beginRound (P := cx.P) k1 k2
    have hr1 : ({ r1 with state := .busy } : Loop) = { r1 with state := .busy, pending := none } := by cases r1; simp at k3; subst k3; rfl
    rw [hr1, ← w2] at hbeg
    refine ⟨V2.w, hbeg, ?_⟩
    have hmem2 : V2.mem = m2 := mm2.trans (setLp_some hlp1 hset2).symm
    have hsz1 : kk ≤ a1.tmps.size := by rw [hs1]; show kk ≤ _; rw [hpa.2]; exact g4a
    refine code_ok (top := false) (N := 0) (fr := some b) hF hY hX (fun h => by cases h) bc g4c hev3 ok2 (gl.mono (ext1.trans ext2)) hmem2 (he1.mono ext2) hsz1 hd1 (Nat.zero_le _) (fun V3 a3 ok3 ext3 hm3 he3 hs3 hd3 => ?_)
    obtain ⟨e'', ps'', a'', b'', hlp3⟩ := lpState_some hst3
    rw [← hm3] at hlp3
    have hid2 : id < V2.mem.length := by rw [mm2]; simp; exact verOf_lt (lp_ver hlp1)
    have hlp2 : V2.mem[id]? = some (.lp e' ps' a' b' .busy none) := by rw [mm2]; exact List.getElem?_set_self (verOf_lt (lp_ver hlp1))
    have hrs3 := rs_keep ext3 hid2 (lp_ver hlp2) (lp_ver hlp3) (rr2 ▸ hrs1)
    have ext03 : Ext V V3 := (ext1.trans ext2).trans ext3
    have fin : ∀ (jump : Option Code) (q : Bool), q = jump.isNone → r = .bool q → setLp m3 id (if q = true then .ready else .done) jump = some m' →
        ∃ v w', (Instr.endRound b jump).run cx.P V3.w = .ok v w' ∧ Left V r m' (.returned v) w' := by
      rintro jump q rfl rfl hset
      obtain ⟨r3, j1, j2, j3, V4, w4, mm4, rr4, ok4, ext4⟩ := lp_set (st' := if jump.isNone = true then .ready else .done) (pd' := jump) ok3 hlp3 hrs3
      refine ⟨_, _, run_endRound (P := cx.P) jump j1, .bool jump.isNone, V4, rfl, w4, ?_, ok4, ext03.trans ext4, .bool _⟩
      rw [← hm3] at hset
      exact mm4.trans (setLp_some hlp3 hset).symm
    rcases hend with ⟨rfl, hr1, hset⟩ | ⟨rfl, hr1, hset⟩ | ⟨j, rfl, hr1, hset⟩
    · exact fin none true rfl hr1 hset
    · exact fin (some .ret) false rfl hr1 hset
    · exact fin (some (.exit j)) false rfl hr1 hset

theorem all_ok (hX : CxOK cx) : ∀ n, FunOK cx (evFun cx n) ∧ YldOK cx (evYld cx n)
  | 0 => ⟨⟨fun _ _ _ _ h => (nomatch h), fun _ _ _ _ _ _ _ h => (nomatch h)⟩, ⟨fun _ _ _ _ h => (nomatch h), fun _ _ _ _ _ _ _ _ h => (nomatch h)⟩⟩
  | n + 1 => by
    obtain ⟨h1, h2⟩ := all_ok hX n
    exact ⟨fun_ok h1 h2 hX n, yld_ok h1 h2 hX n⟩

/-- The whole, for a call with pure arguments in a world of which nothing is known but them. -/
theorem pure_call (hX : CxOK cx) {n f : Nat} {args : List AV} {r : AV} (h : evPure cx n f args = some r) {U : Vw} (ok : Ok U) (hm : U.mem = []) (gl : Gl cx U) {vs : Array Value} (hr : Reps U args vs.toList) :
    Enters cx.P f ∧ Calls cx.P f vs U.w (Left U r []) := by
  unfold evPure at h
  cases hf : evFun cx n f args [] with
  | none => simp [hf] at h
  | some rm =>
    obtain ⟨r0, m0⟩ := rm
    simp only [hf] at h
    obtain ⟨h1, _⟩ := all_ok hX n
    refine ⟨h1.enters _ _ _ _ hf, (h1.ok f args [] r0 m0 U vs hf ok gl hm hr).mono ?_⟩
    rintro e w' ⟨v, V', rfl, rfl, rfl, ok', ext, rep⟩
    exact ⟨v, V'.close, rfl, rfl, rfl, ok_close ok', ext_close ext hm, rep_close ok' rep h⟩
end Go.Ab
