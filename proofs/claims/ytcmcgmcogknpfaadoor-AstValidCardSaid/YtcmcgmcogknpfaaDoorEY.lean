/- Rounds, functions, and the whole. -/
import Derived.Laws.Sem
import Derived.Test.YtcmcgmcogknpfaaDoorEX
set_option linter.unusedVariables false
set_option linter.unusedSimpArgs false
namespace Go.Ab
open Go

variable {cx : Cx} {F Y : CallT}

/-! ### Results -/
def rv (tmps : Array Value) : ResultVar → Sem Value
  | .tmp t => pure (tmps.getD t undef)
  | .cell a t => do loadVar t (← asAddr (tmps.getD a undef))
theorem as_of_sure {P : Program} {t : Nat} {v u : Value} {w : World} (h : (Instr.loadAt t v).run P w = .ok u w) (hp : ∃ ad, v = .pointer (some ad)) : (do loadVar t (← asAddr v)).run P w = .ok u w := by
  obtain ⟨ad, rfl⟩ := hp
  simpa [Instr.loadAt, Instr.sureAddr, asAddr] using h
theorem load_ptr {V : Vw} (o : Ok V) {P : Program} {t : Nat} {x r : AV} {v : Value} (hv : Rep V x v) (h : loadA P V.mem t x = some r) : ∃ ad, v = .pointer (some ad) := by
  unfold loadA at h
  cases hv with
  | rptr xs ad => exact ⟨ad, rfl⟩
  | ptr id ver off v h1 hh hv =>
    cases hm : V.mem[id]? with
    | none => simp [hm] at h
    | some k =>
      cases k with
      | box cs =>
        simp only [hm] at h
        split at h
        · rename_i hlen
          obtain ⟨b, hb, rfl⟩ := hv (by rw [verOf_box hm, hlen])
          exact ⟨_, rfl⟩
        · cases h
      | _ => simp [hm] at h
  | aptr id ver sz i f v h1 hh hv =>
    cases hm : V.mem[id]? with
    | none => simp [hm] at h
    | some k =>
      cases k with
      | arr e sz' xs =>
        simp only [hm] at h
        split at h
        · rename_i hc
          obtain ⟨b, hb, rfl⟩ := hv (by rw [verOf_arr hm, hc.1])
          exact ⟨_, rfl⟩
        · cases h
      | _ => simp [hm] at h
  | _ => cases h
theorem rv_ok {V : Vw} (o : Ok V) {e : Env} {a : Act} (he : EnvRep V e a) {q : ResultVar} {x : AV} (h : resVar cx e V.mem q = some x) : ∃ u, (rv a.tmps q).run cx.P V.w = .ok u V.w ∧ Rep V x u := by
  cases q with
  | tmp t => simp only [resVar, Option.some.injEq] at h; subst h; exact ⟨_, rfl, he t⟩
  | cell p t =>
    simp only [resVar] at h
    obtain ⟨u, h1, h2⟩ := load_ok o (he p) h
    exact ⟨u, as_of_sure h1 (load_ptr o (he p) h), h2⟩
theorem rvs_ok {V : Vw} (o : Ok V) {e : Env} {a : Act} (he : EnvRep V e a) : ∀ {l : List ResultVar} {xs : List AV}, l.mapM (resVar cx e V.mem) = some xs → ∃ us, (l.mapM (rv a.tmps)).run cx.P V.w = .ok us V.w ∧ Reps V xs us
  | [], xs, h => by simp at h; subst h; exact ⟨[], rfl, Reps.nil V⟩
  | q :: l, xs, h => by
    simp only [List.mapM_cons, Option.bind_eq_bind, Option.pure_def] at h
    obtain ⟨y, hy, h⟩ := Option.bind_eq_some_iff.1 h
    obtain ⟨ys, hys, h⟩ := Option.bind_eq_some_iff.1 h
    cases h
    obtain ⟨u, h1, h2⟩ := rv_ok o he hy
    obtain ⟨us, h3, h4⟩ := rvs_ok o he hys
    refine ⟨u :: us, ?_, Reps.cons h2 h4⟩
    simp only [List.mapM_cons, Sem.run_bind, h1, Result.andThen_ok, h3, Sem.run_pure]
theorem res_ok {V : Vw} (o : Ok V) {e : Env} {a : Act} (he : EnvRep V e a) {fn : Func} {x : AV} (h : evRes cx fn e V.mem = some x) : ∃ u, (results fn a.tmps).run cx.P V.w = .ok u V.w ∧ Rep V x u := by
  have hr : results fn a.tmps = (do let vs ← fn.results.mapM (rv a.tmps); pure (if h : vs.size = 1 then vs[0] else .tuple vs)) := by
    unfold results
    congr 1
  rw [hr, Array.mapM_eq_mapM_toList]
  have hrun : ∀ {us : List Value}, (fn.results.toList.mapM (rv a.tmps)).run cx.P V.w = .ok us V.w → (do let vs ← (List.toArray <$> fn.results.toList.mapM (rv a.tmps)); pure (if h : vs.size = 1 then vs[0] else Value.tuple vs)).run cx.P V.w = .ok (if h : us.toArray.size = 1 then us.toArray[0] else .tuple us.toArray) V.w := by
    intro us hus
    rw [map_eq_pure_bind]
    simp only [Sem.run_bind, hus, Result.andThen_ok, Sem.run_pure]
  unfold evRes at h
  split at h
  · rename_i q hq
    obtain ⟨u, h1, h2⟩ := rv_ok o he h
    refine ⟨u, ?_, h2⟩
    have h3 : (fn.results.toList.mapM (rv a.tmps)).run cx.P V.w = .ok [u] V.w := by
      rw [hq]
      simp only [List.mapM_cons, List.mapM_nil, Sem.run_bind, h1, Result.andThen_ok, Sem.run_pure]
    rw [hrun h3]; rfl
  · rename_i hne
    obtain ⟨xs, hxs, rfl⟩ := Option.map_eq_some_iff.1 h
    obtain ⟨us, h1, h2⟩ := rvs_ok o he hxs
    refine ⟨.tuple us.toArray, ?_, .tup xs us.toArray (by simpa using h2.1) (fun j x c hx hc => h2.2 j x c hx (by simpa using hc))⟩
    rw [hrun h1, dif_neg]
    intro h1'
    have hlen : us.length = 1 := by simpa using h1'
    have hlx : xs.length = 1 := by rw [← h2.1]; exact hlen
    have := (mapM_some' hxs).symm.trans hlx
    obtain ⟨q, hq⟩ := List.length_eq_one_iff.1 this
    exact hne q hq
where mapM_some' {f : ResultVar → Option AV} : ∀ {l : List ResultVar} {xs : List AV}, l.mapM f = some xs → xs.length = l.length
  | [], xs, h => by simp at h; subst h; rfl
  | q :: l, xs, h => by
    simp only [List.mapM_cons, Option.bind_eq_bind, Option.pure_def] at h
    obtain ⟨y, hy, h⟩ := Option.bind_eq_some_iff.1 h
    obtain ⟨ys, hys, h⟩ := Option.bind_eq_some_iff.1 h
    cases h
    simp [mapM_some' hys]

/-! ### Functions -/
theorem evFunW_inv {n f : Nat} {args : List AV} {m : Mem} {rm : AV × Mem} (h : evFunW cx F Y n f args m = some rm) : ∃ fn c x e m' , cx.P.funcs[f]? = some fn ∧ okF fn = true ∧ fn.body = some c ∧ (x = .normal ∨ x = .ret) ∧
    evCode cx F Y n true c (argEnv args) m = some (x, e, m') ∧ evRes cx fn e m' = some rm.1 ∧ m' = rm.2 := by
  unfold evFunW at h
  cases hf : cx.P.funcs[f]? with
  | none => simp [hf] at h
  | some fn =>
    simp only [hf] at h
    split at h
    case isFalse => cases h
    rename_i hok
    cases hb : fn.body with
    | none => simp [hb] at h
    | some c =>
      simp only [hb] at h
      cases hev : evCode cx F Y n true c (argEnv args) m with
      | none => simp [hev] at h
      | some p =>
        obtain ⟨x, e, m'⟩ := p
        rw [hev] at h
        cases x with
        | normal => simp only at h; obtain ⟨r, hr, rfl⟩ := Option.map_eq_some_iff.1 h; exact ⟨fn, c, .normal, e, m', rfl, hok, hb, .inl rfl, hev, hr, rfl⟩
        | ret => simp only at h; obtain ⟨r, hr, rfl⟩ := Option.map_eq_some_iff.1 h; exact ⟨fn, c, .ret, e, m', rfl, hok, hb, .inr rfl, hev, hr, rfl⟩
        | _ => simp at h
theorem arg_env {V : Vw} {args : List AV} {vs : Array Value} (h : Reps V args vs.toList) (k : Nat) {ds : List Deferred} : EnvRep V (argEnv args) { tmps := vs ++ Array.replicate k undef, defers := ds } := by
  intro t
  show Rep V (args.getD t .undef) ((vs ++ Array.replicate k undef).getD t undef)
  have hl : vs.size = args.length := by simpa using h.1
  by_cases ht : t < args.length
  · have h1 : args.getD t .undef = args[t] := by simp [List.getD_eq_getElem?_getD, ht]
    have h2 : (vs ++ Array.replicate k undef).getD t undef = vs[t] := by
      rw [Array.getD_eq_getD_getElem?, Array.getElem?_append_left (by omega), Array.getElem?_eq_getElem (by omega)]; rfl
    rw [h1, h2]
    exact h.2 t _ _ (List.getElem?_eq_getElem ht) (by simp [hl, ht])
  · have h1 : args.getD t .undef = .undef := by simp [List.getD_eq_getElem?_getD, Nat.not_lt.1 ht]
    have h2 : (vs ++ Array.replicate k undef).getD t undef = undef := by
      rw [Array.getD_eq_getD_getElem?, Array.getElem?_append_right (by omega)]
      by_cases hk : t - vs.size < k
      · simp [hk]
      · simp [Nat.not_lt.1 hk]
    rw [h1, h2]
    exact undef_rep V

theorem fun_ok (hF : FunOK cx F) (hY : YldOK cx Y) (hX : CxOK cx) (n : Nat) : FunOK cx (evFunW cx F Y n) where
  enters := fun f args m rm h => by
    obtain ⟨fn, c, x, e, m', hf, hok, hb, _⟩ := evFunW_inv h
    unfold okF at hok
    simp only [Bool.and_eq_true, bne_iff_ne] at hok
    exact ⟨fn, c, hf, hok.1, hb⟩
  ok := fun f args m r m' V vs h ok gl hm hr => by
    obtain ⟨fn, c, x, e, m1, hf, hok, hb, hx, hev, hres, rfl⟩ := evFunW_inv h
    unfold okF at hok
    simp only [Bool.and_eq_true, bne_iff_ne, hb] at hok
    refine calls_W (n := 0) (callsIn_of_wp_marks hf hb trivial ?_)
    have hq : ∀ V' a', Ok V' → Ext V V' → V'.mem = m1 → EnvRep V' e a' → Marks V.w.heap.size V' a'.defers → LeavesInM (W none) 0 cx.P fn a'.tmps (Left V r m1) a'.defers .returning V'.w := by
      intro V' a' ok' ext' hm' he' hd'
      refine leave_ok a'.defers ok' hd' (fun V2 ok2 hm2 hr2 he2 => ?_)
      obtain ⟨u, h1, h2⟩ := res_ok (cx := cx) ok2 (fun t => hr2 _ _ (he' t)) (by rw [hm2, hm']; exact hres)
      exact ⟨u, h1, u, V2, rfl, rfl, hm2.trans hm', ok2, he2 V (Nat.le_refl _) ext', h2⟩
    refine code_ok hF hY hX (nt := fn.ntmps) (N := V.w.heap.size) (fun _ => rfl) c hok.2 hev ok gl hm (arg_env hr _) (by simp; omega) (by unfold Dfs; simp [Marks]) (Nat.le_refl _) (fun V' a' ok' ext' hm' he' hs' hd' => ?_)
    unfold Dfs at hd'
    simp only [if_true] at hd'
    rcases hx with rfl | rfl
    · exact hq V' a' ok' ext' hm' he' hd'
    · exact hq V' a' ok' ext' hm' he' hd'
end Go.Ab
