/- One operation, of whatever kind. -/
import Derived.Test.YtcmcgmcogknpfaaDoorMA
set_option linter.unusedVariables false
set_option linter.unusedSimpArgs false
namespace Go.Ab
open Go

variable {cx : Cx} {F Y : CallT}

def EnvRep (V : Vw) (e : Env) (a : Act) : Prop := ∀ t, Rep V (e t) (a.tmps.getD t undef)
theorem EnvRep.mono {V V' : Vw} (x : Ext V V') {e : Env} {a : Act} (h : EnvRep V e a) : EnvRep V' e a := fun t => (h t).mono x

theorem evX_ok {V : Vw} {e : Env} {a : Act} (gl : Gl cx V) (he : EnvRep V e a) {x : Operand} {r : AV} (h : evX cx e x = some r) : Rep V r (a.eval x) := by
  cases x with
  | tmp t => simp only [evX, Option.some.injEq] at h; subst h; exact he t
  | const v => exact ofV_rep V v r h
  | global g =>
    obtain ⟨cs, hg, rfl⟩ := Option.map_eq_some_iff.1 h
    exact (gl g cs hg).2
  | func f => simp only [evX, Option.some.injEq] at h; subst h; exact .fn f [] [] #[] #[] rfl rfl (fun j x c hx => by simp at hx) (fun j x c hx => by simp at hx)
theorem evXs_ok {V : Vw} {e : Env} {a : Act} (gl : Gl cx V) (he : EnvRep V e a) : ∀ {xs : List Operand} {r : List AV}, evXs cx e xs = some r → Reps V r (xs.map a.eval)
  | [], r, h => by simp [evXs] at h; subst h; exact Reps.nil V
  | x :: xs, r, h => by
    simp only [evXs] at h
    cases h1 : evX cx e x with
    | none => simp [h1] at h
    | some v =>
      cases h2 : evXs cx e xs with
      | none => simp [h1, h2] at h
      | some vs => simp [h1, h2] at h; subst h; exact Reps.cons (evX_ok gl he h1) (evXs_ok gl he h2)
theorem evParts_ok {V : Vw} {e : Env} {a : Act} (gl : Gl cx V) (he : EnvRep V e a) : ∀ {xs : List (Nat × Operand)} {r : List (Nat × AV)}, evParts cx e xs = some r → RepsP V r (xs.map fun (i, x) => (i, a.eval x))
  | [], r, h => by simp [evParts] at h; subst h; trivial
  | (j, x) :: xs, r, h => by
    simp only [evParts] at h
    cases h1 : evX cx e x with
    | none => simp [h1] at h
    | some v =>
      cases h2 : evParts cx e xs with
      | none => simp [h1, h2] at h
      | some vs => simp [h1, h2] at h; subst h; exact ⟨rfl, evX_ok gl he h1, evParts_ok gl he h2⟩
theorem evO_ok {V : Vw} {e : Env} {a : Act} (gl : Gl cx V) (he : EnvRep V e a) {x : Option Operand} {r : Option AV} (h : x.mapM (evX cx e) = some r) : RepO V r (x.map a.eval) := by
  cases x with
  | none => simp at h; subst h; trivial
  | some x =>
    simp only [Option.mapM_some, Option.map_eq_map] at h
    obtain ⟨v, hv, rfl⟩ := Option.map_eq_some_iff.1 h
    exact evX_ok gl he hv

/-- The operation comes to a value, in a world that goes on. -/
def Gives (P : Program) (V : Vw) (s : Sem Next) (r : AV) (m' : Mem) : Prop := ∃ v V', s.run P V.w = .ok (.value v) V'.w ∧ V'.mem = m' ∧ Ok V' ∧ Ext V V' ∧ Rep V' r v

theorem gives_of {P : Program} {V : Vw} (o : Ok V) {s : Sem Value} {r : AV} {m' : Mem} (h : ∃ u, s.run P V.w = .ok u V.w ∧ Rep V r u) (hm : V.mem = m') : Gives P V (do pure (.value (← s))) r m' := by
  obtain ⟨u, h1, h2⟩ := h
  exact ⟨u, V, by simp only [Sem.run_bind, h1, Result.andThen_ok, Sem.run_pure], hm, o, Ext.refl V, h2⟩

theorem undef_rep (V : Vw) : Rep V .undef undef := .tup [] #[] rfl (fun j x c hx => by simp at hx)

theorem noMem_some {m m' : Mem} {r0 : Option AV} {r : AV} (h : noMem m r0 = some (r, m')) : r0 = some r ∧ m = m' := by
  obtain ⟨x, hx, he⟩ := Option.map_eq_some_iff.1 h
  simp only [Prod.mk.injEq] at he
  exact ⟨by rw [hx, he.1], he.2⟩

theorem op_ok (hF : FunOK cx F) (hY : YldOK cx Y) (hX : CxOK cx) {V : Vw} (ok : Ok V) (gl : Gl cx V) {md : Nat} {e : Env} {a : Act} (he : EnvRep V e a) {o : Oper} {r : AV} {m' : Mem}
    (h : evOp cx md F Y e V.mem o.op = some (r, m')) (fr : Option Nat) (next : Act → World → Prop) (Q : Exit → Act → World → Prop)
    (hn : ∀ V' v, V'.mem = m' → Ok V' → Ext V V' → Rep V' r v → next (a.put o.dst v) V'.w) : o.wpIn (W fr) 0 cx.P a V.w next Q := by
  have hdef : ∀ c, o.op ≠ .defer c := by intro c hc; rw [hc] at h; simp [evOp] at h
  refine ⟨fun _ _ => trivial, ?_⟩
  rw [Oper.semAt_eq _ _ _ hdef]
  have val : Gives cx.P V (execOp a.eval o) r m' → o.uponIn (W fr) 0 cx.P a next Q ((execOp a.eval o).run cx.P V.w) := by
    rintro ⟨v, V', hrun, hm, ok', ext, rep⟩
    rw [hrun, Oper.uponIn_value]
    exact hn V' v hm ok' ext rep
  obtain ⟨dst, op, ty, pos, aft, gd⟩ := o
  simp only at h
  cases op with
  | move x =>
    obtain ⟨h1, rfl⟩ := noMem_some h
    exact val ⟨a.eval x, V, rfl, rfl, ok, Ext.refl V, evX_ok gl he h1⟩
  | assign x =>
    obtain ⟨h1, rfl⟩ := noMem_some h
    exact val ⟨a.eval x, V, rfl, rfl, ok, Ext.refl V, evX_ok gl he h1⟩
  | pick c x y =>
    simp only [evOp] at h
    split at h
    case h_2 => cases h
    rename_i t hc
    obtain ⟨h1, rfl⟩ := noMem_some h
    have hcv := evX_ok gl he hc
    have hb : a.eval c = .bool t := by generalize hq : a.eval c = q at hcv; cases hcv; rfl
    refine val ⟨if t then a.eval x else a.eval y, V, ?_, rfl, ok, Ext.refl V, ?_⟩
    · simp only [execOp, hb, asBool, Sem.run_bind, Sem.run_pure, Result.andThen_ok]
    · cases t with
      | true => exact evX_ok gl he h1
      | false => exact evX_ok gl he h1
  | alloc t =>
    simp only [evOp] at h
    split at h
    · cases h
    split at h
    case h_2 => cases h
    rename_i z hz
    split at h
    case isFalse => cases h
    rename_i hd
    simp only [Option.some.injEq, Prod.mk.injEq] at h
    obtain ⟨rfl, rfl⟩ := h
    obtain ⟨V', hrun, hm, ok', ext, rep⟩ := alloc_ok ok hz hd
    exact val ⟨_, V', by simp only [execOp, Sem.run_bind, hrun, Result.andThen_ok, Sem.run_pure], hm, ok', ext, rep⟩
  | box t x =>
    simp only [evOp] at h
    split at h
    · cases h
    split at h
    case h_2 => cases h
    rename_i v hv
    split at h
    case isFalse => cases h
    rename_i hd
    simp only [Option.some.injEq, Prod.mk.injEq] at h
    obtain ⟨rfl, rfl⟩ := h
    obtain ⟨V', hrun, hm, ok', ext, rep⟩ := box_ok (P := cx.P) (t := t) ok (evX_ok gl he hv) hd
    exact val ⟨_, V', by simp only [execOp, Instr.box, Sem.run_bind, hrun, Result.andThen_ok, Sem.run_pure], hm, ok', ext, rep⟩
  | build t parts =>
    simp only [evOp] at h
    split at h
    case h_2 => cases h
    rename_i z ps hz hps
    split at h
    case isFalse => cases h
    rename_i hpl
    obtain ⟨h1, rfl⟩ := noMem_some h
    obtain ⟨cs, hcs, rfl⟩ := Option.map_eq_some_iff.1 h1
    have hp := evParts_ok gl he hps
    exact val (gives_of ok (build_ok (vs := parts.map fun (i, x) => (i, a.eval x)) hz hpl (by simpa using hp) hcs) rfl)
  | buildSlice t len parts =>
    simp only [evOp] at h
    split at h
    case h_2 => cases h
    rename_i et ps het hps
    split at h
    case h_2 => cases h
    rename_i sz z hsz hz
    split at h
    case isFalse => cases h
    rename_i hc
    obtain ⟨h1, rfl⟩ := noMem_some h
    obtain ⟨xs, hxs, rfl⟩ := Option.map_eq_some_iff.1 h1
    have hp := evParts_ok gl he hps
    obtain ⟨u, V', hrun, hm, ok', ext, rep⟩ := buildSlice_ok (vs := parts.map fun (i, x) => (i, a.eval x)) (len := len) ok het hsz hz hc.1 hc.2.1 hc.2.2.1 hc.2.2.2 (by simpa using hp) hxs
    exact val ⟨u, V', by simp only [execOp, Sem.run_bind, hrun, Result.andThen_ok, Sem.run_pure], hm, ok', ext, rep⟩
  | load t x =>
    simp only [evOp] at h
    split at h
    case h_2 => cases h
    rename_i x' hx
    obtain ⟨h1, rfl⟩ := noMem_some h
    exact val (gives_of ok (load_ok ok (evX_ok gl he hx) h1) rfl)
  | store t x y =>
    simp only [evOp] at h
    split at h
    case h_2 => cases h
    rename_i x' y' hx hy
    split at h
    · cases h
    obtain ⟨m1, hm1, he1⟩ := Option.map_eq_some_iff.1 h
    simp only [Prod.mk.injEq] at he1
    obtain ⟨rfl, rfl⟩ := he1
    obtain ⟨V', hrun, hm, ok', ext⟩ := store_ok ok (evX_ok gl he hx) (evX_ok gl he hy) hm1
    have hr : (execOp a.eval ⟨dst, .store t x y, ty, pos, aft, gd⟩).run cx.P V.w = .ok .skip V'.w := by
      simp only [execOp, Sem.run_bind, hrun, Result.andThen_ok, Sem.run_pure]
    rw [hr, Oper.uponIn_skip]
    exact hn V' undef hm ok' ext (undef_rep V')
  | makeSlice t x y =>
    simp only [evOp] at h
    split at h
    case h_2 => cases h
    rename_i kl l kc c et hx hy het
    split at h
    case h_2 => cases h
    rename_i sz b z hsz hb hz
    split at h
    case isFalse => cases h
    rename_i hcnd
    obtain ⟨_, h1, h2, h3, h4, h5, h6, h7⟩ := hcnd
    simp only [Option.some.injEq, Prod.mk.injEq] at h
    obtain ⟨rfl, rfl⟩ := h
    have hxv := evX_ok gl he hx
    have hyv := evX_ok gl he hy
    have hxe : a.eval x = .int kl l := by generalize a.eval x = q at hxv; cases hxv; rfl
    have hye : a.eval y = .int kc c := by generalize a.eval y = q at hyv; cases hyv; rfl
    obtain ⟨V', v, hrun, hm, ok', ext, rep⟩ := makeS_ok (P := cx.P) ok kl kc het hsz hb hz h1 h2 h3 h4 h5 h6 h7
    exact val ⟨v, V', by simp only [execOp, hxe, hye, Sem.run_bind, hrun, Result.andThen_ok, Sem.run_pure], hm, ok', ext, rep⟩
  | makeMap t rr =>
    simp only [evOp] at h
    cases rr with
    | some _ => cases h
    | none =>
      simp only at h
      split at h
      · cases h
      simp only [Option.some.injEq, Prod.mk.injEq] at h
      obtain ⟨rfl, rfl⟩ := h
      obtain ⟨V', v, hrun, hm, ok', ext, rep⟩ := make_ok (P := cx.P) ok t
      exact val ⟨v, V', by simp only [execOp, Option.map_none, Sem.run_bind, hrun, Result.andThen_ok, Sem.run_pure], hm, ok', ext, rep⟩
  | lookup t x k b =>
    simp only [evOp] at h
    split at h
    case h_2 => cases h
    rename_i x' k' hx hk
    obtain ⟨h1, rfl⟩ := noMem_some h
    exact val (gives_of ok (look_ok ok (evX_ok gl he hx) (evX_ok gl he hk) h1) rfl)
  | mapUpdate t x k y =>
    simp only [evOp] at h
    split at h
    case h_2 => cases h
    rename_i x' k' y' hx hk hy
    split at h
    · cases h
    obtain ⟨m1, hm1, he1⟩ := Option.map_eq_some_iff.1 h
    simp only [Prod.mk.injEq] at he1
    obtain ⟨rfl, rfl⟩ := he1
    obtain ⟨V', hrun, hm, ok', ext⟩ := upd_ok (P := cx.P) ok (evX_ok gl he hx) (evX_ok gl he hk) (evX_ok gl he hy) hm1
    have hr : (execOp a.eval ⟨dst, .mapUpdate t x k y, ty, pos, aft, gd⟩).run cx.P V.w = .ok .skip V'.w := by
      simp only [execOp, Sem.run_bind, hrun, Result.andThen_ok, Sem.run_pure]
    rw [hr, Oper.uponIn_skip]
    exact hn V' undef hm ok' ext (undef_rep V')
  | nilCheck x =>
    simp only [evOp] at h
    split at h
    case h_2 => cases h
    rename_i v hv
    split at h
    case isFalse => cases h
    rename_i hval
    simp only [Option.some.injEq, Prod.mk.injEq] at h
    obtain ⟨rfl, rfl⟩ := h
    have hr := evX_ok gl he hv
    refine val ⟨a.eval x, V, ?_, rfl, ok, Ext.refl V, hr⟩
    cases v with
    | ptr id ver off =>
      simp only [validA, beq_iff_eq] at hval
      obtain ⟨b, _, hq⟩ := ptr_valid hr hval
      simp only [execOp, hq]; rfl
    | aptr id ver sz i f =>
      simp only [validA, beq_iff_eq] at hval
      obtain ⟨b, _, hq⟩ := aptr_valid hr hval
      simp only [execOp, hq]; rfl
    | rptr xs =>
      have hq : ∃ ad, a.eval x = .pointer (some ad) := by generalize a.eval x = q at hr; cases hr; exact ⟨_, rfl⟩
      obtain ⟨ad, hq⟩ := hq
      simp only [execOp, hq]; rfl
    | fn f xs ys =>
      have hq : ∃ fs cs, a.eval x = .func (.func f) fs cs := by generalize a.eval x = q at hr; cases hr; exact ⟨_, _, rfl⟩
      obtain ⟨fs, cs, hq⟩ := hq
      simp only [execOp, hq]; rfl
    | _ => simp [validA] at hval
  | binOp bop t x y yt =>
    simp only [evOp] at h
    split at h
    case h_2 => cases h
    rename_i x' y' hx hy
    obtain ⟨h1, rfl⟩ := noMem_some h
    exact val (gives_of ok (bin_ok x y (evX_ok gl he hx) (evX_ok gl he hy) h1) rfl)
  | unOp uop t x =>
    simp only [evOp] at h
    split at h
    case h_2 => cases h
    rename_i x' hx
    obtain ⟨h1, rfl⟩ := noMem_some h
    exact val (gives_of ok (un_ok (evX_ok gl he hx) h1) rfl)
  | convert s d x =>
    simp only [evOp] at h
    split at h
    case h_2 => cases h
    rename_i x' hx
    obtain ⟨h1, rfl⟩ := noMem_some h
    exact val (gives_of ok (conv_ok (evX_ok gl he hx) h1) rfl)
  | makeFunc fn first cap =>
    simp only [evOp] at h
    split at h
    case h_2 => cases h
    rename_i f xs ys hx hy
    simp only [Option.some.injEq, Prod.mk.injEq] at h
    obtain ⟨rfl, rfl⟩ := h
    have r1 := evXs_ok gl he hx
    have r2 := evXs_ok gl he hy
    refine val ⟨.func (.func f) (first.map a.eval) (cap.map a.eval), V, rfl, rfl, ok, Ext.refl V, ?_⟩
    exact .fn f xs ys _ _ (by have := r1.1; simpa using this) (by have := r2.1; simpa using this) (fun j x c hx' hc => r1.2 j x c hx' (by simpa using hc)) (fun j x c hx' hc => r2.2 j x c hx' (by simpa using hc))
  | slice t x lo hi mx =>
    simp only [evOp] at h
    split at h
    case h_2 => cases h
    rename_i x' lo' hi' mx' hx hlo hhi hmx
    obtain ⟨h1, rfl⟩ := noMem_some h
    exact val (gives_of ok (slice_ok (evX_ok gl he hx) (evO_ok gl he hlo) (evO_ok gl he hhi) (evO_ok gl he hmx) h1) rfl)
  | fieldAddr s x j =>
    simp only [evOp] at h
    split at h
    case h_2 => cases h
    rename_i x' hx
    obtain ⟨h1, rfl⟩ := noMem_some h
    exact val (gives_of ok (fieldAddr_ok (evX_ok gl he hx) h1) rfl)
  | field s x j =>
    simp only [evOp] at h
    split at h
    case h_2 => cases h
    rename_i x' hx
    obtain ⟨h1, rfl⟩ := noMem_some h
    exact val (gives_of ok (field_ok (evX_ok gl he hx) h1) rfl)
  | indexAddr t x ix =>
    simp only [evOp] at h
    split at h
    case h_2 => cases h
    rename_i x' i' hx hi
    obtain ⟨h1, rfl⟩ := noMem_some h
    exact val (gives_of ok (indexAddr_ok ok (evX_ok gl he hx) (evX_ok gl he hi) h1) rfl)
  | index t x ix =>
    simp only [evOp] at h
    split at h
    case h_2 => cases h
    rename_i x' i' hx hi
    obtain ⟨h1, rfl⟩ := noMem_some h
    exact val (gives_of ok (index_ok (evX_ok gl he hx) (evX_ok gl he hi) h1) rfl)
  | extract x j =>
    simp only [evOp] at h
    split at h
    case h_2 => cases h
    rename_i xs hx
    obtain ⟨h1, rfl⟩ := noMem_some h
    have hr := evX_ok gl he hx
    refine val (gives_of ok ?_ rfl)
    generalize a.eval x = q at hr
    cases hr with
    | tup xs cs hs hrr =>
      have hj := (List.getElem?_eq_some_iff.1 h1).1
      have hc : cs[j]? = some cs[j] := Array.getElem?_eq_getElem (by omega)
      exact ⟨cs[j], by simp only [Instr.extract, hc]; rfl, hrr j r _ h1 hc⟩
  | call c =>
    obtain ⟨callee, args, ats⟩ := c
    cases callee with
    | value f =>
      simp only [evOp] at h
      split at h
      case h_2 => cases h
      rename_i f' as hf has
      have r1 := evX_ok gl he hf
      have r2 := evXs_ok gl he has
      have r2' : Reps V as (args.map a.eval).toList := by simpa using r2
      obtain ⟨d, hd, hcall⟩ := callV_ok hF hY hX ok gl r1 r2' h
      have hr : (execOp a.eval ⟨dst, .call ⟨.value f, args, ats⟩, ty, pos, aft, gd⟩).run cx.P V.w = (invoke d.target d.args).run cx.P V.w := by
        simp only [execOp, resolve, Sem.run_bind, hd, Result.andThen_ok]
      rw [hr]
      exact hcall _ a fr next Q hn
    | invoke _ _ => simp [evOp] at h
    | builtin b =>
      simp only [evOp] at h
      cases hxs : evXs cx e args.toList with
      | none => simp [hxs] at h
      | some xs =>
        have r2 := evXs_ok gl he hxs
        have r2' : Reps V xs (args.map a.eval).toList := by simpa using r2
        simp only [hxs] at h
        generalize hva : args.map a.eval = va at r2'
        split at h
        · rename_i x t hxe hte
          simp only [Option.some.injEq] at hxe
          subst hxe
          obtain ⟨h1, rfl⟩ := noMem_some h
          obtain ⟨v, vs', hv, hr1, hr2⟩ := r2'.inv
          have hvs : vs' = [] := List.eq_nil_of_length_eq_zero (by have := hr2.1; simpa using this)
          subst hvs
          have hva' : va = #[v] := by rw [← Array.toList_inj]; simpa using hv
          have hat : ats = #[t] := by rw [← Array.toList_inj]; simpa using hte
          subst hat
          refine val ?_
          have : execOp a.eval ⟨dst, .call ⟨.builtin .len, args, #[t]⟩, ty, pos, aft, gd⟩ = (do pure (.value (← Builtin.len_ #[t] ty #[v]))) := by
            simp only [execOp, resolve, hva, hva']; rfl
          rw [this]
          exact gives_of ok (len_ok hr1 h1) rfl
        · rename_i x y t t' hxe hte
          simp only [Option.some.injEq] at hxe
          subst hxe
          split at h
          case isFalse => cases h
          obtain ⟨v, vs', hv, hr1, hr2⟩ := r2'.inv
          obtain ⟨v2, vs2, hv2, hr3, hr4⟩ := hr2.inv
          have hvs : vs2 = [] := List.eq_nil_of_length_eq_zero (by have := hr4.1; simpa using this)
          subst hvs
          subst hv2
          have hva' : va = #[v, v2] := by rw [← Array.toList_inj]; simpa using hv
          have hat : ats = #[t, t'] := by rw [← Array.toList_inj]; simpa using hte
          subst hat
          refine val ?_
          obtain ⟨u, V', hrun, hm, ok', ext, rep⟩ := append_ok (P := cx.P) (ty := ty) ok hr1 hr3 h
          have : execOp a.eval ⟨dst, .call ⟨.builtin .append, args, #[t, t']⟩, ty, pos, aft, gd⟩ = (do pure (.value (← Builtin.append_ #[t, t'] ty #[v, v2]))) := by
            simp only [execOp, resolve, hva, hva']; rfl
          rw [this]
          exact ⟨u, V', by simp only [Sem.run_bind, hrun, Result.andThen_ok, Sem.run_pure], hm, ok', ext, rep⟩
        · rename_i xs' hxe
          simp only [Option.some.injEq] at hxe
          subst hxe
          obtain ⟨h1, rfl⟩ := noMem_some h
          refine val ?_
          have : execOp a.eval ⟨dst, .call ⟨.builtin .max, args, ats⟩, ty, pos, aft, gd⟩ = (do pure (.value (← Builtin.max_ ats ty va))) := by
            simp only [execOp, resolve, hva]; rfl
          rw [this]
          exact gives_of ok (max_ok ats ty (op := true) r2' h1) rfl
        · rename_i xs' hxe
          simp only [Option.some.injEq] at hxe
          subst hxe
          obtain ⟨h1, rfl⟩ := noMem_some h
          refine val ?_
          have : execOp a.eval ⟨dst, .call ⟨.builtin .min, args, ats⟩, ty, pos, aft, gd⟩ = (do pure (.value (← Builtin.min_ ats ty va))) := by
            simp only [execOp, resolve, hva]; rfl
          rw [this]
          exact gives_of ok (max_ok ats ty (op := false) r2' h1) rfl
        · cases h
  | _ => simp [evOp] at h
end Go.Ab
