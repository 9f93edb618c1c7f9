/- Joined: XEN XEO XEP XEQ XER XES XET. -/
import Derived.Test.YtjodlfhkabploaaDoorJB
/- One operation, of whatever kind. -/
set_option linter.unusedVariables false
set_option linter.unusedSimpArgs false
namespace Go.Ab
open Go

variable {cx : Cx} {F Y : CallT}

def EnvRep (V : Vw) (e : Env) (a : Act) : Prop := ∀ t, Rep V (e t) (a.tmps.getD t undef)
theorem EnvRep.mono {V V' : Vw} (x : Ext V V') {e : Env} {a : Act} (h : EnvRep V e a) : EnvRep V' e a := fun t => (h t).mono x

theorem evX_ok {V : Vw} {e : Env} {a : Act} (gl : Gl cx V) (he : EnvRep V e a) {x : Operand} {r : AV} (h : evX cx e x = some r) : Rep V r (a.eval x) := by
  cases x with
  | tmp t => simp only [evX, Option.some.injEq] at h; subst h; exact he t
  | const v => exact ofV_rep V v r h
  | global g =>
    obtain ⟨cs, hg, rfl⟩ := Option.map_eq_some_iff.1 h
    exact (gl g cs hg).2
  | func f => simp only [evX, Option.some.injEq] at h; subst h; exact .fn f [] [] #[] #[] rfl rfl (fun j x c hx => by simp at hx) (fun j x c hx => by simp at hx)
theorem evXs_ok {V : Vw} {e : Env} {a : Act} (gl : Gl cx V) (he : EnvRep V e a) : ∀ {xs : List Operand} {r : List AV}, evXs cx e xs = some r → Reps V r (xs.map a.eval)
  | [], r, h => by simp [evXs] at h; subst h; exact Reps.nil V
  | x :: xs, r, h => by
    simp only [evXs] at h
    cases h1 : evX cx e x with
    | none => simp [h1] at h
    | some v =>
      cases h2 : evXs cx e xs with
      | none => simp [h1, h2] at h
      | some vs => simp [h1, h2] at h; subst h; exact Reps.cons (evX_ok gl he h1) (evXs_ok gl he h2)
theorem evParts_ok {V : Vw} {e : Env} {a : Act} (gl : Gl cx V) (he : EnvRep V e a) : ∀ {xs : List (Nat × Operand)} {r : List (Nat × AV)}, evParts cx e xs = some r → RepsP V r (xs.map fun (i, x) => (i, a.eval x))
  | [], r, h => by simp [evParts] at h; subst h; trivial
  | (j, x) :: xs, r, h => by
    simp only [evParts] at h
    cases h1 : evX cx e x with
    | none => simp [h1] at h
    | some v =>
      cases h2 : evParts cx e xs with
      | none => simp [h1, h2] at h
      | some vs => simp [h1, h2] at h; subst h; exact ⟨rfl, evX_ok gl he h1, evParts_ok gl he h2⟩
theorem evO_ok {V : Vw} {e : Env} {a : Act} (gl : Gl cx V) (he : EnvRep V e a) {x : Option Operand} {r : Option AV} (h : x.mapM (evX cx e) = some r) : RepO V r (x.map a.eval) := by
  cases x with
  | none => simp at h; subst h; trivial
  | some x =>
    simp only [Option.mapM_some, Option.map_eq_map] at h
    obtain ⟨v, hv, rfl⟩ := Option.map_eq_some_iff.1 h
    exact evX_ok gl he hv

/-- The operation comes to a value, in a world that goes on. -/
def Gives (P : Program) (V : Vw) (s : Sem Next) (r : AV) (m' : Mem) : Prop := ∃ v V', s.run P V.w = .ok (.value v) V'.w ∧ V'.mem = m' ∧ Ok V' ∧ Ext V V' ∧ Rep V' r v

theorem gives_of {P : Program} {V : Vw} (o : Ok V) {s : Sem Value} {r : AV} {m' : Mem} (h : ∃ u, s.run P V.w = .ok u V.w ∧ Rep V r u) (hm : V.mem = m') : Gives P V (do pure (.value (← s))) r m' := by
  obtain ⟨u, h1, h2⟩ := h
  exact ⟨u, V, by simp only [Sem.run_bind, h1, Result.andThen_ok, Sem.run_pure], hm, o, Ext.refl V, h2⟩

theorem undef_rep (V : Vw) : Rep V .undef undef := .tup [] #[] rfl (fun j x c hx => by simp at hx)

theorem noMem_some {m m' : Mem} {r0 : Option AV} {r : AV} (h : noMem m r0 = some (r, m')) : r0 = some r ∧ m = m' := by
  obtain ⟨x, hx, he⟩ := Option.map_eq_some_iff.1 h
  simp only [Prod.mk.injEq] at he
  exact ⟨by rw [hx, he.1], he.2⟩

theorem op_ok (hF : FunOK cx F) (hY : YldOK cx Y) (hX : CxOK cx) {V : Vw} (ok : Ok V) (gl : Gl cx V) {md : Nat} {e : Env} {a : Act} (he : EnvRep V e a) {o : Oper} {r : AV} {m' : Mem}
    (h : evOp cx md F Y e V.mem o.op = some (r, m')) (fr : Option Nat) (next : Act → World → Prop) (Q : Exit → Act → World → Prop)
    (hn : ∀ V' v, V'.mem = m' → Ok V' → Ext V V' → Rep V' r v → next (a.put o.dst v) V'.w) : o.wpIn (W fr) 0 cx.P a V.w next Q := by
  have hdef : ∀ c, o.op ≠ .defer c := by intro c hc; rw [hc] at h; simp [evOp] at h
  refine ⟨fun _ _ => trivial, ?_⟩
  rw [Oper.semAt_eq _ _ _ hdef]
  have val : Gives cx.P V (execOp a.eval o) r m' → o.uponIn (W fr) 0 cx.P a next Q ((execOp a.eval o).run cx.P V.w) := by
    rintro ⟨v, V', hrun, hm, ok', ext, rep⟩
    rw [hrun, Oper.uponIn_value]
    exact hn V' v hm ok' ext rep
  obtain ⟨dst, op, ty, pos, aft, gd⟩ := o
  simp only at h
  cases op with
  | move x =>
    obtain ⟨h1, rfl⟩ := noMem_some h
    exact val ⟨a.eval x, V, rfl, rfl, ok, Ext.refl V, evX_ok gl he h1⟩
  | assign x =>
    obtain ⟨h1, rfl⟩ := noMem_some h
    exact val ⟨a.eval x, V, rfl, rfl, ok, Ext.refl V, evX_ok gl he h1⟩
  | pick c x y =>
    simp only [evOp] at h
    split at h
    case h_2 => cases h
    rename_i t hc
    obtain ⟨h1, rfl⟩ := noMem_some h
    have hcv := evX_ok gl he hc
    have hb : a.eval c = .bool t := by generalize hq : a.eval c = q at hcv; cases hcv; rfl
    refine val ⟨if t then a.eval x else a.eval y, V, ?_, rfl, ok, Ext.refl V, ?_⟩
    · simp only [execOp, hb, asBool, Sem.run_bind, Sem.run_pure, Result.andThen_ok]
    · cases t with
      | true => exact evX_ok gl he h1
      | false => exact evX_ok gl he h1
  | alloc t =>
    simp only [evOp] at h
    split at h
    · cases h
    split at h
    case h_2 => cases h
    rename_i z hz
    split at h
    case isFalse => cases h
    rename_i hd
    split at h
    · simp only [Option.some.injEq, Prod.mk.injEq] at h
      obtain ⟨rfl, rfl⟩ := h
      obtain ⟨V', hrun, hm, ok', ext, rep⟩ := alloc_vz_ok ok hz hd (vecsT cx.P t)
      exact val ⟨_, V', by simp only [execOp, Sem.run_bind, hrun, Result.andThen_ok, Sem.run_pure], hm, ok', ext, rep⟩
    · simp only [Option.some.injEq, Prod.mk.injEq] at h
      obtain ⟨rfl, rfl⟩ := h
      obtain ⟨V', hrun, hm, ok', ext, rep⟩ := alloc_ok ok hz hd
      exact val ⟨_, V', by simp only [execOp, Sem.run_bind, hrun, Result.andThen_ok, Sem.run_pure], hm, ok', ext, rep⟩
  | box t x =>
    simp only [evOp] at h
    split at h
    · cases h
    split at h
    case h_2 => cases h
    rename_i v hv
    split at h
    case isFalse => cases h
    rename_i hd
    simp only [Option.some.injEq, Prod.mk.injEq] at h
    obtain ⟨rfl, rfl⟩ := h
    obtain ⟨V', hrun, hm, ok', ext, rep⟩ := box_ok (P := cx.P) (t := t) ok (evX_ok gl he hv) hd
    exact val ⟨_, V', by simp only [execOp, Instr.box, Sem.run_bind, hrun, Result.andThen_ok, Sem.run_pure], hm, ok', ext, rep⟩
  | build t parts =>
    simp only [evOp] at h
    split at h
    case h_2 => cases h
    rename_i z ps hz hps
    split at h
    case isFalse => cases h
    rename_i hpl
    obtain ⟨h1, rfl⟩ := noMem_some h
    obtain ⟨cs, hcs, rfl⟩ := Option.map_eq_some_iff.1 h1
    have hp := evParts_ok gl he hps
    exact val (gives_of ok (build_ok (vs := parts.map fun (i, x) => (i, a.eval x)) hz hpl (by simpa using hp) hcs) rfl)
  | buildSlice t len parts =>
    simp only [evOp] at h
    split at h
    case h_2 => cases h
    rename_i et ps het hps
    split at h
    case h_2 => cases h
    rename_i sz z hsz hz
    split at h
    case isFalse => cases h
    rename_i hc
    obtain ⟨h1, rfl⟩ := noMem_some h
    obtain ⟨xs, hxs, rfl⟩ := Option.map_eq_some_iff.1 h1
    have hp := evParts_ok gl he hps
    obtain ⟨u, V', hrun, hm, ok', ext, rep⟩ := buildSlice_ok (vs := parts.map fun (i, x) => (i, a.eval x)) (len := len) ok het hsz hz hc.1 hc.2.1 hc.2.2.1 hc.2.2.2 (by simpa using hp) hxs
    exact val ⟨u, V', by simp only [execOp, Sem.run_bind, hrun, Result.andThen_ok, Sem.run_pure], hm, ok', ext, rep⟩
  | load t x =>
    simp only [evOp] at h
    split at h
    case h_2 => cases h
    rename_i x' hx
    obtain ⟨h1, rfl⟩ := noMem_some h
    exact val (gives_of ok (load_ok ok (evX_ok gl he hx) h1) rfl)
  | store t x y =>
    simp only [evOp] at h
    split at h
    case h_2 => cases h
    rename_i x' y' hx hy
    split at h
    · cases h
    obtain ⟨m1, hm1, he1⟩ := Option.map_eq_some_iff.1 h
    simp only [Prod.mk.injEq] at he1
    obtain ⟨rfl, rfl⟩ := he1
    obtain ⟨V', hrun, hm, ok', ext⟩ := store_ok ok (evX_ok gl he hx) (evX_ok gl he hy) hm1
    have hr : (execOp a.eval ⟨dst, .store t x y, ty, pos, aft, gd⟩).run cx.P V.w = .ok .skip V'.w := by
      simp only [execOp, Sem.run_bind, hrun, Result.andThen_ok, Sem.run_pure]
    rw [hr, Oper.uponIn_skip]
    exact hn V' undef hm ok' ext (undef_rep V')
  | makeSlice t x y =>
    simp only [evOp] at h
    split at h
    case h_2 => cases h
    rename_i kl l kc c et hx hy het
    split at h
    case h_2 => cases h
    rename_i sz b z hsz hb hz
    split at h
    case isFalse => cases h
    rename_i hcnd
    obtain ⟨_, h1, h2, h3, h4, h5, h6, h7⟩ := hcnd
    simp only [Option.some.injEq, Prod.mk.injEq] at h
    obtain ⟨rfl, rfl⟩ := h
    have hxv := evX_ok gl he hx
    have hyv := evX_ok gl he hy
    have hxe : a.eval x = .int kl l := by generalize a.eval x = q at hxv; cases hxv; rfl
    have hye : a.eval y = .int kc c := by generalize a.eval y = q at hyv; cases hyv; rfl
    obtain ⟨V', v, hrun, hm, ok', ext, rep⟩ := makeS_ok (P := cx.P) ok kl kc het hsz hb hz h1 h2 h3 h4 h5 h6 h7
    exact val ⟨v, V', by simp only [execOp, hxe, hye, Sem.run_bind, hrun, Result.andThen_ok, Sem.run_pure], hm, ok', ext, rep⟩
  | makeMap t rr =>
    simp only [evOp] at h
    cases rr with
    | some _ => cases h
    | none =>
      simp only at h
      split at h
      · cases h
      simp only [Option.some.injEq, Prod.mk.injEq] at h
      obtain ⟨rfl, rfl⟩ := h
      obtain ⟨V', v, hrun, hm, ok', ext, rep⟩ := make_ok (P := cx.P) ok t
      exact val ⟨v, V', by simp only [execOp, Option.map_none, Sem.run_bind, hrun, Result.andThen_ok, Sem.run_pure], hm, ok', ext, rep⟩
  | lookup t x k b =>
    simp only [evOp] at h
    split at h
    case h_2 => cases h
    rename_i x' k' hx hk
    obtain ⟨h1, rfl⟩ := noMem_some h
    exact val (gives_of ok (look_ok ok (evX_ok gl he hx) (evX_ok gl he hk) h1) rfl)
  | mapUpdate t x k y =>
    simp only [evOp] at h
    split at h
    case h_2 => cases h
    rename_i x' k' y' hx hk hy
    split at h
    · cases h
    obtain ⟨m1, hm1, he1⟩ := Option.map_eq_some_iff.1 h
    simp only [Prod.mk.injEq] at he1
    obtain ⟨rfl, rfl⟩ := he1
    obtain ⟨V', hrun, hm, ok', ext⟩ := upd_ok (P := cx.P) ok (evX_ok gl he hx) (evX_ok gl he hk) (evX_ok gl he hy) hm1
    have hr : (execOp a.eval ⟨dst, .mapUpdate t x k y, ty, pos, aft, gd⟩).run cx.P V.w = .ok .skip V'.w := by
      simp only [execOp, Sem.run_bind, hrun, Result.andThen_ok, Sem.run_pure]
    rw [hr, Oper.uponIn_skip]
    exact hn V' undef hm ok' ext (undef_rep V')
  | nilCheck x =>
    simp only [evOp] at h
    split at h
    case h_2 => cases h
    rename_i v hv
    split at h
    case isFalse => cases h
    rename_i hval
    simp only [Option.some.injEq, Prod.mk.injEq] at h
    obtain ⟨rfl, rfl⟩ := h
    have hr := evX_ok gl he hv
    refine val ⟨a.eval x, V, ?_, rfl, ok, Ext.refl V, hr⟩
    cases v with
    | ptr id ver off =>
      simp only [validA, beq_iff_eq] at hval
      obtain ⟨b, _, hq⟩ := ptr_valid hr hval
      simp only [execOp, hq]; rfl
    | aptr id ver sz i f =>
      simp only [validA, beq_iff_eq] at hval
      obtain ⟨b, _, hq⟩ := aptr_valid hr hval
      simp only [execOp, hq]; rfl
    | rptr xs =>
      have hq : ∃ ad, a.eval x = .pointer (some ad) := by generalize a.eval x = q at hr; cases hr; exact ⟨_, rfl⟩
      obtain ⟨ad, hq⟩ := hq
      simp only [execOp, hq]; rfl
    | fn f xs ys =>
      have hq : ∃ fs cs, a.eval x = .func (.func f) fs cs := by generalize a.eval x = q at hr; cases hr; exact ⟨_, _, rfl⟩
      obtain ⟨fs, cs, hq⟩ := hq
      simp only [execOp, hq]; rfl
    | _ => simp [validA] at hval
  | binOp bop t x y yt =>
    simp only [evOp] at h
    split at h
    case h_2 => cases h
    rename_i x' y' hx hy
    obtain ⟨h1, rfl⟩ := noMem_some h
    exact val (gives_of ok (bin_ok x y (evX_ok gl he hx) (evX_ok gl he hy) h1) rfl)
  | unOp uop t x =>
    simp only [evOp] at h
    split at h
    case h_2 => cases h
    rename_i x' hx
    obtain ⟨h1, rfl⟩ := noMem_some h
    exact val (gives_of ok (un_ok (evX_ok gl he hx) h1) rfl)
  | convert s d x =>
    simp only [evOp] at h
    split at h
    case h_2 => cases h
    rename_i x' hx
    obtain ⟨h1, rfl⟩ := noMem_some h
    exact val (gives_of ok (conv_ok (evX_ok gl he hx) h1) rfl)
  | makeFunc fn first cap =>
    simp only [evOp] at h
    split at h
    case h_2 => cases h
    rename_i f xs ys hx hy
    simp only [Option.some.injEq, Prod.mk.injEq] at h
    obtain ⟨rfl, rfl⟩ := h
    have r1 := evXs_ok gl he hx
    have r2 := evXs_ok gl he hy
    refine val ⟨.func (.func f) (first.map a.eval) (cap.map a.eval), V, rfl, rfl, ok, Ext.refl V, ?_⟩
    exact .fn f xs ys _ _ (by have := r1.1; simpa using this) (by have := r2.1; simpa using this) (fun j x c hx' hc => r1.2 j x c hx' (by simpa using hc)) (fun j x c hx' hc => r2.2 j x c hx' (by simpa using hc))
  | slice t x lo hi mx =>
    simp only [evOp] at h
    split at h
    case h_2 => cases h
    rename_i x' lo' hi' mx' hx hlo hhi hmx
    obtain ⟨h1, rfl⟩ := noMem_some h
    exact val (gives_of ok (slice_ok (evX_ok gl he hx) (evO_ok gl he hlo) (evO_ok gl he hhi) (evO_ok gl he hmx) h1) rfl)
  | fieldAddr s x j =>
    simp only [evOp] at h
    split at h
    case h_2 => cases h
    rename_i x' hx
    obtain ⟨h1, rfl⟩ := noMem_some h
    exact val (gives_of ok (fieldAddr_ok (evX_ok gl he hx) h1) rfl)
  | field s x j =>
    simp only [evOp] at h
    split at h
    case h_2 => cases h
    rename_i x' hx
    obtain ⟨h1, rfl⟩ := noMem_some h
    exact val (gives_of ok (field_ok (evX_ok gl he hx) h1) rfl)
  | indexAddr t x ix =>
    simp only [evOp] at h
    split at h
    case h_2 => cases h
    rename_i x' i' hx hi
    obtain ⟨h1, rfl⟩ := noMem_some h
    exact val (gives_of ok (indexAddr_ok ok (evX_ok gl he hx) (evX_ok gl he hi) h1) rfl)
  | index t x ix =>
    simp only [evOp] at h
    split at h
    case h_2 => cases h
    rename_i x' i' hx hi
    obtain ⟨h1, rfl⟩ := noMem_some h
    exact val (gives_of ok (index_ok (evX_ok gl he hx) (evX_ok gl he hi) h1) rfl)
  | extract x j =>
    simp only [evOp] at h
    split at h
    case h_2 => cases h
    rename_i xs hx
    obtain ⟨h1, rfl⟩ := noMem_some h
    have hr := evX_ok gl he hx
    refine val (gives_of ok ?_ rfl)
    generalize a.eval x = q at hr
    cases hr with
    | tup xs cs hs hrr =>
      have hj := (List.getElem?_eq_some_iff.1 h1).1
      have hc : cs[j]? = some cs[j] := Array.getElem?_eq_getElem (by omega)
      exact ⟨cs[j], by simp only [Instr.extract, hc]; rfl, hrr j r _ h1 hc⟩
  | call c =>
    obtain ⟨callee, args, ats⟩ := c
    cases callee with
    | value f =>
      simp only [evOp] at h
      split at h
      case h_2 => cases h
      rename_i f' as hf has
      split at h
      · cases h
      have r1 := evX_ok gl he hf
      have r2 := evXs_ok gl he has
      have r2' : Reps V as (args.map a.eval).toList := by simpa using r2
      obtain ⟨d, hd, hcall⟩ := callV_ok hF hY hX ok gl r1 r2' h
      have hr : (execOp a.eval ⟨dst, .call ⟨.value f, args, ats⟩, ty, pos, aft, gd⟩).run cx.P V.w = (invoke d.target d.args).run cx.P V.w := by
        simp only [execOp, resolve, Sem.run_bind, hd, Result.andThen_ok]
      rw [hr]
      exact hcall _ a fr next Q hn
    | invoke _ _ => simp [evOp] at h
    | builtin b =>
      simp only [evOp] at h
      cases hxs : evXs cx e args.toList with
      | none => simp [hxs] at h
      | some xs =>
        have r2 := evXs_ok gl he hxs
        have r2' : Reps V xs (args.map a.eval).toList := by simpa using r2
        simp only [hxs] at h
        generalize hva : args.map a.eval = va at r2'
        split at h
        · rename_i x t hxe hte
          simp only [Option.some.injEq] at hxe
          subst hxe
          obtain ⟨h1, rfl⟩ := noMem_some h
          obtain ⟨v, vs', hv, hr1, hr2⟩ := r2'.inv
          have hvs : vs' = [] := List.eq_nil_of_length_eq_zero (by have := hr2.1; simpa using this)
          subst hvs
          have hva' : va = #[v] := by rw [← Array.toList_inj]; simpa using hv
          have hat : ats = #[t] := by rw [← Array.toList_inj]; simpa using hte
          subst hat
          refine val ?_
          have : execOp a.eval ⟨dst, .call ⟨.builtin .len, args, #[t]⟩, ty, pos, aft, gd⟩ = (do pure (.value (← Builtin.len_ #[t] ty #[v]))) := by
            simp only [execOp, resolve, hva, hva']; rfl
          rw [this]
          exact gives_of ok (len_ok hr1 h1) rfl
        · rename_i x y t t' hxe hte
          simp only [Option.some.injEq] at hxe
          subst hxe
          split at h
          case isFalse => cases h
          obtain ⟨v, vs', hv, hr1, hr2⟩ := r2'.inv
          obtain ⟨v2, vs2, hv2, hr3, hr4⟩ := hr2.inv
          have hvs : vs2 = [] := List.eq_nil_of_length_eq_zero (by have := hr4.1; simpa using this)
          subst hvs
          subst hv2
          have hva' : va = #[v, v2] := by rw [← Array.toList_inj]; simpa using hv
          have hat : ats = #[t, t'] := by rw [← Array.toList_inj]; simpa using hte
          subst hat
          refine val ?_
          obtain ⟨u, V', hrun, hm, ok', ext, rep⟩ := append_ok (P := cx.P) (ty := ty) ok hr1 hr3 h
          have : execOp a.eval ⟨dst, .call ⟨.builtin .append, args, #[t, t']⟩, ty, pos, aft, gd⟩ = (do pure (.value (← Builtin.append_ #[t, t'] ty #[v, v2]))) := by
            simp only [execOp, resolve, hva, hva']; rfl
          rw [this]
          exact ⟨u, V', by simp only [Sem.run_bind, hrun, Result.andThen_ok, Sem.run_pure], hm, ok', ext, rep⟩
        · rename_i xs' hxe
          simp only [Option.some.injEq] at hxe
          subst hxe
          obtain ⟨h1, rfl⟩ := noMem_some h
          refine val ?_
          have : execOp a.eval ⟨dst, .call ⟨.builtin .max, args, ats⟩, ty, pos, aft, gd⟩ = (do pure (.value (← Builtin.max_ ats ty va))) := by
            simp only [execOp, resolve, hva]; rfl
          rw [this]
          exact gives_of ok (max_ok ats ty (op := true) r2' h1) rfl
        · rename_i xs' hxe
          simp only [Option.some.injEq] at hxe
          subst hxe
          obtain ⟨h1, rfl⟩ := noMem_some h
          refine val ?_
          have : execOp a.eval ⟨dst, .call ⟨.builtin .min, args, ats⟩, ty, pos, aft, gd⟩ = (do pure (.value (← Builtin.min_ ats ty va))) := by
            simp only [execOp, resolve, hva]; rfl
          rw [this]
          exact gives_of ok (max_ok ats ty (op := false) r2' h1) rfl
        · cases h
  | _ => simp [evOp] at h
end Go.Ab

/- What an operation's result hangs on. -/
set_option linter.unusedVariables false
set_option linter.unusedSimpArgs false
namespace Go.Ab
open Go

variable {cx : Cx} {F Y : CallT}

/-- The temporaries that an operation looks at. -/
def tmpsOf (op : Op) : List Nat := op.operands.toList.filterMap fun | .tmp t => some t | _ => none

theorem evX_congr {e e' : Env} {x : Operand} (h : ∀ t, x = .tmp t → e t = e' t) : evX cx e x = evX cx e' x := by
  cases x <;> simp only [evX]
  rw [h _ rfl]
theorem evXs_congr {e e' : Env} : ∀ {xs : List Operand}, (∀ t, Operand.tmp t ∈ xs → e t = e' t) → evXs cx e xs = evXs cx e' xs
  | [], _ => rfl
  | x :: xs, h => by
    simp only [evXs]
    rw [evX_congr (fun t ht => h t (by simp [ht])), evXs_congr (fun t ht => h t (by simp [ht]))]
theorem evParts_congr {e e' : Env} : ∀ {xs : List (Nat × Operand)}, (∀ t, Operand.tmp t ∈ xs.map (·.2) → e t = e' t) → evParts cx e xs = evParts cx e' xs
  | [], _ => rfl
  | (j, x) :: xs, h => by
    simp only [evParts]
    rw [evX_congr (fun t ht => h t (by simp [ht])), evParts_congr (fun t ht => h t (by simp at ht; simp [ht]))]
theorem evO_congr {e e' : Env} {x : Option Operand} (h : ∀ t, x = some (.tmp t) → e t = e' t) : x.mapM (evX cx e) = x.mapM (evX cx e') := by
  cases x with
  | none => rfl
  | some x => simp only [Option.mapM_some]; rw [evX_congr (fun t ht => h t (by rw [ht]))]

/-- An operation looks at its own temporaries alone. -/
theorem evOp_congr {md : Nat} {m : Mem} {e e' : Env} {op : Op} (h : ∀ t ∈ tmpsOf op, e t = e' t) : evOp cx md F Y e m op = evOp cx md F Y e' m op := by
  have hx : ∀ x : Operand, x ∈ op.operands.toList → evX cx e x = evX cx e' x := fun x hm => evX_congr (fun t ht => h t (by
    unfold tmpsOf
    refine List.mem_filterMap.2 ⟨x, hm, by rw [ht]⟩))
  have hxs : ∀ xs : List Operand, (∀ x ∈ xs, x ∈ op.operands.toList) → evXs cx e xs = evXs cx e' xs := fun xs hm => evXs_congr (fun t ht => h t (by
    unfold tmpsOf
    exact List.mem_filterMap.2 ⟨_, hm _ ht, rfl⟩))
  cases op with
  | build t ps =>
    simp only [evOp]
    rw [evParts_congr (fun t ht => h t (List.mem_filterMap.2 ⟨_, by simpa [Op.operands] using ht, rfl⟩))]
  | buildSlice t n ps =>
    simp only [evOp]
    rw [evParts_congr (fun t ht => h t (List.mem_filterMap.2 ⟨_, by simpa [Op.operands] using ht, rfl⟩))]
  | slice t x lo hi mx =>
    simp only [evOp]
    rw [hx x (by simp [Op.operands]), evO_congr (x := lo) (e' := e') (fun t ht => h t (List.mem_filterMap.2 ⟨Operand.tmp t, by simp [Op.operands, ht], rfl⟩)),
      evO_congr (x := hi) (e' := e') (fun t ht => h t (List.mem_filterMap.2 ⟨Operand.tmp t, by simp [Op.operands, ht], rfl⟩)), evO_congr (x := mx) (e' := e') (fun t ht => h t (List.mem_filterMap.2 ⟨Operand.tmp t, by simp [Op.operands, ht], rfl⟩))]
  | makeFunc fn first cap =>
    simp only [evOp]
    rw [hxs first.toList (fun x hm => by simp [Op.operands]; left; simpa using hm), hxs cap.toList (fun x hm => by simp [Op.operands]; right; simpa using hm)]
  | call c =>
    obtain ⟨callee, args, ats⟩ := c
    cases callee with
    | value f => simp only [evOp]; rw [hx f (by simp [Op.operands, Call.operands]), hxs args.toList (fun x hm => by simp [Op.operands, Call.operands]; right; simpa using hm)]
    | invoke _ _ => rfl
    | builtin b => simp only [evOp]; rw [hxs args.toList (fun x hm => by simp [Op.operands, Call.operands]; simpa using hm)]
  | pick c a b =>
    simp only [evOp]
    rw [hx c (by simp [Op.operands])]
    have ha := hx a (by simp [Op.operands])
    have hb := hx b (by simp [Op.operands])
    split
    · rename_i t _
      cases t
      · simp only [Bool.false_eq_true, if_false]; rw [hb]
      · simp only [if_true]; rw [ha]
    · rfl
  | lookup t x k b => simp only [evOp]; rw [hx x (by simp [Op.operands]), hx k (by simp [Op.operands])]
  | mapUpdate t x k y => simp only [evOp]; rw [hx x (by simp [Op.operands]), hx k (by simp [Op.operands]), hx y (by simp [Op.operands])]
  | makeMap t r => rfl
  | makeSlice t x y => simp only [evOp]; rw [hx x (by simp [Op.operands]), hx y (by simp [Op.operands])]
  | move x => simp only [evOp]; rw [hx x (by simp [Op.operands])]
  | assign x => simp only [evOp]; rw [hx x (by simp [Op.operands])]
  | box t x => simp only [evOp]; rw [hx x (by simp [Op.operands])]
  | load t x => simp only [evOp]; rw [hx x (by simp [Op.operands])]
  | store t x y => simp only [evOp]; rw [hx x (by simp [Op.operands]), hx y (by simp [Op.operands])]
  | nilCheck x => simp only [evOp]; rw [hx x (by simp [Op.operands])]
  | binOp o t x y _ => simp only [evOp]; rw [hx x (by simp [Op.operands]), hx y (by simp [Op.operands])]
  | unOp o t x => simp only [evOp]; rw [hx x (by simp [Op.operands])]
  | convert s d x => simp only [evOp]; rw [hx x (by simp [Op.operands])]
  | fieldAddr s x j => simp only [evOp]; rw [hx x (by simp [Op.operands])]
  | field s x j => simp only [evOp]; rw [hx x (by simp [Op.operands])]
  | indexAddr t x y => simp only [evOp]; rw [hx x (by simp [Op.operands]), hx y (by simp [Op.operands])]
  | index t x y => simp only [evOp]; rw [hx x (by simp [Op.operands]), hx y (by simp [Op.operands])]
  | extract x j => simp only [evOp]; rw [hx x (by simp [Op.operands])]
  | _ => rfl

def hid : AV → Option Nat
  | .own id _ => some id
  | .ptr id _ _ => some id
  | .aptr id .. => some id
  | .mp id => some id
  | _ => none

theorem noMem_at {m : Mem} {x : Option AV} {r : AV} {m1 : Mem} (h : noMem m x = some (r, m1)) (m' : Mem) : m1 = m ∧ noMem m' x = some (r, m') := by
  obtain ⟨h1, h2⟩ := noMem_some h
  exact ⟨h2.symm, by rw [h1]; rfl⟩

theorem bin_noeq {P : Program} {m m' : Mem} {op : BinOp} {t : Nat} {x y : AV} (h : op ≠ .eql ∧ op ≠ .neq) : binA P m op t x y = binA P m' op t x y := by
  unfold binA
  split
  · rfl
  · rfl
  · cases op <;> first | rfl | exact absurd rfl h.1 | exact absurd rfl h.2

/-- Class 0: no memory. -/
theorem ev0 {ops : Array Oper} {o : Oper} (hc : cls ops o = 0) {md : Nat} {e : Env} {m : Mem} {r : AV} {m1 : Mem} (h : evOp cx md F Y e m o.op = some (r, m1)) (m' : Mem) :
    m1 = m ∧ evOp cx md F Y e m' o.op = some (r, m') := by
  unfold cls at hc
  generalize regB ops = rgb at hc
  cases hop : o.op with
  | move x => rw [hop] at h; exact noMem_at h m'
  | assign x => rw [hop] at h; exact noMem_at h m'
  | pick c a b =>
    rw [hop] at h
    simp only [evOp] at h ⊢
    split at h
    · rename_i t hct; exact noMem_at h m'
    · cases h
  | build t ps =>
    rw [hop] at h
    simp only [evOp] at h ⊢
    split at h
    · split at h
      · rename_i hpl; simp only [hpl, if_true]; exact noMem_at h m'
      · cases h
    · cases h
  | buildSlice t n ps =>
    rw [hop] at h
    simp only [evOp] at h ⊢
    split at h
    · split at h
      · split at h
        · rename_i hcnd; simp only [if_pos hcnd]; exact noMem_at h m'
        · cases h
      · cases h
    · cases h
  | binOp b t x y yt =>
    rw [hop] at h hc
    simp only [evOp] at h ⊢
    split at h
    · rename_i x' y' hx hy
      have hne : b ≠ .eql ∧ b ≠ .neq := by
        constructor <;> intro hb <;> subst hb <;> simp at hc
      rw [bin_noeq (m' := m') hne] at h
      exact noMem_at h m'
    · cases h
  | unOp u t x =>
    rw [hop] at h
    simp only [evOp] at h ⊢
    split at h
    · exact noMem_at h m'
    · cases h
  | convert s d x =>
    rw [hop] at h
    simp only [evOp] at h ⊢
    split at h
    · exact noMem_at h m'
    · cases h
  | makeFunc fn a b =>
    rw [hop] at h
    simp only [evOp] at h ⊢
    split at h
    · simp only [Option.some.injEq, Prod.mk.injEq] at h
      obtain ⟨rfl, rfl⟩ := h
      exact ⟨rfl, rfl⟩
    · cases h
  | slice t x lo hi mx =>
    rw [hop] at h
    simp only [evOp] at h ⊢
    split at h
    · exact noMem_at h m'
    · cases h
  | field s x j =>
    rw [hop] at h
    simp only [evOp] at h ⊢
    split at h
    · exact noMem_at h m'
    · cases h
  | index t x y =>
    rw [hop] at h
    simp only [evOp] at h ⊢
    split at h
    · exact noMem_at h m'
    · cases h
  | extract x j =>
    rw [hop] at h
    simp only [evOp] at h ⊢
    split at h
    · exact noMem_at h m'
    · cases h
  | call c =>
    obtain ⟨callee, args, ats⟩ := c
    rw [hop] at h hc
    cases callee with
    | value f => cases f <;> first | (simp at hc; done) | (simp at hc; split at hc <;> cases hc)
    | invoke _ _ => simp [evOp] at h
    | builtin b =>
      simp only [evOp] at h ⊢
      cases b with
      | max =>
        cases hxs : evXs cx e args.toList with
        | none => simp [hxs] at h
        | some xs => simp only [hxs] at h ⊢; exact noMem_at h m'
      | min =>
        cases hxs : evXs cx e args.toList with
        | none => simp [hxs] at h
        | some xs => simp only [hxs] at h ⊢; exact noMem_at h m'
      | append => dsimp only at hc; split at hc <;> cases hc
      | len => cases hc
      | _ => cases hc
  | box t x => rw [hop] at hc; simp at hc
  | alloc t => rw [hop] at hc; simp at hc
  | load t x => rw [hop] at hc; simp at hc
  | store t x y => rw [hop] at hc; simp at hc
  | nilCheck x => rw [hop] at hc; simp at hc
  | fieldAddr s x j => rw [hop] at hc; simp at hc
  | indexAddr t x y => rw [hop] at hc; simp at hc
  | makeSlice t x y => rw [hop] at hc; simp at hc
  | lookup t x k b => rw [hop] at hc; simp at hc
  | mapUpdate t x k y => rw [hop] at hc; simp at hc
  | makeMap t r => rw [hop] at hc; simp at hc
  | _ => rw [hop] at h; simp [evOp] at h

def ShpAt (m m' : Mem) (x : AV) : Prop := ∀ id, hid x = some id → (shp m id).isSome = true → shp m' id = shp m id
theorem ver_at {m m' : Mem} {x : AV} (h : ShpAt m m' x) {id ver : Nat} (hi : hid x = some id) (hv : verOf m id = some ver) : verOf m' id = some ver := by
  unfold verOf at hv ⊢
  obtain ⟨s, hs, he⟩ := Option.map_eq_some_iff.1 hv
  rw [h id hi (by rw [hs]; rfl), hs]
  simp [he]

theorem eq_at {P : Program} {m m' : Mem} {t : Nat} {x y : AV} {b : Bool} (hx : ShpAt m m' x) (hy : ShpAt m m' y) (h : eqA P m t x y = some b) : eqA P m' t x y = some b := by
  unfold eqA at h ⊢
  split at h
  · exact h
  · exact h
  · exact h
  · split at h
    · rename_i hc; rw [if_pos ⟨hc.1, ver_at hx rfl hc.2.1, hc.2.2⟩]; exact h
    · cases h
  · split at h
    · rename_i hc; rw [if_pos ⟨hc.1, ver_at hy rfl hc.2.1, hc.2.2⟩]; exact h
    · cases h
  · exact h
  · exact h
  · exact h
  · exact h
  · cases h

/-- Class 1: the shapes of the blocks that the operands lead to. -/
theorem ev1 {ops : Array Oper} {o : Oper} (hc : cls ops o = 1) {md : Nat} {e : Env} {m m' : Mem} {r : AV} {m1 : Mem} (h : evOp cx md F Y e m o.op = some (r, m1))
    (H : ∀ x ∈ o.op.operands.toList, ∀ v, evX cx e x = some v → ShpAt m m' v) : m1 = m ∧ evOp cx md F Y e m' o.op = some (r, m') := by
  unfold cls at hc
  generalize regB ops = rgb at hc
  cases hop : o.op with
  | nilCheck x =>
    rw [hop] at h H
    simp only [evOp] at h ⊢
    split at h
    · rename_i v hv
      have hs := H x (by simp [Op.operands]) v hv
      split at h
      · rename_i hval
        simp only [Option.some.injEq, Prod.mk.injEq] at h
        obtain ⟨rfl, rfl⟩ := h
        refine ⟨rfl, ?_⟩
        have : validA m' v = true := by
          cases v with
          | ptr id ver off => simp only [validA, beq_iff_eq] at hval ⊢; exact ver_at hs rfl hval
          | aptr id ver sz i f => simp only [validA, beq_iff_eq] at hval ⊢; exact ver_at hs rfl hval
          | _ => exact hval
        simp only [this, if_true]
      · cases h
    · cases h
  | fieldAddr s x j =>
    rw [hop] at h H
    simp only [evOp] at h ⊢
    split at h
    · rename_i v hv
      have hs := H x (by simp [Op.operands]) v hv
      obtain ⟨h1, h2⟩ := noMem_some h
      refine ⟨h2.symm, ?_⟩
      have : fieldAddrA cx.P m' s j v = some r := by
        unfold fieldAddrA at h1 ⊢
        cases hf : fldT cx.P s j with
        | none => simp [hf] at h1
        | some p =>
          obtain ⟨ft, off⟩ := p
          simp only [hf] at h1 ⊢
          split at h1
          · rename_i hz
            rw [if_pos hz]
            cases v with
            | ptr id ver off =>
              simp only at h1 ⊢
              split at h1
              · rename_i hv1; rw [if_pos (ver_at hs rfl hv1)]; exact h1
              · cases h1
            | aptr id ver sz i f =>
              simp only at h1 ⊢
              split at h1
              · rename_i hv1; rw [if_pos (ver_at hs rfl hv1)]; exact h1
              · cases h1
            | _ => exact h1
          · cases h1
      rw [this]; rfl
    · cases h
  | indexAddr t x y =>
    rw [hop] at h H
    simp only [evOp] at h ⊢
    split at h
    · rename_i v i hv hi
      have hs := H x (by simp [Op.operands]) v hv
      obtain ⟨h1, h2⟩ := noMem_some h
      refine ⟨h2.symm, ?_⟩
      have : indexAddrA cx.P m' t v i = some r := by
        unfold indexAddrA at h1 ⊢
        cases i with
        | int k i =>
          simp only at h1 ⊢
          cases he : elemT cx.P t with
          | some et =>
            simp only [he] at h1 ⊢
            cases v with
            | own id ver =>
              simp only at h1 ⊢
              cases hsh : shp m id with
              | none => simp [hsh] at h1
              | some p =>
                rw [hs id rfl (by rw [hsh]; rfl), hsh]
                rw [hsh] at h1
                exact h1
            | _ => exact h1
          | none =>
            simp only [he] at h1 ⊢
            cases ha : arrT cx.P t with
            | none => simp [ha] at h1
            | some p =>
              obtain ⟨n, et⟩ := p
              simp only [ha] at h1 ⊢
              cases hsz : szT cx.P et with
              | none => simp [hsz] at h1
              | some sz =>
                simp only [hsz] at h1 ⊢
                split at h1
                · rename_i hcnd
                  rw [if_pos hcnd]
                  cases v with
                  | ptr id ver off =>
                    simp only at h1 ⊢
                    split at h1
                    · rename_i hv1; rw [if_pos (ver_at hs rfl hv1)]; exact h1
                    · cases h1
                  | aptr id ver sz i f =>
                    simp only at h1 ⊢
                    split at h1
                    · rename_i hv1; rw [if_pos (ver_at hs rfl hv1)]; exact h1
                    · cases h1
                  | _ => exact h1
                · cases h1
        | _ => cases h1
      rw [this]; rfl
    · cases h
  | binOp b t x y yt =>
    rw [hop] at h H
    simp only [evOp] at h ⊢
    split at h
    · rename_i x' y' hx hy
      have hsx := H x (by simp [Op.operands]) x' hx
      have hsy := H y (by simp [Op.operands]) y' hy
      obtain ⟨h1, h2⟩ := noMem_some h
      refine ⟨h2.symm, ?_⟩
      have : binA cx.P m' b t x' y' = some r := by
        unfold binA at h1 ⊢
        split at h1
        · exact h1
        · exact h1
        · cases b <;> simp only at h1 ⊢
          case eql =>
            obtain ⟨q, hq, rfl⟩ := Option.map_eq_some_iff.1 h1
            rw [eq_at hsx hsy hq]; rfl
          case neq =>
            obtain ⟨q, hq, rfl⟩ := Option.map_eq_some_iff.1 h1
            rw [eq_at hsx hsy hq]; rfl
          all_goals cases h1
      rw [this]; rfl
    · cases h
  | call c =>
    obtain ⟨callee, args, ats⟩ := c
    rw [hop] at h hc H
    cases callee with
    | value f => cases f <;> first | (simp at hc; done) | (simp at hc; split at hc <;> cases hc)
    | invoke _ _ => simp [evOp] at h
    | builtin b =>
      simp only [evOp] at h ⊢
      cases b with
      | len =>
        cases hxs : evXs cx e args.toList with
        | none => simp [hxs] at h
        | some xs =>
          simp only [hxs] at h ⊢
          cases xs with
          | nil => simp at h
          | cons x xs' =>
          cases xs' with
          | cons _ _ => simp at h
          | nil =>
          cases hat : ats.toList with
          | nil => simp [hat] at h
          | cons t ts =>
          cases ts with
          | cons _ _ => simp [hat] at h
          | nil =>
          simp only [hat] at h ⊢
          obtain ⟨h1, h2⟩ := noMem_some h
          refine ⟨h2.symm, ?_⟩
          have hs : ShpAt m m' x := by
            cases hal : args.toList with
            | nil => rw [hal] at hxs; simp [evXs] at hxs
            | cons y ys =>
              rw [hal] at hxs
              simp only [evXs] at hxs
              cases hy : evX cx e y with
              | none => simp [hy] at hxs
              | some v =>
                cases hys : evXs cx e ys with
                | none => simp [hy, hys] at hxs
                | some vs =>
                  simp [hy, hys] at hxs
                  rw [← hxs.1]
                  exact H y (by simp [Op.operands, Call.operands, hal]) v hy
          have : lenA cx.P m' t x = some r := by
            unfold lenA at h1 ⊢
            cases x with
            | own id ver =>
              simp only at h1 ⊢
              split at h1
              · rename_i hcnd; rw [if_pos ⟨hcnd.1, ver_at hs rfl hcnd.2⟩]; exact h1
              · cases h1
            | _ => exact h1
          rw [this]; rfl
      | append => dsimp only at hc; split at hc <;> cases hc
      | max => cases hc
      | min => cases hc
      | _ => cases hc
  | move x => rw [hop] at hc; simp at hc
  | assign x => rw [hop] at hc; simp at hc
  | pick c a b => rw [hop] at hc; simp at hc
  | build t ps => rw [hop] at hc; simp at hc
  | buildSlice t n ps => rw [hop] at hc; simp at hc
  | unOp u t x => rw [hop] at hc; simp at hc
  | convert s d x => rw [hop] at hc; simp at hc
  | makeFunc fn a b => rw [hop] at hc; simp at hc
  | slice t x lo hi mx => rw [hop] at hc; simp at hc
  | field s x j => rw [hop] at hc; simp at hc
  | index t x y => rw [hop] at hc; simp at hc
  | extract x j => rw [hop] at hc; simp at hc
  | box t x => rw [hop] at hc; simp at hc
  | alloc t => rw [hop] at hc; simp at hc
  | load t x => rw [hop] at hc; simp at hc
  | store t x y => rw [hop] at hc; simp at hc
  | makeSlice t x y => rw [hop] at hc; simp at hc
  | lookup t x k b => rw [hop] at hc; simp at hc
  | mapUpdate t x k y => rw [hop] at hc; simp at hc
  | makeMap t r => rw [hop] at hc; simp at hc
  | _ => rw [hop] at h; simp [evOp] at h

/-- Class 2: a load hangs on one block; a call on what its arguments are when frozen. -/
def BlkAt (m m' : Mem) (x : AV) : Prop := ∀ id, hid x = some id → (m[id]?).isSome = true → m'[id]? = m[id]?
def FzAt (m m' : Mem) (x : AV) : Prop := ∀ y, fz m 6 x = some y → fz m' 6 x = some y ∧ idsD m' 6 x = idsD m 6 x

theorem mapM_at {f f' : AV → Option AV} {g g' : AV → List Nat} : ∀ {xs ys : List AV}, (∀ x ∈ xs, ∀ y, f x = some y → f' x = some y ∧ g' x = g x) → xs.mapM f = some ys → xs.mapM f' = some ys ∧ xs.flatMap g' = xs.flatMap g
  | [], ys, _, h => ⟨by simpa using h, rfl⟩
  | x :: xs, ys, H, h => by
    simp only [List.mapM_cons, Option.bind_eq_bind, Option.pure_def] at h
    obtain ⟨y, hy, h⟩ := Option.bind_eq_some_iff.1 h
    obtain ⟨zs, hz, h⟩ := Option.bind_eq_some_iff.1 h
    obtain ⟨h1, h2⟩ := H x (by simp) y hy
    obtain ⟨h3, h4⟩ := mapM_at (fun x hx => H x (by simp [hx])) hz
    refine ⟨?_, by simp only [List.flatMap_cons, h2, h4]⟩
    simp only [List.mapM_cons, Option.bind_eq_bind, Option.pure_def, h1, h3, Option.bind_some]
    exact h
theorem fzs_at {m m' : Mem} {xs ys : List AV} (H : ∀ x ∈ xs, FzAt m m' x) (h : fzs m xs = some ys) : fzs m' xs = some ys ∧ idsDL m' xs = idsDL m xs :=
  mapM_at (f := fz m 6) (f' := fz m' 6) (g := idsD m 6) (g' := idsD m' 6) H h
theorem ofV_nocall {v : Value} {c : AV} (h : ofV v = some c) (ro : Bool) (m : Mem) (xs : List AV) : callV cx ro F Y m c xs = none := by
  unfold ofV at h
  split at h
  · cases h; rfl
  · cases h; rfl
  · cases h; rfl
  · cases h; rfl
  · cases h; rfl
  · cases h; rfl
  · cases h; rfl
  · split at h
    · split at h
      · cases h; rfl
      · cases h
    · cases h
  · obtain ⟨ys, _, rfl⟩ := Option.map_eq_some_iff.1 h; rfl
  · cases h

theorem settle_at {m m' : Mem} {xs : List AV} {r r1 : AV} {m1 : Mem} (hi : idsDL m' xs = idsDL m xs) (h : settle true m xs r = some (r1, m1)) : m1 = m ∧ settle true m' xs r = some (r1, m') := by
  unfold settle at h ⊢
  rw [hi]
  split at h
  · rename_i hp
    rw [if_pos hp]
    split at h
    · rename_i hq; cases h; rw [if_pos hq]; exact ⟨rfl, rfl⟩
    · cases h
  · cases h

theorem ev2 {ops : Array Oper} {o : Oper} (hc : cls ops o = 2) {e : Env} {m m' : Mem} {r : AV} {m1 : Mem} (h : evOp cx 1 F Y e m o.op = some (r, m1))
    (H : ∀ x ∈ o.op.operands.toList, ∀ v, evX cx e x = some v → BlkAt m m' v ∧ FzAt m m' v) : m1 = m ∧ evOp cx 1 F Y e m' o.op = some (r, m') := by
  unfold cls at hc
  generalize regB ops = rgb at hc
  cases hop : o.op with
  | load t x =>
    rw [hop] at h H
    simp only [evOp] at h ⊢
    split at h
    · rename_i v hv
      have hs := (H x (by simp [Op.operands]) v hv).1
      obtain ⟨h1, h2⟩ := noMem_some h
      refine ⟨h2.symm, ?_⟩
      have : loadA cx.P m' t v = some r := by
        unfold loadA at h1 ⊢
        cases v with
        | ptr id ver off =>
          simp only at h1 ⊢
          cases hm : m[id]? with
          | none => simp [hm] at h1
          | some k => rw [hs id rfl (by rw [hm]; rfl)]; exact h1
        | aptr id ver sz i f =>
          simp only at h1 ⊢
          cases hm : m[id]? with
          | none => simp [hm] at h1
          | some k => rw [hs id rfl (by rw [hm]; rfl)]; exact h1
        | _ => exact h1
      rw [this]; rfl
    · cases h
  | call c =>
    obtain ⟨callee, args, ats⟩ := c
    rw [hop] at h hc H
    cases callee with
    | value f =>
      simp only [evOp] at h ⊢
      cases hf : evX cx e f with
      | none => simp [hf] at h
      | some c =>
        cases hxs : evXs cx e args.toList with
        | none => simp [hf, hxs] at h
        | some xs =>
          simp only [hf, hxs] at h ⊢
          cases hcap : capOK c with
          | false => simp [hcap] at h
          | true =>
          simp only [hcap, Bool.not_true, Bool.and_false, Bool.false_eq_true, if_false] at h ⊢
          have hfz : ∀ x ∈ xs, FzAt m m' x := by
            have : ∀ (l : List Operand) (xs : List AV), (∀ y ∈ l, y ∈ args.toList) → evXs cx e l = some xs → ∀ x ∈ xs, FzAt m m' x := by
              intro l
              induction l with
              | nil => intro xs _ h x hx; simp [evXs] at h; subst h; simp at hx
              | cons y l ih =>
                intro xs hl h x hx
                simp only [evXs] at h
                cases hy : evX cx e y with
                | none => simp [hy] at h
                | some v =>
                  cases hys : evXs cx e l with
                  | none => simp [hy, hys] at h
                  | some vs =>
                    simp [hy, hys] at h
                    subst h
                    rcases List.mem_cons.1 hx with rfl | hx
                    · have hyl := hl y (by simp)
                      exact (H y (by simp [Op.operands, Call.operands]; right; simpa using hyl) _ hy).2
                    · exact ih vs (fun z hz => hl z (by simp [hz])) hys x hx
            exact this _ _ (fun y hy => hy) hxs
          have hro : ((1 : Nat) != 0) = true := rfl
          rw [hro] at h ⊢
          cases c with
          | fn g first cap =>
            simp only [capOK, Bool.and_eq_true] at hcap
            have hpu : ∀ {l : List AV}, pureL l = true → ∀ x ∈ l, FzAt m m' x := fun hl x hx y hy => by
              have hxp := pureL_mem hl x hx
              have e1 : ∀ q : Mem, fz q 6 x = some x := fun q => by unfold fz; rw [if_pos hxp]
              have e2 : ∀ q : Mem, idsD q 6 x = [] := fun q => by unfold idsD; rw [if_pos hxp]
              rw [e1] at hy ⊢
              exact ⟨hy, by rw [e2, e2]⟩
            have hall : ∀ x ∈ first ++ xs ++ cap, FzAt m m' x := fun x hx => by
              rcases List.mem_append.1 hx with hx | hx
              · rcases List.mem_append.1 hx with hx | hx
                · exact hpu hcap.1 x hx
                · exact hfz x hx
              · exact hpu hcap.2 x hx
            simp only [callV] at h ⊢
            generalize first ++ xs ++ cap = L at h hall
            cases hX : cx.X g with
            | some q =>
              simp only [hX] at h ⊢
              cases hz : fzs m L with
              | none => simp [hz] at h
              | some ys =>
                obtain ⟨h1, h2⟩ := fzs_at hall hz
                simp only [hz] at h
                simp only [h1]
                cases hg : q ys with
                | none => simp [hg] at h
                | some r0 =>
                  simp only [hg] at h ⊢
                  exact settle_at h2 h
            | none =>
              simp only [hX] at h ⊢
              split at h
              · simp at h
              · rename_i hsh
                rw [if_neg hsh]
                split at h
                · simp at h
                rename_i hio
                rw [if_neg hio]
                simp only [Bool.not_true, Bool.and_false, Bool.false_eq_true, if_false] at h ⊢
                cases hz : fzs m L with
                | none => simp [hz] at h
                | some ys =>
                  obtain ⟨h1, h2⟩ := fzs_at hall hz
                  simp only [hz] at h
                  simp only [h1]
                  cases hf : F g ys [] with
                  | none => simp [hf] at h
                  | some rm =>
                    simp only [hf] at h ⊢
                    cases hq : fz rm.2 6 rm.1 with
                    | none => simp [hq] at h
                    | some r0 =>
                      simp only [hq] at h ⊢
                      exact settle_at h2 h
          | _ => simp [callV] at h
    | invoke _ _ => simp [evOp] at h
    | builtin b =>
      exfalso
      cases b with
      | append => dsimp only at hc; split at hc <;> cases hc
      | len => cases hc
      | max => cases hc
      | min => cases hc
      | _ => (simp only [evOp] at h; cases hxs : evXs cx e args.toList <;> simp [hxs] at h)
  | move x => rw [hop] at hc; simp at hc
  | assign x => rw [hop] at hc; simp at hc
  | pick c a b => rw [hop] at hc; simp at hc
  | build t ps => rw [hop] at hc; simp at hc
  | buildSlice t n ps => rw [hop] at hc; simp at hc
  | unOp u t x => rw [hop] at hc; simp at hc
  | binOp b t x y yt => rw [hop] at hc; cases b <;> simp at hc
  | convert s d x => rw [hop] at hc; simp at hc
  | makeFunc fn a b => rw [hop] at hc; simp at hc
  | slice t x lo hi mx => rw [hop] at hc; simp at hc
  | field s x j => rw [hop] at hc; simp at hc
  | index t x y => rw [hop] at hc; simp at hc
  | extract x j => rw [hop] at hc; simp at hc
  | box t x => rw [hop] at hc; simp at hc
  | alloc t => rw [hop] at hc; simp at hc
  | nilCheck x => rw [hop] at hc; simp at hc
  | fieldAddr s x j => rw [hop] at hc; simp at hc
  | indexAddr t x y => rw [hop] at hc; simp at hc
  | store t x y => rw [hop] at hc; simp at hc
  | makeSlice t x y => rw [hop] at hc; simp at hc
  | mapUpdate t x k y => rw [hop] at hc; simp at hc
  | makeMap t r => rw [hop] at hc; simp at hc
  | lookup t x k b =>
    rw [hop] at h H
    simp only [evOp] at h ⊢
    split at h
    · rename_i x' k' hx hk
      have hs := (H x (by simp [Op.operands]) x' hx).1
      obtain ⟨h1, h2⟩ := noMem_some h
      refine ⟨h2.symm, ?_⟩
      have : lookA cx.P m' t x' k' b = some r := by
        have he : ∀ p, entriesA m x' = some p → entriesA m' x' = some p := by
          intro p hp
          cases x' with
          | mp id =>
            simp only [entriesA] at hp ⊢
            cases hm : m[id]? with
            | none => simp [hm] at hp
            | some q => rw [hs id rfl (by rw [hm]; rfl)]; exact hp
          | _ => exact hp
        unfold lookA at h1 ⊢
        split at h1
        · rename_i hmt hkd hen
          rw [hmt, hkd, he _ hen]
          exact h1
        · cases h1
      rw [this]; rfl
    · cases h
  | _ => rw [hop] at h; simp [evOp] at h
end Go.Ab

/- Two operations that may change places. -/
set_option linter.unusedVariables false
set_option linter.unusedSimpArgs false
namespace Go.Ab
open Go

variable {cx : Cx} {F Y : CallT}

theorem get_app {m l : Mem} {id : Nat} {k : Blk} (h : m[id]? = some k) : (m ++ l)[id]? = some k := by
  rw [List.getElem?_append_left (List.getElem?_eq_some_iff.1 h).1]; exact h

/-- Frozen in a longer memory: the same. -/
theorem fz_ext {m : Mem} (l : Mem) : ∀ (n : Nat) {x y : AV}, fz m n x = some y → fz (m ++ l) n x = some y ∧ idsD (m ++ l) n x = idsD m n x := by
  intro n
  induction n with
  | zero => intro x y h; exact ⟨h, rfl⟩
  | succ n ih =>
    intro x y h
    simp only [fz] at h
    simp only [fz, idsD]
    split at h
    · rename_i hp; simp only [hp, if_true]; exact ⟨h, trivial⟩
    rename_i hp
    simp only [if_neg hp]
    have lst : ∀ {xs ys : List AV}, xs.mapM (fz m n) = some ys → xs.mapM (fz (m ++ l) n) = some ys ∧ xs.flatMap (idsD (m ++ l) n) = xs.flatMap (idsD m n) :=
      fun hm => mapM_at (fun x _ y hy => ih hy) hm
    cases x with
    | own id ver =>
      simp only at h ⊢
      cases hm : m[id]? with
      | none => simp [hm] at h
      | some k =>
        rw [get_app hm]
        simp only [hm] at h
        cases k with
        | arr e sz xs =>
          simp only at h ⊢
          split at h
          · rename_i hl
            obtain ⟨ys, hy, rfl⟩ := Option.map_eq_some_iff.1 h
            obtain ⟨h1, h2⟩ := lst hy
            simp only [if_pos hl, h1, h2]; exact ⟨rfl, trivial⟩
          · cases h
        | vec e sz xs =>
          simp only at h ⊢
          split at h
          · rename_i hl
            obtain ⟨ys, hy, rfl⟩ := Option.map_eq_some_iff.1 h
            obtain ⟨h1, h2⟩ := lst hy
            simp only [if_pos hl, h1, h2]; exact ⟨rfl, trivial⟩
          · cases h
        | _ => cases h
    | ptr id ver off =>
      simp only at h ⊢
      cases hm : m[id]? with
      | none => simp [hm] at h
      | some k =>
        rw [get_app hm]
        simp only [hm] at h
        cases k with
        | box cs =>
          simp only at h ⊢
          split at h
          · rename_i hl
            obtain ⟨ys, hy, rfl⟩ := Option.map_eq_some_iff.1 h
            obtain ⟨h1, h2⟩ := lst hy
            simp only [if_pos hl, h1, h2]; exact ⟨rfl, trivial⟩
          · cases h
        | _ => cases h
    | agg xs => simp only at h ⊢; obtain ⟨ys, hy, rfl⟩ := Option.map_eq_some_iff.1 h; obtain ⟨h1, h2⟩ := lst hy; rw [h1]; exact ⟨rfl, h2⟩
    | tup xs => simp only at h ⊢; obtain ⟨ys, hy, rfl⟩ := Option.map_eq_some_iff.1 h; obtain ⟨h1, h2⟩ := lst hy; rw [h1]; exact ⟨rfl, h2⟩
    | seq z f s xs => simp only at h ⊢; obtain ⟨ys, hy, rfl⟩ := Option.map_eq_some_iff.1 h; obtain ⟨h1, h2⟩ := lst hy; rw [h1]; exact ⟨rfl, h2⟩
    | rptr xs => simp only at h ⊢; obtain ⟨ys, hy, rfl⟩ := Option.map_eq_some_iff.1 h; obtain ⟨h1, h2⟩ := lst hy; rw [h1]; exact ⟨rfl, h2⟩
    | fn f a b =>
      simp only at h ⊢
      cases ha : a.mapM (fz m n) with
      | none => simp [ha] at h
      | some as =>
        cases hb : b.mapM (fz m n) with
        | none => simp [ha, hb] at h
        | some bs =>
          simp only [ha, hb] at h
          obtain ⟨h1, h2⟩ := lst ha
          obtain ⟨h3, h4⟩ := lst hb
          rw [h1, h2, h3, h4]; exact ⟨h, rfl⟩
    | smap a b =>
      simp only at h ⊢
      cases ha : a.mapM (fz m n) with
      | none => simp [ha] at h
      | some as =>
        cases hb : b.mapM (fz m n) with
        | none => simp [ha, hb] at h
        | some bs =>
          simp only [ha, hb] at h
          obtain ⟨h1, h2⟩ := lst ha
          obtain ⟨h3, h4⟩ := lst hb
          rw [h1, h2, h3, h4]; exact ⟨h, rfl⟩
    | mp id =>
      simp only at h ⊢
      cases hm : m[id]? with
      | none => simp [hm] at h
      | some k =>
        rw [get_app hm]
        simp only [hm] at h
        cases k with
        | mp a b =>
          simp only at h ⊢
          cases ha : a.mapM (fz m n) with
          | none => simp [ha] at h
          | some as =>
            cases hb : b.mapM (fz m n) with
            | none => simp [ha, hb] at h
            | some bs =>
              simp only [ha, hb] at h
              obtain ⟨h1, h2⟩ := lst ha
              obtain ⟨h3, h4⟩ := lst hb
              simp only [h1, h2, h3, h4]; exact ⟨h, trivial⟩
        | _ => cases h
    | _ => cases h

/-- A value that stands for something. -/
def Std (V : Vw) (x : AV) : Prop := ∃ v, Rep V x v
theorem std_list {V : Vw} : ∀ {xs : List AV}, (∀ x ∈ xs, Std V x) → ∃ vs, Reps V xs vs
  | [], _ => ⟨[], Reps.nil V⟩
  | x :: xs, h => by
    obtain ⟨v, hv⟩ := h x (by simp)
    obtain ⟨vs, hvs⟩ := std_list (xs := xs) (fun y hy => h y (List.mem_cons_of_mem _ hy))
    exact ⟨v :: vs, Reps.cons hv hvs⟩
theorem std_cells {V : Vw} {x : AV} (hl : ∀ y ∈ x.cells, y.leaf = true) (h : ∀ y ∈ x.cells, Std V y) : Std V x := by
  cases x with
  | agg xs =>
    obtain ⟨vs, hvs⟩ := std_list h
    exact ⟨.agg vs.toArray, .agg xs _ (by simpa [AV.cells] using hvs.1) hl (fun j x c hx hc => hvs.2 j x c hx (by simpa using hc))⟩
  | _ => exact h _ (by simp [AV.cells])
theorem std_reps {V : Vw} {xs : List AV} {vs : List Value} (h : Reps V xs vs) : ∀ x ∈ xs, Std V x := by
  intro x hx
  obtain ⟨j, hj, rfl⟩ := List.getElem_of_mem hx
  obtain ⟨c, _, hc⟩ := h.get (List.getElem?_eq_getElem hj)
  exact ⟨c, hc⟩
theorem hid_lt {V : Vw} {x : AV} (h : Std V x) {id : Nat} (hi : hid x = some id) : id < V.mem.length := by
  obtain ⟨v, h⟩ := h
  cases h with
  | own _ _ _ _ hd => cases hi; exact hd.1
  | ptr _ _ _ _ _ hd => cases hi; exact hd.1
  | aptr _ _ _ _ _ _ _ hd => cases hi; exact hd.1
  | mp _ _ _ hd => cases hi; exact hd.1
  | _ => cases hi

/-- Frozen in a longer memory, it froze before. -/
theorem fz_back {V : Vw} (o : Ok V) (l : Mem) : ∀ (n : Nat) {x y : AV}, Std V x → fz (V.mem ++ l) n x = some y → fz V.mem n x = some y ∧ idsD V.mem n x = idsD (V.mem ++ l) n x := by
  intro n
  induction n with
  | zero => intro x y _ h; exact ⟨h, rfl⟩
  | succ n ih =>
    intro x y hs h
    simp only [fz] at h
    simp only [fz, idsD]
    split at h
    · rename_i hp; simp only [hp, if_true]; exact ⟨h, trivial⟩
    rename_i hp
    simp only [if_neg hp]
    have lst : ∀ {xs ys : List AV}, (∀ x ∈ xs, Std V x) → xs.mapM (fz (V.mem ++ l) n) = some ys → xs.mapM (fz V.mem n) = some ys ∧ xs.flatMap (idsD V.mem n) = xs.flatMap (idsD (V.mem ++ l) n) :=
      fun hst hm => mapM_at (fun x hx y hy => ih (hst x hx) hy) hm
    cases x with
    | own id ver =>
      simp only at h ⊢
      have hlt := hid_lt hs (id := id) rfl
      rw [List.getElem?_append_left hlt] at h ⊢
      cases hm : V.mem[id]? with
      | none => simp [hm] at h
      | some k =>
        simp only [hm] at h
        cases k with
        | arr e sz xs =>
          simp only at h ⊢
          split at h
          · rename_i hl
            obtain ⟨ys, hy, rfl⟩ := Option.map_eq_some_iff.1 h
            obtain ⟨v, hv⟩ := hs
            obtain ⟨b, hb, _⟩ := own_valid hv (by rw [verOf_some hm]; simp [shpB, hl]) (.inr (by rw [isVec_some hm]; rfl))
            obtain ⟨h2, h3, h4, h5, vs, h6, h7, h8⟩ := o.blk id b _ hm hb
            have hall := std_reps h8
            have hst : ∀ x ∈ xs, Std V x := fun x hx => std_cells (h5 x hx).2 (fun y hy => hall y (List.mem_flatMap.2 ⟨x, hx, hy⟩))
            obtain ⟨h1, h2⟩ := lst hst hy
            simp only [if_pos hl, h1, h2]; exact ⟨rfl, trivial⟩
          · cases h
        | vec e sz xs =>
          simp only at h ⊢
          split at h
          · rename_i hl
            obtain ⟨ys, hy, rfl⟩ := Option.map_eq_some_iff.1 h
            obtain ⟨v, hv⟩ := hs
            have hst : ∀ x ∈ xs, Std V x := by
              rcases own_any hv (by rw [verOf_some hm]; simp [shpB, hl]) with ⟨b, hb, _⟩ | ⟨_, h0, _, _⟩
              · obtain ⟨_, h2, h3, h4, h5, vs, h6, h7, h8⟩ := o.blk id b _ hm hb
                have hall := std_reps h8
                exact fun x hx => std_cells (h5 x hx).2 (fun y hy => hall y (List.mem_flatMap.2 ⟨x, hx, hy⟩))
              · have : xs = [] := List.eq_nil_of_length_eq_zero (by omega)
                subst this
                exact fun x hx => by simp at hx
            obtain ⟨h1, h2⟩ := lst hst hy
            simp only [if_pos hl, h1, h2]; exact ⟨rfl, trivial⟩
          · cases h
        | _ => cases h
    | ptr id ver off =>
      simp only at h ⊢
      have hlt := hid_lt hs (id := id) rfl
      rw [List.getElem?_append_left hlt] at h ⊢
      cases hm : V.mem[id]? with
      | none => simp [hm] at h
      | some k =>
        simp only [hm] at h
        cases k with
        | box cs =>
          simp only at h ⊢
          split at h
          · rename_i hl
            obtain ⟨ys, hy, rfl⟩ := Option.map_eq_some_iff.1 h
            obtain ⟨v, hv⟩ := hs
            obtain ⟨b, hb, _⟩ := ptr_valid hv (by rw [verOf_some hm]; simp [shpB, hl.1])
            obtain ⟨vs, t, h6, h8, _⟩ := o.blk id b _ hm hb
            have hall := std_reps h8
            obtain ⟨h1, h2⟩ := lst (fun x hx => hall x (List.mem_of_mem_drop hx)) hy
            simp only [if_pos hl, h1, h2]; exact ⟨rfl, trivial⟩
          · cases h
        | _ => cases h
    | agg xs =>
      simp only at h ⊢
      obtain ⟨ys, hy, rfl⟩ := Option.map_eq_some_iff.1 h
      obtain ⟨v, hv⟩ := hs
      have hst : ∀ x ∈ xs, Std V x := by obtain ⟨vs, _, hr, _⟩ := agg_inv hv; exact std_reps hr
      obtain ⟨h1, h2⟩ := lst hst hy; rw [h1]; exact ⟨rfl, h2⟩
    | tup xs =>
      simp only at h ⊢
      obtain ⟨ys, hy, rfl⟩ := Option.map_eq_some_iff.1 h
      obtain ⟨v, hv⟩ := hs
      have hst : ∀ x ∈ xs, Std V x := by
        cases hv with
        | tup _ cs hl hr => exact std_reps (vs := cs.toList) ⟨by simpa using hl, fun j x c hx hc => hr j x c hx (by simpa using hc)⟩
      obtain ⟨h1, h2⟩ := lst hst hy; rw [h1]; exact ⟨rfl, h2⟩
    | seq z f s xs =>
      simp only at h ⊢
      obtain ⟨ys, hy, rfl⟩ := Option.map_eq_some_iff.1 h
      obtain ⟨v, hv⟩ := hs
      have hst : ∀ x ∈ xs, Std V x := by
        cases hv with
        | seqNil => intro x hx; simp at hx
        | seq _ _ _ ad c us hc hf hS h0 hsz hu hr =>
          intro x hx
          obtain ⟨j, hj, rfl⟩ := List.getElem_of_mem hx
          refine std_cells (hsz _ hx).2 (fun y hy => ?_)
          obtain ⟨m, hm, rfl⟩ := List.getElem_of_mem hy
          exact ⟨_, hr j _ m _ (List.getElem?_eq_getElem hj) (List.getElem?_eq_getElem hm)⟩
      obtain ⟨h1, h2⟩ := lst hst hy; rw [h1]; exact ⟨rfl, h2⟩
    | rptr xs =>
      simp only at h ⊢
      obtain ⟨ys, hy, rfl⟩ := Option.map_eq_some_iff.1 h
      obtain ⟨v, hv⟩ := hs
      have hst : ∀ x ∈ xs, Std V x := by
        cases hv with
        | rptr _ ad us h0 hl hS hu hr =>
          intro x hx
          obtain ⟨j, hj, rfl⟩ := List.getElem_of_mem hx
          exact ⟨_, hr j _ (List.getElem?_eq_getElem hj)⟩
      obtain ⟨h1, h2⟩ := lst hst hy; rw [h1]; exact ⟨rfl, h2⟩
    | fn f a b =>
      simp only at h ⊢
      obtain ⟨v, hv⟩ := hs
      have hst : (∀ x ∈ a, Std V x) ∧ ∀ x ∈ b, Std V x := by
        cases hv with
        | fn _ _ _ fs cs hl hl' hr hr' =>
          exact ⟨std_reps (vs := fs.toList) ⟨by simpa using hl, fun j x c hx hc => hr j x c hx (by simpa using hc)⟩, std_reps (vs := cs.toList) ⟨by simpa using hl', fun j x c hx hc => hr' j x c hx (by simpa using hc)⟩⟩
      cases ha : a.mapM (fz (V.mem ++ l) n) with
      | none => simp [ha] at h
      | some as =>
        cases hb : b.mapM (fz (V.mem ++ l) n) with
        | none => simp [ha, hb] at h
        | some bs =>
          simp only [ha, hb] at h
          obtain ⟨h1, h2⟩ := lst hst.1 ha
          obtain ⟨h3, h4⟩ := lst hst.2 hb
          rw [h1, h2, h3, h4]; exact ⟨h, rfl⟩
    | smap a b =>
      simp only at h ⊢
      obtain ⟨v, hv⟩ := hs
      have hst : (∀ x ∈ a, Std V x) ∧ ∀ x ∈ b, Std V x := by
        cases hv with
        | smap _ _ bk es cl hS hb h1 h2 hk hvv => exact ⟨std_reps (reps_entries h1 hk), std_reps (reps_entries h2 hvv)⟩
      cases ha : a.mapM (fz (V.mem ++ l) n) with
      | none => simp [ha] at h
      | some as =>
        cases hb : b.mapM (fz (V.mem ++ l) n) with
        | none => simp [ha, hb] at h
        | some bs =>
          simp only [ha, hb] at h
          obtain ⟨h1, h2⟩ := lst hst.1 ha
          obtain ⟨h3, h4⟩ := lst hst.2 hb
          rw [h1, h2, h3, h4]; exact ⟨h, rfl⟩
    | mp id =>
      simp only at h ⊢
      have hlt := hid_lt hs (id := id) rfl
      rw [List.getElem?_append_left hlt] at h ⊢
      cases hm : V.mem[id]? with
      | none => simp [hm] at h
      | some k =>
        simp only [hm] at h
        cases k with
        | mp a b =>
          simp only at h ⊢
          have hst : (∀ x ∈ a, Std V x) ∧ ∀ x ∈ b, Std V x := by
            obtain ⟨v, hv⟩ := hs
            cases hv with
            | mp _ _ _ _ hv =>
              obtain ⟨bk, hbk, _⟩ := hv (by simp [verOf, shp, hm, shpB])
              obtain ⟨es, cl, g1, g2, g3⟩ := o.blk id bk _ hm hbk
              exact ⟨std_reps g2, std_reps g3⟩
          cases ha : a.mapM (fz (V.mem ++ l) n) with
          | none => simp [ha] at h
          | some as =>
            cases hb : b.mapM (fz (V.mem ++ l) n) with
            | none => simp [ha, hb] at h
            | some bs =>
              simp only [ha, hb] at h
              obtain ⟨h1, h2⟩ := lst hst.1 ha
              obtain ⟨h3, h4⟩ := lst hst.2 hb
              simp only [h1, h2, h3, h4]; exact ⟨h, trivial⟩
        | _ => cases h
    | _ => cases h

/-! ### One memory, and another: what keeps an operation's result -/
/-- What class c asks of two memories. -/
def Kept (c : Nat) (m m' : Mem) : Prop := (c = 1 → m.length ≤ m'.length ∧ ∀ id, id < m.length → shp m' id = shp m id) ∧ (c = 2 → ∃ l, m' = m ++ l)
theorem Kept.refl (c : Nat) (m : Mem) : Kept c m m := ⟨fun _ => ⟨Nat.le_refl _, fun _ _ => rfl⟩, fun _ => ⟨[], by simp⟩⟩
theorem Kept.trans {c : Nat} {a b d : Mem} (h : Kept c a b) (k : Kept c b d) : Kept c a d :=
  ⟨fun hc => ⟨Nat.le_trans (h.1 hc).1 (k.1 hc).1, fun id hid => ((k.1 hc).2 id (Nat.lt_of_lt_of_le hid (h.1 hc).1)).trans ((h.1 hc).2 id hid)⟩,
   fun hc => by obtain ⟨l, rfl⟩ := h.2 hc; obtain ⟨l', rfl⟩ := k.2 hc; exact ⟨l ++ l', by simp⟩⟩
theorem Kept.app (c : Nat) (m l : Mem) : Kept c m (m ++ l) :=
  ⟨fun _ => ⟨by simp, fun id hid => by unfold shp; rw [List.getElem?_append_left hid]⟩, fun _ => ⟨l, rfl⟩⟩
theorem shp_lt {m : Mem} {id : Nat} (h : (shp m id).isSome = true) : id < m.length := by
  unfold shp at h
  cases hm : m[id]? with
  | none => simp [hm] at h
  | some k => exact (List.getElem?_eq_some_iff.1 hm).1

theorem tr_fwd {ops : Array Oper} {o : Oper} (hc : cls ops o ≤ 2) {e : Env} {m m' : Mem} (hk : Kept (cls ops o) m m') {r : AV} {m1 : Mem} (h : evOp cx 1 F Y e m o.op = some (r, m1)) :
    m1 = m ∧ evOp cx 1 F Y e m' o.op = some (r, m') := by
  have h3 : cls ops o = 0 ∨ cls ops o = 1 ∨ cls ops o = 2 := by omega
  rcases h3 with hc | hc | hc
  · exact ev0 hc h m'
  · refine ev1 hc h (fun x hx v hv id hi hs => ?_)
    rw [hc] at hk
    exact (hk.1 rfl).2 id (shp_lt hs)
  · refine ev2 hc h (fun x hx v hv => ?_)
    rw [hc] at hk
    obtain ⟨l, rfl⟩ := hk.2 rfl
    exact ⟨fun id hi hs => by
      cases hm : m[id]? with
      | none => simp [hm] at hs
      | some k => exact get_app hm, fun y hy => fz_ext l 6 hy⟩

theorem tr_back {V : Vw} (ok : Ok V) (gl : Gl cx V) {ops : Array Oper} {o : Oper} (hc : cls ops o ≤ 2) {e : Env} {a : Act} (he : EnvRep V e a) {m' : Mem} (hk : Kept (cls ops o) V.mem m') {r : AV} {m1 : Mem}
    (h : evOp cx 1 F Y e m' o.op = some (r, m1)) : m1 = m' ∧ evOp cx 1 F Y e V.mem o.op = some (r, V.mem) := by
  have h3 : cls ops o = 0 ∨ cls ops o = 1 ∨ cls ops o = 2 := by omega
  rcases h3 with hc | hc | hc
  · exact ev0 hc h V.mem
  · refine ev1 hc h (fun x hx v hv id hi hs => ?_)
    rw [hc] at hk
    exact ((hk.1 rfl).2 id (hid_lt ⟨_, evX_ok gl he hv⟩ hi)).symm
  · refine ev2 hc h (fun x hx v hv => ?_)
    rw [hc] at hk
    obtain ⟨l, rfl⟩ := hk.2 rfl
    exact ⟨fun id hi hs => by rw [List.getElem?_append_left (hid_lt ⟨_, evX_ok gl he hv⟩ hi)], fun y hy => fz_back ok l 6 ⟨_, evX_ok gl he hv⟩ hy⟩

/-- Class 3: it lays new blocks alone. -/
theorem eff3 {ops : Array Oper} {o : Oper} (hc : cls ops o = 3) {e : Env} {m m1 : Mem} {r : AV} (h : evOp cx 2 F Y e m o.op = some (r, m1)) : ∃ l, m1 = m ++ l := by
  unfold cls at hc
  generalize regB ops = rgb at hc
  have nm : ∀ {x : Option AV}, noMem m x = some (r, m1) → ∃ l, m1 = m ++ l := fun h => ⟨[], by rw [(noMem_some h).2]; simp⟩
  cases hop : o.op with
  | box t x =>
    rw [hop] at h
    simp only [evOp] at h
    split at h
    · cases h
    · split at h
      · split at h
        · simp only [Option.some.injEq, Prod.mk.injEq] at h; exact ⟨_, h.2.symm⟩
        · cases h
      · cases h
  | makeSlice t x y =>
    rw [hop] at h
    simp only [evOp] at h
    split at h
    · split at h
      · split at h
        · simp only [Option.some.injEq, Prod.mk.injEq] at h; exact ⟨_, h.2.symm⟩
        · cases h
      · cases h
    · cases h
  | call c =>
    obtain ⟨callee, args, ats⟩ := c
    rw [hop] at h hc
    cases callee with
    | value f => cases f <;> first | (simp at hc; done) | (simp at hc; split at hc <;> cases hc)
    | invoke _ _ => simp [evOp] at h
    | builtin b =>
      simp only [evOp] at h
      cases hxs : evXs cx e args.toList with
      | none => simp [hxs] at h
      | some xs =>
        simp only [hxs] at h
        split at h
        · exact nm h
        · rename_i x y t t' hxe hte
          split at h
          · rename_i hseq
            have hseq : isSeq x = true := by
              rcases hseq with hh | hh
              · exact absurd hh (by decide)
              · exact hh.2
            unfold appendA at h
            split at h
            · split at h
              · split at h
                · split at h
                  · cases x with
                    | seq z full sz' ys =>
                      simp only at h
                      split at h
                      · split at h
                        · split at h
                          · simp only [Option.some.injEq, Prod.mk.injEq] at h; exact ⟨[], by rw [← h.2]; simp⟩
                          · split at h
                            · simp only [Option.some.injEq, Prod.mk.injEq] at h; exact ⟨[], by rw [← h.2]; simp⟩
                            · cases h
                        · split at h
                          · simp only [Option.some.injEq, Prod.mk.injEq] at h; exact ⟨_, h.2.symm⟩
                          · split at h
                            · simp only [Option.some.injEq, Prod.mk.injEq] at h; exact ⟨_, h.2.symm⟩
                            · cases h
                      · cases h
                    | _ => simp [isSeq] at hseq
                  · cases h
                · cases h
              · cases h
            · cases h
          · cases h
        · exact nm h
        · exact nm h
        · cases h
  | binOp b t x y yt => rw [hop] at hc; cases b <;> simp at hc
  | move x => rw [hop] at hc; simp at hc
  | assign x => rw [hop] at hc; simp at hc
  | pick c a b => rw [hop] at hc; simp at hc
  | build t ps => rw [hop] at hc; simp at hc
  | buildSlice t n ps => rw [hop] at hc; simp at hc
  | unOp u t x => rw [hop] at hc; simp at hc
  | convert s d x => rw [hop] at hc; simp at hc
  | makeFunc fn a b => rw [hop] at hc; simp at hc
  | slice t x lo hi mx => rw [hop] at hc; simp at hc
  | field s x j => rw [hop] at hc; simp at hc
  | index t x y => rw [hop] at hc; simp at hc
  | extract x j => rw [hop] at hc; simp at hc
  | alloc t => rw [hop] at hc; simp at hc
  | nilCheck x => rw [hop] at hc; simp at hc
  | fieldAddr s x j => rw [hop] at hc; simp at hc
  | indexAddr t x y => rw [hop] at hc; simp at hc
  | store t x y => rw [hop] at hc; simp at hc
  | load t x => rw [hop] at hc; simp at hc
  | lookup t x k b => rw [hop] at hc; simp at hc
  | mapUpdate t x k y => rw [hop] at hc; simp at hc
  | makeMap t rr =>
    rw [hop] at h
    simp only [evOp] at h
    cases rr with
    | some _ => cases h
    | none =>
      simp only at h
      split at h
      · cases h
      · simp only [Option.some.injEq, Prod.mk.injEq] at h; exact ⟨_, h.2.symm⟩
  | _ => rw [hop] at h; simp [evOp] at h

theorem shp_set {m : Mem} {id : Nat} {k k' : Blk} (hm : m[id]? = some k) (hk : shpB k' = shpB k) (j : Nat) : shp (m.set id k') j = shp m j := by
  unfold shp
  by_cases e : j = id
  · subst e
    rw [List.getElem?_set_self (List.getElem?_eq_some_iff.1 hm).1, hm]
    exact hk
  · rw [List.getElem?_set_ne (fun h => e h.symm)]

/-- Class 4: a store keeps every block's shape. -/
theorem eff4 {ops : Array Oper} {o : Oper} (hc : cls ops o = 4) {e : Env} {m m1 : Mem} {r : AV} (h : evOp cx 0 F Y e m o.op = some (r, m1)) : m1.length = m.length ∧ ∀ id, shp m1 id = shp m id := by
  unfold cls at hc
  generalize regB ops = rgb at hc
  cases hop : o.op with
  | store t x y =>
    rw [hop] at h
    simp only [evOp] at h
    split at h
    · rename_i x' y' hx hy
      split at h
      · cases h
      obtain ⟨m2, hm2, he⟩ := Option.map_eq_some_iff.1 h
      simp only [Prod.mk.injEq] at he
      obtain ⟨_, rfl⟩ := he
      unfold storeA at hm2
      split at hm2
      · split at hm2
        · split at hm2
          · rename_i id ver off cs hm
            split at hm2
            · rename_i hcnd
              cases hm2
              refine ⟨by simp, shp_set hm ?_⟩
              simp only [shpB, over, List.length_append, List.length_take, List.length_drop]
              have := hcnd.2
              congr 2; omega
            · cases hm2
          · cases hm2
        · split at hm2
          · rename_i id ver sz i f e' sz' xs hm
            split at hm2
            · rename_i hcnd
              obtain ⟨x0, hx0, rfl⟩ := Option.map_eq_some_iff.1 hm2
              refine ⟨by simp, shp_set hm ?_⟩
              simp [shpB, hcnd.2.1]
            · split at hm2
              · rename_i hcnd
                split at hm2
                · cases hm2
                · cases hm2
                  refine ⟨by simp, shp_set hm ?_⟩
                  simp [shpB, hcnd.2.1]
              · cases hm2
          · cases hm2
        · cases hm2
      · cases hm2
    · cases h
  | call c =>
    obtain ⟨callee, args, ats⟩ := c
    rw [hop] at h hc
    cases callee with
    | value f => cases f <;> first | (simp at hc; done) | (simp at hc; split at hc <;> cases hc)
    | invoke _ _ => simp [evOp] at h
    | builtin b =>
      cases b with
      | append => dsimp only at hc; split at hc <;> cases hc
      | _ => simp at hc
  | binOp b t x y yt => rw [hop] at hc; cases b <;> simp at hc
  | move x => rw [hop] at hc; simp at hc
  | assign x => rw [hop] at hc; simp at hc
  | pick c a b => rw [hop] at hc; simp at hc
  | build t ps => rw [hop] at hc; simp at hc
  | buildSlice t n ps => rw [hop] at hc; simp at hc
  | unOp u t x => rw [hop] at hc; simp at hc
  | convert s d x => rw [hop] at hc; simp at hc
  | makeFunc fn a b => rw [hop] at hc; simp at hc
  | slice t x lo hi mx => rw [hop] at hc; simp at hc
  | field s x j => rw [hop] at hc; simp at hc
  | index t x y => rw [hop] at hc; simp at hc
  | extract x j => rw [hop] at hc; simp at hc
  | alloc t => rw [hop] at hc; simp at hc
  | nilCheck x => rw [hop] at hc; simp at hc
  | fieldAddr s x j => rw [hop] at hc; simp at hc
  | indexAddr t x y => rw [hop] at hc; simp at hc
  | box t x => rw [hop] at hc; simp at hc
  | makeSlice t x y => rw [hop] at hc; simp at hc
  | load t x => rw [hop] at hc; simp at hc
  | lookup t x k b => rw [hop] at hc; simp at hc
  | makeMap t r => rw [hop] at hc; simp at hc
  | mapUpdate t x k y =>
    rw [hop] at h
    simp only [evOp] at h
    split at h
    · rename_i x' k' y' hx hk hy
      split at h
      · cases h
      obtain ⟨m2, hm2, he⟩ := Option.map_eq_some_iff.1 h
      simp only [Prod.mk.injEq] at he
      obtain ⟨_, rfl⟩ := he
      unfold updA at hm2
      split at hm2
      · split at hm2
        · rename_i hm
          split at hm2
          · split at hm2
            · cases hm2; exact ⟨by simp, shp_set hm rfl⟩
            · cases hm2; exact ⟨by simp, shp_set hm rfl⟩
            · cases hm2
          · cases hm2
        · cases hm2
      · cases hm2
    · cases h
  | _ => rw [hop] at h; simp [evOp] at h
end Go.Ab

/- In a region that draws its order: an operation may be taken before those that it does not hang on. -/
set_option linter.unusedVariables false
set_option linter.unusedSimpArgs false
namespace Go.Ab
open Go

variable {cx : Cx} {F Y : CallT} {ops : Array Oper}

def mdOf (ops : Array Oper) (o : Oper) : Nat := if cls ops o < 3 then 1 else if cls ops o == 3 then 2 else 0
/-- What an operation yields, if it is wanted. -/
def evV (cx : Cx) (F Y : CallT) (ops : Array Oper) (o : Oper) (e : Env) (m : Mem) : Option (AV × Mem) :=
  match wantA ops e o with
  | some true => evOp cx (mdOf ops o) F Y e m o.op
  | some false => some (.undef, m)
  | none => none
theorem evOne_eq {o : Oper} {e : Env} {m : Mem} : evOne cx true F Y ops o e m = (evV cx F Y ops o e m).map fun rm => (put e o.dst rm.1, rm.2) := by
  unfold evOne evV mdOf
  cases wantA ops e o with
  | none => rfl
  | some b =>
    cases b with
    | false => rfl
    | true =>
      simp only [if_true]
      cases evOp cx (if cls ops o < 3 then 1 else if (cls ops o == 3) = true then 2 else 0) F Y e m o.op <;> rfl
theorem evList_nil {e : Env} {m : Mem} : evList cx true F Y ops [] e m = some (e, m) := rfl
theorem evList_cons {o : Oper} {R : List Oper} {e : Env} {m : Mem} {p : Env × Mem} :
    evList cx true F Y ops (o :: R) e m = some p ↔ ∃ r m1, evV cx F Y ops o e m = some (r, m1) ∧ evList cx true F Y ops R (put e o.dst r) m1 = some p := by
  show (match evOne cx true F Y ops o e m with | some (e', m') => evList cx true F Y ops R e' m' | none => none) = some p ↔ _
  rw [evOne_eq]
  cases evV cx F Y ops o e m with
  | none => simp
  | some rm =>
    obtain ⟨r0, m0⟩ := rm
    simp only [Option.map_some, Option.some.injEq, Prod.mk.injEq]
    constructor
    · intro h; exact ⟨r0, m0, ⟨rfl, rfl⟩, h⟩
    · rintro ⟨r, m1, ⟨rfl, rfl⟩, h⟩; exact h
theorem evList_append {R S : List Oper} : ∀ {e : Env} {m : Mem} {p : Env × Mem},
    evList cx true F Y ops (R ++ S) e m = some p ↔ ∃ e1 m1, evList cx true F Y ops R e m = some (e1, m1) ∧ evList cx true F Y ops S e1 m1 = some p := by
  induction R with
  | nil =>
    intro e m p
    rw [List.nil_append, evList_nil]
    constructor
    · intro h; exact ⟨e, m, rfl, h⟩
    · rintro ⟨e1, m1, he, h⟩; cases he; exact h
  | cons o R ih =>
    intro e m p
    rw [List.cons_append, evList_cons]
    constructor
    · rintro ⟨r, m1, h1, h2⟩
      obtain ⟨e2, m2, h3, h4⟩ := ih.1 h2
      exact ⟨e2, m2, evList_cons.2 ⟨r, m1, h1, h3⟩, h4⟩
    · rintro ⟨e2, m2, h3, h4⟩
      obtain ⟨r, m1, h1, h2⟩ := evList_cons.1 h3
      exact ⟨r, m1, h1, ih.2 ⟨e2, m2, h2, h4⟩⟩

theorem put_ne {e : Env} {d : Option Nat} {s : AV} {t : Nat} (h : d ≠ some t) : put e d s t = e t := by
  cases d with
  | none => rfl
  | some d =>
    show (if t = d then s else e t) = e t
    rw [if_neg (fun he => h (by rw [he]))]
theorem put_comm {e : Env} {d d2 : Option Nat} {s r : AV} (h : ∀ t, d = some t → d2 ≠ some t) : put (put e d s) d2 r = put (put e d2 r) d s := by
  cases d with
  | none => rfl
  | some d =>
    cases d2 with
    | none => rfl
    | some d2 =>
      have hne : d2 ≠ d := fun he => h d rfl (by rw [he])
      funext t
      show (if t = d2 then r else if t = d then s else e t) = (if t = d then s else if t = d2 then r else e t)
      by_cases h1 : t = d2
      · subst h1; simp [hne]
      · simp [h1]

theorem wantA_congr {o : Oper} {e e' : Env} (h : ∀ t ∈ o.looksAt ops, e t = e' t) : wantA ops e o = wantA ops e' o := by
  unfold wantA
  cases hg : o.guard with
  | none => rfl
  | some jw =>
    obtain ⟨j, w⟩ := jw
    simp only
    cases hd : (ops[j]?).bind (·.dst) with
    | none => rfl
    | some d => simp only; rw [h d (by unfold Oper.looksAt; refine List.mem_append_right _ ?_; simp [hg, hd])]
theorem evV_congr {o : Oper} {e e' : Env} {m : Mem} (h : ∀ t ∈ o.looksAt ops, e t = e' t) : evV cx F Y ops o e m = evV cx F Y ops o e' m := by
  unfold evV
  rw [wantA_congr h, evOp_congr (e' := e') (fun t ht => h t (List.mem_append_left _ ht))]
theorem evList_env : ∀ {R : List Oper} {e e1 : Env} {m m1 : Mem} {t : Nat}, evList cx true F Y ops R e m = some (e1, m1) → (∀ x ∈ R, x.dst ≠ some t) → e1 t = e t
  | [], e, e1, m, m1, t, h, _ => by rw [evList_nil] at h; cases h; rfl
  | o :: R, e, e1, m, m1, t, h, hd => by
    obtain ⟨r, m2, h1, h2⟩ := evList_cons.1 h
    rw [evList_env h2 (fun x hx => hd x (List.mem_cons_of_mem _ hx)), put_ne (hd o (by simp))]

/-- They run as before when something that they do not look at is put beside them. -/
theorem rerunA {d : Option Nat} {s : AV} : ∀ {R : List Oper} {e e1 : Env} {m m1 : Mem}, evList cx true F Y ops R e m = some (e1, m1) → (∀ x ∈ R, ∀ t, d = some t → t ∉ x.looksAt ops ∧ x.dst ≠ some t) →
    evList cx true F Y ops R (put e d s) m = some (put e1 d s, m1)
  | [], e, e1, m, m1, h, _ => by rw [evList_nil] at h; cases h; rfl
  | o :: R, e, e1, m, m1, h, hd => by
    obtain ⟨r, m2, h1, h2⟩ := evList_cons.1 h
    refine evList_cons.2 ⟨r, m2, ?_, ?_⟩
    · rw [evV_congr (e' := e) (fun t ht => put_ne (fun hdt => (hd o (by simp) t hdt).1 ht))]; exact h1
    · rw [put_comm (fun t ht => (hd o (by simp) t ht).2)]
      exact rerunA h2 (fun x hx => hd x (List.mem_cons_of_mem _ hx))
theorem evV_fwd {o : Oper} (hc : cls ops o ≤ 2) {e : Env} {m m' : Mem} (hk : Kept (cls ops o) m m') {r : AV} {m1 : Mem} (h : evV cx F Y ops o e m = some (r, m1)) :
    m1 = m ∧ evV cx F Y ops o e m' = some (r, m') := by
  unfold evV mdOf at h ⊢
  rw [if_pos (by omega)] at h ⊢
  cases hw : wantA ops e o with
  | none => simp [hw] at h
  | some b =>
    cases b with
    | true => simp only [hw] at h ⊢; exact tr_fwd hc hk h
    | false => simp only [hw] at h ⊢; cases h; exact ⟨rfl, rfl⟩
theorem rerunB {d : Option Nat} {s : AV} {m m' : Mem} : ∀ {R : List Oper} {e e1 : Env} {m1 : Mem}, evList cx true F Y ops R e m = some (e1, m1) → (∀ x ∈ R, ∀ t, d = some t → t ∉ x.looksAt ops ∧ x.dst ≠ some t) →
    (∀ x ∈ R, cls ops x ≤ 2 ∧ Kept (cls ops x) m m') → m1 = m ∧ evList cx true F Y ops R (put e d s) m' = some (put e1 d s, m')
  | [], e, e1, m1, h, _, _ => by rw [evList_nil] at h; cases h; exact ⟨rfl, rfl⟩
  | o :: R, e, e1, m1, h, hd, hk => by
    obtain ⟨r, m2, h1, h2⟩ := evList_cons.1 h
    obtain ⟨hm, hv⟩ := evV_fwd (hk o (by simp)).1 (hk o (by simp)).2 h1
    subst hm
    obtain ⟨h3, h4⟩ := rerunB (d := d) (s := s) h2 (fun x hx => hd x (List.mem_cons_of_mem _ hx)) (fun x hx => hk x (List.mem_cons_of_mem _ hx))
    refine ⟨h3, evList_cons.2 ⟨r, m', ?_, ?_⟩⟩
    · rw [evV_congr (e' := e) (fun t ht => put_ne (fun hdt => (hd o (by simp) t hdt).1 ht))]; exact hv
    · rw [put_comm (fun t ht => (hd o (by simp) t ht).2)]
      exact h4

theorem cls_le (o : Oper) : cls ops o ≤ 6 := by
  unfold cls
  generalize regB ops = rgb
  split <;> try decide
  · split <;> decide
  · split
    all_goals first | decide | (split <;> decide)
theorem kept_one {c : Nat} {x : Oper} {e : Env} {m m1 : Mem} {r : AV} (h : evV cx F Y ops x e m = some (r, m1)) (h6 : cls ops x ≠ 6) (h1 : c = 1 → cls ops x ≠ 5) (h2 : c = 2 → cls ops x < 4) : Kept c m m1 := by
  unfold evV mdOf at h
  cases hw : wantA ops e x with
  | none => simp [hw] at h
  | some b =>
    cases b with
    | false => simp only [hw] at h; cases h; exact Kept.refl c m
    | true =>
      simp only [hw] at h
      by_cases hl : cls ops x < 3
      · rw [if_pos hl] at h
        rw [(tr_fwd (ops := ops) (by omega) (Kept.refl _ m) h).1]; exact Kept.refl c m
      · rw [if_neg hl] at h
        by_cases hl3 : cls ops x = 3
        · rw [if_pos (by simp [hl3])] at h
          obtain ⟨l, rfl⟩ := eff3 hl3 h
          exact Kept.app c m l
        · rw [if_neg (by simpa using hl3)] at h
          by_cases hl4 : cls ops x = 4
          · obtain ⟨g1, g2⟩ := eff4 hl4 h
            exact ⟨fun _ => ⟨by omega, fun id _ => g2 id⟩, fun hc => by have := h2 hc; omega⟩
          · have hle := cls_le (ops := ops) x
            have h5 : cls ops x = 5 := by omega
            exact ⟨fun hc => absurd h5 (h1 hc), fun hc => by have := h2 hc; omega⟩
theorem kept_run {c : Nat} : ∀ {R : List Oper} {e e1 : Env} {m m1 : Mem}, evList cx true F Y ops R e m = some (e1, m1) → (∀ x ∈ R, cls ops x ≠ 6 ∧ (c = 1 → cls ops x ≠ 5) ∧ (c = 2 → cls ops x < 4)) → Kept c m m1
  | [], e, e1, m, m1, h, _ => by rw [evList_nil] at h; cases h; exact Kept.refl c m
  | o :: R, e, e1, m, m1, h, hx => by
    obtain ⟨r, m2, h1, h2⟩ := evList_cons.1 h
    obtain ⟨a, b, d⟩ := hx o (by simp)
    exact (kept_one h1 a b d).trans (kept_run h2 (fun x hx' => hx x (List.mem_cons_of_mem _ hx')))

/-- Nothing between two operations. -/
structure Free (ops : Array Oper) (x i : Oper) : Prop where
  dst : ∀ d, x.dst = some d → i.dst ≠ some d ∧ d ∉ i.looksAt ops
  sees : ∀ d, i.dst = some d → d ∉ x.looksAt ops
  mem : confl (cls ops x) (cls ops i) = false
  na : cls ops x ≠ 6
  na' : cls ops i ≠ 6

theorem swap {V : Vw} (ok : Ok V) (gl : Gl cx V) {R : List Oper} {i : Oper} {e e' e1 : Env} {a : Act} {m1 m2 : Mem} {s : AV} (he : EnvRep V e' a) (hee : ∀ t ∈ i.looksAt ops, e t = e' t)
    (h1 : evList cx true F Y ops R e V.mem = some (e1, m1)) (h2 : evV cx F Y ops i e1 m1 = some (s, m2)) (hp : ∀ x ∈ R, Free ops x i) :
    ∃ m', evV cx F Y ops i e V.mem = some (s, m') ∧ evList cx true F Y ops R (put e i.dst s) m' = some (put e1 i.dst s, m2) := by
  have hd : ∀ x ∈ R, ∀ t, i.dst = some t → t ∉ x.looksAt ops ∧ x.dst ≠ some t := fun x hx t ht => ⟨(hp x hx).sees t ht, fun hxt => ((hp x hx).dst t hxt).1 ht⟩
  have hi : ∀ t ∈ i.looksAt ops, e1 t = e t := fun t ht => evList_env h1 (fun x hx hxt => ((hp x hx).dst t hxt).2 ht)
  rw [evV_congr hi] at h2
  by_cases hc : cls ops i ≤ 2
  · -- it leaves the memory alone
    have hk : Kept (cls ops i) V.mem m1 := kept_run h1 (fun x hx => by
      have hm := (hp x hx).mem
      have h6 := (hp x hx).na
      refine ⟨h6, fun hc1 h5 => ?_, fun hc2 => ?_⟩
      · rw [hc1, h5] at hm; simp [confl] at hm
      · rw [hc2] at hm
        simp [confl] at hm
        have := cls_le (ops := ops) x
        omega)
    have key : m2 = m1 ∧ evV cx F Y ops i e V.mem = some (s, V.mem) := by
      rw [evV_congr hee] at h2 ⊢
      unfold evV mdOf at h2 ⊢
      rw [if_pos (by omega)] at h2 ⊢
      cases hw : wantA ops e' i with
      | none => simp [hw] at h2
      | some b =>
        cases b with
        | true => simp only [hw] at h2 ⊢; exact tr_back ok gl hc he hk h2
        | false => simp only [hw] at h2 ⊢; cases h2; exact ⟨rfl, rfl⟩
    obtain ⟨rfl, hv⟩ := key
    exact ⟨V.mem, hv, rerunA h1 hd⟩
  · -- what stands before it leaves the memory alone
    have hx2 : ∀ x ∈ R, cls ops x ≤ 2 ∧ (cls ops i = 4 → cls ops x ≠ 2) ∧ (cls ops i = 5 → cls ops x = 0) := fun x hx => by
      have hm := (hp x hx).mem
      have h6 := (hp x hx).na
      have h6' := (hp x hx).na'
      have hl := cls_le (ops := ops) x
      have hl' := cls_le (ops := ops) i
      generalize cls ops x = p at *
      generalize cls ops i = q at *
      unfold confl at hm
      have hp : p = 0 ∨ p = 1 ∨ p = 2 ∨ p = 3 ∨ p = 4 ∨ p = 5 := by omega
      have hq : q = 3 ∨ q = 4 ∨ q = 5 := by omega
      rcases hp with rfl | rfl | rfl | rfl | rfl | rfl <;> rcases hq with rfl | rfl | rfl <;> revert hm <;> decide
    have hm1 : m1 = V.mem := (rerunB (d := none) (s := .undef) (m' := V.mem) h1 (fun x hx t ht => by cases ht) (fun x hx => ⟨(hx2 x hx).1, Kept.refl _ _⟩)).1
    subst hm1
    refine ⟨m2, h2, (rerunB h1 hd (fun x hx => ⟨(hx2 x hx).1, ?_⟩)).2⟩
    by_cases h0 : cls ops x = 0
    · rw [h0]; exact ⟨fun h => absurd h (by decide), fun h => absurd h (by decide)⟩
    · have hi4 : cls ops i = 3 ∨ cls ops i = 4 := by
        rcases Nat.lt_or_ge (cls ops i) 5 with h | h
        · omega
        · have := cls_le (ops := ops) i
          have := (hp x hx).na'
          exact absurd ((hx2 x hx).2.2 (by omega)) h0
      rcases hi4 with h3 | h4
      · exact kept_one h2 (by omega) (fun _ => by omega) (fun _ => by omega)
      · exact kept_one h2 (by omega) (fun _ => by omega) (fun hc2 => absurd hc2 ((hx2 x hx).2.1 h4))
end Go.Ab

/- Regions that draw their order: whatever the order, what the evaluator gives. -/
set_option linter.unusedVariables false
set_option linter.unusedSimpArgs false
namespace Go.Ab
open Go

variable {cx : Cx} {F Y : CallT} {ops : Array Oper}

/-! ### What must come before -/
theorem fold_bit {g : Nat → Nat} {i : Nat} : ∀ {l : List Edge} {b : Nat}, (l.foldl (fun b e => if bindE e then b ||| (1 <<< e.on) ||| g e.on else b) b).testBit i = true → b.testBit i = true ∨ ∃ e ∈ l, bindE e = true ∧ (e.on = i ∨ (g e.on).testBit i = true)
  | [], b, h => .inl h
  | x :: l, b, h => by
    rw [List.foldl_cons] at h
    rcases fold_bit h with h | ⟨e, he, h1, h2⟩
    · split at h
      · rename_i hb
        rw [Nat.testBit_or, Nat.testBit_or] at h
        simp only [Bool.or_eq_true] at h
        rcases h with (h | h) | h
        · exact .inl h
        · refine .inr ⟨x, by simp, hb, .inl ?_⟩
          rw [Nat.one_shiftLeft, Nat.testBit_two_pow] at h
          simpa using h
        · exact .inr ⟨x, by simp, hb, .inr h⟩
      · exact .inl h
    · exact .inr ⟨e, List.mem_cons_of_mem _ he, h1, h2⟩
theorem ancsAux_keep : ∀ (os : List Oper) (acc : List Nat) (k : Nat), k < acc.length → (ancsAux os acc).getD k 0 = acc.getD k 0
  | [], acc, k, h => rfl
  | o :: os, acc, k, h => by
    unfold ancsAux
    rw [ancsAux_keep os _ k (by simp; omega)]
    simp [List.getD_eq_getElem?_getD, List.getElem?_append_left h]
theorem ancsAux_bit : ∀ (os : List Oper) (acc : List Nat) (k : Nat) (i : Nat), ((ancsAux os acc).getD (acc.length + k) 0).testBit i = true →
    ∃ o, os[k]? = some o ∧ ∃ e ∈ o.after.toList, bindE e = true ∧ (e.on = i ∨ ((ancsAux os acc).getD e.on 0).testBit i = true)
  | [], acc, k, i, h => by
    unfold ancsAux at h
    simp [List.getD_eq_getElem?_getD] at h
  | o :: os, acc, k, i, h => by
    cases k with
    | zero =>
      refine ⟨o, rfl, ?_⟩
      have hk := h
      unfold ancsAux at h
      rw [ancsAux_keep os _ _ (by simp)] at h
      have h0 : ∀ v, (acc ++ [v]).getD (acc.length + 0) 0 = v := fun v => by simp
      rw [h0] at h
      rcases fold_bit (g := fun j => acc.getD j 0) h with h | ⟨e, he, h1, h2⟩
      · rw [Nat.zero_testBit] at h; cases h
      · refine ⟨e, he, h1, ?_⟩
        rcases h2 with h2 | h2
        · exact .inl h2
        · refine .inr ?_
          by_cases hl : e.on < acc.length
          · unfold ancsAux
            rw [ancsAux_keep os _ _ (by simp; omega)]
            simpa [List.getD_eq_getElem?_getD, List.getElem?_append_left hl] using h2
          · have : acc.getD e.on 0 = 0 := by simp [List.getD_eq_getElem?_getD, List.getElem?_eq_none (Nat.le_of_not_lt hl)]
            simp only [this] at h2
            simp at h2
    | succ k =>
      unfold ancsAux at h ⊢
      have := ancsAux_bit os (acc ++ [o.after.toList.foldl (fun b e => if bindE e then b ||| (1 <<< e.on) ||| acc.getD e.on 0 else b) 0]) k i (by
        have e : (acc ++ [o.after.toList.foldl (fun b e => if bindE e then b ||| (1 <<< e.on) ||| acc.getD e.on 0 else b) 0]).length + k = acc.length + (k + 1) := by simp; omega
        rw [e]; exact h)
      simpa using this
theorem ancs_bit {l : List Oper} {j i : Nat} (h : ((ancs l).getD j 0).testBit i = true) : ∃ o, l[j]? = some o ∧ ∃ e ∈ o.after.toList, bindE e = true ∧ (e.on = i ∨ ((ancs l).getD e.on 0).testBit i = true) := by
  have := ancsAux_bit l [] j i (by simpa [ancs] using h)
  simpa [ancs] using this

structure RegFacts (ops : Array Oper) : Prop where
  back : ∀ (i : Nat) (o : Oper), ops[i]? = some o → ∀ e ∈ o.after, bindE e = true → e.on < i
  al : ∀ (i : Nat) (o : Oper), ops[i]? = some o → isA o = true → o.guard = none ∧ o.after = #[] ∧ (∃ d, o.dst = some d) ∧ vzO o = false
  pair : ∀ (i j : Nat) (x y : Oper), ops[i]? = some x → ops[j]? = some y → i < j → pairOK ops (ancs ops.toList) i j x y = true
theorem zip_mem {ops : Array Oper} {i : Nat} {o : Oper} (h : ops[i]? = some o) : (o, i) ∈ ops.toList.zipIdx := by
  rw [List.mem_zipIdx_iff_getElem?]
  simpa using h
theorem reg_facts (h : regOK ops = true) : RegFacts ops := by
  unfold regOK at h
  simp only [Bool.and_eq_true, List.all_eq_true] at h
  obtain ⟨h1, h2⟩ := h
  refine ⟨fun i o ho e he hb => ?_, fun i o ho ha => ?_, fun i j x y hx hy hij => ?_⟩
  · have := (h1 (o, i) (zip_mem ho)).1 e (by simpa using he)
    simpa [hb] using this
  · have := (h1 (o, i) (zip_mem ho)).2
    simp [ha] at this
    exact ⟨this.1.1.1, this.1.1.2, Option.isSome_iff_exists.1 this.1.2, this.2⟩
  · have := h2 (y, j) (zip_mem hy) (x, i) (zip_mem hx)
    simpa [Nat.not_le.2 hij] using this

def Closed (ops : Array Oper) (listed : Array Bool) : Prop := ∀ (j : Nat) (o : Oper), ops[j]? = some o → listed.getD j false = true → ∀ e ∈ o.after, bindE e = true → listed.getD e.on false = true
theorem anc_listed (rf : RegFacts ops) {listed : Array Bool} (hc : Closed ops listed) : ∀ (j i : Nat) (o : Oper), ops[j]? = some o → (∀ e ∈ o.after, bindE e = true → listed.getD e.on false = true) → ((ancs ops.toList).getD j 0).testBit i = true → listed.getD i false = true := by
  intro j
  induction j using Nat.strongRecOn with
  | _ j ih =>
  intro i o ho hp hb
  obtain ⟨o', ho', e, he, hbe, hor⟩ := ancs_bit hb
  have : o' = o := by rw [Array.getElem?_toList, ho] at ho'; cases ho'; rfl
  subst this
  have he' : e ∈ o'.after := by simpa using he
  rcases hor with rfl | hor
  · exact hp e he' hbe
  · have hlt := rf.back j o' ho e he' hbe
    obtain ⟨o2, ho2, _⟩ := ancs_bit hor
    have ho2 : ops[e.on]? = some o2 := by simpa using ho2
    exact ih e.on hlt i o2 ho2 (hc e.on o2 ho2 (hp e he' hbe)) hor

/-! ### Lists of places -/
def opl (ops : Array Oper) (is : List Nat) : List Oper := is.filterMap (ops[·]?)
theorem opl_append {a b : List Nat} : opl ops (a ++ b) = opl ops a ++ opl ops b := by simp [opl]
theorem opl_mem {is : List Nat} {x : Oper} (h : x ∈ opl ops is) : ∃ k ∈ is, ops[k]? = some x := by simpa [opl] using h
theorem range_get (l : List Oper) : (List.range l.length).filterMap (l[·]?) = l := by
  induction l with
  | nil => rfl
  | cons x l ih =>
    rw [List.length_cons, List.range_succ_eq_map, List.filterMap_cons]
    simp only [List.getElem?_cons_zero, List.filterMap_map]
    congr 1
def pI (ops : Array Oper) (p : Oper → Bool) (i : Nat) : Bool := ((ops[i]?).map p).getD false
theorem opl_filter (p : Oper → Bool) : ops.toList.filter p = opl ops ((List.range ops.size).filter (pI ops p)) := by
  have h : ops.toList = (List.range ops.size).filterMap (ops[·]?) := by
    have := range_get ops.toList
    simp only [Array.length_toList, Array.getElem?_toList] at this
    exact this.symm
  conv => lhs; rw [h]
  unfold opl
  rw [List.filter_filterMap, List.filterMap_filter]
  congr 1
  funext i
  unfold pI
  cases ops[i]? with
  | none => rfl
  | some o => cases hp : p o <;> simp [Option.filter, hp]

/-- The places not yet taken. -/
def lft (ops : Array Oper) (p : Nat → Bool) (listed : Array Bool) : List Nat := (List.range ops.size).filter fun j => !listed.getD j true && p j
theorem lft_mem {p : Nat → Bool} {listed : Array Bool} {j : Nat} : j ∈ lft ops p listed ↔ j < ops.size ∧ listed.getD j true = false ∧ p j = true := by
  simp [lft]
theorem lft_set {p : Nat → Bool} {listed : Array Bool} {i : Nat} : lft ops p (listed.setIfInBounds i true) = (lft ops p listed).filter (fun j => !(j == i)) := by
  unfold lft
  rw [List.filter_filter]
  apply List.filter_congr
  intro j _
  by_cases h : j = i
  · subst h
    have : (listed.setIfInBounds j true).getD j true = true := by
      by_cases hj : j < listed.size
      · simp [hj]
      · simp [Nat.not_lt.1 hj]
    simp [this]
  · rw [getD_set_ne true (fun e => h e.symm)]
    simp [h]
theorem lft_skip {p : Nat → Bool} {listed : Array Bool} {i : Nat} (h : p i = false) : lft ops p (listed.setIfInBounds i true) = lft ops p listed := by
  rw [lft_set, List.filter_eq_self]
  intro j hj
  have := (lft_mem.1 hj).2.2
  have hne : j ≠ i := fun e => by subst e; rw [h] at this; cases this
  simp [hne]
theorem lft_split {p : Nat → Bool} {listed : Array Bool} {i : Nat} (hi : i < ops.size) (hl : listed.getD i true = false) (hp : p i = true) :
    ∃ A B, lft ops p listed = A ++ i :: B ∧ lft ops p (listed.setIfInBounds i true) = A ++ B ∧ ∀ x ∈ A, x < i := by
  obtain ⟨A, B, h⟩ := List.append_of_mem (lft_mem.2 ⟨hi, hl, hp⟩ : i ∈ lft ops p listed)
  have hpw : (lft ops p listed).Pairwise (· < ·) := List.Pairwise.filter _ List.pairwise_lt_range
  rw [h, List.pairwise_append] at hpw
  obtain ⟨h1, h2, h3⟩ := hpw
  have hA : ∀ x ∈ A, x < i := fun x hx => h3 x hx i (by simp)
  have hB : ∀ x ∈ B, i < x := fun x hx => (List.pairwise_cons.1 h2).1 x hx
  refine ⟨A, B, h, ?_, hA⟩
  rw [lft_set, h, List.filter_append, List.filter_cons]
  simp only [beq_self_eq_true, Bool.not_true, Bool.false_eq_true, if_false]
  rw [List.filter_eq_self.2 (fun x hx => by have := hA x hx; simp; omega), List.filter_eq_self.2 (fun x hx => by have := hB x hx; simp; omega)]

theorem getD_set_self {listed : Array Bool} {i : Nat} {d : Bool} (h : i < listed.size) : (listed.setIfInBounds i true).getD i d = true := by simp [h]
theorem getD_of_true {listed : Array Bool} {j : Nat} (h : listed.getD j false = true) : listed.getD j true = true := by
  by_cases hj : j < listed.size
  · simpa [hj] using h
  · simp [Nat.not_lt.1 hj]

/-! ### The world's side -/
theorem EnvRep.put {V : Vw} {e : Env} {a : Act} {d : Option Nat} {r : AV} {v : Value} (h : EnvRep V e a) (hr : Rep V r v) (hd : ∀ t, d = some t → t < a.tmps.size) : EnvRep V (Ab.put e d r) (a.put d v) := by
  cases d with
  | none => exact h
  | some d =>
    intro t
    show Rep V (if t = d then r else e t) ((a.tmps.setIfInBounds d v).getD t undef)
    by_cases ht : t = d
    · subst ht
      have := hd t rfl
      simpa [this] using hr
    · rw [if_neg ht]
      have := h t
      simpa [Array.getElem?_setIfInBounds_ne (fun e => ht e.symm)] using this
theorem want_ok {V : Vw} {e : Env} {a : Act} (he : EnvRep V e a) {o : Oper} {b : Bool} (h : wantA ops e o = some b) : Region.wanted o (yielded ops a.tmps) = b := by
  unfold wantA at h
  unfold Region.wanted
  cases hg : o.guard with
  | none => simp [hg] at h; simp [h]
  | some jw =>
    obtain ⟨j, w⟩ := jw
    simp only [hg] at h ⊢
    unfold yielded
    cases hd : (ops[j]?).bind (·.dst) with
    | none => simp [hd] at h; subst h; simp
    | some d =>
      simp only [hd] at h
      simp only [Option.bind_some]
      have hr := he d
      split at h
      · rename_i b' hb
        cases h
        rw [hb] at hr
        have hv : a.tmps.getD d undef = .bool b' := by generalize a.tmps.getD d undef = q at hr; cases hr; rfl
        have : a.tmps[d]? = some (.bool b') := by
          rw [Array.getD_eq_getD_getElem?] at hv
          cases hq : a.tmps[d]? with
          | none => rw [hq] at hv; cases hv
          | some q => rw [hq] at hv; simp at hv; rw [hv]
        rw [this]
        cases b' <;> cases w <;> rfl
      · rename_i hb
        cases h
        rw [hb] at hr
        have hv : ∃ cs, a.tmps.getD d undef = .tuple cs := by generalize a.tmps.getD d undef = q at hr; cases hr; exact ⟨_, rfl⟩
        obtain ⟨cs, hv⟩ := hv
        cases hq : a.tmps[d]? with
        | none => rfl
        | some q =>
          rw [Array.getD_eq_getD_getElem?, hq] at hv
          simp at hv
          subst hv
          rfl
      · cases h

theorem cls6 {o : Oper} : cls ops o = 6 ↔ isA o = true := by
  unfold cls isA
  generalize regB ops = rgb
  cases hop : o.op with
  | binOp b t x y yt => cases b <;> simp
  | call c =>
    obtain ⟨callee, args, ats⟩ := c
    cases callee with
    | value f => cases f <;> (try simp) <;> (try (split <;> simp))
    | invoke _ _ => simp
    | builtin b =>
      cases b with
      | append => simp only; split <;> simp
      | _ => simp
  | _ => simp
end Go.Ab

/- Regions that draw their order, whole. -/
set_option linter.unusedVariables false
set_option linter.unusedSimpArgs false
namespace Go.Ab
open Go

variable {cx : Cx} {F Y : CallT} {ops : Array Oper}

def nonA (ops : Array Oper) : Nat → Bool := pI ops (fun o => !isA o)
def PendT (ops : Array Oper) (listed : Array Bool) (t : Nat) : Prop := ∃ i o, ops[i]? = some o ∧ isA o = true ∧ listed.getD i true = false ∧ o.dst = some t
noncomputable def mix (ops : Array Oper) (listed : Array Bool) (e0 e : Env) : Env := fun t => @ite _ (PendT ops listed t) (Classical.propDecidable _) (e0 t) (e t)
theorem mix_of {listed : Array Bool} {e0 e : Env} {t : Nat} (h : PendT ops listed t) : mix ops listed e0 e t = e0 t := if_pos h
theorem mix_not {listed : Array Bool} {e0 e : Env} {t : Nat} (h : ¬ PendT ops listed t) : mix ops listed e0 e t = e t := if_neg h

/-- Allocations that have not been reached yet: each has its abstract block, and no place. -/
def Pend (cx : Cx) (ops : Array Oper) (V0 V : Vw) (listed : Array Bool) (ida : Nat → Nat) (e : Env) : Prop :=
  ∀ (i : Nat) (o : Oper), ops[i]? = some o → isA o = true → listed.getD i true = false → ∃ t z d, o.op = .alloc t ∧ zeroT cx.P t = some z ∧ z.data = true ∧ o.dst = some d ∧
    e d = .ptr (ida i) z.cells.length 0 ∧ V0.mem.length ≤ ida i ∧ ida i < V.mem.length ∧ V.rs (ida i) = none ∧ (V.mem[ida i]? = some (.box z.cells) ∨ V.mem[ida i]? = some .dead)

theorem dst_ne (rf : RegFacts ops) {i j : Nat} {x y : Oper} (hx : ops[i]? = some x) (hy : ops[j]? = some y) (hne : i ≠ j) {d : Nat} (hd : x.dst = some d) : y.dst ≠ some d := by
  rcases Nat.lt_or_ge i j with h | h
  · have := rf.pair i j x y hx hy h
    unfold pairOK at this
    simp only [hd, Bool.and_eq_true, bne_iff_ne] at this
    exact this.1.1.1
  · have := rf.pair j i y x hy hx (by omega)
    unfold pairOK at this
    simp only [Bool.and_eq_true] at this
    intro hyd
    rw [hyd] at this
    simp [hd] at this

/-- What a ready operation looks at waits for nothing. -/
theorem looks_free (rf : RegFacts ops) {listed : Array Bool} (hc : Closed ops listed) {i j : Nat} {x y : Oper} (hx : ops[i]? = some x) (hy : ops[j]? = some y) (hne : i ≠ j)
    (hxl : listed.getD i true = false) (hyr : ∀ e ∈ y.after, bindE e = true → listed.getD e.on false = true) (hord : i < j ∨ x.after = #[]) {d : Nat} (hd : x.dst = some d) : d ∉ y.looksAt ops := by
  intro hin
  rcases Nat.lt_or_ge i j with h | h
  · have := rf.pair i j x y hx hy h
    unfold pairOK at this
    simp only [hd, Bool.and_eq_true, Bool.or_eq_true, Bool.not_eq_true', List.contains_eq_mem] at this
    rcases this.1.1.2 with h1 | h1
    · simp [hin] at h1
    · have h2 := getD_of_true (anc_listed rf hc j i y hy hyr h1)
      rw [hxl] at h2; cases h2
  · have haf : x.after = #[] := hord.resolve_left (by omega)
    have := rf.pair j i y x hy hx (by omega)
    unfold pairOK at this
    simp only [hd, Bool.and_eq_true, Bool.or_eq_true, Bool.not_eq_true', List.contains_eq_mem] at this
    rcases this.1.2 with h1 | h1
    · simp [hin] at h1
    · obtain ⟨o, ho, e, he, _⟩ := ancs_bit h1
      have : o = x := by rw [Array.getElem?_toList, hx] at ho; cases ho; rfl
      subst this
      rw [haf] at he; simp at he

theorem free_of (rf : RegFacts ops) {listed : Array Bool} (hc : Closed ops listed) {i j : Nat} {x y : Oper} (hx : ops[i]? = some x) (hy : ops[j]? = some y) (hij : i < j) (hxl : listed.getD i true = false)
    (hyr : ∀ e ∈ y.after, bindE e = true → listed.getD e.on false = true) (hxa : isA x = false) (hya : isA y = false) : Free ops x y := by
  have hno : ((ancs ops.toList).getD j 0).testBit i = false := by
    cases h : ((ancs ops.toList).getD j 0).testBit i with
    | false => rfl
    | true => have h2 := getD_of_true (anc_listed rf hc j i y hy hyr h); rw [hxl] at h2; cases h2
  have hp := rf.pair i j x y hx hy hij
  unfold pairOK at hp
  rw [hno] at hp
  simp only [Bool.or_false, Bool.and_eq_true] at hp
  refine ⟨fun d hd => ?_, fun d hd => ?_, by simpa using hp.2, fun h => (by rw [cls6.1 h] at hxa; cases hxa), fun h => (by rw [cls6.1 h] at hya; cases hya)⟩
  · have := hp.1.1; rw [hd] at this; simpa using this
  · have := hp.1.2; rw [hd] at this; simpa using this

/-- A new block's run. -/
theorem alloc_raw {P : Program} {w : World} {t : Nat} {z : AV} (hz : zeroT P t = some z) :
    ∃ v, ofV v = some z ∧ (Instr.alloc t true (.tuple #[])).run P w = .ok (.pointer (some ⟨w.heap.size, 0, none⟩)) (w.alloc (.cells v.cells t)) := by
  obtain ⟨i, v, h1, h2, h3, _⟩ := zero_rep hz
  refine ⟨v, h3, ?_⟩
  have hzr : (zeroValue t).run P w = .ok v w := by simp [zeroValue, run_tinfo h1, h2]
  simp only [Instr.alloc, Sem.run_bind, hzr, Result.andThen_ok]
  rfl

theorem any_ok (hF : FunOK cx F) (hY : YldOK cx Y) (hX : CxOK cx) (rf : RegFacts ops) {nt : Nat} (hdst : ∀ (i : Nat) (o : Oper) (d : Nat), ops[i]? = some o → o.dst = some d → d < nt) {V0 : Vw} (gl : Gl cx V0) {e0 eF : Env} {mF : Mem} {ida : Nat → Nat}
    (hinj : ∀ (i j : Nat) (x y : Oper), ops[i]? = some x → isA x = true → ops[j]? = some y → isA y = true → ida i = ida j → i = j) {D : List Deferred} {fr : Option Nat} {Q : Exit → Act → World → Prop}
    (hQ : ∀ V' a', Ok V' → Ext V0 V' → V'.mem = mF → EnvRep V' eF a' → a'.tmps.size = nt → a'.defers = D → Q .normal a' V'.w) :
    ∀ (fuel : Nat) (listed : Array Bool) (V : Vw) (e : Env) (a : Act), listed.size = ops.size → (lft ops (fun _ => true) listed).length ≤ fuel → Closed ops listed → Ok V → Ext V0 V →
      evList cx true F Y ops (opl ops (lft ops (nonA ops) listed)) e V.mem = some (eF, mF) → Pend cx ops V0 V listed ida e → EnvRep V (mix ops listed e0 e) a → a.tmps.size = nt → a.defers = D →
      wpAnyIn (W fr) 0 cx.P .any ops Q fuel listed a V.w := by
  -- when none is left
  have fin : ∀ (listed : Array Bool) (V : Vw) (e : Env) (a : Act), Ok V → Ext V0 V → evList cx true F Y ops (opl ops (lft ops (nonA ops) listed)) e V.mem = some (eF, mF) → EnvRep V (mix ops listed e0 e) a → a.tmps.size = nt → a.defers = D →
      (∀ j, j < ops.size → listed.getD j true = true) → Q .normal a V.w := by
    intro listed V e a ok ext hev henv hsz hdf hall
    have hnil : lft ops (nonA ops) listed = [] := by
      rw [List.eq_nil_iff_forall_not_mem]
      intro j hj
      obtain ⟨h1, h2, _⟩ := lft_mem.1 hj
      rw [hall j h1] at h2; cases h2
    rw [hnil] at hev
    have hev : some (e, V.mem) = some (eF, mF) := hev
    simp only [Option.some.injEq, Prod.mk.injEq] at hev
    obtain ⟨rfl, hm⟩ := hev
    refine hQ V a ok ext hm (fun t => ?_) hsz hdf
    have := henv t
    rwa [mix_not (fun ⟨i, o, ho, _, hl, _⟩ => by rw [hall i (Array.getElem?_eq_some_iff.1 ho).1] at hl; cases hl)] at this
  intro fuel
  induction fuel with
  | zero =>
    intro listed V e a hls hfu hcl ok ext hev hpend henv hsz hdf
    have hall : ∀ j, j < ops.size → listed.getD j true = true := by
      intro j hj
      cases h : listed.getD j true with
      | true => rfl
      | false =>
        have : j ∈ lft ops (fun _ => true) listed := lft_mem.2 ⟨hj, h, rfl⟩
        rw [List.eq_nil_of_length_eq_zero (Nat.le_zero.1 hfu)] at this
        simp at this
    refine ⟨?_, fin listed V e a ok ext hev henv hsz hdf hall⟩
    rw [List.eq_nil_iff_forall_not_mem]
    intro j hj
    obtain ⟨h1, o, ho, _⟩ := mem_ready.1 hj
    rw [hall j (Array.getElem?_eq_some_iff.1 ho).1] at h1; cases h1
  | succ fuel ih =>
    intro listed V e a hls hfu hcl ok ext hev hpend henv hsz hdf
    refine ⟨fun hr => ?_, fun i hi => ?_⟩
    · refine fin listed V e a ok ext hev henv hsz hdf (fun j => ?_)
      induction j using Nat.strongRecOn with
      | _ j ihj =>
      intro hj
      cases h : listed.getD j true with
      | true => rfl
      | false =>
        exfalso
        have ho : ops[j]? = some ops[j] := Array.getElem?_eq_getElem hj
        have : j ∈ Region.ready .any ops listed := mem_ready.2 ⟨h, _, ho, fun ed hed hb => by
          have hlt := rf.back j _ ho ed hed hb
          have := ihj ed.on hlt (by omega)
          have hin : ed.on < listed.size := by omega
          simpa [hin] using this⟩
        rw [hr] at this; simp at this
    · -- one that is ready
      obtain ⟨hil, o, ho, haft⟩ := mem_ready.1 hi
      have hin : i < ops.size := (Array.getElem?_eq_some_iff.1 ho).1
      have hins : i < listed.size := by omega
      have hls' : (listed.setIfInBounds i true).size = ops.size := by simp [hls]
      have hfu' : (lft ops (fun _ => true) (listed.setIfInBounds i true)).length ≤ fuel := by
        obtain ⟨A, B, h1, h2, _⟩ := lft_split (p := fun _ => true) hin hil rfl
        rw [h1] at hfu; rw [h2]
        simp at hfu ⊢; omega
      have hcl' : Closed ops (listed.setIfInBounds i true) := by
        intro j oj hoj hj ed hed hb
        have key : listed.getD ed.on false = true := by
          by_cases hji : j = i
          · subst hji; rw [ho] at hoj; cases hoj; exact haft ed hed hb
          · rw [getD_set_ne false (fun e => hji e.symm)] at hj; exact hcl j oj hoj hj ed hed hb
        by_cases hei : ed.on = i
        · rw [hei]; exact getD_set_self hins
        · rw [getD_set_ne false (fun e => hei e.symm)]; exact key
      have hpl : ∀ j, (listed.setIfInBounds i true).getD j true = false → j ≠ i ∧ listed.getD j true = false := by
        intro j hj
        by_cases hji : j = i
        · subst hji; rw [getD_set_self hins] at hj; cases hj
        · rw [getD_set_ne true (fun e => hji e.symm)] at hj; exact ⟨hji, hj⟩
      have hpt : ∀ t, PendT ops (listed.setIfInBounds i true) t ↔ PendT ops listed t ∧ ¬ (isA o = true ∧ o.dst = some t) := by
        intro t
        constructor
        · rintro ⟨j, oj, hoj, ha, hj, hjd⟩
          obtain ⟨hne, hj⟩ := hpl j hj
          exact ⟨⟨j, oj, hoj, ha, hj, hjd⟩, fun ⟨_, hd⟩ => dst_ne rf hoj ho hne hjd hd⟩
        · rintro ⟨⟨j, oj, hoj, ha, hj, hjd⟩, hn⟩
          have hne : j ≠ i := fun e => by subst e; rw [ho] at hoj; cases hoj; exact hn ⟨ha, hjd⟩
          exact ⟨j, oj, hoj, ha, by rw [getD_set_ne true (fun e => hne e.symm)]; exact hj, hjd⟩
      unfold wpOpIn
      simp only [ho]
      cases hA : isA o with
      | true =>
        obtain ⟨hg, haf, ⟨d, hd⟩, _⟩ := rf.al i o ho hA
        obtain ⟨t, z, d', hop, hz, hzd, hd', hed, hid0, hidl, hrs, hmem⟩ := hpend i o ho hA hil
        have : d' = d := by rw [hd] at hd'; cases hd'; rfl
        subst this
        have hw : Region.wanted o (yielded ops a.tmps) = true := by unfold Region.wanted; rw [hg]
        simp only [hw, if_true]
        have hdef : ∀ c, o.op ≠ .defer c := by intro c hc; rw [hop] at hc; cases hc
        refine ⟨fun _ _ => trivial, ?_⟩
        rw [Oper.semAt_eq _ _ _ hdef]
        obtain ⟨v, hv, hrun⟩ := alloc_raw (P := cx.P) (w := V.w) hz
        have hrun' : (execOp a.eval o).run cx.P V.w = .ok (.value (.pointer (some ⟨V.w.heap.size, 0, none⟩))) (V.w.alloc (.cells v.cells t)) := by
          obtain ⟨dst, op, ty, pos, aft, gd⟩ := o
          simp only at hop
          subst hop
          simp only [execOp, Sem.run_bind, hrun, Result.andThen_ok, Sem.run_pure]
        rw [hrun', Oper.uponIn_value, hd]
        have hvc : isVec V.mem (ida i) = false := by
          rcases hmem with hm | hm
          · rw [isVec_some hm]; rfl
          · rw [isVec_some hm]; rfl
        have hbk : ∀ k, V.mem[ida i]? = some k → BlkOk (V.lay (ida i) (.cells v.cells t) (V.cp (ida i))) (ida i) V.w.heap.size k := by
          intro k hk
          rcases hmem with hm | hm
          · rw [hm] at hk; cases hk
            have hr := ofV_rep (V.lay (ida i) (.cells v.cells t) (V.cp (ida i))) v z hv
            obtain ⟨hr1, hr2, _⟩ := hr.cells (not_tup hzd)
            exact ⟨v.cells, t, lay_new V _ _ _, hr1, hr2⟩
          · rw [hm] at hk; cases hk; trivial
        have ok' := ok_lay ok (.cells v.cells t) hidl hrs hvc hbk
        have ext' := ext_lay ext ok (.cells v.cells t) hid0
        have hrep : Rep (V.lay (ida i) (.cells v.cells t) (V.cp (ida i))) (.ptr (ida i) z.cells.length 0) (.pointer (some ⟨V.w.heap.size, 0, none⟩)) := by
          refine .ptr _ _ _ _ rfl ⟨hidl, fun v0 h0 => ?_⟩ (fun _ => ⟨V.w.heap.size, by simp [Vw.lay], rfl⟩)
          have h0 : verOf V.mem (ida i) = some v0 := h0
          rcases hmem with hm | hm
          · rw [verOf_some hm] at h0; simp [shpB] at h0; omega
          · rw [verOf_some hm] at h0; simp [shpB] at h0
        refine ih (listed.setIfInBounds i true) (V.lay (ida i) (.cells v.cells t) (V.cp (ida i))) e _ hls' hfu' hcl' ok' ext' ?_ ?_ ?_ ?_ ?_
        · rw [lft_skip (by unfold nonA pI; rw [ho]; simp [hA])]; exact hev
        · intro j oj hoj hja hjl
          obtain ⟨hne, hjl⟩ := hpl j hjl
          obtain ⟨t', z', d2, h1, h2, h3, h4, h5, h6, h7, h8, h9⟩ := hpend j oj hoj hja hjl
          refine ⟨t', z', d2, h1, h2, h3, h4, h5, h6, h7, ?_, h9⟩
          have : ida j ≠ ida i := fun e => hne (hinj j i oj o hoj hja ho hA e)
          simp only [Vw.lay, if_neg this]; exact h8
        · have hold : EnvRep (V.lay (ida i) (.cells v.cells t) (V.cp (ida i))) (mix ops listed e0 e) a := fun t => lay_rep ok _ hrs hvc (henv t)
          have := hold.put (d := some d') hrep (fun t ht => by cases ht; rw [hsz]; exact hdst i o _ ho hd)
          intro t'
          have h2 := this t'
          by_cases htd : t' = d'
          · subst htd
            rw [mix_not (fun h => ((hpt t').1 h).2 ⟨hA, hd⟩), hed]
            have : Ab.put (mix ops listed e0 e) (some t') (.ptr (ida i) z.cells.length 0) t' = .ptr (ida i) z.cells.length 0 := if_pos rfl
            rw [this] at h2; exact h2
          · rw [put_ne (fun h => htd (by cases h; rfl))] at h2
            by_cases hp : PendT ops listed t'
            · rw [mix_of ((hpt t').2 ⟨hp, fun ⟨_, h⟩ => by rw [hd] at h; cases h; exact htd rfl⟩)]
              rw [mix_of hp] at h2; exact h2
            · rw [mix_not (fun h => hp ((hpt t').1 h).1)]
              rw [mix_not hp] at h2; exact h2
        · simpa [Act.put] using hsz
        · simpa [Act.put] using hdf
      | false =>
        have hnA : nonA ops i = true := by unfold nonA pI; rw [ho]; simp [hA]
        obtain ⟨A, B, hL, hL', hlt⟩ := lft_split hin hil hnA
        rw [hL, opl_append, evList_append] at hev
        obtain ⟨e1, m1, hev1, hev2⟩ := hev
        have hcons : opl ops (i :: B) = o :: opl ops B := by simp [opl, ho]
        rw [hcons, evList_cons] at hev2
        obtain ⟨s, m2, hs, hev3⟩ := hev2
        have hfree : ∀ x ∈ opl ops A, Free ops x o := by
          intro x hx
          obtain ⟨k, hk, hxk⟩ := opl_mem hx
          have hkm : k ∈ lft ops (nonA ops) listed := by rw [hL]; simp [hk]
          obtain ⟨_, hkl, hkn⟩ := lft_mem.1 hkm
          have hxa : isA x = false := by unfold nonA pI at hkn; rw [hxk] at hkn; simpa using hkn
          exact free_of rf hcl hxk ho (hlt k hk) hkl haft hxa hA
        -- what waits is not looked at
        have hlook : ∀ t ∈ o.looksAt ops, ¬ PendT ops listed t := by
          rintro t ht ⟨j, oj, hoj, hja, hjl, hjd⟩
          have hne : j ≠ i := fun e => by subst e; rw [ho] at hoj; cases hoj; rw [hA] at hja; cases hja
          exact looks_free rf hcl hoj ho hne hjl haft (.inr (rf.al j oj hoj hja).2.1) hjd ht
        have hlook' : ∀ t ∈ o.looksAt ops, e t = mix ops listed e0 e t := fun t ht => (mix_not (hlook t ht)).symm
        have glV := gl.mono ext
        obtain ⟨m', hv, hrest⟩ := swap ok glV henv hlook' hev1 hs hfree
        have hdn : ∀ t, o.dst = some t → ¬ PendT ops listed t := by
          rintro t ht ⟨j, oj, hoj, hja, hjl, hjd⟩
          have hne : j ≠ i := fun e => by subst e; rw [ho] at hoj; cases hoj; rw [hA] at hja; cases hja
          exact dst_ne rf hoj ho hne hjd ht
        -- and behind it
        have next : ∀ V' u, V'.mem = m' → Ok V' → Ext V V' → Rep V' s u → wpAnyIn (W fr) 0 cx.P .any ops Q fuel (listed.setIfInBounds i true) (a.put o.dst u) V'.w := by
          intro V' u hm ok' ext' hr
          refine ih (listed.setIfInBounds i true) V' (put e o.dst s) _ hls' hfu' hcl' ok' (ext.trans ext') ?_ ?_ ?_ ?_ ?_
          · rw [hL', opl_append, evList_append, hm]
            exact ⟨_, _, hrest, hev3⟩
          · intro j oj hoj hja hjl
            obtain ⟨hne, hjl⟩ := hpl j hjl
            obtain ⟨t', z', d2, h1, h2, h3, h4, h5, h6, h7, h8, h9⟩ := hpend j oj hoj hja hjl
            obtain ⟨g1, g2⟩ := ext'.nn (ida j) h7 h8 (by rcases h9 with h9 | h9 <;> (rw [isVec_some h9]; rfl))
            refine ⟨t', z', d2, h1, h2, h3, h4, ?_, h6, Nat.lt_of_lt_of_le h7 ext'.len, g1, ?_⟩
            · rw [put_ne (fun h => hdn d2 h ⟨j, oj, hoj, hja, hjl, h4⟩)]; exact h5
            · rcases g2 with g2 | g2
              · rw [g2]; exact h9
              · exact .inr g2
          · have := (henv.mono ext').put (d := o.dst) hr (fun t ht => by rw [hsz]; exact hdst i o t ho ht)
            intro t
            have h2 := this t
            by_cases hp : PendT ops listed t
            · rw [put_ne (fun h => hdn t h hp), mix_of hp] at h2
              rw [mix_of ((hpt t).2 ⟨hp, fun ⟨h, _⟩ => by rw [hA] at h; cases h⟩)]; exact h2
            · rw [mix_not (fun h => hp ((hpt t).1 h).1)]
              by_cases hdt : o.dst = some t
              · rw [hdt] at h2 ⊢
                have e1 : ∀ (q : Env), Ab.put q (some t) s t = s := fun q => if_pos rfl
                rw [e1] at h2 ⊢; exact h2
              · rw [put_ne hdt, mix_not hp] at h2
                rw [put_ne hdt]; exact h2
          · cases o.dst <;> simpa [Act.put] using hsz
          · cases o.dst <;> simpa [Act.put] using hdf
        rw [evV_congr hlook'] at hv
        unfold evV at hv
        cases hw : wantA ops (mix ops listed e0 e) o with
        | none => simp [hw] at hv
        | some b =>
          rw [want_ok henv hw]
          cases b with
          | true =>
            simp only [hw] at hv
            simp only [if_true]
            exact op_ok hF hY hX ok glV henv hv fr _ Q next
          | false =>
            simp only [hw] at hv
            cases hv
            simp only [Bool.false_eq_true, if_false]
            exact ⟨fun _ _ => trivial, next V undef rfl ok (Ext.refl V) (undef_rep V)⟩
end Go.Ab

/- Regions. -/
set_option linter.unusedVariables false
set_option linter.unusedSimpArgs false
namespace Go.Ab
open Go

variable {cx : Cx} {F Y : CallT} {ops : Array Oper}

theorem evV_alloc {o : Oper} (ha : isA o = true) (hg : o.guard = none) (hvz : vzO o = false) {e : Env} {m m1 : Mem} {r : AV} (h : evV cx F Y ops o e m = some (r, m1)) :
    ∃ t z, o.op = .alloc t ∧ zeroT cx.P t = some z ∧ z.data = true ∧ r = .ptr m.length z.cells.length 0 ∧ m1 = m ++ [.box z.cells] := by
  cases hop : o.op with
  | alloc t =>
    have h6 : cls ops o = 6 := cls6.2 ha
    unfold evV mdOf wantA at h
    simp only [hg, h6, hop] at h
    simp only [evOp] at h
    rw [if_neg (by decide)] at h
    split at h
    · rename_i z hz
      split at h
      · rename_i hd
        have hvt : vzT t = false := by unfold vzO at hvz; rw [hop] at hvz; exact hvz
        rw [hvt] at h
        simp only [Option.some.injEq, Prod.mk.injEq] at h
        exact ⟨t, z, rfl, hz, hd, h.1.symm, h.2.symm⟩
      · cases h
    · cases h
  | _ => simp [isA, hop] at ha

/-- The allocations, taken first. -/
theorem allocs (rf : RegFacts ops) : ∀ (is : List Nat), is.Nodup → (∀ i ∈ is, ∃ o, ops[i]? = some o ∧ isA o = true) → ∀ (e : Env) (m : Mem) (e1 : Env) (m1 : Mem), evList cx true F Y ops (opl ops is) e m = some (e1, m1) →
    ∃ (l : Mem) (ida : Nat → Nat), m1 = m ++ l ∧ (∀ i ∈ is, ∀ o, ops[i]? = some o → ∃ t z d, o.op = .alloc t ∧ zeroT cx.P t = some z ∧ z.data = true ∧ o.dst = some d ∧ e1 d = .ptr (ida i) z.cells.length 0 ∧ m.length ≤ ida i ∧ ida i < m1.length ∧ m1[ida i]? = some (.box z.cells)) ∧
      (∀ i ∈ is, ∀ j ∈ is, ida i = ida j → i = j)
  | [], _, _, e, m, e1, m1, h => by
    have h : some (e, m) = some (e1, m1) := h
    cases h
    exact ⟨[], fun _ => 0, by simp, fun i hi => by simp at hi, fun i hi => by simp at hi⟩
  | i :: is, hnd, hall, e, m, e1, m1, h => by
    obtain ⟨o, ho, ha⟩ := hall i (by simp)
    obtain ⟨hg, _, ⟨d, hd⟩, hvz⟩ := rf.al i o ho ha
    have hcons : opl ops (i :: is) = o :: opl ops is := by simp [opl, ho]
    rw [hcons, evList_cons] at h
    obtain ⟨r, m2, h1, h2⟩ := h
    obtain ⟨t, z, hop, hz, hzd, rfl, rfl⟩ := evV_alloc ha hg hvz h1
    obtain ⟨hni, hnd⟩ := List.nodup_cons.1 hnd
    obtain ⟨l, ida, rfl, hat, hinj⟩ := allocs rf is hnd (fun j hj => hall j (List.mem_cons_of_mem _ hj)) _ _ e1 m1 h2
    refine ⟨.box z.cells :: l, fun j => if j = i then m.length else ida j, by simp, fun j hj oj hoj => ?_, fun j hj k hk => ?_⟩
    · by_cases hji : j = i
      · subst hji
        rw [ho] at hoj; cases hoj
        refine ⟨t, z, d, hop, hz, hzd, hd, ?_, by simp, by simp, ?_⟩
        · simp only [if_true]
          have : e1 d = put e o.dst (.ptr m.length z.cells.length 0) d := evList_env h2 (fun x hx => by
            obtain ⟨k, hk, hxk⟩ := opl_mem hx
            exact dst_ne rf ho hxk (fun e => hni (e ▸ hk)) hd)
          rw [this, hd]; exact if_pos rfl
        · simp only [if_true]; simp
      · have hj' : j ∈ is := by simpa [hji] using hj
        obtain ⟨t', z', d', g1, g2, g3, g4, g5, g6, g7, g8⟩ := hat j hj' oj hoj
        refine ⟨t', z', d', g1, g2, g3, g4, ?_, ?_, ?_, ?_⟩
        · simp only [if_neg hji]; exact g5
        · simp only [if_neg hji]; simp at g6; omega
        · simp only [if_neg hji]; exact g7
        · simp only [if_neg hji]; exact g8
    · intro he
      have ge : ∀ q ∈ is, m.length + 1 ≤ ida q := fun q hq => by
        obtain ⟨oq, hoq, _⟩ := hall q (List.mem_cons_of_mem _ hq)
        obtain ⟨_, _, _, _, _, _, _, _, g6, _⟩ := hat q hq oq hoq
        simpa using g6
      by_cases hji : j = i <;> by_cases hki : k = i
      · rw [hji, hki]
      · have hk' : k ∈ is := by simpa [hki] using hk
        simp only [if_pos hji, if_neg hki] at he
        have := ge k hk'; omega
      · have hj' : j ∈ is := by simpa [hji] using hj
        simp only [if_neg hji, if_pos hki] at he
        have := ge j hj'; omega
      · have hk' : k ∈ is := by simpa [hki] using hk
        have hj' : j ∈ is := by simpa [hji] using hj
        simp only [if_neg hji, if_neg hki] at he
        exact hinj j hj' k hk' he

theorem okOps_dst {nt : Nat} (h : okOps nt ops = true) : ∀ (i : Nat) (o : Oper) (d : Nat), ops[i]? = some o → o.dst = some d → d < nt := by
  intro i o d ho hd
  unfold okOps at h
  rw [List.all_eq_true] at h
  have := h o (by simpa using Array.mem_of_getElem? ho)
  simpa [hd] using this

theorem region_draw_ok (hF : FunOK cx F) (hY : YldOK cx Y) (hX : CxOK cx) (hr : regOK ops = true) {nt : Nat} (hok : okOps nt ops = true) {V : Vw} {e : Env} {a : Act} (ok : Ok V) (gl : Gl cx V) (he : EnvRep V e a) (hsz : nt ≤ a.tmps.size)
    {e' : Env} {m' : Mem} (h : evList cx true F Y ops (drawn ops) e V.mem = some (e', m')) {fr : Option Nat} {Q : Exit → Act → World → Prop} {id : Nat}
    (hn : ∀ V' a', Ok V' → Ext V V' → V'.mem = m' → EnvRep V' e' a' → a'.tmps.size = a.tmps.size → a'.defers = a.defers → Q .normal a' V'.w) : (Code.region id ops true).wpIn (W fr) 0 cx.P Q a V.w := by
  refine wpIn_region_any hX.mixed ?_
  have rf := reg_facts hr
  let w1 : World := { V.w with drawn := V.w.drawn + 1 }
  have ok0 : Ok (V.at w1) := ok_sameHeap ok rfl rfl rfl rfl
  have ext0 : Ext V (V.at w1) := ext_sameHeap rfl rfl rfl rfl
  unfold drawn at h
  rw [evList_append] at h
  obtain ⟨e1, m1, h1, h2⟩ := h
  rw [opl_filter] at h1 h2
  obtain ⟨l, ida, rfl, hat, hinj⟩ := allocs rf _ (List.Pairwise.filter _ List.nodup_range) (fun i hi => by
    obtain ⟨hi1, hi2⟩ := List.mem_filter.1 hi
    have hlt : i < ops.size := by simpa using hi1
    refine ⟨ops[i], Array.getElem?_eq_getElem hlt, ?_⟩
    simpa [pI, Array.getElem?_eq_getElem hlt] using hi2) e V.mem e1 _ h1
  have okg : Ok ((V.at w1).grow l) := ok_grow ok0 l
  have extg : Ext (V.at w1) ((V.at w1).grow l) := ext_grow _ l
  have hmem : ∀ (i : Nat) (x : Oper), ops[i]? = some x → isA x = true → i ∈ (List.range ops.size).filter (pI ops isA) := fun i x hx hxa =>
    List.mem_filter.2 ⟨by simpa using (Array.getElem?_eq_some_iff.1 hx).1, by simp [pI, hx, hxa]⟩
  have hall : ∀ j, (Array.replicate ops.size false).getD j true = true ↔ ops.size ≤ j := by
    intro j
    by_cases hj : j < ops.size
    · simp [hj]
    · simp [Nat.not_lt.1 hj]
  refine any_ok hF hY hX rf (nt := a.tmps.size) (fun i o d ho hd => Nat.lt_of_lt_of_le (okOps_dst hok i o d ho hd) hsz) (V0 := V.at w1) (gl.mono ext0) (e0 := e) (eF := e') (mF := m') (ida := ida)
    (fun i j x y hx hxa hy hya hij => hinj i (hmem i x hx hxa) j (hmem j y hy hya) hij) (D := a.defers) (fun V' a' o' x' hm' he' hs' hd' => hn V' a' o' (ext0.trans x') hm' he' hs' hd')
    ops.size (Array.replicate ops.size false) ((V.at w1).grow l) e1 a (by simp) ?_ ?_ okg extg ?_ ?_ ?_ rfl rfl
  · unfold lft
    exact Nat.le_trans (List.length_filter_le _ _) (by simp)
  · intro j o ho hj
    have hj' : j < ops.size := (Array.getElem?_eq_some_iff.1 ho).1
    simp [hj'] at hj
  · have : lft ops (nonA ops) (Array.replicate ops.size false) = (List.range ops.size).filter (pI ops fun o => !isA o) := by
      unfold lft nonA
      apply List.filter_congr
      intro j hj
      have hj' : j < ops.size := by simpa using hj
      simp [hj']
    rw [this]
    exact h2
  · intro i o ho ha _
    obtain ⟨t, z, d, g1, g2, g3, g4, g5, g6, g7, g8⟩ := hat i (hmem i o ho ha) o ho
    refine ⟨t, z, d, g1, g2, g3, g4, g5, g6, g7, ?_, .inl g8⟩
    cases hrs : V.rs (ida i) with
    | none => exact hrs
    | some b => have := (ok.rb _ b hrs).2; omega
  · intro t
    by_cases hp : PendT ops (Array.replicate ops.size false) t
    · rw [mix_of hp]; exact (he t).mono (ext0.trans extg)
    · rw [mix_not hp]
      have : e1 t = e t := evList_env h1 (fun x hx hxd => by
        obtain ⟨k, hk, hxk⟩ := opl_mem hx
        obtain ⟨hk1, hk2⟩ := List.mem_filter.1 hk
        have hklt : k < ops.size := by simpa using hk1
        refine hp ⟨k, x, hxk, by simpa [pI, hxk] using hk2, by simp [hklt], hxd⟩)
      rw [this]; exact (he t).mono (ext0.trans extg)

theorem ops_ok (hF : FunOK cx F) (hY : YldOK cx Y) (hX : CxOK cx) {nt : Nat} (hok : okOps nt ops = true) {e' : Env} {m' : Mem} {fr : Option Nat} {Q : Exit → Act → World → Prop} : ∀ (is : List Nat) {V : Vw} {e : Env} {a : Act}, Ok V → Gl cx V → EnvRep V e a → nt ≤ a.tmps.size →
    evList cx false F Y ops (opl ops is) e V.mem = some (e', m') →
    (∀ V' a', Ok V' → Ext V V' → V'.mem = m' → EnvRep V' e' a' → a'.tmps.size = a.tmps.size → a'.defers = a.defers → Q .normal a' V'.w) → wpOpsIn (W fr) 0 cx.P ops Q is a V.w
  | [], V, e, a, ok, gl, he, hsz, h, hn => by
    have h : some (e, V.mem) = some (e', m') := h
    simp only [Option.some.injEq, Prod.mk.injEq] at h
    obtain ⟨rfl, hm⟩ := h
    exact hn V a ok (Ext.refl V) hm he rfl rfl
  | i :: is, V, e, a, ok, gl, he, hsz, h, hn => by
    unfold wpOpsIn
    cases ho : ops[i]? with
    | none =>
      have : opl ops (i :: is) = opl ops is := by simp [opl, ho]
      rw [this] at h
      exact ops_ok hF hY hX hok is ok gl he hsz h hn
    | some o =>
      have hcons : opl ops (i :: is) = o :: opl ops is := by simp [opl, ho]
      rw [hcons] at h
      simp only
      have next : ∀ {V' : Vw} {u : Value} {r : AV}, Ok V' → Ext V V' → Rep V' r u → evList cx false F Y ops (opl ops is) (put e o.dst r) V'.mem = some (e', m') → wpOpsIn (W fr) 0 cx.P ops Q is (a.put o.dst u) V'.w := by
        intro V' u r ok' ext' hr hev
        have hs : (a.put o.dst u).tmps.size = a.tmps.size := by cases o.dst <;> simp [Act.put]
        have hd : (a.put o.dst u).defers = a.defers := by cases o.dst <;> rfl
        refine ops_ok hF hY hX hok is ok' (gl.mono ext') ((he.mono ext').put hr (fun t ht => Nat.lt_of_lt_of_le (okOps_dst hok i o t ho ht) hsz)) (by omega) hev (fun V2 a2 o2 x2 hm he2 hs2 hd2 => hn V2 a2 o2 (ext'.trans x2) hm he2 (by omega) (by rw [hd2, hd]))
      change (match evOne cx false F Y ops o e V.mem with | some (e', m') => evList cx false F Y ops (opl ops is) e' m' | none => none) = some (e', m') at h
      unfold evOne at h
      cases hw : wantA ops e o with
      | none => simp [hw] at h
      | some b =>
        rw [want_ok he hw]
        cases b with
        | true =>
          simp only [hw, Bool.false_eq_true, if_false] at h
          simp only [if_true]
          cases hop : evOp cx 0 F Y e V.mem o.op with
          | none => simp [hop] at h
          | some rm =>
            obtain ⟨r, m1⟩ := rm
            simp only [hop] at h
            exact op_ok hF hY hX ok gl he hop fr _ Q (fun V' v hm ok' ext' hr => next ok' ext' hr (by rw [hm]; exact h))
        | false =>
          simp only [hw] at h
          simp only [Bool.false_eq_true, if_false]
          exact ⟨fun _ _ => trivial, next ok (Ext.refl V) (undef_rep V) h⟩

theorem region_text_ok (hF : FunOK cx F) (hY : YldOK cx Y) (hX : CxOK cx) {nt : Nat} (hok : okOps nt ops = true) {V : Vw} {e : Env} {a : Act} (ok : Ok V) (gl : Gl cx V) (he : EnvRep V e a) (hsz : nt ≤ a.tmps.size)
    {e' : Env} {m' : Mem} (h : evList cx false F Y ops ops.toList e V.mem = some (e', m')) {fr : Option Nat} {Q : Exit → Act → World → Prop} {id : Nat}
    (hn : ∀ V' a', Ok V' → Ext V V' → V'.mem = m' → EnvRep V' e' a' → a'.tmps.size = a.tmps.size → a'.defers = a.defers → Q .normal a' V'.w) : (Code.region id ops false).wpIn (W fr) 0 cx.P Q a V.w := by
  refine wpIn_region (ops_ok hF hY hX hok _ ok gl he hsz ?_ hn)
  have : opl ops (List.range ops.size) = ops.toList := by
    have := range_get ops.toList
    simpa [opl] using this
  rw [this]; exact h
end Go.Ab
