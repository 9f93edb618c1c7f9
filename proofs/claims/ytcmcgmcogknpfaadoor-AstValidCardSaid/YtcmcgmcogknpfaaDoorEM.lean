/- One operation: what the evaluator gives, the machine does. -/
import Derived.Test.YtcmcgmcogknpfaaDoorEL
set_option linter.unusedVariables false
set_option linter.unusedSimpArgs false
namespace Go.Ab
open Go

/-- No fence at all, in a round or out of one. -/
def W (ro : Option Nat) : Fence := { fn := fun _ => True, depth := none, alive := false, round := ro }
theorem callsIn_W {ro : Option Nat} {n : Nat} {P : Program} {f : FuncId} {args : Array Value} {w : World} {R : Ending → World → Prop} (h : Calls P f args w R) : CallsIn (W ro) n P f args w R :=
  ⟨trivial, fun cs _ => ((callsIn_wide (n := n)).2 h).2 cs (room_wide _)⟩
theorem calls_W {n : Nat} {P : Program} {f : FuncId} {args : Array Value} {w : World} {R : Ending → World → Prop} (h : CallsIn (W none) n P f args w R) : Calls P f args w R := callsIn_wide.1 h

def Gl (cx : Cx) (V : Vw) : Prop := ∀ g cs, cx.G g = some cs → pureL cs = true ∧ Rep V (.rptr cs) (.pointer (some ⟨g, 0, none⟩))
theorem Gl.mono {cx : Cx} {V V' : Vw} (e : Ext V V') (h : Gl cx V) : Gl cx V' := fun g cs hg => ⟨(h g cs hg).1, (h g cs hg).2.mono e⟩
theorem Gl.callee {cx : Cx} {V : Vw} (h : Gl cx V) (ids : List Nat) : Gl cx (V.callee ids) := fun g cs hg =>
  ⟨(h g cs hg).1, pure_rep (V := V) (U := V.callee ids) (fun _ _ => rfl) (fun b hb => .inl hb) (h g cs hg).2 (h g cs hg).1⟩

def Enters (P : Program) (f : Nat) : Prop := ∃ fn c, P.funcs[f]? = some fn ∧ fn.name ≠ "runtime.NumGoroutine" ∧ fn.body = some c
theorem Enters.run {P : Program} {f : Nat} (h : Enters P f) (args : Array Value) (w : World) : (callFunc f args).run P w = .ok (.enter f args) w := by
  obtain ⟨fn, c, h1, h2, h3⟩ := h
  have h2' : (fn.name == "runtime.NumGoroutine") = false := by simpa using h2
  simp only [callFunc, Sem.run_bind, run_program, Result.andThen_ok, h1, h2', h3, Option.isNone_some, Bool.false_eq_true, if_false, Sem.run_pure]

/-- What a call leaves: the result in a view that goes on from V. -/
def Left (V : Vw) (r : AV) (m' : Mem) (e : Ending) (w' : World) : Prop := ∃ v V', e = .returned v ∧ V'.w = w' ∧ V'.mem = m' ∧ Ok V' ∧ Ext V V' ∧ Rep V' r v

structure FunOK (cx : Cx) (F : CallT) : Prop where
  enters : ∀ f args m rm, F f args m = some rm → Enters cx.P f
  ok : ∀ f args m r m' V vs, F f args m = some (r, m') → Ok V → Gl cx V → V.mem = m → Reps V args vs.toList → Calls cx.P f vs V.w (Left V r m')
structure YldOK (cx : Cx) (Y : CallT) : Prop where
  live : ∀ id args m rm, Y id args m = some rm → verOf m id = some 0
  ok : ∀ id args m r m' V vs b, Y id args m = some (r, m') → Ok V → Gl cx V → V.mem = m → Reps V args vs.toList → V.rs id = some b → ∀ ro,
    ∃ fn tmps a bd, (Instr.yield b vs).run cx.P V.w = .ok (.round b fn tmps a bd) V.w ∧ RoundIn (W ro) 0 cx.P b fn tmps a bd V.w (Left V r m')
structure CxOK (cx : Cx) : Prop where
  mixed : cx.P.follows .mixedOrders = true
  X : ∀ f g args r, cx.X f = some g → g args = some r → Enters cx.P f ∧ ∀ U vs, Ok U → U.mem = [] → Gl cx U → Reps U args vs.toList → Calls cx.P f vs U.w (Left U r [])

variable {cx : Cx} {F Y : CallT}

theorem reps_app {V : Vw} {xs ys : List AV} {a b : Array Value} (h : Reps V xs a.toList) (k : Reps V ys b.toList) : Reps V (xs ++ ys) (a ++ b).toList := by
  rw [Array.toList_append]; exact h.append k

theorem fzs_reps {V : Vw} (o : Ok V) {xs ys : List AV} {us : List Value} (h : fzs V.mem xs = some ys) (hr : Reps V xs us) : Reps (V.callee (idsDL V.mem xs)) ys us ∧ Live V (idsDL V.mem xs) := by
  obtain ⟨h1, h2⟩ := mapM_some h
  refine ⟨⟨by rw [h1]; exact hr.1, fun j d u hd hu => ?_⟩, fun id hid => ?_⟩
  · have hj : j < xs.length := by rw [← h1]; exact (List.getElem?_eq_some_iff.1 hd).1
    obtain ⟨d', hd', hf⟩ := h2 j _ (List.getElem?_eq_getElem hj)
    rw [hd] at hd'
    cases hd'
    exact fz_rep (U := V.callee (idsDL V.mem xs)) o rfl (fun b hb => .inl hb) 6 (hr.2 j _ u (List.getElem?_eq_getElem hj) hu) hf
      (fun id hid b hb => .inr ⟨id, List.mem_flatMap.2 ⟨_, List.getElem_mem hj, hid⟩, hb⟩)
  · obtain ⟨c, hc, hid⟩ := List.mem_flatMap.1 hid
    obtain ⟨j, hj, rfl⟩ := List.getElem_of_mem hc
    obtain ⟨d, hd, hf⟩ := h2 j _ (List.getElem?_eq_getElem hj)
    exact fz_live hf id hid

theorem settle_ok {V U : Vw} (o : Ok V) {ro : Bool} {as : List AV} {r r' : AV} {m' : Mem} (hl : Live V (idsDL V.mem as)) (oU : Ok U) (e : Ext (V.callee (idsDL V.mem as)) U) {v : Value} (hr : Rep U r v) (h : settle ro V.mem as r = some (r', m')) :
    ∃ V', V'.w = U.w ∧ V'.mem = m' ∧ Ok V' ∧ Ext V V' ∧ Rep V' r' v := by
  unfold settle at h
  split at h
  case isFalse => cases h
  rename_i hp
  split at h
  · rename_i hc
    cases h
    obtain ⟨o', e'⟩ := back_ok (ks := []) o oU e (fun id hid => by simp at hid)
    refine ⟨V.back U [], rfl, rfl, o', e', back_rep e hr hp ?_⟩
    simp only [Bool.or_eq_true, List.isEmpty_iff] at hc
    rcases hc with hc | hc
    · exact .inl hc
    · exact .inr (.inl hc)
  · split at h
    · cases h
    · cases h
      obtain ⟨o', e'⟩ := back_ok (ks := idsDL V.mem as) o oU e hl
      exact ⟨V.back U _, rfl, rfl, o', e', back_rep e hr hp (.inr (.inr rfl))⟩

theorem Ext.of_frz {V : Vw} {ids : List Nat} (o : Ok V) (hl : Live V ids) : Ext V (V.frz ids) := (ok_frz o hl).2

theorem lendOwn_spec {V : Vw} (o : Ok V) : ∀ {as xs : List AV} {is : List Nat} {us : List Value}, lendOwn V.mem as = some (xs, is) → Reps V as us → Live V is ∧ ∀ js : List Nat, (∀ i ∈ is, i ∈ js) → Live V js → Reps (V.frz js) xs us
  | [], xs, is, us, h, hr => by
    simp [lendOwn] at h
    obtain ⟨rfl, rfl⟩ := h
    exact ⟨fun id hid => by simp at hid, fun js _ _ => ⟨hr.1, fun j x c hx => by simp at hx⟩⟩
  | a :: as, xs, is, us, h, hr => by
    obtain ⟨c, us', rfl, h1, h2⟩ := hr.inv
    have other : ∀ {ys : List AV}, (∀ id ver, a ≠ .own id ver) → lendOwn V.mem as = some (ys, is) → xs = a :: ys → Live V is ∧ ∀ js : List Nat, (∀ i ∈ is, i ∈ js) → Live V js → Reps (V.frz js) xs (c :: us') := by
      intro ys hn hl hx
      obtain ⟨g1, g2⟩ := lendOwn_spec o hl h2
      subst hx
      exact ⟨g1, fun js hj hjl => Reps.cons (h1.mono (ok_frz o hjl).2) (g2 js hj hjl)⟩
    cases a with
    | own id ver =>
      simp only [lendOwn] at h
      cases hf : fz V.mem 6 (.own id ver) with
      | none => simp [hf] at h
      | some x =>
        cases hl : lendOwn V.mem as with
        | none => simp [hf, hl] at h
        | some p =>
          obtain ⟨ys, is'⟩ := p
          simp [hf, hl] at h
          obtain ⟨rfl, rfl⟩ := h
          obtain ⟨g1, g2⟩ := lendOwn_spec o hl h2
          refine ⟨fun i hi => ?_, fun js hj hjl => Reps.cons ?_ (g2 js (fun i hi => hj i (List.mem_append_right _ hi)) hjl)⟩
          · rcases List.mem_append.1 hi with hi | hi
            · exact fz_live hf i hi
            · exact g1 i hi
          · exact fz_rep (U := V.frz js) o rfl (fun b hb => .inl hb) 6 h1 hf (fun i hi b hb => .inr ⟨i, hj i (List.mem_append_left _ hi), hb⟩)
    | _ =>
      simp only [lendOwn] at h
      cases hl : lendOwn V.mem as with
      | none => simp [hl] at h
      | some p =>
        obtain ⟨ys, is'⟩ := p
        simp [hl] at h
        obtain ⟨rfl, rfl⟩ := h
        exact other (fun id ver e => by cases e) hl rfl

/-- The call of a value. -/
theorem callV_ok (hF : FunOK cx F) (hY : YldOK cx Y) (hX : CxOK cx) {V : Vw} (o : Ok V) (gl : Gl cx V) {ro : Bool} {c r : AV} {args : List AV} {m' : Mem} {vc : Value} {vs : Array Value}
    (hc : Rep V c vc) (ha : Reps V args vs.toList) (h : callV cx ro F Y V.mem c args = some (r, m')) :
    ∃ d, (Deferred.ofValue vc vs).run cx.P V.w = .ok d V.w ∧ ∀ (oo : Oper) (a : Act) (fr : Option Nat) (next : Act → World → Prop) (Q : Exit → Act → World → Prop),
      (∀ V' v, V'.mem = m' → Ok V' → Ext V V' → Rep V' r v → next (a.put oo.dst v) V'.w) → oo.uponIn (W fr) 0 cx.P a next Q ((invoke d.target d.args).run cx.P V.w) := by
  cases c with
  | fn f first cap =>
    cases hc with
    | fn f xs ys fs cs h1 h2 hr1 hr2 =>
      have hall : Reps V (first ++ args ++ cap) ((fs ++ vs) ++ cs).toList :=
        reps_app (reps_app ⟨by simpa using h1, fun j x u hx hu => hr1 j x u hx (by simpa using hu)⟩ ha) ⟨by simpa using h2, fun j x u hx hu => hr2 j x u hx (by simpa using hu)⟩
      refine ⟨{ target := .fn (.func f) cs, args := fs ++ vs }, rfl, fun oo a fr next Q hn => ?_⟩
      -- once the call's contract is there
      have fin : Enters cx.P f → Calls cx.P f ((fs ++ vs) ++ cs) V.w (Left V r m') → oo.uponIn (W fr) 0 cx.P a next Q ((invoke (.fn (.func f) cs) (fs ++ vs)).run cx.P V.w) := by
        intro hen hcall
        have hrun : (invoke (.fn (.func f) cs) (fs ++ vs)).run cx.P V.w = .ok (.enter f ((fs ++ vs) ++ cs)) V.w := hen.run _ _
        rw [hrun, Oper.uponIn_enter]
        refine ⟨fun h => by simp [W] at h, callsIn_W (hcall.mono ?_)⟩
        rintro e w' ⟨v, V', rfl, rfl, hm, ok', ext, rep⟩
        exact hn V' v hm ok' ext rep
      simp only [callV] at h
      generalize first ++ args ++ cap = L at h hall
      cases hx : cx.X f with
      | some g =>
        simp only [hx] at h
        cases hz : fzs V.mem L with
        | none => simp [hz] at h
        | some as' =>
          simp only [hz] at h
          cases hg : g as' with
          | none => simp [hg] at h
          | some r0 =>
            simp only [hg] at h
            obtain ⟨hreps, hlive⟩ := fzs_reps o hz hall
            obtain ⟨hen, hok⟩ := hX.X f g as' r0 hx hg
            refine fin hen ((hok _ _ (ok_callee o _) rfl (gl.callee _) hreps).mono ?_)
            rintro e w' ⟨v, U', rfl, rfl, hm, okU, ext, rep⟩
            obtain ⟨V', hw, hm', ok', ext', rep'⟩ := settle_ok o hlive okU ext rep h
            exact ⟨v, V', rfl, hw, hm', ok', ext', rep'⟩
      | none =>
        simp only [hx] at h
        split at h
        · -- shared
          split at h
          · cases h
          · cases hl : lendOwn V.mem L with
            | none => simp [hl] at h
            | some p =>
              obtain ⟨xs', is⟩ := p
              simp only [hl] at h
              cases hf : F f xs' (kill V.mem is) with
              | none => simp [hf] at h
              | some rm =>
                obtain ⟨r0, m0⟩ := rm
                simp only [hf] at h
                obtain ⟨hlive, hreps⟩ := lendOwn_spec o hl hall
                obtain ⟨o1, e1⟩ := ok_frz o hlive
                have hcall := hF.ok f xs' _ r0 m0 (V.frz is) _ hf o1 (gl.mono e1) rfl (hreps is (fun i hi => hi) hlive)
                refine fin (hF.enters _ _ _ _ hf) (hcall.mono ?_)
                rintro e w' ⟨v, V', rfl, rfl, rfl, ok', ext, rep⟩
                obtain ⟨V'', hw, hm', ok'', ext'', rep''⟩ := retrunc_ok ok' (e1.trans ext) rep h
                exact ⟨v, V'', rfl, hw, hm', ok'', ext'', rep''⟩
        · -- pure
          cases hz : fzs V.mem L with
          | none => simp [hz] at h
          | some as' =>
            simp only [hz] at h
            cases hf : F f as' [] with
            | none => simp [hf] at h
            | some rm =>
              obtain ⟨r0, m0⟩ := rm
              simp only [hf] at h
              cases hq : fz m0 6 r0 with
              | none => simp [hq] at h
              | some r1 =>
                simp only [hq] at h
                obtain ⟨hreps, hlive⟩ := fzs_reps o hz hall
                have hcall := hF.ok f as' _ r0 m0 _ _ hf (ok_callee o _) (gl.callee _) rfl hreps
                refine fin (hF.enters _ _ _ _ hf) (hcall.mono ?_)
                rintro e w' ⟨v, V1, rfl, rfl, rfl, ok', ext, rep⟩
                obtain ⟨V', hw, hm', ok'', ext'', rep''⟩ := settle_ok o hlive (ok_close ok') (ext_close ext rfl) (rep_close ok' rep hq) h
                exact ⟨v, V', rfl, hw, hm', ok'', ext'', rep''⟩
  | yld id =>
    simp only [callV] at h
    split at h
    · cases h
    · cases hl : lendOwn V.mem args with
      | none => simp [hl] at h
      | some p =>
        obtain ⟨xs', is⟩ := p
        simp only [hl] at h
        cases hf : Y id xs' (kill V.mem is) with
        | none => simp [hf] at h
        | some rm =>
          obtain ⟨r0, m0⟩ := rm
          simp only [hf] at h
          obtain ⟨hlive, hreps⟩ := lendOwn_spec o hl ha
          obtain ⟨o1, e1⟩ := ok_frz o hlive
          have hver := hY.live _ _ _ _ hf
          have hverV := (verOf_kill is hver).2
          have hb : ∃ b, V.rs id = some b ∧ vc = .func (.yield b) #[] #[] := by
            cases hc with | yld _ _ _ _ hv => exact hv hverV
          obtain ⟨b, hb, rfl⟩ := hb
          refine ⟨{ target := .fn (.yield b) #[], args := #[] ++ vs }, rfl, fun oo a fr next Q hn => ?_⟩
          obtain ⟨fn, tmps, a', bd, hrun, hround⟩ := hY.ok id xs' _ r0 m0 (V.frz is) vs b hf o1 (gl.mono e1) rfl (hreps is (fun i hi => hi) hlive) hb fr
          have hrun' : (invoke (.fn (.yield b) #[]) (#[] ++ vs)).run cx.P V.w = .ok (.round b fn tmps a' bd) V.w := by
            rw [Array.empty_append]; exact hrun
          rw [hrun', Oper.uponIn_round]
          refine ⟨fun h => by simp [W] at h, hround.mono ?_⟩
          rintro e w' ⟨v, V', rfl, rfl, rfl, ok', ext, rep⟩
          obtain ⟨V'', hw, hm', ok'', ext'', rep''⟩ := retrunc_ok ok' (e1.trans ext) rep h
          exact hw ▸ hn V'' v hm' ok'' ext'' rep''
  | _ => simp [callV] at h
end Go.Ab
