/- Regions. -/
import Derived.Test.YtcmcgmcogknpfaaDoorES
set_option linter.unusedVariables false
set_option linter.unusedSimpArgs false
namespace Go.Ab
open Go

variable {cx : Cx} {F Y : CallT} {ops : Array Oper}

theorem evV_alloc {o : Oper} (ha : isA o = true) (hg : o.guard = none) {e : Env} {m m1 : Mem} {r : AV} (h : evV cx F Y ops o e m = some (r, m1)) :
    ∃ t z, o.op = .alloc t ∧ zeroT cx.P t = some z ∧ z.data = true ∧ r = .ptr m.length z.cells.length 0 ∧ m1 = m ++ [.box z.cells] := by
  cases hop : o.op with
  | alloc t =>
    have h6 : cls ops o = 6 := cls6.2 ha
    unfold evV mdOf wantA at h
    simp only [hg, h6, hop] at h
    simp only [evOp] at h
    rw [if_neg (by decide)] at h
    split at h
    · rename_i z hz
      split at h
      · rename_i hd
        simp only [Option.some.injEq, Prod.mk.injEq] at h
        exact ⟨t, z, rfl, hz, hd, h.1.symm, h.2.symm⟩
      · cases h
    · cases h
  | _ => simp [isA, hop] at ha

/-- The allocations, taken first. -/
theorem allocs (rf : RegFacts ops) : ∀ (is : List Nat), is.Nodup → (∀ i ∈ is, ∃ o, ops[i]? = some o ∧ isA o = true) → ∀ (e : Env) (m : Mem) (e1 : Env) (m1 : Mem), evList cx true F Y ops (opl ops is) e m = some (e1, m1) →
    ∃ (l : Mem) (ida : Nat → Nat), m1 = m ++ l ∧ (∀ i ∈ is, ∀ o, ops[i]? = some o → ∃ t z d, o.op = .alloc t ∧ zeroT cx.P t = some z ∧ z.data = true ∧ o.dst = some d ∧ e1 d = .ptr (ida i) z.cells.length 0 ∧ m.length ≤ ida i ∧ ida i < m1.length ∧ m1[ida i]? = some (.box z.cells)) ∧
      (∀ i ∈ is, ∀ j ∈ is, ida i = ida j → i = j)
  | [], _, _, e, m, e1, m1, h => by
    have h : some (e, m) = some (e1, m1) := h
    cases h
    exact ⟨[], fun _ => 0, by simp, fun i hi => by simp at hi, fun i hi => by simp at hi⟩
  | i :: is, hnd, hall, e, m, e1, m1, h => by
    obtain ⟨o, ho, ha⟩ := hall i (by simp)
    obtain ⟨hg, _, d, hd⟩ := rf.al i o ho ha
    have hcons : opl ops (i :: is) = o :: opl ops is := by simp [opl, ho]
    rw [hcons, evList_cons] at h
    obtain ⟨r, m2, h1, h2⟩ := h
    obtain ⟨t, z, hop, hz, hzd, rfl, rfl⟩ := evV_alloc ha hg h1
    obtain ⟨hni, hnd⟩ := List.nodup_cons.1 hnd
    obtain ⟨l, ida, rfl, hat, hinj⟩ := allocs rf is hnd (fun j hj => hall j (List.mem_cons_of_mem _ hj)) _ _ e1 m1 h2
    refine ⟨.box z.cells :: l, fun j => if j = i then m.length else ida j, by simp, fun j hj oj hoj => ?_, fun j hj k hk => ?_⟩
    · by_cases hji : j = i
      · subst hji
        rw [ho] at hoj; cases hoj
        refine ⟨t, z, d, hop, hz, hzd, hd, ?_, by simp, by simp, ?_⟩
        · simp only [if_true]
          have : e1 d = put e o.dst (.ptr m.length z.cells.length 0) d := evList_env h2 (fun x hx => by
            obtain ⟨k, hk, hxk⟩ := opl_mem hx
            exact dst_ne rf ho hxk (fun e => hni (e ▸ hk)) hd)
          rw [this, hd]; exact if_pos rfl
        · simp only [if_true]; simp
      · have hj' : j ∈ is := by simpa [hji] using hj
        obtain ⟨t', z', d', g1, g2, g3, g4, g5, g6, g7, g8⟩ := hat j hj' oj hoj
        refine ⟨t', z', d', g1, g2, g3, g4, ?_, ?_, ?_, ?_⟩
        · simp only [if_neg hji]; exact g5
        · simp only [if_neg hji]; simp at g6; omega
        · simp only [if_neg hji]; exact g7
        · simp only [if_neg hji]; exact g8
    · intro he
      have ge : ∀ q ∈ is, m.length + 1 ≤ ida q := fun q hq => by
        obtain ⟨oq, hoq, _⟩ := hall q (List.mem_cons_of_mem _ hq)
        obtain ⟨_, _, _, _, _, _, _, _, g6, _⟩ := hat q hq oq hoq
        simpa using g6
      by_cases hji : j = i <;> by_cases hki : k = i
      · rw [hji, hki]
      · have hk' : k ∈ is := by simpa [hki] using hk
        simp only [if_pos hji, if_neg hki] at he
        have := ge k hk'; omega
      · have hj' : j ∈ is := by simpa [hji] using hj
        simp only [if_neg hji, if_pos hki] at he
        have := ge j hj'; omega
      · have hk' : k ∈ is := by simpa [hki] using hk
        have hj' : j ∈ is := by simpa [hji] using hj
        simp only [if_neg hji, if_neg hki] at he
        exact hinj j hj' k hk' he

theorem okOps_dst {nt : Nat} (h : okOps nt ops = true) : ∀ (i : Nat) (o : Oper) (d : Nat), ops[i]? = some o → o.dst = some d → d < nt := by
  intro i o d ho hd
  unfold okOps at h
  rw [List.all_eq_true] at h
  have := h o (by simpa using Array.mem_of_getElem? ho)
  simpa [hd] using this

theorem region_draw_ok (hF : FunOK cx F) (hY : YldOK cx Y) (hX : CxOK cx) (hr : regOK ops = true) {nt : Nat} (hok : okOps nt ops = true) {V : Vw} {e : Env} {a : Act} (ok : Ok V) (gl : Gl cx V) (he : EnvRep V e a) (hsz : nt ≤ a.tmps.size)
    {e' : Env} {m' : Mem} (h : evList cx true F Y ops (drawn ops) e V.mem = some (e', m')) {fr : Option Nat} {Q : Exit → Act → World → Prop} {id : Nat}
    (hn : ∀ V' a', Ok V' → Ext V V' → V'.mem = m' → EnvRep V' e' a' → a'.tmps.size = a.tmps.size → a'.defers = a.defers → Q .normal a' V'.w) : (Code.region id ops true).wpIn (W fr) 0 cx.P Q a V.w := by
  refine wpIn_region_any hX.mixed ?_
  have rf := reg_facts hr
  let w1 : World := { V.w with drawn := V.w.drawn + 1 }
  have ok0 : Ok (V.at w1) := ok_sameHeap ok rfl rfl rfl rfl
  have ext0 : Ext V (V.at w1) := ext_sameHeap rfl rfl rfl rfl
  unfold drawn at h
  rw [evList_append] at h
  obtain ⟨e1, m1, h1, h2⟩ := h
  rw [opl_filter] at h1 h2
  obtain ⟨l, ida, rfl, hat, hinj⟩ := allocs rf _ (List.Pairwise.filter _ List.nodup_range) (fun i hi => by
    obtain ⟨hi1, hi2⟩ := List.mem_filter.1 hi
    have hlt : i < ops.size := by simpa using hi1
    refine ⟨ops[i], Array.getElem?_eq_getElem hlt, ?_⟩
    simpa [pI, Array.getElem?_eq_getElem hlt] using hi2) e V.mem e1 _ h1
  have okg : Ok ((V.at w1).grow l) := ok_grow ok0 l
  have extg : Ext (V.at w1) ((V.at w1).grow l) := ext_grow _ l
  have hmem : ∀ (i : Nat) (x : Oper), ops[i]? = some x → isA x = true → i ∈ (List.range ops.size).filter (pI ops isA) := fun i x hx hxa =>
    List.mem_filter.2 ⟨by simpa using (Array.getElem?_eq_some_iff.1 hx).1, by simp [pI, hx, hxa]⟩
  have hall : ∀ j, (Array.replicate ops.size false).getD j true = true ↔ ops.size ≤ j := by
    intro j
    by_cases hj : j < ops.size
    · simp [hj]
    · simp [Nat.not_lt.1 hj]
  refine any_ok hF hY hX rf (nt := a.tmps.size) (fun i o d ho hd => Nat.lt_of_lt_of_le (okOps_dst hok i o d ho hd) hsz) (V0 := V.at w1) (gl.mono ext0) (e0 := e) (eF := e') (mF := m') (ida := ida)
    (fun i j x y hx hxa hy hya hij => hinj i (hmem i x hx hxa) j (hmem j y hy hya) hij) (D := a.defers) (fun V' a' o' x' hm' he' hs' hd' => hn V' a' o' (ext0.trans x') hm' he' hs' hd')
    ops.size (Array.replicate ops.size false) ((V.at w1).grow l) e1 a (by simp) ?_ ?_ okg extg ?_ ?_ ?_ rfl rfl
  · unfold lft
    exact Nat.le_trans (List.length_filter_le _ _) (by simp)
  · intro j o ho hj
    have hj' : j < ops.size := (Array.getElem?_eq_some_iff.1 ho).1
    simp [hj'] at hj
  · have : lft ops (nonA ops) (Array.replicate ops.size false) = (List.range ops.size).filter (pI ops fun o => !isA o) := by
      unfold lft nonA
      apply List.filter_congr
      intro j hj
      have hj' : j < ops.size := by simpa using hj
      simp [hj']
    rw [this]
    exact h2
  · intro i o ho ha _
    obtain ⟨t, z, d, g1, g2, g3, g4, g5, g6, g7, g8⟩ := hat i (hmem i o ho ha) o ho
    refine ⟨t, z, d, g1, g2, g3, g4, g5, g6, g7, ?_, .inl g8⟩
    cases hrs : V.rs (ida i) with
    | none => exact hrs
    | some b => have := (ok.rb _ b hrs).2; omega
  · intro t
    by_cases hp : PendT ops (Array.replicate ops.size false) t
    · rw [mix_of hp]; exact (he t).mono (ext0.trans extg)
    · rw [mix_not hp]
      have : e1 t = e t := evList_env h1 (fun x hx hxd => by
        obtain ⟨k, hk, hxk⟩ := opl_mem hx
        obtain ⟨hk1, hk2⟩ := List.mem_filter.1 hk
        have hklt : k < ops.size := by simpa using hk1
        refine hp ⟨k, x, hxk, by simpa [pI, hxk] using hk2, by simp [hklt], hxd⟩)
      rw [this]; exact (he t).mono (ext0.trans extg)

theorem ops_ok (hF : FunOK cx F) (hY : YldOK cx Y) (hX : CxOK cx) {nt : Nat} (hok : okOps nt ops = true) {e' : Env} {m' : Mem} {fr : Option Nat} {Q : Exit → Act → World → Prop} : ∀ (is : List Nat) {V : Vw} {e : Env} {a : Act}, Ok V → Gl cx V → EnvRep V e a → nt ≤ a.tmps.size →
    evList cx false F Y ops (opl ops is) e V.mem = some (e', m') →
    (∀ V' a', Ok V' → Ext V V' → V'.mem = m' → EnvRep V' e' a' → a'.tmps.size = a.tmps.size → a'.defers = a.defers → Q .normal a' V'.w) → wpOpsIn (W fr) 0 cx.P ops Q is a V.w
  | [], V, e, a, ok, gl, he, hsz, h, hn => by
    have h : some (e, V.mem) = some (e', m') := h
    simp only [Option.some.injEq, Prod.mk.injEq] at h
    obtain ⟨rfl, hm⟩ := h
    exact hn V a ok (Ext.refl V) hm he rfl rfl
  | i :: is, V, e, a, ok, gl, he, hsz, h, hn => by
    unfold wpOpsIn
    cases ho : ops[i]? with
    | none =>
      have : opl ops (i :: is) = opl ops is := by simp [opl, ho]
      rw [this] at h
      exact ops_ok hF hY hX hok is ok gl he hsz h hn
    | some o =>
      have hcons : opl ops (i :: is) = o :: opl ops is := by simp [opl, ho]
      rw [hcons] at h
      simp only
      have next : ∀ {V' : Vw} {u : Value} {r : AV}, Ok V' → Ext V V' → Rep V' r u → evList cx false F Y ops (opl ops is) (put e o.dst r) V'.mem = some (e', m') → wpOpsIn (W fr) 0 cx.P ops Q is (a.put o.dst u) V'.w := by
        intro V' u r ok' ext' hr hev
        have hs : (a.put o.dst u).tmps.size = a.tmps.size := by cases o.dst <;> simp [Act.put]
        have hd : (a.put o.dst u).defers = a.defers := by cases o.dst <;> rfl
        refine ops_ok hF hY hX hok is ok' (gl.mono ext') ((he.mono ext').put hr (fun t ht => Nat.lt_of_lt_of_le (okOps_dst hok i o t ho ht) hsz)) (by omega) hev (fun V2 a2 o2 x2 hm he2 hs2 hd2 => hn V2 a2 o2 (ext'.trans x2) hm he2 (by omega) (by rw [hd2, hd]))
      change (match evOne cx false F Y ops o e V.mem with | some (e', m') => evList cx false F Y ops (opl ops is) e' m' | none => none) = some (e', m') at h
      unfold evOne at h
      cases hw : wantA ops e o with
      | none => simp [hw] at h
      | some b =>
        rw [want_ok he hw]
        cases b with
        | true =>
          simp only [hw, Bool.false_eq_true, if_false] at h
          simp only [if_true]
          cases hop : evOp cx 0 F Y e V.mem o.op with
          | none => simp [hop] at h
          | some rm =>
            obtain ⟨r, m1⟩ := rm
            simp only [hop] at h
            exact op_ok hF hY hX ok gl he hop fr _ Q (fun V' v hm ok' ext' hr => next ok' ext' hr (by rw [hm]; exact h))
        | false =>
          simp only [hw] at h
          simp only [Bool.false_eq_true, if_false]
          exact ⟨fun _ _ => trivial, next ok (Ext.refl V) (undef_rep V) h⟩

theorem region_text_ok (hF : FunOK cx F) (hY : YldOK cx Y) (hX : CxOK cx) {nt : Nat} (hok : okOps nt ops = true) {V : Vw} {e : Env} {a : Act} (ok : Ok V) (gl : Gl cx V) (he : EnvRep V e a) (hsz : nt ≤ a.tmps.size)
    {e' : Env} {m' : Mem} (h : evList cx false F Y ops ops.toList e V.mem = some (e', m')) {fr : Option Nat} {Q : Exit → Act → World → Prop} {id : Nat}
    (hn : ∀ V' a', Ok V' → Ext V V' → V'.mem = m' → EnvRep V' e' a' → a'.tmps.size = a.tmps.size → a'.defers = a.defers → Q .normal a' V'.w) : (Code.region id ops false).wpIn (W fr) 0 cx.P Q a V.w := by
  refine wpIn_region (ops_ok hF hY hX hok _ ok gl he hsz ?_ hn)
  have : opl ops (List.range ops.size) = ops.toList := by
    have := range_get ops.toList
    simpa [opl] using this
  rw [this]; exact h
end Go.Ab
