/- Regions that draw their order, whole. -/
import Derived.Test.YtcmcgmcogknpfaaDoorER
set_option linter.unusedVariables false
set_option linter.unusedSimpArgs false
namespace Go.Ab
open Go

variable {cx : Cx} {F Y : CallT} {ops : Array Oper}

def nonA (ops : Array Oper) : Nat → Bool := pI ops (fun o => !isA o)
def PendT (ops : Array Oper) (listed : Array Bool) (t : Nat) : Prop := ∃ i o, ops[i]? = some o ∧ isA o = true ∧ listed.getD i true = false ∧ o.dst = some t
noncomputable def mix (ops : Array Oper) (listed : Array Bool) (e0 e : Env) : Env := fun t => @ite _ (PendT ops listed t) (Classical.propDecidable _) (e0 t) (e t)
theorem mix_of {listed : Array Bool} {e0 e : Env} {t : Nat} (h : PendT ops listed t) : mix ops listed e0 e t = e0 t := if_pos h
theorem mix_not {listed : Array Bool} {e0 e : Env} {t : Nat} (h : ¬ PendT ops listed t) : mix ops listed e0 e t = e t := if_neg h

/-- Allocations that have not been reached yet: each has its abstract block, and no place. -/
def Pend (cx : Cx) (ops : Array Oper) (V0 V : Vw) (listed : Array Bool) (ida : Nat → Nat) (e : Env) : Prop :=
  ∀ (i : Nat) (o : Oper), ops[i]? = some o → isA o = true → listed.getD i true = false → ∃ t z d, o.op = .alloc t ∧ zeroT cx.P t = some z ∧ z.data = true ∧ o.dst = some d ∧
    e d = .ptr (ida i) z.cells.length 0 ∧ V0.mem.length ≤ ida i ∧ ida i < V.mem.length ∧ V.rs (ida i) = none ∧ (V.mem[ida i]? = some (.box z.cells) ∨ V.mem[ida i]? = some .dead)

theorem dst_ne (rf : RegFacts ops) {i j : Nat} {x y : Oper} (hx : ops[i]? = some x) (hy : ops[j]? = some y) (hne : i ≠ j) {d : Nat} (hd : x.dst = some d) : y.dst ≠ some d := by
  rcases Nat.lt_or_ge i j with h | h
  · have := rf.pair i j x y hx hy h
    unfold pairOK at this
    simp only [hd, Bool.and_eq_true, bne_iff_ne] at this
    exact this.1.1.1
  · have := rf.pair j i y x hy hx (by omega)
    unfold pairOK at this
    simp only [Bool.and_eq_true] at this
    intro hyd
    rw [hyd] at this
    simp [hd] at this

/-- What a ready operation looks at waits for nothing. -/
theorem looks_free (rf : RegFacts ops) {listed : Array Bool} (hc : Closed ops listed) {i j : Nat} {x y : Oper} (hx : ops[i]? = some x) (hy : ops[j]? = some y) (hne : i ≠ j)
    (hxl : listed.getD i true = false) (hyr : ∀ e ∈ y.after, bindE e = true → listed.getD e.on false = true) (hord : i < j ∨ x.after = #[]) {d : Nat} (hd : x.dst = some d) : d ∉ y.looksAt ops := by
  intro hin
  rcases Nat.lt_or_ge i j with h | h
  · have := rf.pair i j x y hx hy h
    unfold pairOK at this
    simp only [hd, Bool.and_eq_true, Bool.or_eq_true, Bool.not_eq_true', List.contains_eq_mem] at this
    rcases this.1.1.2 with h1 | h1
    · simp [hin] at h1
    · have h2 := getD_of_true (anc_listed rf hc j i y hy hyr h1)
      rw [hxl] at h2; cases h2
  · have haf : x.after = #[] := hord.resolve_left (by omega)
    have := rf.pair j i y x hy hx (by omega)
    unfold pairOK at this
    simp only [hd, Bool.and_eq_true, Bool.or_eq_true, Bool.not_eq_true', List.contains_eq_mem] at this
    rcases this.1.2 with h1 | h1
    · simp [hin] at h1
    · obtain ⟨o, ho, e, he, _⟩ := ancs_bit h1
      have : o = x := by rw [Array.getElem?_toList, hx] at ho; cases ho; rfl
      subst this
      rw [haf] at he; simp at he

theorem free_of (rf : RegFacts ops) {listed : Array Bool} (hc : Closed ops listed) {i j : Nat} {x y : Oper} (hx : ops[i]? = some x) (hy : ops[j]? = some y) (hij : i < j) (hxl : listed.getD i true = false)
    (hyr : ∀ e ∈ y.after, bindE e = true → listed.getD e.on false = true) (hxa : isA x = false) (hya : isA y = false) : Free ops x y := by
  have hno : ((ancs ops.toList).getD j 0).testBit i = false := by
    cases h : ((ancs ops.toList).getD j 0).testBit i with
    | false => rfl
    | true => have h2 := getD_of_true (anc_listed rf hc j i y hy hyr h); rw [hxl] at h2; cases h2
  have hp := rf.pair i j x y hx hy hij
  unfold pairOK at hp
  rw [hno] at hp
  simp only [Bool.or_false, Bool.and_eq_true] at hp
  refine ⟨fun d hd => ?_, fun d hd => ?_, by simpa using hp.2, fun h => (by rw [cls6.1 h] at hxa; cases hxa), fun h => (by rw [cls6.1 h] at hya; cases hya)⟩
  · have := hp.1.1; rw [hd] at this; simpa using this
  · have := hp.1.2; rw [hd] at this; simpa using this

/-- A new block's run. -/
theorem alloc_raw {P : Program} {w : World} {t : Nat} {z : AV} (hz : zeroT P t = some z) :
    ∃ v, ofV v = some z ∧ (Instr.alloc t true (.tuple #[])).run P w = .ok (.pointer (some ⟨w.heap.size, 0, none⟩)) (w.alloc (.cells v.cells t)) := by
  obtain ⟨i, v, h1, h2, h3, _⟩ := zero_rep hz
  refine ⟨v, h3, ?_⟩
  have hzr : (zeroValue t).run P w = .ok v w := by simp [zeroValue, run_tinfo h1, h2]
  simp only [Instr.alloc, Sem.run_bind, hzr, Result.andThen_ok]
  rfl

theorem any_ok (hF : FunOK cx F) (hY : YldOK cx Y) (hX : CxOK cx) (rf : RegFacts ops) {nt : Nat} (hdst : ∀ (i : Nat) (o : Oper) (d : Nat), ops[i]? = some o → o.dst = some d → d < nt) {V0 : Vw} (gl : Gl cx V0) {e0 eF : Env} {mF : Mem} {ida : Nat → Nat}
    (hinj : ∀ (i j : Nat) (x y : Oper), ops[i]? = some x → isA x = true → ops[j]? = some y → isA y = true → ida i = ida j → i = j) {D : List Deferred} {fr : Option Nat} {Q : Exit → Act → World → Prop}
    (hQ : ∀ V' a', Ok V' → Ext V0 V' → V'.mem = mF → EnvRep V' eF a' → a'.tmps.size = nt → a'.defers = D → Q .normal a' V'.w) :
    ∀ (fuel : Nat) (listed : Array Bool) (V : Vw) (e : Env) (a : Act), listed.size = ops.size → (lft ops (fun _ => true) listed).length ≤ fuel → Closed ops listed → Ok V → Ext V0 V →
      evList cx true F Y ops (opl ops (lft ops (nonA ops) listed)) e V.mem = some (eF, mF) → Pend cx ops V0 V listed ida e → EnvRep V (mix ops listed e0 e) a → a.tmps.size = nt → a.defers = D →
      wpAnyIn (W fr) 0 cx.P .any ops Q fuel listed a V.w := by
  -- when none is left
  have fin : ∀ (listed : Array Bool) (V : Vw) (e : Env) (a : Act), Ok V → Ext V0 V → evList cx true F Y ops (opl ops (lft ops (nonA ops) listed)) e V.mem = some (eF, mF) → EnvRep V (mix ops listed e0 e) a → a.tmps.size = nt → a.defers = D →
      (∀ j, j < ops.size → listed.getD j true = true) → Q .normal a V.w := by
    intro listed V e a ok ext hev henv hsz hdf hall
    have hnil : lft ops (nonA ops) listed = [] := by
      rw [List.eq_nil_iff_forall_not_mem]
      intro j hj
      obtain ⟨h1, h2, _⟩ := lft_mem.1 hj
      rw [hall j h1] at h2; cases h2
    rw [hnil] at hev
    have hev : some (e, V.mem) = some (eF, mF) := hev
    simp only [Option.some.injEq, Prod.mk.injEq] at hev
    obtain ⟨rfl, hm⟩ := hev
    refine hQ V a ok ext hm (fun t => ?_) hsz hdf
    have := henv t
    rwa [mix_not (fun ⟨i, o, ho, _, hl, _⟩ => by rw [hall i (Array.getElem?_eq_some_iff.1 ho).1] at hl; cases hl)] at this
  intro fuel
  induction fuel with
  | zero =>
    intro listed V e a hls hfu hcl ok ext hev hpend henv hsz hdf
    have hall : ∀ j, j < ops.size → listed.getD j true = true := by
      intro j hj
      cases h : listed.getD j true with
      | true => rfl
      | false =>
        have : j ∈ lft ops (fun _ => true) listed := lft_mem.2 ⟨hj, h, rfl⟩
        rw [List.eq_nil_of_length_eq_zero (Nat.le_zero.1 hfu)] at this
        simp at this
    refine ⟨?_, fin listed V e a ok ext hev henv hsz hdf hall⟩
    rw [List.eq_nil_iff_forall_not_mem]
    intro j hj
    obtain ⟨h1, o, ho, _⟩ := mem_ready.1 hj
    rw [hall j (Array.getElem?_eq_some_iff.1 ho).1] at h1; cases h1
  | succ fuel ih =>
    intro listed V e a hls hfu hcl ok ext hev hpend henv hsz hdf
    refine ⟨fun hr => ?_, fun i hi => ?_⟩
    · refine fin listed V e a ok ext hev henv hsz hdf (fun j => ?_)
      induction j using Nat.strongRecOn with
      | _ j ihj =>
      intro hj
      cases h : listed.getD j true with
      | true => rfl
      | false =>
        exfalso
        have ho : ops[j]? = some ops[j] := Array.getElem?_eq_getElem hj
        have : j ∈ Region.ready .any ops listed := mem_ready.2 ⟨h, _, ho, fun ed hed hb => by
          have hlt := rf.back j _ ho ed hed hb
          have := ihj ed.on hlt (by omega)
          have hin : ed.on < listed.size := by omega
          simpa [hin] using this⟩
        rw [hr] at this; simp at this
    · -- one that is ready
      obtain ⟨hil, o, ho, haft⟩ := mem_ready.1 hi
      have hin : i < ops.size := (Array.getElem?_eq_some_iff.1 ho).1
      have hins : i < listed.size := by omega
      have hls' : (listed.setIfInBounds i true).size = ops.size := by simp [hls]
      have hfu' : (lft ops (fun _ => true) (listed.setIfInBounds i true)).length ≤ fuel := by
        obtain ⟨A, B, h1, h2, _⟩ := lft_split (p := fun _ => true) hin hil rfl
        rw [h1] at hfu; rw [h2]
        simp at hfu ⊢; omega
      have hcl' : Closed ops (listed.setIfInBounds i true) := by
        intro j oj hoj hj ed hed hb
        have key : listed.getD ed.on false = true := by
          by_cases hji : j = i
          · subst hji; rw [ho] at hoj; cases hoj; exact haft ed hed hb
          · rw [getD_set_ne false (fun e => hji e.symm)] at hj; exact hcl j oj hoj hj ed hed hb
        by_cases hei : ed.on = i
        · rw [hei]; exact getD_set_self hins
        · rw [getD_set_ne false (fun e => hei e.symm)]; exact key
      have hpl : ∀ j, (listed.setIfInBounds i true).getD j true = false → j ≠ i ∧ listed.getD j true = false := by
        intro j hj
        by_cases hji : j = i
        · subst hji; rw [getD_set_self hins] at hj; cases hj
        · rw [getD_set_ne true (fun e => hji e.symm)] at hj; exact ⟨hji, hj⟩
      have hpt : ∀ t, PendT ops (listed.setIfInBounds i true) t ↔ PendT ops listed t ∧ ¬ (isA o = true ∧ o.dst = some t) := by
        intro t
        constructor
        · rintro ⟨j, oj, hoj, ha, hj, hjd⟩
          obtain ⟨hne, hj⟩ := hpl j hj
          exact ⟨⟨j, oj, hoj, ha, hj, hjd⟩, fun ⟨_, hd⟩ => dst_ne rf hoj ho hne hjd hd⟩
        · rintro ⟨⟨j, oj, hoj, ha, hj, hjd⟩, hn⟩
          have hne : j ≠ i := fun e => by subst e; rw [ho] at hoj; cases hoj; exact hn ⟨ha, hjd⟩
          exact ⟨j, oj, hoj, ha, by rw [getD_set_ne true (fun e => hne e.symm)]; exact hj, hjd⟩
      unfold wpOpIn
      simp only [ho]
      cases hA : isA o with
      | true =>
        obtain ⟨hg, haf, d, hd⟩ := rf.al i o ho hA
        obtain ⟨t, z, d', hop, hz, hzd, hd', hed, hid0, hidl, hrs, hmem⟩ := hpend i o ho hA hil
        have : d' = d := by rw [hd] at hd'; cases hd'; rfl
        subst this
        have hw : Region.wanted o (yielded ops a.tmps) = true := by unfold Region.wanted; rw [hg]
        simp only [hw, if_true]
        have hdef : ∀ c, o.op ≠ .defer c := by intro c hc; rw [hop] at hc; cases hc
        refine ⟨fun _ _ => trivial, ?_⟩
        rw [Oper.semAt_eq _ _ _ hdef]
        obtain ⟨v, hv, hrun⟩ := alloc_raw (P := cx.P) (w := V.w) hz
        have hrun' : (execOp a.eval o).run cx.P V.w = .ok (.value (.pointer (some ⟨V.w.heap.size, 0, none⟩))) (V.w.alloc (.cells v.cells t)) := by
          obtain ⟨dst, op, ty, pos, aft, gd⟩ := o
          simp only at hop
          subst hop
          simp only [execOp, Sem.run_bind, hrun, Result.andThen_ok, Sem.run_pure]
        rw [hrun', Oper.uponIn_value, hd]
        have hbk : ∀ k, V.mem[ida i]? = some k → BlkOk (V.lay (ida i) (.cells v.cells t) (V.cp (ida i))) (ida i) V.w.heap.size k := by
          intro k hk
          rcases hmem with hm | hm
          · rw [hm] at hk; cases hk
            have hr := ofV_rep (V.lay (ida i) (.cells v.cells t) (V.cp (ida i))) v z hv
            obtain ⟨hr1, hr2, _⟩ := hr.cells (not_tup hzd)
            exact ⟨v.cells, t, lay_new V _ _ _, hr1, hr2⟩
          · rw [hm] at hk; cases hk; trivial
        have ok' := ok_lay ok (.cells v.cells t) hidl hrs hbk
        have ext' := ext_lay ext ok (.cells v.cells t) hid0
        have hrep : Rep (V.lay (ida i) (.cells v.cells t) (V.cp (ida i))) (.ptr (ida i) z.cells.length 0) (.pointer (some ⟨V.w.heap.size, 0, none⟩)) := by
          refine .ptr _ _ _ _ rfl ⟨hidl, fun v0 h0 => ?_⟩ (fun _ => ⟨V.w.heap.size, by simp [Vw.lay], rfl⟩)
          have h0 : verOf V.mem (ida i) = some v0 := h0
          rcases hmem with hm | hm
          · rw [verOf_some hm] at h0; simp [shpB] at h0; omega
          · rw [verOf_some hm] at h0; simp [shpB] at h0
        refine ih (listed.setIfInBounds i true) (V.lay (ida i) (.cells v.cells t) (V.cp (ida i))) e _ hls' hfu' hcl' ok' ext' ?_ ?_ ?_ ?_ ?_
        · rw [lft_skip (by unfold nonA pI; rw [ho]; simp [hA])]; exact hev
        · intro j oj hoj hja hjl
          obtain ⟨hne, hjl⟩ := hpl j hjl
          obtain ⟨t', z', d2, h1, h2, h3, h4, h5, h6, h7, h8, h9⟩ := hpend j oj hoj hja hjl
          refine ⟨t', z', d2, h1, h2, h3, h4, h5, h6, h7, ?_, h9⟩
          have : ida j ≠ ida i := fun e => hne (hinj j i oj o hoj hja ho hA e)
          simp only [Vw.lay, if_neg this]; exact h8
        · have hold : EnvRep (V.lay (ida i) (.cells v.cells t) (V.cp (ida i))) (mix ops listed e0 e) a := fun t => lay_rep ok _ hrs (henv t)
          have := hold.put (d := some d') hrep (fun t ht => by cases ht; rw [hsz]; exact hdst i o _ ho hd)
          intro t'
          have h2 := this t'
          by_cases htd : t' = d'
          · subst htd
            rw [mix_not (fun h => ((hpt t').1 h).2 ⟨hA, hd⟩), hed]
            have : Ab.put (mix ops listed e0 e) (some t') (.ptr (ida i) z.cells.length 0) t' = .ptr (ida i) z.cells.length 0 := if_pos rfl
            rw [this] at h2; exact h2
          · rw [put_ne (fun h => htd (by cases h; rfl))] at h2
            by_cases hp : PendT ops listed t'
            · rw [mix_of ((hpt t').2 ⟨hp, fun ⟨_, h⟩ => by rw [hd] at h; cases h; exact htd rfl⟩)]
              rw [mix_of hp] at h2; exact h2
            · rw [mix_not (fun h => hp ((hpt t').1 h).1)]
              rw [mix_not hp] at h2; exact h2
        · simpa [Act.put] using hsz
        · simpa [Act.put] using hdf
      | false =>
        have hnA : nonA ops i = true := by unfold nonA pI; rw [ho]; simp [hA]
        obtain ⟨A, B, hL, hL', hlt⟩ := lft_split hin hil hnA
        rw [hL, opl_append, evList_append] at hev
        obtain ⟨e1, m1, hev1, hev2⟩ := hev
        have hcons : opl ops (i :: B) = o :: opl ops B := by simp [opl, ho]
        rw [hcons, evList_cons] at hev2
        obtain ⟨s, m2, hs, hev3⟩ := hev2
        have hfree : ∀ x ∈ opl ops A, Free ops x o := by
          intro x hx
          obtain ⟨k, hk, hxk⟩ := opl_mem hx
          have hkm : k ∈ lft ops (nonA ops) listed := by rw [hL]; simp [hk]
          obtain ⟨_, hkl, hkn⟩ := lft_mem.1 hkm
          have hxa : isA x = false := by unfold nonA pI at hkn; rw [hxk] at hkn; simpa using hkn
          exact free_of rf hcl hxk ho (hlt k hk) hkl haft hxa hA
        -- what waits is not looked at
        have hlook : ∀ t ∈ o.looksAt ops, ¬ PendT ops listed t := by
          rintro t ht ⟨j, oj, hoj, hja, hjl, hjd⟩
          have hne : j ≠ i := fun e => by subst e; rw [ho] at hoj; cases hoj; rw [hA] at hja; cases hja
          exact looks_free rf hcl hoj ho hne hjl haft (.inr (rf.al j oj hoj hja).2.1) hjd ht
        have hlook' : ∀ t ∈ o.looksAt ops, e t = mix ops listed e0 e t := fun t ht => (mix_not (hlook t ht)).symm
        have glV := gl.mono ext
        obtain ⟨m', hv, hrest⟩ := swap ok glV henv hlook' hev1 hs hfree
        have hdn : ∀ t, o.dst = some t → ¬ PendT ops listed t := by
          rintro t ht ⟨j, oj, hoj, hja, hjl, hjd⟩
          have hne : j ≠ i := fun e => by subst e; rw [ho] at hoj; cases hoj; rw [hA] at hja; cases hja
          exact dst_ne rf hoj ho hne hjd ht
        -- and behind it
        have next : ∀ V' u, V'.mem = m' → Ok V' → Ext V V' → Rep V' s u → wpAnyIn (W fr) 0 cx.P .any ops Q fuel (listed.setIfInBounds i true) (a.put o.dst u) V'.w := by
          intro V' u hm ok' ext' hr
          refine ih (listed.setIfInBounds i true) V' (put e o.dst s) _ hls' hfu' hcl' ok' (ext.trans ext') ?_ ?_ ?_ ?_ ?_
          · rw [hL', opl_append, evList_append, hm]
            exact ⟨_, _, hrest, hev3⟩
          · intro j oj hoj hja hjl
            obtain ⟨hne, hjl⟩ := hpl j hjl
            obtain ⟨t', z', d2, h1, h2, h3, h4, h5, h6, h7, h8, h9⟩ := hpend j oj hoj hja hjl
            obtain ⟨g1, g2⟩ := ext'.nn (ida j) h7 h8
            refine ⟨t', z', d2, h1, h2, h3, h4, ?_, h6, Nat.lt_of_lt_of_le h7 ext'.len, g1, ?_⟩
            · rw [put_ne (fun h => hdn d2 h ⟨j, oj, hoj, hja, hjl, h4⟩)]; exact h5
            · rcases g2 with g2 | g2
              · rw [g2]; exact h9
              · exact .inr g2
          · have := (henv.mono ext').put (d := o.dst) hr (fun t ht => by rw [hsz]; exact hdst i o t ho ht)
            intro t
            have h2 := this t
            by_cases hp : PendT ops listed t
            · rw [put_ne (fun h => hdn t h hp), mix_of hp] at h2
              rw [mix_of ((hpt t).2 ⟨hp, fun ⟨h, _⟩ => by rw [hA] at h; cases h⟩)]; exact h2
            · rw [mix_not (fun h => hp ((hpt t).1 h).1)]
              by_cases hdt : o.dst = some t
              · rw [hdt] at h2 ⊢
                have e1 : ∀ (q : Env), Ab.put q (some t) s t = s := fun q => if_pos rfl
                rw [e1] at h2 ⊢; exact h2
              · rw [put_ne hdt, mix_not hp] at h2
                rw [put_ne hdt]; exact h2
          · cases o.dst <;> simpa [Act.put] using hsz
          · cases o.dst <;> simpa [Act.put] using hdf
        rw [evV_congr hlook'] at hv
        unfold evV at hv
        cases hw : wantA ops (mix ops listed e0 e) o with
        | none => simp [hw] at hv
        | some b =>
          rw [want_ok henv hw]
          cases b with
          | true =>
            simp only [hw] at hv
            simp only [if_true]
            exact op_ok hF hY hX ok glV henv hv fr _ Q next
          | false =>
            simp only [hw] at hv
            cases hv
            simp only [Bool.false_eq_true, if_false]
            exact ⟨fun _ _ => trivial, next V undef rfl ok (Ext.refl V) (undef_rep V)⟩
end Go.Ab
