/- Code: what the evaluator gives, the machine does. -/
import Derived.Test.YtcmcgmcogknpfaaDoorEU
set_option linter.unusedVariables false
set_option linter.unusedSimpArgs false
namespace Go.Ab
open Go

variable {cx : Cx} {F Y : CallT}

def Dfs (top : Bool) (N : Nat) (V : Vw) (ds : List Deferred) : Prop := if top = true then Marks N V ds else ds = []
theorem Dfs.mono {top : Bool} {N : Nat} {V V' : Vw} (e : Ext V V') {ds : List Deferred} (h : Dfs top N V ds) : Dfs top N V' ds := by
  unfold Dfs at h ⊢
  split
  · rename_i ht; rw [if_pos ht] at h; exact h.mono e
  · rename_i ht; rw [if_neg ht] at h; exact h

theorem under_mono' {N M : Nat} (h : N ≤ M) {x : AV} (hu : x.under N = true) : x.under M = true := under_mono h hu

/-- The statement 'for .. := range g'. -/
theorem range_ok (hF : FunOK cx F) {N nt : Nat} {g : Operand} {ps : Array Tmp} {ac bc : Code} (hok : okCode nt (.rangeFunc g ps ac bc) = true) {n : Nat} {e e' : Env} {m m' : Mem} {x : Exit}
    (h : evCode cx F Y n true (.rangeFunc g ps ac bc) e m = some (x, e', m')) {V : Vw} {a : Act} {Q : Exit → Act → World → Prop} (ok : Ok V) (gl : Gl cx V) (hm : V.mem = m) (he : EnvRep V e a) (hsz : nt ≤ a.tmps.size)
    (hd : Marks N V a.defers) (hN : N ≤ V.w.heap.size)
    (hn : ∀ V' a', Ok V' → Ext V V' → V'.mem = m' → EnvRep V' e' a' → a'.tmps.size = a.tmps.size → Marks N V' a'.defers → Q x a' V'.w) : (Code.rangeFunc g ps ac bc).wpIn (W none) 0 cx.P Q a V.w := by
  subst hm
  simp only [evCode, if_true] at h
  split at h
  case h_2 => cases h
  rename_i f first cap hg
  split at h
  case h_2 => cases h
  rename_i rm hcall
  obtain ⟨r0, m2⟩ := rm
  split at h
  case h_2 => cases h
  rename_i env' ps' a' b' st pend hlp
  split at h
  case isFalse => cases h
  rename_i hund
  simp only at hlp hund
  -- the record
  let D := V.w.heap.size
  let rec0 : Nat → Loop := fun fn => { state := .ready, pending := none, fn, tmps := a.tmps, params := ps, assign := ac, body := bc, defers := D }
  have okc := hok
  simp only [okCode, Bool.and_eq_true, List.all_eq_true, decide_eq_true_eq] at okc
  refine wpIn_rangeFunc (fun fn _ => ?_)
  have hgv := evX_ok gl he hg
  obtain ⟨fs, cs, hga, hfs, hcs, hr1, hr2⟩ : ∃ fs cs, a.eval g = .func (.func f) fs cs ∧ fs.size = first.length ∧ cs.size = cap.length ∧
      (∀ (j : Nat) (x : AV) (c : Value), first[j]? = some x → fs[j]? = some c → Rep V x c) ∧ (∀ (j : Nat) (x : AV) (c : Value), cap[j]? = some x → cs[j]? = some c → Rep V x c) := by
    generalize a.eval g = q at hgv
    cases hgv with
    | fn _ _ _ fs cs h1 h2 h3 h4 => exact ⟨fs, cs, rfl, h1, h2, h3, h4⟩
  -- the view in which the function is called
  let V1 : Vw := V.junk (.deferred (some []))
  have ok1 : Ok V1 := ok_junk ok _
  have ext1 : Ext V V1 := ext_junk ok _
  let k : Blk := .lp e ps.toList ac bc .ready none
  let V2 : Vw := V1.new k (.loop (rec0 fn)) 0
  have ext2 : Ext V1 V2 := ext_new ok1 k _ 0
  have hb2 : BlkOk V2 V1.mem.length V1.w.heap.size k := by
    refine ⟨rec0 fn, new_heap V1 _ _ _, rfl, rfl, ⟨by simp [rec0], nt, hsz, okc.1.2, okc.2, okc.1.1⟩, rfl, rfl, fun t => ?_, fun t => ?_⟩
    · exact rep_under ((he t).mono ext1)
    · exact ((he t).mono ext1).mono ext2
  have ok2 : Ok V2 := ok_new ok1 k _ 0 hb2
  have ext02 : Ext V V2 := ext1.trans ext2
  have hsz1 : V1.w.heap.size = D + 1 := by simp [V1, Vw.junk, D]
  have hyr : Rep V2 (.yld V.mem.length) (.func (.yield (D + 1)) #[] #[]) := by
    have hv0 : (shpB k).map (·.1) = some 0 := rfl
    have hrs := new_rs V1 k (.loop (rec0 fn)) 0
    refine .yld V.mem.length _ rfl (new_hd V1 k (.loop (rec0 fn)) 0 hv0) (fun _ => ⟨D + 1, ?_, rfl⟩)
    rw [hsz1] at hrs
    exact hrs
  have hargs : Reps V2 (first ++ [AV.yld V.mem.length] ++ cap) ((fs ++ #[Value.func (.yield (D + 1)) #[] #[]]) ++ cs).toList := by
    refine reps_app (reps_app ?_ ?_) ?_
    · exact ⟨by simpa using hfs, fun j x u hx hu => (hr1 j x u hx (by simpa using hu)).mono ext02⟩
    · exact Reps.cons hyr (Reps.nil _)
    · exact ⟨by simpa using hcs, fun j x u hx hu => (hr2 j x u hx (by simpa using hu)).mono ext02⟩
  have hcallee := hF.ok f _ _ r0 m2 V2 ((fs ++ #[Value.func (.yield (D + 1)) #[] #[]]) ++ cs) hcall ok2 (gl.mono ext02) rfl hargs
  have hen := hF.enters _ _ _ _ hcall
  refine ⟨D + 1, [{ target := .collected D, args := #[] }], V2.w, { target := .fn (.func f) cs, args := fs ++ #[Value.func (.yield (D + 1)) #[] #[]] }, V2.w, f, (fs ++ #[Value.func (.yield (D + 1)) #[] #[]]) ++ cs, V2.w,
    run_enterLoop_outer fn a.tmps ps ac bc, ?_, fun _ _ => trivial, hen.run _ _, fun h => by simp [W] at h, ?_⟩
  · have hm1 : #[Operand.const (Value.func (Fn.yield (D + 1)) #[] #[])].map a.eval = #[Value.func (Fn.yield (D + 1)) #[] #[]] := by simp [Act.eval]
    simp only [resolve, rangeCall, hga, hm1]
    rfl
  refine callsIn_W (hcallee.mono ?_)
  rintro en w' ⟨v, V3, rfl, rfl, hm3, ok3, ext3, rep3⟩
  -- the record as it is now
  have hv3 : verOf V3.mem V.mem.length = some 0 := by rw [hm3, verOf_some hlp]; rfl
  have hidlt : V.mem.length < V2.mem.length := by simp [V2, Vw.new, V1, Vw.junk]
  have hrs2 : V2.rs V.mem.length = some (D + 1) := by
    have := new_rs V1 k (.loop (rec0 fn)) 0
    rw [hsz1] at this; exact this
  have hrs3 : V3.rs V.mem.length = some (D + 1) := by
    obtain ⟨v0, h0, _, h2⟩ := ext3.ver V.mem.length hidlt 0 hv3
    have : v0 = 0 := by
      have hk : V2.mem[V.mem.length]? = some k := new_mem V1 k _ 0
      rw [verOf_some hk] at h0; simpa [k, shpB] using h0.symm
    exact (h2 this).1 _ hrs2
  obtain ⟨rc, hh3, hst, hpd, _, _, _, _, _⟩ := ok3.blk _ _ _ (by rw [hm3]; exact hlp) hrs3
  have hbusy : rc.state ≠ .busy := by
    rw [hst]
    intro hb
    subst hb
    cases pend <;> simp at h
  have hend : (Instr.endLoop (D + 1)).run cx.P V3.w = .ok pend (V3.w.putObj (D + 1) (.loop { rc with state := .exhausted })) := by
    rw [← hpd]; exact run_endLoop (P := cx.P) hh3 hbusy
  have hsz2 : V2.w.heap.size = D + 2 := by
    show (V1.w.alloc _).heap.size = _
    rw [World.size_alloc, hsz1]
  refine ⟨pend, V3.w.putObj (D + 1) (.loop { rc with state := .exhausted }), hend, ?_⟩
  -- the record's abstract block goes
  obtain ⟨ok4, ext4⟩ := diew_ok (w := V3.w.putObj (D + 1) (.loop { rc with state := .exhausted })) ok3 hv3 hrs3 rfl rfl rfl World.putObj_size (fun j hj => World.putObj_heap_other hj)
  have hmk2 : Marks N V2 ({ target := .collected D, args := #[] } :: a.defers) := by
    refine ⟨⟨D, rfl, hN, by omega, ?_, fun hS => ?_, fun id hid => ?_⟩, hd.fresh (Nat.le_refl _), hd.mono ext02⟩
    · have h1 : V1.w.heap[D]? = some (.deferred (some [])) := World.alloc_heap_new V.w _
      rw [← h1]
      exact heap_alloc_lt (by rw [hsz1]; exact Nat.lt_succ_self _)
    · exact absurd (ok.sb D hS) (Nat.lt_irrefl _)
    · rcases ext02.rn id D hid with h | ⟨id', h⟩
      · have hid' : (if id = V1.mem.length then some V1.w.heap.size else V1.rs id) = some D := hid
        split at hid'
        · have := Option.some.inj hid'; omega
        · have := (ok.rb id D hid').1; exact absurd this (Nat.lt_irrefl _)
      · have := (ok.rb id' D h).1; exact absurd this (Nat.lt_irrefl _)
  have hmk4 := (hmk2.mono ext3).mono ext4
  have htk : (V3.diew V.mem.length (V3.w.putObj (D + 1) (.loop { rc with state := .exhausted }))).mem.take V.mem.length = m2.take V.mem.length := by
    show (V3.mem.set V.mem.length .dead).take V.mem.length = _
    rw [hm3, List.take_set_of_le (Nat.le_refl _)]
  obtain ⟨ok5, ext5⟩ := trunc_ok ok4 (ext02.trans (ext3.trans ext4)) (N := V.mem.length) rfl (by rw [htk]; exact hund)
  have hmk5 : Marks N ((V3.diew V.mem.length (V3.w.putObj (D + 1) (.loop { rc with state := .exhausted }))).trunc V.mem.length) ({ target := .collected D, args := #[] } :: a.defers) := hmk4.map (fun _ h => h.trunc)
  have fin : m' = m2.take V.mem.length → e' = e → Q x { a with defers := [{ target := .collected D, args := #[] }] ++ a.defers } (V3.w.putObj (D + 1) (.loop { rc with state := .exhausted })) := by
    rintro rfl rfl
    exact hn ((V3.diew V.mem.length (V3.w.putObj (D + 1) (.loop { rc with state := .exhausted }))).trunc V.mem.length) { a with defers := [{ target := .collected D, args := #[] }] ++ a.defers } ok5 ext5 htk (fun t => (he t).mono ext5) rfl hmk5
  split at h
  · cases h; exact fin rfl rfl
  · cases h; exact wpIn_ret (fin rfl rfl)
  · cases h; exact wpIn_exit (fin rfl rfl)
  · cases h
end Go.Ab
