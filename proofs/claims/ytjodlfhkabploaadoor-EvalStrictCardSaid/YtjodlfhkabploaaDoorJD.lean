/- Joined: XEU XEV XEX XEY XEZ XFA XFB XPB XPC. -/
import Derived.RangeFuncRecord
import Derived.Test.YtjodlfhkabploaaDoorJC
import Derived.Laws.Sem
import Derived.OpenShut
import Derived.LaidMore
import Derived.ProofKit
import Derived.Carry
import Derived.Test.YtjodlfhkabploaaDoorJA
import Derived.Laws.BitsLemmas
/- What a range over a function leaves behind it; loops by fuel. -/
set_option linter.unusedVariables false
set_option linter.unusedSimpArgs false
namespace Go.Ab
open Go

/-! ### A new block that nothing leads to -/
def Vw.junk (V : Vw) (ob : Obj) : Vw := { V with w := V.w.alloc ob }
theorem ext_junk {V : Vw} (o : Ok V) (ob : Obj) : Ext V (V.junk ob) where
  os := rfl
  tape := rfl
  output := rfl
  size := by simp [Vw.junk]
  frame := fun b hb _ => heap_alloc_lt hb
  stab := fun b hb => heap_alloc_lt (o.sb b hb)
  sm := fun _ h => h
  sn := fun b hb => .inl hb
  len := Nat.le_refl _
  ver := fun _ _ v' h => ⟨v', h, Nat.le_refl _, fun _ => ⟨rfl, rfl, rfl⟩⟩
  rn := fun id _ h => .inr ⟨id, h⟩
  nn := fun _ _ h _ => ⟨h, .inl rfl⟩
theorem ok_junk {V : Vw} (o : Ok V) (ob : Obj) : Ok (V.junk ob) := by
  have hsz : (V.junk ob).w.heap.size = V.w.heap.size + 1 := by simp [Vw.junk]
  exact o.step (ext_junk o ob) (fun b h => by have := o.sb b h; omega) (fun id b h => ⟨by have := (o.rb id b h).1; omega, (o.rb id b h).2⟩)
    o.sep o.inj (fun id b k hm hr _ => .inl ⟨hm, hr, rfl, heap_alloc_lt (o.rb id b hr).1⟩)

/-! ### An abstract block given up, its place written anew -/
def Vw.diew (V : Vw) (id : Nat) (w : World) : Vw := { V with w := w, mem := V.mem.set id .dead }
theorem diew_ok {V : Vw} (o : Ok V) {id b v : Nat} {w : World} (hv : verOf V.mem id = some v) (hr : V.rs id = some b)
    (ho : w.os = V.w.os) (ht : w.tape = V.w.tape) (hp : w.output = V.w.output) (hs : w.heap.size = V.w.heap.size) (hh : ∀ j, j ≠ b → w.heap[j]? = V.w.heap[j]?) : Ok (V.diew id w) ∧ Ext V (V.diew id w) := by
  have ext : Ext V (V.diew id w) := {
    os := ho
    tape := ht
    output := hp
    size := Nat.le_of_eq hs.symm
    frame := fun j _ hn => hh j (fun e => hn id (by rw [hr, e]))
    stab := fun j hj => hh j (fun e => o.sep id b v hv hr (e ▸ hj))
    sm := fun _ h => h
    sn := fun _ h => .inl h
    len := by simp [Vw.diew]
    ver := fun j hj v' h => ⟨v', (verOf_die h).2, Nat.le_refl _, fun _ => ⟨rfl, rfl, isVec_set_ne (verOf_die h).1⟩⟩
    rn := fun id _ h => .inr ⟨id, h⟩
    nn := fun j hj h _ => ⟨h, by
      show (V.mem.set id .dead)[j]? = _ ∨ (V.mem.set id .dead)[j]? = _
      by_cases e : j = id
      · subst e; exact .inr (List.getElem?_set_self hj)
      · exact .inl (List.getElem?_set_ne (fun h => e h.symm))⟩ }
  refine ⟨o.step ext (fun b h => by have := o.sb b h; simp [Vw.diew]; omega) (fun j b h => by have := o.rb j b h; simp [Vw.diew]; omega) (fun j b v hv hr => o.sep j b v (verOf_die hv).2 hr)
    (fun j j' b v v' h1 h2 h3 h4 => o.inj j j' b v v' (verOf_die h1).2 (verOf_die h2).2 h3 h4) (fun j b' k hm hr' hd => ?_), ext⟩
  have hm' : (V.mem.set id .dead)[j]? = some k := hm
  by_cases e : j = id
  · subst e
    rw [List.getElem?_set_self (verOf_lt hv)] at hm'; cases hm'; exact absurd rfl hd
  · rw [List.getElem?_set_ne (fun h => e h.symm)] at hm'
    refine .inl ⟨hm', hr', rfl, hh b' (fun hb' => ?_)⟩
    subst hb'
    have h1 : verOf V.mem j = (shpB k).map (·.1) := verOf_some hm'
    cases hsk : shpB k with
    | none => cases k <;> simp [shpB] at hsk; exact hd rfl
    | some s => exact e (o.inj j id b' s.1 v (by rw [h1, hsk]; rfl) hv hr' hr)

/-! ### Marks -/
def MarkAt (N : Nat) (V : Vw) (D : Nat) : Prop := N ≤ D ∧ D < V.w.heap.size ∧ V.w.heap[D]? = some (.deferred (some [])) ∧ ¬ V.S D ∧ ∀ id, V.rs id ≠ some D
def Marks (N : Nat) (V : Vw) : List Deferred → Prop
  | [] => True
  | d :: ds => (∃ D, d = { target := .collected D, args := #[] } ∧ MarkAt N V D) ∧ d ∉ ds ∧ Marks N V ds
theorem MarkAt.mono {N D : Nat} {V V' : Vw} (e : Ext V V') (h : MarkAt N V D) : MarkAt N V' D := by
  obtain ⟨h1, h2, h3, h4, h5⟩ := h
  refine ⟨h1, Nat.lt_of_lt_of_le h2 e.size, (e.frame D h2 h5).trans h3, fun h => ?_, fun id h => ?_⟩
  · rcases e.sn D h with h | h | ⟨id, h⟩
    · exact h4 h
    · omega
    · exact h5 id h
  · rcases e.rn id D h with h | ⟨id', h⟩
    · omega
    · exact h5 id' h
theorem Marks.map {N : Nat} {V V' : Vw} (f : ∀ D, MarkAt N V D → MarkAt N V' D) : ∀ {ds : List Deferred}, Marks N V ds → Marks N V' ds
  | [], _ => trivial
  | d :: ds, h => by
    obtain ⟨⟨D, hd, hm⟩, h2, h3⟩ := h
    exact ⟨⟨D, hd, f D hm⟩, h2, Marks.map f h3⟩
theorem Marks.mono {N : Nat} {V V' : Vw} (e : Ext V V') {ds : List Deferred} (h : Marks N V ds) : Marks N V' ds := h.map (fun _ => MarkAt.mono e)
theorem MarkAt.trunc {N D k : Nat} {V : Vw} (h : MarkAt N V D) : MarkAt N (V.trunc k) D := by
  obtain ⟨h1, h2, h3, h4, h5⟩ := h
  refine ⟨h1, h2, h3, fun h => ?_, fun id h => ?_⟩
  · rcases h with h | ⟨id, _, _, _, h⟩
    · exact h4 h
    · exact h5 id h
  · simp only [Vw.trunc] at h
    split at h
    · exact h5 id h
    · cases h
theorem Marks.fresh {N D : Nat} {V : Vw} : ∀ {ds : List Deferred}, Marks N V ds → V.w.heap.size ≤ D → ({ target := .collected D, args := #[] } : Deferred) ∉ ds
  | [], _, _ => by simp
  | d :: ds, h, hD => by
    obtain ⟨⟨D', hd, hm⟩, _, h3⟩ := h
    intro hin
    rcases List.mem_cons.1 hin with he | hin
    · rw [hd] at he
      have : D = D' := by injection he with h1 _; injection h1
      have := hm.2.1; omega
    · exact Marks.fresh h3 hD hin

/-- A block that nothing leads to, written anew: what stands for a value goes on. -/
theorem off_rep {V : Vw} {D : Nat} {w : World} (hS : ¬ V.S D) (hh : ∀ j, j ≠ D → w.heap[j]? = V.w.heap[j]?) {x : AV} {v : Value} (h : Rep V x v) : Rep (V.at w) x v := by
  have hb : ∀ (a : Addr), V.S a.block → w.cell? a = V.w.cell? a := fun a ha => cell_same (hh _ (fun e => hS (e ▸ ha)))
  induction h with
  | int k n => exact .int k n
  | bool b => exact .bool b
  | str s => exact .str s
  | agg xs cs h hl _ ih => exact .agg xs cs h hl ih
  | tup xs cs h _ ih => exact .tup xs cs h ih
  | seqNil full sz => exact .seqNil full sz
  | seq full sz xs ad c us hc hf hS' h0 hsz hu _ ih =>
    exact .seq full sz xs ad c us hc hf hS' h0 hsz (fun j x m y hj hm => by
      have hx : xs ≠ [] := fun hx => by subst hx; simp at hj
      rw [show (V.at w).w = w from rfl, hb _ (by rw [add_block]; exact hS' hx)]
      exact hu j x m y hj hm) ih
  | own j ver v h1 h hv => exact .own j ver v h1 h hv
  | ptr j ver off v h1 h hv => exact .ptr j ver off v h1 h hv
  | aptr j ver sz i f v h1 h hv => exact .aptr j ver sz i f v h1 h hv
  | rptr xs ad us h0 hl hS' hu _ ih =>
    exact .rptr xs ad us h0 hl hS' (fun m y hm => by
      rw [show (V.at w).w = w from rfl, hb _ (by rw [add_block]; exact hS')]
      exact hu m y hm) ih
  | nilptr => exact .nilptr
  | fn f xs ys fs cs h h' _ _ ih ih' => exact .fn f xs ys fs cs h h' ih ih'
  | nilfn => exact .nilfn
  | yld j v h1 h hv => exact .yld j v h1 h hv
  | mp j v h1 h hv => exact .mp j v h1 h hv
  | nilmp => exact .nilmp
  | smap ks vs b es cl hS' hb' h1 h2 _ _ ih ih' => exact .smap ks vs b es cl hS' ((hh _ (fun e => hS (e ▸ hS'))).trans hb') h1 h2 ih ih'
  | junk v => exact .junk v
theorem off_ok {N D : Nat} {V : Vw} (o : Ok V) (hm : MarkAt N V D) {w : World} (ho : w.os = V.w.os) (ht : w.tape = V.w.tape) (hp : w.output = V.w.output) (hs : w.heap.size = V.w.heap.size)
    (hh : ∀ j, j ≠ D → w.heap[j]? = V.w.heap[j]?) : Ok (V.at w) ∧ (∀ V0, V0.w.heap.size ≤ N → Ext V0 V → Ext V0 (V.at w)) ∧ ∀ D', D' ≠ D → MarkAt N V D' → MarkAt N (V.at w) D' := by
  obtain ⟨h1, h2, h3, h4, h5⟩ := hm
  have hrp : ∀ {xs : List AV} {us : List Value}, Reps V xs us → Reps (V.at w) xs us := fun hr => ⟨hr.1, fun j x c hx hc => off_rep h4 hh (hr.2 j x c hx hc)⟩
  refine ⟨⟨fun b h => by have := o.sb b h; simp [Vw.at]; omega, fun id b h => by have := o.rb id b h; simp [Vw.at]; omega, o.sep, o.inj, fun id b k hm hr => ?_⟩, fun V0 hN e => ?_, fun D' hne hm => ?_⟩
  · have hb : (V.at w).w.heap[b]? = V.w.heap[b]? := hh b (fun e => h5 id (by rw [← e]; exact hr))
    have h := o.blk id b k hm hr
    cases k with
    | box cs => obtain ⟨vs, t, g1, g2, g3⟩ := h; exact ⟨vs, t, hb.trans g1, hrp g2, g3⟩
    | arr ty sz xs => obtain ⟨g1, g2, g3, g4, vs, g5, g6, g7⟩ := h; exact ⟨g1, g2, g3, g4, vs, hb.trans g5, g6, hrp g7⟩
    | lp env ps a bd st pend => obtain ⟨r, g1, g2, g3, g4, g5, g6, g7, g8⟩ := h; exact ⟨r, hb.trans g1, g2, g3, g4, g5, g6, g7, fun t => off_rep h4 hh (g8 t)⟩
    | mp ks vs => obtain ⟨es, cl, g1, g2, g3⟩ := h; exact ⟨es, cl, hb.trans g1, hrp g2, hrp g3⟩
    | vec ty sz xs => obtain ⟨g0, g1, g2, g3, g4, vs, g5, g6, g7⟩ := h; exact ⟨g0, g1, g2, g3, g4, vs, hb.trans g5, g6, hrp g7⟩
    | dead => trivial
  · exact {
      os := ho.trans e.os
      tape := ht.trans e.tape
      output := hp.trans e.output
      size := by have := e.size; simp [Vw.at]; omega
      frame := fun b hb hn => (hh b (by omega)).trans (e.frame b hb hn)
      stab := fun b hb => (hh b (fun he => h4 (he ▸ e.sm b hb))).trans (e.stab b hb)
      sm := e.sm
      sn := e.sn
      len := e.len
      ver := e.ver
      rn := e.rn
      nn := e.nn }
  · obtain ⟨g1, g2, g3, g4, g5⟩ := hm
    exact ⟨g1, by simp [Vw.at]; omega, (hh D' hne).trans g3, g4, g5⟩

theorem leave_ok {F : Fence} {n N : Nat} {P : Program} {fn : Func} {tmps : Array Value} {R : Ending → World → Prop} : ∀ (ds : List Deferred) {V : Vw}, Ok V → Marks N V ds →
    (∀ V', Ok V' → V'.mem = V.mem → (∀ x v, Rep V x v → Rep V' x v) → (∀ V0, V0.w.heap.size ≤ N → Ext V0 V → Ext V0 V') → ∃ v, (results fn tmps).run P V'.w = .ok v V'.w ∧ R (.returned v) V'.w) →
    LeavesInM F n P fn tmps R ds .returning V.w
  | [], V, o, _, h => h V o rfl (fun _ _ h => h) (fun _ _ h => h)
  | d :: ds, V, o, hm, h => by
    obtain ⟨⟨D, hd, hD⟩, hnot, hrest⟩ := hm
    subst hd
    have hrun := run_takeDeferred (P := P) (w := V.w) hD.2.2.1
    have hh : ∀ j, j ≠ D → (V.w.putObj D (.deferred none)).heap[j]? = V.w.heap[j]? := fun j hj => World.putObj_heap_other hj
    obtain ⟨o', e', m'⟩ := off_ok (w := V.w.putObj D (.deferred none)) o hD rfl rfl rfl World.putObj_size hh
    have hrest' : ∀ {l : List Deferred}, ({ target := .collected D, args := #[] } : Deferred) ∉ l → Marks N V l → Marks N (V.at (V.w.putObj D (.deferred none))) l := by
      intro l
      induction l with
      | nil => intro _ _; trivial
      | cons q l ih =>
        rintro hn ⟨⟨D2, hq, hm2⟩, h2, h3⟩
        refine ⟨⟨D2, hq, m' D2 (fun e => hn ?_) hm2⟩, h2, ih (fun hin => hn (List.mem_cons_of_mem _ hin)) h3⟩
        subst e; subst hq; simp
    refine ⟨by simp, .inl ⟨D, _, rfl, hrun, ?_⟩⟩
    exact leave_ok ds o' (hrest' hnot hrest) (fun V' oV hmV hrV heV => h V' oV hmV (fun x v hr => hrV x v (off_rep hD.2.2.2.1 hh hr)) (fun V0 hN e => heV V0 hN (e' V0 hN e)))

/-! ### Loops by fuel -/
theorem exists_least {p : Nat → Prop} (h : ∃ k, p k) : ∃ k, p k ∧ ∀ j, p j → k ≤ j := by
  obtain ⟨k, hk⟩ := h
  induction k using Nat.strongRecOn with
  | _ k ih =>
    by_cases hj : ∃ j, j < k ∧ p j
    · obtain ⟨j, hjk, hpj⟩ := hj; exact ih j hjk hpj
    · exact ⟨k, hk, fun j hpj => Nat.le_of_not_lt (fun hlt => hj ⟨j, hlt, hpj⟩)⟩
noncomputable def least (p : Nat → Prop) : Nat := @dite _ (∃ k, p k ∧ ∀ j, p j → k ≤ j) (Classical.propDecidable _) (fun h => Classical.choose h) (fun _ => 0)
theorem least_spec {p : Nat → Prop} (h : ∃ k, p k) : p (least p) ∧ ∀ j, p j → least p ≤ j := by
  have h' := exists_least h
  unfold least
  rw [dif_pos h']
  exact Classical.choose_spec h'
theorem loop_fuel {F : Fence} {n : Nat} {P : Program} {c : Code} {Q : Exit → Act → World → Prop} {a : Act} {w : World} (p : Nat → Act → World → Prop) (h0 : ∃ k, p k a w)
    (round : ∀ k a w, p k a w → c.wpIn F n P (Exit.then (fun a' w' => ∃ j, j < k ∧ p j a' w') Q) a w) : (Code.loop c).wpIn F n P Q a w := by
  refine wpIn_loop (fun a w => ∃ k, p k a w) (fun a w => least (fun k => p k a w)) h0 (fun a w hI => ?_)
  obtain ⟨h1, h2⟩ := least_spec hI
  refine wpIn_mono (round _ a w h1) (fun e a' w' hq => ?_)
  cases e with
  | normal =>
    obtain ⟨j, hj, hp⟩ := hq
    exact ⟨⟨j, hp⟩, Nat.lt_of_le_of_lt ((least_spec ⟨j, hp⟩).2 j hp) hj⟩
  | _ => exact hq
end Go.Ab

/- Code: what the evaluator gives, the machine does. -/
set_option linter.unusedVariables false
set_option linter.unusedSimpArgs false
namespace Go.Ab
open Go

variable {cx : Cx} {F Y : CallT}

def Dfs (top : Bool) (N : Nat) (V : Vw) (ds : List Deferred) : Prop := if top = true then Marks N V ds else ds = []
theorem Dfs.mono {top : Bool} {N : Nat} {V V' : Vw} (e : Ext V V') {ds : List Deferred} (h : Dfs top N V ds) : Dfs top N V' ds := by
  unfold Dfs at h ⊢
  split
  · rename_i ht; rw [if_pos ht] at h; exact h.mono e
  · rename_i ht; rw [if_neg ht] at h; exact h

theorem under_mono' {N M : Nat} (h : N ≤ M) {x : AV} (hu : x.under N = true) : x.under M = true := under_mono h hu

/-- The statement 'for .. := range g'. -/
theorem range_ok (hF : FunOK cx F) {N nt : Nat} {g : Operand} {ps : Array Tmp} {ac bc : Code} (hok : okCode nt (.rangeFunc g ps ac bc) = true) {n : Nat} {e e' : Env} {m m' : Mem} {x : Exit}
    (h : evCode cx F Y n true (.rangeFunc g ps ac bc) e m = some (x, e', m')) {V : Vw} {a : Act} {Q : Exit → Act → World → Prop} (ok : Ok V) (gl : Gl cx V) (hm : V.mem = m) (he : EnvRep V e a) (hsz : nt ≤ a.tmps.size)
    (hd : Marks N V a.defers) (hN : N ≤ V.w.heap.size)
    (hn : ∀ V' a', Ok V' → Ext V V' → V'.mem = m' → EnvRep V' e' a' → a'.tmps.size = a.tmps.size → Marks N V' a'.defers → Q x a' V'.w) : (Code.rangeFunc g ps ac bc).wpIn (W none) 0 cx.P Q a V.w := by
  subst hm
  simp only [evCode, if_true] at h
  split at h
  case h_2 => cases h
  rename_i f first cap hg
  split at h
  case h_2 => cases h
  rename_i rm hcall
  obtain ⟨r0, m2⟩ := rm
  split at h
  case h_2 => cases h
  rename_i env' ps' a' b' st pend hlp
  split at h
  case isFalse => cases h
  rename_i hund
  simp only at hlp hund
  -- the record
  let D := V.w.heap.size
  let rec0 : Nat → Loop := fun fn => { state := .ready, pending := none, fn, tmps := a.tmps, params := ps, assign := ac, body := bc, defers := D }
  have okc := hok
  simp only [okCode, Bool.and_eq_true, List.all_eq_true, decide_eq_true_eq] at okc
  refine wpIn_rangeFunc (fun fn _ => ?_)
  have hgv := evX_ok gl he hg
  obtain ⟨fs, cs, hga, hfs, hcs, hr1, hr2⟩ : ∃ fs cs, a.eval g = .func (.func f) fs cs ∧ fs.size = first.length ∧ cs.size = cap.length ∧
      (∀ (j : Nat) (x : AV) (c : Value), first[j]? = some x → fs[j]? = some c → Rep V x c) ∧ (∀ (j : Nat) (x : AV) (c : Value), cap[j]? = some x → cs[j]? = some c → Rep V x c) := by
    generalize a.eval g = q at hgv
    cases hgv with
    | fn _ _ _ fs cs h1 h2 h3 h4 => exact ⟨fs, cs, rfl, h1, h2, h3, h4⟩
  -- the view in which the function is called
  let V1 : Vw := V.junk (.deferred (some []))
  have ok1 : Ok V1 := ok_junk ok _
  have ext1 : Ext V V1 := ext_junk ok _
  let k : Blk := .lp e ps.toList ac bc .ready none
  let V2 : Vw := V1.new k (.loop (rec0 fn)) 0
  have ext2 : Ext V1 V2 := ext_new ok1 k _ 0
  have hb2 : BlkOk V2 V1.mem.length V1.w.heap.size k := by
    refine ⟨rec0 fn, new_heap V1 _ _ _, rfl, rfl, ⟨by simp [rec0], nt, hsz, okc.1.2, okc.2, okc.1.1⟩, rfl, rfl, fun t => ?_, fun t => ?_⟩
    · exact rep_under ((he t).mono ext1)
    · exact ((he t).mono ext1).mono ext2
  have ok2 : Ok V2 := ok_new ok1 k _ 0 hb2
  have ext02 : Ext V V2 := ext1.trans ext2
  have hsz1 : V1.w.heap.size = D + 1 := by simp [V1, Vw.junk, D]
  have hyr : Rep V2 (.yld V.mem.length) (.func (.yield (D + 1)) #[] #[]) := by
    have hv0 : (shpB k).map (·.1) = some 0 := rfl
    have hrs := new_rs V1 k (.loop (rec0 fn)) 0
    refine .yld V.mem.length _ rfl (new_hd V1 k (.loop (rec0 fn)) 0 hv0) (fun _ => ⟨D + 1, ?_, rfl⟩)
    rw [hsz1] at hrs
    exact hrs
  have hargs : Reps V2 (first ++ [AV.yld V.mem.length] ++ cap) ((fs ++ #[Value.func (.yield (D + 1)) #[] #[]]) ++ cs).toList := by
    refine reps_app (reps_app ?_ ?_) ?_
    · exact ⟨by simpa using hfs, fun j x u hx hu => (hr1 j x u hx (by simpa using hu)).mono ext02⟩
    · exact Reps.cons hyr (Reps.nil _)
    · exact ⟨by simpa using hcs, fun j x u hx hu => (hr2 j x u hx (by simpa using hu)).mono ext02⟩
  have hcallee := hF.ok f _ _ r0 m2 V2 ((fs ++ #[Value.func (.yield (D + 1)) #[] #[]]) ++ cs) hcall ok2 (gl.mono ext02) rfl hargs
  have hen := hF.enters _ _ _ _ hcall
  refine ⟨D + 1, [{ target := .collected D, args := #[] }], V2.w, { target := .fn (.func f) cs, args := fs ++ #[Value.func (.yield (D + 1)) #[] #[]] }, V2.w, f, (fs ++ #[Value.func (.yield (D + 1)) #[] #[]]) ++ cs, V2.w,
    run_enterLoop_outer fn a.tmps ps ac bc, ?_, fun _ _ => trivial, hen.run _ _, fun h => by simp [W] at h, ?_⟩
  · have hm1 : #[Operand.const (Value.func (Fn.yield (D + 1)) #[] #[])].map a.eval = #[Value.func (Fn.yield (D + 1)) #[] #[]] := by simp [Act.eval]
    simp only [resolve, rangeCall, hga, hm1]
    rfl
  refine callsIn_W (hcallee.mono ?_)
  rintro en w' ⟨v, V3, rfl, rfl, hm3, ok3, ext3, rep3⟩
  -- the record as it is now
  have hv3 : verOf V3.mem V.mem.length = some 0 := by rw [hm3, verOf_some hlp]; rfl
  have hidlt : V.mem.length < V2.mem.length := by simp [V2, Vw.new, V1, Vw.junk]
  have hrs2 : V2.rs V.mem.length = some (D + 1) := by
    have := new_rs V1 k (.loop (rec0 fn)) 0
    rw [hsz1] at this; exact this
  have hrs3 : V3.rs V.mem.length = some (D + 1) := by
    obtain ⟨v0, h0, _, h2⟩ := ext3.ver V.mem.length hidlt 0 hv3
    have : v0 = 0 := by
      have hk : V2.mem[V.mem.length]? = some k := new_mem V1 k _ 0
      rw [verOf_some hk] at h0; simpa [k, shpB] using h0.symm
    exact (h2 this).1.trans hrs2
  obtain ⟨rc, hh3, hst, hpd, _, _, _, _, _⟩ := ok3.blk _ _ _ (by rw [hm3]; exact hlp) hrs3
  have hbusy : rc.state ≠ .busy := by
    rw [hst]
    intro hb
    subst hb
    cases pend <;> simp at h
  have hend : (Instr.endLoop (D + 1)).run cx.P V3.w = .ok pend (V3.w.putObj (D + 1) (.loop { rc with state := .exhausted })) := by
    rw [← hpd]; exact run_endLoop (P := cx.P) hh3 hbusy
  have hsz2 : V2.w.heap.size = D + 2 := by
    show (V1.w.alloc _).heap.size = _
    rw [World.size_alloc, hsz1]
  refine ⟨pend, V3.w.putObj (D + 1) (.loop { rc with state := .exhausted }), hend, ?_⟩
  -- the record's abstract block goes
  obtain ⟨ok4, ext4⟩ := diew_ok (w := V3.w.putObj (D + 1) (.loop { rc with state := .exhausted })) ok3 hv3 hrs3 rfl rfl rfl World.putObj_size (fun j hj => World.putObj_heap_other hj)
  have hmk2 : Marks N V2 ({ target := .collected D, args := #[] } :: a.defers) := by
    refine ⟨⟨D, rfl, hN, by omega, ?_, fun hS => ?_, fun id hid => ?_⟩, hd.fresh (Nat.le_refl _), hd.mono ext02⟩
    · have h1 : V1.w.heap[D]? = some (.deferred (some [])) := World.alloc_heap_new V.w _
      rw [← h1]
      exact heap_alloc_lt (by rw [hsz1]; exact Nat.lt_succ_self _)
    · exact absurd (ok.sb D hS) (Nat.lt_irrefl _)
    · rcases ext02.rn id D hid with h | ⟨id', h⟩
      · have hid' : (if id = V1.mem.length then some V1.w.heap.size else V1.rs id) = some D := hid
        split at hid'
        · have := Option.some.inj hid'; omega
        · have := (ok.rb id D hid').1; exact absurd this (Nat.lt_irrefl _)
      · have := (ok.rb id' D h).1; exact absurd this (Nat.lt_irrefl _)
  have hmk4 := (hmk2.mono ext3).mono ext4
  have htk : (V3.diew V.mem.length (V3.w.putObj (D + 1) (.loop { rc with state := .exhausted }))).mem.take V.mem.length = m2.take V.mem.length := by
    show (V3.mem.set V.mem.length .dead).take V.mem.length = _
    rw [hm3, List.take_set_of_le (Nat.le_refl _)]
  obtain ⟨ok5, ext5⟩ := trunc_ok ok4 (ext02.trans (ext3.trans ext4)) (N := V.mem.length) rfl (by rw [htk]; exact hund)
  have hmk5 : Marks N ((V3.diew V.mem.length (V3.w.putObj (D + 1) (.loop { rc with state := .exhausted }))).trunc V.mem.length) ({ target := .collected D, args := #[] } :: a.defers) := hmk4.map (fun _ h => h.trunc)
  have fin : m' = m2.take V.mem.length → e' = e → Q x { a with defers := [{ target := .collected D, args := #[] }] ++ a.defers } (V3.w.putObj (D + 1) (.loop { rc with state := .exhausted })) := by
    rintro rfl rfl
    exact hn ((V3.diew V.mem.length (V3.w.putObj (D + 1) (.loop { rc with state := .exhausted }))).trunc V.mem.length) { a with defers := [{ target := .collected D, args := #[] }] ++ a.defers } ok5 ext5 htk (fun t => (he t).mono ext5) rfl hmk5
  split at h
  · cases h; exact fin rfl rfl
  · cases h; exact wpIn_ret (fin rfl rfl)
  · cases h; exact wpIn_exit (fin rfl rfl)
  · cases h
end Go.Ab

/- Code, whole. -/
set_option linter.unusedVariables false
set_option linter.unusedSimpArgs false
namespace Go.Ab
open Go

variable {cx : Cx} {F Y : CallT}

theorem dstO_mem {o : Oper} {d : Nat} (hd : o.dst = some d) : ∀ {os : List Oper}, o ∈ os → d ∈ dstO os
  | [], h => by simp at h
  | p :: os, h => by
    rcases List.mem_cons.1 h with rfl | h
    · simp [dstO, hd]
    · have := dstO_mem hd h
      simp only [dstO]
      split
      · exact List.mem_cons_of_mem _ this
      · exact this
theorem evList_keep {ro : Bool} {F Y : CallT} {ops : Array Oper} {t : Nat} : ∀ {os : List Oper} {e e' : Env} {m m' : Mem}, (∀ o ∈ os, o.dst ≠ some t) → evList cx ro F Y ops os e m = some (e', m') → e' t = e t
  | [], e, e', m, m', _, h => by cases h; rfl
  | o :: os, e, e', m, m', ht, h => by
    simp only [evList] at h
    split at h
    · rename_i e1 m1 h1
      have h2 : e1 t = e t := by
        have hp : ∀ r, put e o.dst r t = e t := fun r => by
          cases hd : o.dst with
          | none => rfl
          | some d =>
            show upd e d r t = e t
            unfold upd
            rw [if_neg]
            rintro rfl
            exact ht o (by simp) hd
        unfold evOne at h1
        split at h1
        · split at h1
          · cases h1; exact hp _
          · cases h1
        · cases h1; exact hp _
        · cases h1
      exact (evList_keep (fun o ho => ht o (List.mem_cons_of_mem _ ho)) h).trans h2
    · cases h
theorem trimL_keep {N : Nat} {c : Code} {e : Env} {m : Mem} {t : Nat} (ht : t ∉ dsts c) : (trimL N c e m).1 t = e t := by
  unfold trimL
  split
  · rfl
  · split
    · show sanE N (dsts c) e t = e t
      unfold sanE
      rw [if_neg]
      simp [ht]
    · rfl
theorem evLoop_keep {N : Nat} {c : Code} {b : Env → Mem → Run} {t : Nat} (ht : t ∉ dsts c) (hb : ∀ {e e' m m' x}, b e m = some (x, e', m') → e' t = e t) : ∀ {k : Nat} {e e' : Env} {m m' : Mem} {x : Exit}, evLoop N c b k e m = some (x, e', m') → e' t = e t
  | 0, e, e', m, m', x, h => by cases h
  | k + 1, e, e', m, m', x, h => by
    simp only [evLoop] at h
    split at h
    · rename_i e1 m1 h1
      exact ((evLoop_keep ht hb h).trans (trimL_keep ht)).trans (hb h1)
    · exact hb h
theorem evCode_keep {F Y : CallT} {n : Nat} {top : Bool} {t : Nat} (c : Code) : ∀ {e e' : Env} {m m' : Mem} {x : Exit}, t ∉ dsts c → evCode cx F Y n top c e m = some (x, e', m') → e' t = e t := by
  induction c with
  | skip => intro e e' m m' x _ h; cases h; rfl
  | exit id => intro e e' m m' x _ h; cases h; rfl
  | ret => intro e e' m m' x _ h; cases h; rfl
  | region id ops draw =>
    intro e e' m m' x ht h
    simp only [evCode] at h
    split at h
    · rename_i e1 m1 h1
      cases h
      refine evList_keep (fun o ho hd => ht ?_) h1
      refine dstO_mem hd ?_
      cases draw with
      | false => simpa using ho
      | true =>
        simp only [if_true, drawn] at ho
        rcases List.mem_append.1 ho with h | h
        · exact (List.mem_filter.1 h).1
        · exact (List.mem_filter.1 h).1
    · cases h
  | seq a b iha ihb =>
    intro e e' m m' x ht h
    simp only [dsts, List.mem_append, not_or] at ht
    simp only [evCode] at h
    split at h
    · rename_i e1 m1 h1
      exact (ihb ht.2 h).trans (iha ht.1 h1)
    · exact iha ht.1 h
  | cond c a b iha ihb =>
    intro e e' m m' x ht h
    simp only [dsts, List.mem_append, not_or] at ht
    simp only [evCode] at h
    split at h
    · split at h
      · exact iha ht.1 h
      · exact ihb ht.2 h
    · cases h
  | block id c ih =>
    intro e e' m m' x ht h
    simp only [evCode] at h
    split at h
    · rename_i id' e1 m1 h1
      have := ih ht h1
      split at h
      · cases h; exact this
      · cases h; exact this
    · exact ih ht h
  | loop c ih =>
    intro e e' m m' x ht h
    simp only [evCode] at h
    exact evLoop_keep (c := c) (show t ∉ dsts c from ht) (fun h => ih ht h) h
  | rangeFunc g ps a b iha ihb =>
    intro e e' m m' x ht h
    simp only [evCode] at h
    split at h
    · split at h
      · split at h
        · split at h
          · split at h
            · split at h <;> first | (cases h; rfl) | cases h
            · cases h
          · cases h
        · cases h
      · cases h
    · cases h
  | _ => intro e e' m m' x ht h; cases h


/-- What holds behind code that is left by x. -/
def Aft (top : Bool) (N : Nat) (V : Vw) (a : Act) (x : Exit) (e' : Env) (m' : Mem) (Q : Exit → Act → World → Prop) : Prop :=
  ∀ V' a', Ok V' → Ext V V' → V'.mem = m' → EnvRep V' e' a' → a'.tmps.size = a.tmps.size → Dfs top N V' a'.defers → Q x a' V'.w

/-- The loop's states. -/
def LoopAt (cx : Cx) (F Y : CallT) (n : Nat) (top : Bool) (N : Nat) (c : Code) (V0 : Vw) (e0 : Env) (sz : Nat) (r : Exit × Env × Mem) (k : Nat) (a : Act) (w : World) : Prop :=
  ∃ V e, V.w = w ∧ Ok V ∧ Ext V0 V ∧ EnvRep V e a ∧ a.tmps.size = sz ∧ Dfs top N V a.defers ∧ (∀ t, t ∉ dsts c → e t = e0 t) ∧ evLoop V0.mem.length c (fun e m => evCode cx F Y n top c e m) k e V.mem = some r
theorem Dfs.trunc {top : Bool} {N k : Nat} {V : Vw} {ds : List Deferred} (h : Dfs top N V ds) : Dfs top N (V.trunc k) ds := by
  unfold Dfs at h ⊢
  split
  · rename_i ht; rw [if_pos ht] at h; exact h.map (fun _ => MarkAt.trunc)
  · rename_i ht; rw [if_neg ht] at h; exact h
/-- Behind a round. -/
theorem trim_ok {top : Bool} {N : Nat} {c : Code} {V0 V : Vw} {e0 e : Env} {a0 a : Act} (he0 : EnvRep V0 e0 a0) (ok : Ok V) (ext : Ext V0 V) (he : EnvRep V e a) (hd : Dfs top N V a.defers) (hk : ∀ t, t ∉ dsts c → e t = e0 t) :
    ∃ V', V'.w = V.w ∧ Ok V' ∧ Ext V0 V' ∧ EnvRep V' (trimL V0.mem.length c e V.mem).1 a ∧ Dfs top N V' a.defers ∧ V'.mem = (trimL V0.mem.length c e V.mem).2 := by
  unfold trimL
  split
  · exact ⟨V, rfl, ok, ext, he, hd, rfl⟩
  · rename_i hlt
    split
    · rename_i hc
      rw [Bool.and_eq_true] at hc
      obtain ⟨h1, h2⟩ := trunc_ok ok ext rfl hc.1
      refine ⟨V.trunc V0.mem.length, rfl, h1, h2, fun t => ?_, hd.trunc, rfl⟩
      show Rep _ (sanE V0.mem.length (dsts c) e t) _
      unfold sanE
      split
      · exact .junk _
      · rename_i hs
        refine under_rep ext.len (he t) ?_
        by_cases ht : t ∈ dsts c
        · simpa [ht] using hs
        · rw [hk t ht]
          exact rep_under (he0 t)
    · exact ⟨V, rfl, ok, ext, he, hd, rfl⟩

theorem code_ok (hF : FunOK cx F) (hY : YldOK cx Y) (hX : CxOK cx) {n nt N : Nat} {top : Bool} {fr : Option Nat} (hfr : top = true → fr = none) (c : Code) : ∀ {e e' : Env} {m m' : Mem} {x : Exit}, okCode nt c = true →
    evCode cx F Y n top c e m = some (x, e', m') → ∀ {V : Vw} {a : Act} {Q : Exit → Act → World → Prop}, Ok V → Gl cx V → V.mem = m → EnvRep V e a → nt ≤ a.tmps.size → Dfs top N V a.defers → N ≤ V.w.heap.size →
    Aft top N V a x e' m' Q → c.wpIn (W fr) 0 cx.P Q a V.w := by
  induction c with
  | skip =>
    intro e e' m m' x hok h V a Q ok gl hm he hsz hd hN hn
    simp only [evCode, Option.some.injEq, Prod.mk.injEq] at h
    obtain ⟨rfl, rfl, rfl⟩ := h
    exact wpIn_skip (hn V a ok (Ext.refl V) hm he rfl hd)
  | exit id =>
    intro e e' m m' x hok h V a Q ok gl hm he hsz hd hN hn
    simp only [evCode, Option.some.injEq, Prod.mk.injEq] at h
    obtain ⟨rfl, rfl, rfl⟩ := h
    exact wpIn_exit (hn V a ok (Ext.refl V) hm he rfl hd)
  | ret =>
    intro e e' m m' x hok h V a Q ok gl hm he hsz hd hN hn
    simp only [evCode, Option.some.injEq, Prod.mk.injEq] at h
    obtain ⟨rfl, rfl, rfl⟩ := h
    exact wpIn_ret (hn V a ok (Ext.refl V) hm he rfl hd)
  | region id ops draw =>
    intro e e' m m' x hok h V a Q ok gl hm he hsz hd hN hn
    subst hm
    simp only [okCode, Bool.and_eq_true, Bool.or_eq_true, Bool.not_eq_true'] at hok
    simp only [evCode] at h
    cases draw with
    | true =>
      simp only [if_true] at h
      cases hev : evList cx true F Y ops (drawn ops) e V.mem with
      | none => simp [hev] at h
      | some p =>
        simp only [hev, Option.some.injEq, Prod.mk.injEq] at h
        obtain ⟨rfl, rfl, rfl⟩ := h
        exact region_draw_ok hF hY hX (by simpa using hok.2) hok.1 ok gl he hsz hev (fun V' a' ok' ext' hm' he' hs' hd' => hn V' a' ok' ext' hm' he' hs' (by rw [hd']; exact hd.mono ext'))
    | false =>
      simp only [Bool.false_eq_true, if_false] at h
      cases hev : evList cx false F Y ops ops.toList e V.mem with
      | none => simp [hev] at h
      | some p =>
        simp only [hev, Option.some.injEq, Prod.mk.injEq] at h
        obtain ⟨rfl, rfl, rfl⟩ := h
        exact region_text_ok hF hY hX hok.1 ok gl he hsz hev (fun V' a' ok' ext' hm' he' hs' hd' => hn V' a' ok' ext' hm' he' hs' (by rw [hd']; exact hd.mono ext'))
  | seq x y ihx ihy =>
    intro e e' m m' xx hok h V a Q ok gl hm he hsz hd hN hn
    simp only [okCode, Bool.and_eq_true] at hok
    simp only [evCode] at h
    refine wpIn_seq ?_
    cases hx : evCode cx F Y n top x e m with
    | none => simp [hx] at h
    | some p =>
      obtain ⟨x1, e1, m1⟩ := p
      refine ihx hok.1 hx ok gl hm he hsz hd hN (fun V' a' ok' ext' hm' he' hs' hd' => ?_)
      cases x1 with
      | normal =>
        simp only [hx] at h
        exact ihy hok.2 h ok' (gl.mono ext') hm' he' (by omega) hd' (Nat.le_trans hN ext'.size) (fun V2 a2 ok2 ext2 hm2 he2 hs2 hd2 => hn V2 a2 ok2 (ext'.trans ext2) hm2 he2 (by omega) hd2)
      | _ =>
        simp only [hx, Option.some.injEq, Prod.mk.injEq] at h
        obtain ⟨rfl, rfl, rfl⟩ := h
        exact hn V' a' ok' ext' hm' he' hs' hd'
  | cond c x y ihx ihy =>
    intro e e' m m' xx hok h V a Q ok gl hm he hsz hd hN hn
    simp only [okCode, Bool.and_eq_true] at hok
    simp only [evCode] at h
    split at h
    case h_2 => cases h
    rename_i t hc
    have hcv := evX_ok gl he hc
    have hb : a.eval c = .bool t := by generalize hq : a.eval c = q at hcv; cases hcv; rfl
    refine wpIn_cond hb ?_
    cases t with
    | true => simp only [if_true] at h ⊢; exact ihx hok.1 h ok gl hm he hsz hd hN hn
    | false => simp only [Bool.false_eq_true, if_false] at h ⊢; exact ihy hok.2 h ok gl hm he hsz hd hN hn
  | block id c ih =>
    intro e e' m m' xx hok h V a Q ok gl hm he hsz hd hN hn
    simp only [okCode] at hok
    simp only [evCode] at h
    refine wpIn_block ?_
    cases hx : evCode cx F Y n top c e m with
    | none => simp [hx] at h
    | some p =>
      obtain ⟨x1, e1, m1⟩ := p
      refine ih hok hx ok gl hm he hsz hd hN (fun V' a' ok' ext' hm' he' hs' hd' => ?_)
      cases x1 with
      | exit id' =>
        simp only [hx] at h
        unfold Exit.inBlock
        simp only
        split
        · rename_i heq
          rw [if_pos heq] at h
          simp only [Option.some.injEq, Prod.mk.injEq] at h
          obtain ⟨rfl, rfl, rfl⟩ := h
          exact hn V' a' ok' ext' hm' he' hs' hd'
        · rename_i hne
          rw [if_neg hne] at h
          simp only [Option.some.injEq, Prod.mk.injEq] at h
          obtain ⟨rfl, rfl, rfl⟩ := h
          exact hn V' a' ok' ext' hm' he' hs' hd'
      | _ =>
        simp only [hx, Option.some.injEq, Prod.mk.injEq] at h
        obtain ⟨rfl, rfl, rfl⟩ := h
        exact hn V' a' ok' ext' hm' he' hs' hd'
  | loop c ih =>
    intro e e' m m' xx hok h V a Q ok gl hm he hsz hd hN hn
    subst hm
    simp only [okCode] at hok
    simp only [evCode] at h
    refine loop_fuel (LoopAt cx F Y n top N c V e a.tmps.size (xx, e', m')) ⟨n, V, e, rfl, ok, Ext.refl V, he, rfl, hd, fun _ _ => rfl, h⟩ ?_
    rintro k a1 w1 ⟨V1, e1, rfl, ok1, ext1, he1, hs1, hd1, hk1, hev⟩
    cases k with
    | zero => simp [evLoop] at hev
    | succ k =>
      simp only [evLoop] at hev
      cases hx : evCode cx F Y n top c e1 V1.mem with
      | none => simp [hx] at hev
      | some p =>
        obtain ⟨x2, e2, m2⟩ := p
        refine ih hok hx ok1 (gl.mono ext1) rfl he1 (by omega) hd1 (Nat.le_trans hN ext1.size) (fun V' a' ok' ext' hm' he' hs' hd' => ?_)
        cases x2 with
        | normal =>
          simp only [hx] at hev
          have hk2 : ∀ t, t ∉ dsts c → e2 t = e t := fun t ht => (evCode_keep c ht hx).trans (hk1 t ht)
          obtain ⟨V2, hw2, ok2, ext2, he2, hd2, hm2⟩ := trim_ok (c := c) he ok' (ext1.trans ext') he' hd' hk2
          rw [← hw2]
          subst hm'
          exact ⟨k, Nat.lt_succ_self k, V2, _, rfl, ok2, ext2, he2, by omega, hd2, fun t ht => (trimL_keep ht).trans (hk2 t ht), by rw [hm2]; exact hev⟩
        | _ =>
          simp only [hx, Option.some.injEq, Prod.mk.injEq] at hev
          obtain ⟨rfl, rfl, rfl⟩ := hev
          exact hn V' a' ok' (ext1.trans ext') hm' he' (by omega) hd'
  | rangeFunc g ps ac bc iha ihb =>
    intro e e' m m' xx hok h V a Q ok gl hm he hsz hd hN hn
    cases top with
    | false => simp [evCode] at h
    | true =>
      have : fr = none := hfr rfl
      subst this
      exact range_ok hF hok h ok gl hm he hsz hd hN hn
  | _ =>
    intro e e' m m' x hok h
    simp [evCode] at h
end Go.Ab

/- Rounds, functions, and the whole. -/
set_option linter.unusedVariables false
set_option linter.unusedSimpArgs false
namespace Go.Ab
open Go

variable {cx : Cx} {F Y : CallT}

/-! ### Results -/
def rv (tmps : Array Value) : ResultVar → Sem Value
  | .tmp t => pure (tmps.getD t undef)
  | .cell a t => do loadVar t (← asAddr (tmps.getD a undef))
theorem as_of_sure {P : Program} {t : Nat} {v u : Value} {w : World} (h : (Instr.loadAt t v).run P w = .ok u w) (hp : ∃ ad, v = .pointer (some ad)) : (do loadVar t (← asAddr v)).run P w = .ok u w := by
  obtain ⟨ad, rfl⟩ := hp
  simpa [Instr.loadAt, Instr.sureAddr, asAddr] using h
theorem load_ptr {V : Vw} (o : Ok V) {P : Program} {t : Nat} {x r : AV} {v : Value} (hv : Rep V x v) (h : loadA P V.mem t x = some r) : ∃ ad, v = .pointer (some ad) := by
  unfold loadA at h
  cases hv with
  | rptr xs ad => exact ⟨ad, rfl⟩
  | ptr id ver off v h1 hh hv =>
    cases hm : V.mem[id]? with
    | none => simp [hm] at h
    | some k =>
      cases k with
      | box cs =>
        simp only [hm] at h
        split at h
        · rename_i hlen
          obtain ⟨b, hb, rfl⟩ := hv (by rw [verOf_box hm, hlen])
          exact ⟨_, rfl⟩
        · cases h
      | _ => simp [hm] at h
  | aptr id ver sz i f v h1 hh hv =>
    cases hm : V.mem[id]? with
    | none => simp [hm] at h
    | some k =>
      cases k with
      | arr e sz' xs =>
        simp only [hm] at h
        split at h
        · rename_i hc
          obtain ⟨b, hb, rfl⟩ := hv (by rw [verOf_arr hm, hc.1])
          exact ⟨_, rfl⟩
        · cases h
      | _ => simp [hm] at h
  | _ => cases h
theorem rv_ok {V : Vw} (o : Ok V) {e : Env} {a : Act} (he : EnvRep V e a) {q : ResultVar} {x : AV} (h : resVar cx e V.mem q = some x) : ∃ u, (rv a.tmps q).run cx.P V.w = .ok u V.w ∧ Rep V x u := by
  cases q with
  | tmp t => simp only [resVar, Option.some.injEq] at h; subst h; exact ⟨_, rfl, he t⟩
  | cell p t =>
    simp only [resVar] at h
    obtain ⟨u, h1, h2⟩ := load_ok o (he p) h
    exact ⟨u, as_of_sure h1 (load_ptr o (he p) h), h2⟩
theorem rvs_ok {V : Vw} (o : Ok V) {e : Env} {a : Act} (he : EnvRep V e a) : ∀ {l : List ResultVar} {xs : List AV}, l.mapM (resVar cx e V.mem) = some xs → ∃ us, (l.mapM (rv a.tmps)).run cx.P V.w = .ok us V.w ∧ Reps V xs us
  | [], xs, h => by simp at h; subst h; exact ⟨[], rfl, Reps.nil V⟩
  | q :: l, xs, h => by
    simp only [List.mapM_cons, Option.bind_eq_bind, Option.pure_def] at h
    obtain ⟨y, hy, h⟩ := Option.bind_eq_some_iff.1 h
    obtain ⟨ys, hys, h⟩ := Option.bind_eq_some_iff.1 h
    cases h
    obtain ⟨u, h1, h2⟩ := rv_ok o he hy
    obtain ⟨us, h3, h4⟩ := rvs_ok o he hys
    refine ⟨u :: us, ?_, Reps.cons h2 h4⟩
    simp only [List.mapM_cons, Sem.run_bind, h1, Result.andThen_ok, h3, Sem.run_pure]
theorem res_ok {V : Vw} (o : Ok V) {e : Env} {a : Act} (he : EnvRep V e a) {fn : Func} {x : AV} (h : evRes cx fn e V.mem = some x) : ∃ u, (results fn a.tmps).run cx.P V.w = .ok u V.w ∧ Rep V x u := by
  have hr : results fn a.tmps = (do let vs ← fn.results.mapM (rv a.tmps); pure (if h : vs.size = 1 then vs[0] else .tuple vs)) := by
    unfold results
    congr 1
  rw [hr, Array.mapM_eq_mapM_toList]
  have hrun : ∀ {us : List Value}, (fn.results.toList.mapM (rv a.tmps)).run cx.P V.w = .ok us V.w → (do let vs ← (List.toArray <$> fn.results.toList.mapM (rv a.tmps)); pure (if h : vs.size = 1 then vs[0] else Value.tuple vs)).run cx.P V.w = .ok (if h : us.toArray.size = 1 then us.toArray[0] else .tuple us.toArray) V.w := by
    intro us hus
    rw [map_eq_pure_bind]
    simp only [Sem.run_bind, hus, Result.andThen_ok, Sem.run_pure]
  unfold evRes at h
  split at h
  · rename_i q hq
    obtain ⟨u, h1, h2⟩ := rv_ok o he h
    refine ⟨u, ?_, h2⟩
    have h3 : (fn.results.toList.mapM (rv a.tmps)).run cx.P V.w = .ok [u] V.w := by
      rw [hq]
      simp only [List.mapM_cons, List.mapM_nil, Sem.run_bind, h1, Result.andThen_ok, Sem.run_pure]
    rw [hrun h3]; rfl
  · rename_i hne
    obtain ⟨xs, hxs, rfl⟩ := Option.map_eq_some_iff.1 h
    obtain ⟨us, h1, h2⟩ := rvs_ok o he hxs
    refine ⟨.tuple us.toArray, ?_, .tup xs us.toArray (by simpa using h2.1) (fun j x c hx hc => h2.2 j x c hx (by simpa using hc))⟩
    rw [hrun h1, dif_neg]
    intro h1'
    have hlen : us.length = 1 := by simpa using h1'
    have hlx : xs.length = 1 := by rw [← h2.1]; exact hlen
    have := (mapM_some' hxs).symm.trans hlx
    obtain ⟨q, hq⟩ := List.length_eq_one_iff.1 this
    exact hne q hq
where mapM_some' {f : ResultVar → Option AV} : ∀ {l : List ResultVar} {xs : List AV}, l.mapM f = some xs → xs.length = l.length
  | [], xs, h => by simp at h; subst h; rfl
  | q :: l, xs, h => by
    simp only [List.mapM_cons, Option.bind_eq_bind, Option.pure_def] at h
    obtain ⟨y, hy, h⟩ := Option.bind_eq_some_iff.1 h
    obtain ⟨ys, hys, h⟩ := Option.bind_eq_some_iff.1 h
    cases h
    simp [mapM_some' hys]

/-! ### Functions -/
theorem evFunW_inv {n f : Nat} {args : List AV} {m : Mem} {rm : AV × Mem} (h : evFunW cx F Y n f args m = some rm) : ∃ fn c x e m' , cx.P.funcs[f]? = some fn ∧ okF fn = true ∧ fn.body = some c ∧ (x = .normal ∨ x = .ret) ∧
    evCode cx F Y n true c (argEnv args) m = some (x, e, m') ∧ evRes cx fn e m' = some rm.1 ∧ m' = rm.2 := by
  unfold evFunW at h
  cases hf : cx.P.funcs[f]? with
  | none => simp [hf] at h
  | some fn =>
    simp only [hf] at h
    split at h
    case isFalse => cases h
    rename_i hok
    cases hb : fn.body with
    | none => simp [hb] at h
    | some c =>
      simp only [hb] at h
      cases hev : evCode cx F Y n true c (argEnv args) m with
      | none => simp [hev] at h
      | some p =>
        obtain ⟨x, e, m'⟩ := p
        rw [hev] at h
        cases x with
        | normal => simp only at h; obtain ⟨r, hr, rfl⟩ := Option.map_eq_some_iff.1 h; exact ⟨fn, c, .normal, e, m', rfl, hok, hb, .inl rfl, hev, hr, rfl⟩
        | ret => simp only at h; obtain ⟨r, hr, rfl⟩ := Option.map_eq_some_iff.1 h; exact ⟨fn, c, .ret, e, m', rfl, hok, hb, .inr rfl, hev, hr, rfl⟩
        | _ => simp at h
theorem arg_env {V : Vw} {args : List AV} {vs : Array Value} (h : Reps V args vs.toList) (k : Nat) {ds : List Deferred} : EnvRep V (argEnv args) { tmps := vs ++ Array.replicate k undef, defers := ds } := by
  intro t
  show Rep V (args.getD t .undef) ((vs ++ Array.replicate k undef).getD t undef)
  have hl : vs.size = args.length := by simpa using h.1
  by_cases ht : t < args.length
  · have h1 : args.getD t .undef = args[t] := by simp [List.getD_eq_getElem?_getD, ht]
    have h2 : (vs ++ Array.replicate k undef).getD t undef = vs[t] := by
      rw [Array.getD_eq_getD_getElem?, Array.getElem?_append_left (by omega), Array.getElem?_eq_getElem (by omega)]; rfl
    rw [h1, h2]
    exact h.2 t _ _ (List.getElem?_eq_getElem ht) (by simp [hl, ht])
  · have h1 : args.getD t .undef = .undef := by simp [List.getD_eq_getElem?_getD, Nat.not_lt.1 ht]
    have h2 : (vs ++ Array.replicate k undef).getD t undef = undef := by
      rw [Array.getD_eq_getD_getElem?, Array.getElem?_append_right (by omega)]
      by_cases hk : t - vs.size < k
      · simp [hk]
      · simp [Nat.not_lt.1 hk]
    rw [h1, h2]
    exact undef_rep V

theorem fun_ok (hF : FunOK cx F) (hY : YldOK cx Y) (hX : CxOK cx) (n : Nat) : FunOK cx (evFunW cx F Y n) where
  enters := fun f args m rm h => by
    obtain ⟨fn, c, x, e, m', hf, hok, hb, _⟩ := evFunW_inv h
    unfold okF at hok
    simp only [Bool.and_eq_true, bne_iff_ne] at hok
    exact ⟨fn, c, hf, hok.1, hb⟩
  ok := fun f args m r m' V vs h ok gl hm hr => by
    obtain ⟨fn, c, x, e, m1, hf, hok, hb, hx, hev, hres, rfl⟩ := evFunW_inv h
    unfold okF at hok
    simp only [Bool.and_eq_true, bne_iff_ne, hb] at hok
    refine calls_W (n := 0) (callsIn_of_wp_marks hf hb trivial ?_)
    have hq : ∀ V' a', Ok V' → Ext V V' → V'.mem = m1 → EnvRep V' e a' → Marks V.w.heap.size V' a'.defers → LeavesInM (W none) 0 cx.P fn a'.tmps (Left V r m1) a'.defers .returning V'.w := by
      intro V' a' ok' ext' hm' he' hd'
      refine leave_ok a'.defers ok' hd' (fun V2 ok2 hm2 hr2 he2 => ?_)
      obtain ⟨u, h1, h2⟩ := res_ok (cx := cx) ok2 (fun t => hr2 _ _ (he' t)) (by rw [hm2, hm']; exact hres)
      exact ⟨u, h1, u, V2, rfl, rfl, hm2.trans hm', ok2, he2 V (Nat.le_refl _) ext', h2⟩
    refine code_ok hF hY hX (nt := fn.ntmps) (N := V.w.heap.size) (fun _ => rfl) c hok.2 hev ok gl hm (arg_env hr _) (by simp; omega) (by unfold Dfs; simp [Marks]) (Nat.le_refl _) (fun V' a' ok' ext' hm' he' hs' hd' => ?_)
    unfold Dfs at hd'
    simp only [if_true] at hd'
    rcases hx with rfl | rfl
    · exact hq V' a' ok' ext' hm' he' hd'
    · exact hq V' a' ok' ext' hm' he' hd'
end Go.Ab

/- Rounds of a range over a function, and the whole: what the evaluator gives, a call does. -/
set_option linter.unusedVariables false
set_option linter.unusedSimpArgs false
namespace Go.Ab
open Go

variable {cx : Cx} {F Y : CallT}

/-- A loop's record set anew. -/
theorem lp_set {V : Vw} (o : Ok V) {id b : Nat} {e : Env} {ps : List Nat} {a bd : Code} {st st' : LoopState} {pd pd' : Option Code} (hm : V.mem[id]? = some (.lp e ps a bd st pd)) (hr : V.rs id = some b) :
    ∃ r : Loop, V.w.heap[b]? = some (.loop r) ∧ r.state = st ∧ r.pending = pd ∧
      ∃ V', V'.w = V.w.putObj b (.loop { r with state := st', pending := pd' }) ∧ V'.mem = V.mem.set id (.lp e ps a bd st' pd') ∧ V'.rs = V.rs ∧ Ok V' ∧ Ext V V' := by
  obtain ⟨r, h1, h2, h3, h4, h5, h6, h7, h8⟩ := o.blk id b _ hm hr
  refine ⟨r, h1, h2, h3, ?_⟩
  let w' := V.w.putObj b (.loop { r with state := st', pending := pd' })
  have hlt : b < V.w.heap.size := (o.rb id b hr).1
  have hv : verOf V.mem id = some 0 := by rw [verOf_some hm]; rfl
  have ext : Ext V (V.wr id w' (.lp e ps a bd st' pd')) := ext_wr o hm hv rfl hr rfl rfl rfl World.putObj_size (fun j hj => World.putObj_heap_other hj)
  refine ⟨V.wr id w' (.lp e ps a bd st' pd'), rfl, rfl, rfl, ok_wr o hm hv rfl hr rfl rfl rfl World.putObj_size (fun j hj => World.putObj_heap_other hj) ?_, ext⟩
  exact ⟨{ r with state := st', pending := pd' }, World.putObj_heap_same hlt, rfl, rfl, h4, h5, h6, h7, fun t => (h8 t).mono ext⟩

theorem rs_keep {V V' : Vw} (e : Ext V V') {id b : Nat} (hid : id < V.mem.length) (hv : verOf V.mem id = some 0) (hv' : verOf V'.mem id = some 0) (hr : V.rs id = some b) : V'.rs id = some b := by
  obtain ⟨v0, h0, _, h2⟩ := e.ver id hid 0 hv'
  rw [hv] at h0
  cases h0
  exact (h2 rfl).1.trans hr
theorem lpState_some {m : Mem} {id : Nat} {st : LoopState} {pd : Option Code} (h : lpState m id = some (st, pd)) : ∃ e ps a b, m[id]? = some (.lp e ps a b st pd) := by
  unfold lpState at h
  split at h
  · rename_i hm; cases h; exact ⟨_, _, _, _, hm⟩
  · cases h
theorem setLp_some {m m' : Mem} {id : Nat} {e : Env} {ps : List Nat} {a b : Code} {st st' : LoopState} {pd pd' : Option Code} (hm : m[id]? = some (.lp e ps a b st pd)) (h : setLp m id st' pd' = some m') : m' = m.set id (.lp e ps a b st' pd') := by
  unfold setLp at h
  rw [hm] at h
  cases h; rfl
theorem lp_ver {m : Mem} {id : Nat} {e : Env} {ps : List Nat} {a b : Code} {st : LoopState} {pd : Option Code} (hm : m[id]? = some (.lp e ps a b st pd)) : verOf m id = some 0 := by rw [verOf_some hm]; rfl

/-- Arguments laid into the temporaries. -/
theorem put_all {V : Vw} : ∀ {ps : List Nat} {args : List AV} {us : List Value} {e : Env} {tmps : Array Value}, Reps V args us → args.length = ps.length → (∀ p ∈ ps, p < tmps.size) → (∀ t, Rep V (e t) (tmps.getD t undef)) →
    (∀ t, Rep V (putAll e (ps.zip args) t) (((ps.zip us).foldl (fun tmps (t, a) => tmps.setIfInBounds t a) tmps).getD t undef)) ∧ ((ps.zip us).foldl (fun tmps (t, a) => tmps.setIfInBounds t a) tmps).size = tmps.size
  | [], args, us, e, tmps, hr, hl, hp, he => by simpa [putAll] using he
  | p :: ps, [], us, e, tmps, hr, hl, hp, he => by simp at hl
  | p :: ps, x :: args, us, e, tmps, hr, hl, hp, he => by
    obtain ⟨u, us', rfl, h1, h2⟩ := hr.inv
    simp only [List.zip_cons_cons, putAll, List.foldl_cons]
    have he' : EnvRep V e { tmps := tmps, defers := [] } := he
    have he2 := he'.put (d := some p) h1 (fun t ht => by cases ht; exact hp p (by simp))
    obtain ⟨g1, g2⟩ := put_all (ps := ps) (e := upd e p x) (tmps := tmps.setIfInBounds p u) h2 (by simpa using hl) (fun q hq => by simpa using hp q (List.mem_cons_of_mem _ hq)) he2
    exact ⟨g1, by rw [g2]; simp⟩

theorem yld_inv {n id : Nat} {args : List AV} {m : Mem} {rm : AV × Mem} (h : evYldW cx F Y n id args m = some rm) : ∃ e ps a b, m[id]? = some (.lp e ps a b .ready none) ∧ args.length = ps.length ∧
    ∃ e1 m1, evCode cx F Y n false a (putAll e (ps.zip args)) m = some (.normal, e1, m1) ∧ lpState m1 id = some (.ready, none) ∧ ∃ m2, setLp m1 id .busy none = some m2 ∧
    ∃ x e3 m3, evCode cx F Y n false b e1 m2 = some (x, e3, m3) ∧ lpState m3 id = some (.busy, none) ∧
      ((x = .normal ∧ rm.1 = .bool true ∧ setLp m3 id .ready none = some rm.2) ∨ (x = .ret ∧ rm.1 = .bool false ∧ setLp m3 id .done (some .ret) = some rm.2) ∨ ∃ j, x = .exit j ∧ rm.1 = .bool false ∧ setLp m3 id .done (some (.exit j)) = some rm.2) := by
  unfold evYldW at h
  split at h
  case h_2 => cases h
  rename_i e ps a b hm
  refine ⟨e, ps, a, b, hm, ?_⟩
  split at h
  case isFalse => cases h
  rename_i hl
  refine ⟨hl, ?_⟩
  split at h
  case h_2 => cases h
  rename_i e1 m1 h1
  refine ⟨e1, m1, h1, ?_⟩
  split at h
  case h_2 => cases h
  rename_i h2
  refine ⟨h2, ?_⟩
  split at h
  case h_2 => cases h
  rename_i m2 h3
  refine ⟨m2, h3, ?_⟩
  split at h
  case h_2 => cases h
  rename_i x e3 m3 h4
  refine ⟨x, e3, m3, h4, ?_⟩
  split at h
  case h_2 => cases h
  rename_i h5
  refine ⟨h5, ?_⟩
  split at h
  · obtain ⟨m4, h6, rfl⟩ := Option.map_eq_some_iff.1 h; exact .inl ⟨rfl, rfl, h6⟩
  · obtain ⟨m4, h6, rfl⟩ := Option.map_eq_some_iff.1 h; exact .inr (.inl ⟨rfl, rfl, h6⟩)
  · rename_i j; obtain ⟨m4, h6, rfl⟩ := Option.map_eq_some_iff.1 h; exact .inr (.inr ⟨j, rfl, rfl, h6⟩)
  · cases h

theorem yld_ok (hF : FunOK cx F) (hY : YldOK cx Y) (hX : CxOK cx) (n : Nat) : YldOK cx (evYldW cx F Y n) where
  live := fun id args m rm h => by
    obtain ⟨e, ps, a, b, hm, _⟩ := yld_inv h
    exact lp_ver hm
  ok := fun id args m r m' V vs b h ok gl hm hr hrs ro => by
    subst hm
    obtain ⟨e, ps, ac, bc, hlp, hlen, e1, m1, hev1, hst1, m2, hset2, x, e3, m3, hev3, hst3, hend⟩ := yld_inv h
    obtain ⟨r0, g1, g2, g3, ⟨g4, kk, g4a, g4b, g4c, g4d⟩, g5, g6, g7, g8⟩ := ok.blk id b _ hlp hrs
    have hidlt : id < V.mem.length := verOf_lt (lp_ver hlp)
    have hsz : vs.size = r0.params.size := by
      have : vs.size = args.length := by simpa using hr.1
      rw [g4]; simp [this, hlen]
    have hrun := run_yield (P := cx.P) g1 hsz
    refine ⟨_, _, _, _, hrun, ?_⟩
    have hpa := put_all (V := V) (ps := ps) (e := e) (tmps := r0.tmps) hr hlen (fun p hp => Nat.lt_of_lt_of_le (g4d p hp) g4a) g8
    have htm : (r0.params.zip vs).foldl (fun tmps (t, a) => tmps.setIfInBounds t a) r0.tmps = (ps.zip vs.toList).foldl (fun tmps (t, a) => tmps.setIfInBounds t a) r0.tmps := by
      rw [← Array.foldl_toList, Array.toList_zip, g4]
    rw [htm, g5, g6]
    refine roundIn_of_wpIn (F := W ro) (n := 0) trivial ?_
    refine code_ok (top := false) (N := 0) (fr := some b) hF hY hX (fun h => by cases h) ac g4b hev1 ok gl rfl hpa.1 (by rw [hpa.2]; exact g4a) rfl (Nat.zero_le _) (fun V1 a1 ok1 ext1 hm1 he1 hs1 hd1 => ?_)
    -- the record is ready: it is busy
    obtain ⟨e', ps', a', b', hlp1⟩ := lpState_some hst1
    rw [← hm1] at hlp1 hset2
    have hrs1 := rs_keep ext1 hidlt (lp_ver hlp) (lp_ver hlp1) hrs
    obtain ⟨r1, k1, k2, k3, V2, w2, mm2, rr2, ok2, ext2⟩ := lp_set (st' := .busy) (pd' := none) ok1 hlp1 hrs1
    have hbeg := run_beginRound (P := cx.P) k1 k2
    have hr1 : ({ r1 with state := .busy } : Loop) = { r1 with state := .busy, pending := none } := by cases r1; simp at k3; subst k3; rfl
    rw [hr1, ← w2] at hbeg
    refine ⟨V2.w, hbeg, ?_⟩
    have hmem2 : V2.mem = m2 := mm2.trans (setLp_some hlp1 hset2).symm
    have hsz1 : kk ≤ a1.tmps.size := by rw [hs1]; show kk ≤ _; rw [hpa.2]; exact g4a
    refine code_ok (top := false) (N := 0) (fr := some b) hF hY hX (fun h => by cases h) bc g4c hev3 ok2 (gl.mono (ext1.trans ext2)) hmem2 (he1.mono ext2) hsz1 hd1 (Nat.zero_le _) (fun V3 a3 ok3 ext3 hm3 he3 hs3 hd3 => ?_)
    obtain ⟨e'', ps'', a'', b'', hlp3⟩ := lpState_some hst3
    rw [← hm3] at hlp3
    have hid2 : id < V2.mem.length := by rw [mm2]; simp; exact verOf_lt (lp_ver hlp1)
    have hlp2 : V2.mem[id]? = some (.lp e' ps' a' b' .busy none) := by rw [mm2]; exact List.getElem?_set_self (verOf_lt (lp_ver hlp1))
    have hrs3 := rs_keep ext3 hid2 (lp_ver hlp2) (lp_ver hlp3) (rr2 ▸ hrs1)
    have ext03 : Ext V V3 := (ext1.trans ext2).trans ext3
    have fin : ∀ (jump : Option Code) (q : Bool), q = jump.isNone → r = .bool q → setLp m3 id (if q = true then .ready else .done) jump = some m' →
        ∃ v w', (Instr.endRound b jump).run cx.P V3.w = .ok v w' ∧ Left V r m' (.returned v) w' := by
      rintro jump q rfl rfl hset
      obtain ⟨r3, j1, j2, j3, V4, w4, mm4, rr4, ok4, ext4⟩ := lp_set (st' := if jump.isNone = true then .ready else .done) (pd' := jump) ok3 hlp3 hrs3
      refine ⟨_, _, run_endRound (P := cx.P) jump j1, .bool jump.isNone, V4, rfl, w4, ?_, ok4, ext03.trans ext4, .bool _⟩
      rw [← hm3] at hset
      exact mm4.trans (setLp_some hlp3 hset).symm
    rcases hend with ⟨rfl, hr1, hset⟩ | ⟨rfl, hr1, hset⟩ | ⟨j, rfl, hr1, hset⟩
    · exact fin none true rfl hr1 hset
    · exact fin (some .ret) false rfl hr1 hset
    · exact fin (some (.exit j)) false rfl hr1 hset

theorem all_ok (hX : CxOK cx) : ∀ n, FunOK cx (evFun cx n) ∧ YldOK cx (evYld cx n)
  | 0 => ⟨⟨fun _ _ _ _ h => (nomatch h), fun _ _ _ _ _ _ _ h => (nomatch h)⟩, ⟨fun _ _ _ _ h => (nomatch h), fun _ _ _ _ _ _ _ _ h => (nomatch h)⟩⟩
  | n + 1 => by
    obtain ⟨h1, h2⟩ := all_ok hX n
    exact ⟨fun_ok h1 h2 hX n, yld_ok h1 h2 hX n⟩

/-- The whole, for a call with pure arguments in a world of which nothing is known but them. -/
theorem pure_call (hX : CxOK cx) {n f : Nat} {args : List AV} {r : AV} (h : evPure cx n f args = some r) {U : Vw} (ok : Ok U) (hm : U.mem = []) (gl : Gl cx U) {vs : Array Value} (hr : Reps U args vs.toList) :
    Enters cx.P f ∧ Calls cx.P f vs U.w (Left U r []) := by
  unfold evPure at h
  cases hf : evFun cx n f args [] with
  | none => simp [hf] at h
  | some rm =>
    obtain ⟨r0, m0⟩ := rm
    simp only [hf] at h
    obtain ⟨h1, _⟩ := all_ok hX n
    refine ⟨h1.enters _ _ _ _ hf, (h1.ok f args [] r0 m0 U vs hf ok gl hm hr).mono ?_⟩
    rintro e w' ⟨v, V', rfl, rfl, rfl, ok', ext, rep⟩
    exact ⟨v, V'.close, rfl, rfl, rfl, ok_close ok', ext_close ext hm, rep_close ok' rep h⟩
end Go.Ab

/- What an argument reads as, as an abstract value. -/
set_option linter.unusedVariables false
set_option linter.unusedSimpArgs false
namespace Go.Ab
open Go

/-- The view in which a call begins: all that lies there is never written again. -/
def U0 (W : World) : Vw := { w := W, S := fun b => b < W.heap.size, rs := fun _ => none, cp := fun _ => 0, mem := [] }
theorem ok_U0 (W : World) : Ok (U0 W) where
  sb := fun b h => h
  rb := fun id b h => by cases h
  sep := fun id b v _ h => by cases h
  inj := fun id id' b v v' _ _ h => by cases h
  blk := fun id b k _ h => by cases h

def mkV (P : Program) (t : Nat) (cs : List AV) : AV := if aggT P t then .agg cs else cs.head?.getD .undef
def tiled (P : Program) : Nat → List Field → Nat → Bool
  | off, [], total => off == total
  | off, f :: fs, total => f.offset == off && tiled P (off + P.cellsOf f.type) fs total
def plainT (P : Program) (ps : List Nat) (t : Nat) : Bool :=
  match P.underlying t with
  | some .bool | some (.int _) | some .string => true
  | some (.slice e) => ps.contains e && decide (0 < P.cellsOf e) && (if aggT P e then true else P.cellsOf e == 1)
  | some (.struct fs) => fs.toList.all (fun f => ps.contains f.type) && tiled P 0 fs.toList (P.cellsOf t)
  | some (.array n e) => ps.contains e && P.cellsOf t == n * P.cellsOf e
  | _ => false
def plainS (P : Program) (ps : List Nat) : Bool := ps.all (plainT P ps)

/-- A type's cells, as data and as abstract values. -/
def Typ {H : Type} (P : Program) : Nat → Nat → List AV → DataW H → Prop
  | 0, _, _, _ => False
  | n + 1, t, xs, d => match P.underlying t with
    | some .bool => ∃ b, xs = [.bool b] ∧ d = .lit (.bool b)
    | some (.int k) => ∃ i, xs = [.int k i] ∧ d = .lit (.int k i) ∧ (Lit.int k i).wf = true
    | some .string => ∃ s : ByteArray, xs = [.str s] ∧ d = .lit (.string s.data.toList) ∧ s.size ≤ maxLen
    | some (.slice e) => (xs = [.seq true true (P.cellsOf e) []] ∧ d = .nil) ∨ ∃ (ys : List AV) (ds sp : List (DataW H)), xs = [.seq false false (P.cellsOf e) ys] ∧ d = .slice ds sp ∧ ys.length = ds.length ∧ ys.length ≤ maxLen ∧
        ∀ (j : Nat) (y : AV) (dj : DataW H), ys[j]? = some y → ds[j]? = some dj → ∃ cs, Typ P n e cs dj ∧ y = mkV P e cs
    | some (.struct fs) => ∃ (parts : List (List AV)) (ds : List (DataW H)), parts.length = fs.size ∧ ds.length = fs.size ∧ d = .agg ds ∧ xs = parts.flatten ∧
        ∀ (j : Nat) (f : Field) (p : List AV) (dj : DataW H), fs[j]? = some f → parts[j]? = some p → ds[j]? = some dj → Typ P n f.type p dj
    | some (.array m e) => ∃ (parts : List (List AV)) (ds : List (DataW H)), parts.length = m ∧ ds.length = m ∧ d = .agg ds ∧ xs = parts.flatten ∧
        ∀ (j : Nat) (p : List AV) (dj : DataW H), parts[j]? = some p → ds[j]? = some dj → Typ P n e p dj
    | _ => False

section
variable {H : Type} {enc : TypeId × Value → H} {P : Program} {W : World} {spare : Nat → Bool} {held : Bool}

theorem mkV_cells {t : Nat} {xs : List AV} (hl : ∀ x ∈ xs, x.leaf = true) (h : aggT P t = true ∨ xs.length = 1) : (mkV P t xs).cells = xs := by
  unfold mkV
  split
  · rfl
  · rename_i ha
    have h1 := h.resolve_left ha
    obtain ⟨x, rfl⟩ := List.length_eq_one_iff.1 h1
    exact cells_leaf (hl x (by simp))

/-- Fields laid side by side. -/
theorem read_fields {cs : List Value} {Q : Nat → List AV → DataW H → Prop} : ∀ (fs : List Field) (off : Nat) (xs : List (DataW H × List MemPlace)), tiled P off fs cs.length = true → xs.length = fs.length →
    (∀ (j : Nat) (f : Field) (x : DataW H × List MemPlace), fs[j]? = some f → xs[j]? = some x → ∃ p, Reps (U0 W) p ((cs.drop f.offset).take (P.cellsOf f.type)) ∧ (∀ y ∈ p, y.leaf = true) ∧ Q f.type p x.1) →
    ∃ parts : List (List AV), parts.length = fs.length ∧ Reps (U0 W) parts.flatten (cs.drop off) ∧ (∀ y ∈ parts.flatten, y.leaf = true) ∧
      ∀ (j : Nat) (f : Field) (p : List AV) (x : DataW H × List MemPlace), fs[j]? = some f → parts[j]? = some p → xs[j]? = some x → Q f.type p x.1
  | [], off, xs, ht, hl, h => by
    refine ⟨[], rfl, ?_, fun y hy => by simp at hy, fun j f p x hf => by simp at hf⟩
    have : off = cs.length := by simpa [tiled] using ht
    subst this
    rw [List.drop_length]
    exact Reps.nil _
  | f :: fs, off, [], ht, hl, h => by simp at hl
  | f :: fs, off, x :: xs, ht, hl, h => by
    simp only [tiled, Bool.and_eq_true, beq_iff_eq] at ht
    obtain ⟨ho, ht⟩ := ht
    obtain ⟨p, h1, h2, h3⟩ := h 0 f x rfl rfl
    obtain ⟨parts, g1, g2, g3, g4⟩ := read_fields fs (off + P.cellsOf f.type) xs ht (by simpa using hl) (fun j f' x' hf hx => h (j + 1) f' x' (by simpa using hf) (by simpa using hx))
    refine ⟨p :: parts, by simp [g1], ?_, ?_, ?_⟩
    · rw [List.flatten_cons, ← List.take_append_drop (P.cellsOf f.type) (cs.drop off), List.drop_drop]
      rw [ho] at h1
      exact h1.append g2
    · intro y hy
      rw [List.flatten_cons, List.mem_append] at hy
      rcases hy with hy | hy
      · exact h2 y hy
      · exact g3 y hy
    · intro j f' p' x' hf hp hx
      cases j with
      | zero => simp at hf hp hx; subst hf; subst hp; subst hx; exact h3
      | succ j => exact g4 j f' p' x' (by simpa using hf) (by simpa using hp) (by simpa using hx)
/-- Elements laid side by side. -/
theorem read_elems {c : Nat} {cs : List Value} {Q : List AV → DataW H → Prop} : ∀ (m i : Nat) (xs : List (DataW H × List MemPlace)), cs.length = (i + m) * c → xs.length = m →
    (∀ (j : Nat) (x : DataW H × List MemPlace), xs[j]? = some x → ∃ p, Reps (U0 W) p ((cs.drop ((i + j) * c)).take c) ∧ (∀ y ∈ p, y.leaf = true) ∧ Q p x.1) →
    ∃ parts : List (List AV), parts.length = m ∧ Reps (U0 W) parts.flatten (cs.drop (i * c)) ∧ (∀ y ∈ parts.flatten, y.leaf = true) ∧
      ∀ (j : Nat) (p : List AV) (x : DataW H × List MemPlace), parts[j]? = some p → xs[j]? = some x → Q p x.1
  | 0, i, xs, hc, hl, h => by
    refine ⟨[], rfl, ?_, fun y hy => by simp at hy, fun j p x hp => by simp at hp⟩
    have : cs.drop (i * c) = [] := by rw [List.drop_eq_nil_iff]; simp at hc; omega
    rw [this]
    exact Reps.nil _
  | m + 1, i, [], hc, hl, h => by simp at hl
  | m + 1, i, x :: xs, hc, hl, h => by
    obtain ⟨p, h1, h2, h3⟩ := h 0 x rfl
    obtain ⟨parts, g1, g2, g3, g4⟩ := read_elems m (i + 1) xs (by rw [hc]; congr 1; omega) (by simpa using hl) (fun j x' hx => by
      have := h (j + 1) x' (by simpa using hx)
      rwa [show i + (j + 1) = i + 1 + j by omega] at this)
    refine ⟨p :: parts, by simp [g1], ?_, ?_, ?_⟩
    · rw [List.flatten_cons, ← List.take_append_drop c (cs.drop (i * c)), List.drop_drop]
      rw [Nat.add_zero] at h1
      rw [Nat.succ_mul] at g2
      exact h1.append g2
    · intro y hy
      rw [List.flatten_cons, List.mem_append] at hy
      rcases hy with hy | hy
      · exact h2 y hy
      · exact g3 y hy
    · intro j p' x' hp hx
      cases j with
      | zero => simp at hp hx; subst hp; subst hx; exact h3
      | succ j => exact g4 j p' x' (by simpa using hp) (by simpa using hx)

theorem choose_list {α β : Type} {R : Nat → α → β → Prop} : ∀ (l : List α), (∀ (j : Nat) (x : α), l[j]? = some x → ∃ y, R j x y) → ∃ ys : List β, ys.length = l.length ∧ ∀ (j : Nat) (x : α) (y : β), l[j]? = some x → ys[j]? = some y → R j x y
  | [], _ => ⟨[], rfl, fun j x y h => by simp at h⟩
  | a :: l, h => by
    obtain ⟨y, hy⟩ := h 0 a rfl
    obtain ⟨ys, h1, h2⟩ := choose_list (R := fun j x y => R (j + 1) x y) l (fun j x hx => h (j + 1) x (by simpa using hx))
    refine ⟨y :: ys, by simp [h1], fun j x z hx hz => ?_⟩
    cases j with
    | zero => simp at hx hz; subst hx; subst hz; exact hy
    | succ j => exact h2 j x z (by simpa using hx) (by simpa using hz)

theorem read_ok {ps : List Nat} (hp : plainS P ps = true) : ∀ (fuel t : Nat) (cs : List Value) (x : DataW H × List MemPlace), t ∈ ps → DataW.trod enc P W 0 spare held fuel t cs = some x →
    ∃ xs, Reps (U0 W) xs cs ∧ (∀ y ∈ xs, y.leaf = true) ∧ Typ P fuel t xs x.1 := by
  intro fuel
  induction fuel with
  | zero => intro t cs x _ h; simp [DataW.trod] at h
  | succ n ih =>
    intro t cs x ht h
    have hpt : plainT P ps t = true := List.all_eq_true.1 hp t ht
    unfold plainT at hpt
    have one : ∀ {a : AV} {v : Value}, Rep (U0 W) a v → a.leaf = true → Reps (U0 W) [a] [v] ∧ ∀ y ∈ [a], y.leaf = true := fun hr hl => ⟨Reps.cons hr (Reps.nil _), by simpa using hl⟩
    split at hpt
    · rename_i hu
      obtain ⟨b, rfl, rfl⟩ := DataW.trod_bool hu h
      obtain ⟨h1, h2⟩ := one (.bool b) rfl
      exact ⟨_, h1, h2, by rw [Typ, hu]; exact ⟨b, rfl, rfl⟩⟩
    · rename_i k hu
      obtain ⟨i, rfl, rfl, hw⟩ := DataW.trod_int hu h
      obtain ⟨h1, h2⟩ := one (.int k i) rfl
      exact ⟨_, h1, h2, by rw [Typ, hu]; exact ⟨i, rfl, rfl, hw⟩⟩
    · rename_i hu
      obtain ⟨s, rfl, rfl, hs⟩ := DataW.trod_string hu h
      obtain ⟨h1, h2⟩ := one (.str s) rfl
      exact ⟨_, h1, h2, by rw [Typ, hu]; exact ⟨s, rfl, rfl, hs⟩⟩
    · rename_i e hu
      simp only [Bool.and_eq_true, decide_eq_true_eq, List.contains_eq_mem] at hpt
      obtain ⟨⟨he, h0⟩, hagg⟩ := hpt
      rcases DataW.trod_slice hu h with ⟨rfl, rfl⟩ | ⟨a, len, cap, elems, rest, m, hm, rfl, rfl, hb, hlc, hcm, hlen, hel, _, _⟩
      · obtain ⟨h1, h2⟩ := one (Rep.seqNil (V := U0 W) true (P.cellsOf e)) rfl
        exact ⟨_, h1, h2, by rw [Typ, hu]; exact .inl ⟨rfl, rfl⟩⟩
      · have hm : n = m := by omega
        subst hm
        have step : ∀ (j : Nat) (x : DataW H × List MemPlace), elems[j]? = some x → ∃ p : List AV × List Value, W.cells? 0 (a.add (j * P.cellsOf e)) (P.cellsOf e) = some p.2 ∧ Reps (U0 W) p.1 p.2 ∧ (∀ y ∈ p.1, y.leaf = true) ∧ Typ P n e p.1 x.1 := by
          intro j x hx
          have hj : j < len := by rw [← hlen]; exact (List.getElem?_eq_some_iff.1 hx).1
          have := hel j hj
          rw [hx] at this
          obtain ⟨cs', h1, h2⟩ := Option.bind_eq_some_iff.1 this
          obtain ⟨xs, g1, g2, g3⟩ := ih e cs' x he h2
          exact ⟨(xs, cs'), h1, g1, g2, g3⟩
        obtain ⟨qs, hq1, hq2⟩ := choose_list elems step
        have hcell : ∀ (j : Nat) (q : List AV × List Value), qs[j]? = some q → (mkV P e q.1).cells = q.1 ∧ q.1.length = P.cellsOf e ∧ q.2.length = P.cellsOf e := by
          intro j q hq
          have hj : j < elems.length := by rw [← hq1]; exact (List.getElem?_eq_some_iff.1 hq).1
          obtain ⟨g1, g2, g3, g4⟩ := hq2 j _ q (List.getElem?_eq_getElem hj) hq
          have hl2 := (World.cells?_some g1).2.1
          have hl1 : q.1.length = P.cellsOf e := by rw [← g2.1]; exact hl2
          refine ⟨mkV_cells g3 ?_, hl1, hl2⟩
          split at hagg
          · rename_i ha; exact .inl ha
          · right; rw [hl1]; simpa using hagg
        let ys := qs.map fun q => mkV P e q.1
        have hys : ∀ (j : Nat) (y : AV), ys[j]? = some y → ∃ q, qs[j]? = some q ∧ y = mkV P e q.1 := by
          intro j y hy
          simp only [ys, List.getElem?_map] at hy
          obtain ⟨q, hq, rfl⟩ := Option.map_eq_some_iff.1 hy
          exact ⟨q, hq, rfl⟩
        have hyl : ys.length = len := by simp [ys, hq1, hlen]
        have hrep : Rep (U0 W) (.seq false false (P.cellsOf e) ys) (.slice (some a) len cap) := by
          rw [← hyl]
          refine .seq false (P.cellsOf e) ys a cap (fun j m => ((qs[j]?).bind fun q => q.2[m]?).getD undef) (by omega) (fun h => by cases h) (fun hne => ?_) (fun _ => h0) (fun y hy => ?_) (fun j y m z hy hz => ?_) (fun j y m z hy hz => ?_)
          · have hlp : 0 < ys.length := List.length_pos_iff.2 hne
            have hq0 : qs[0]? = some qs[0] := List.getElem?_eq_getElem (by simpa [ys] using hlp)
            have he0 : elems[0]? = some elems[0] := List.getElem?_eq_getElem (by rw [hlen, ← hyl]; exact hlp)
            obtain ⟨g1, _⟩ := hq2 0 _ _ he0 hq0
            have := World.cells?_block g1 h0
            rw [add_block] at this
            exact this
          · obtain ⟨j, hj, rfl⟩ := List.getElem_of_mem hy
            obtain ⟨q, hq, hyq⟩ := hys j _ (List.getElem?_eq_getElem hj)
            obtain ⟨c1, c2, c3⟩ := hcell j q hq
            have hje : j < elems.length := by rw [hlen, ← hyl]; exact hj
            obtain ⟨_, _, g3, _⟩ := hq2 j _ q (List.getElem?_eq_getElem hje) hq
            rw [hyq, c1]
            exact ⟨c2, g3⟩
          · obtain ⟨q, hq, rfl⟩ := hys j y hy
            obtain ⟨c1, c2, c3⟩ := hcell j q hq
            have hje : j < elems.length := by rw [← hq1]; exact (List.getElem?_eq_some_iff.1 hq).1
            obtain ⟨g1, _, _, _⟩ := hq2 j _ q (List.getElem?_eq_getElem hje) hq
            rw [c1] at hz
            have hm : m < P.cellsOf e := by rw [← c2]; exact (List.getElem?_eq_some_iff.1 hz).1
            have := (World.cells?_some g1).2.2 m hm
            rw [add_add] at this
            show W.cell? _ = _
            rw [this, hq]
            simp [List.getElem?_eq_getElem (show m < q.2.length by omega)]
          · obtain ⟨q, hq, rfl⟩ := hys j y hy
            obtain ⟨c1, c2, c3⟩ := hcell j q hq
            have hje : j < elems.length := by rw [← hq1]; exact (List.getElem?_eq_some_iff.1 hq).1
            obtain ⟨_, g2, _, _⟩ := hq2 j _ q (List.getElem?_eq_getElem hje) hq
            rw [c1] at hz
            have hm : m < P.cellsOf e := by rw [← c2]; exact (List.getElem?_eq_some_iff.1 hz).1
            rw [hq]
            simp only [Option.bind_some, List.getElem?_eq_getElem (show m < q.2.length by omega), Option.getD_some]
            exact g2.2 m z _ hz (List.getElem?_eq_getElem (by omega))
        obtain ⟨h1, h2⟩ := one hrep rfl
        refine ⟨_, h1, h2, ?_⟩
        rw [Typ, hu]
        refine .inr ⟨ys, elems.map (·.1), rest.map (·.1), rfl, rfl, by simp [hyl, hlen], by omega, fun j y dj hy hd => ?_⟩
        obtain ⟨q, hq, rfl⟩ := hys j y hy
        rw [List.getElem?_map] at hd
        obtain ⟨el, hel', rfl⟩ := Option.map_eq_some_iff.1 hd
        obtain ⟨_, _, _, g4⟩ := hq2 j el q hel' hq
        exact ⟨q.1, g4, rfl⟩
    · rename_i fs hu
      simp only [Bool.and_eq_true, List.all_eq_true, List.contains_eq_mem, decide_eq_true_eq] at hpt
      obtain ⟨xs, m, hm, rfl, hl, hxl, hf⟩ := DataW.trod_struct hu h
      have hm : n = m := by omega
      subst hm
      obtain ⟨parts, g1, g2, g3, g4⟩ := read_fields (P := P) (W := W) (cs := cs) (Q := fun t p d => Typ P n t p d) fs.toList 0 xs (by rw [hl]; exact hpt.2) (by simpa using hxl) (fun j f x hfj hx => by
        have hfj' : fs[j]? = some f := by simpa using hfj
        have h1 := hf j f hfj'
        rw [hx] at h1
        obtain ⟨p, k1, k2, k3⟩ := ih f.type _ x (by simpa using hpt.1 f (List.mem_of_getElem? hfj)) h1
        exact ⟨p, k1, k2, k3⟩)
      refine ⟨parts.flatten, by simpa using g2, g3, ?_⟩
      rw [Typ, hu]
      refine ⟨parts, xs.map (·.1), by simpa using g1, by simpa using hxl, rfl, rfl, fun j f p dj hfj hpj hdj => ?_⟩
      rw [List.getElem?_map] at hdj
      obtain ⟨x, hx, rfl⟩ := Option.map_eq_some_iff.1 hdj
      exact g4 j f p x (by simpa using hfj) hpj hx
    · rename_i k e hu
      simp only [Bool.and_eq_true, List.contains_eq_mem, decide_eq_true_eq, beq_iff_eq] at hpt
      obtain ⟨xs, m, hm, rfl, hl, hxl, hf⟩ := DataW.trod_array hu h
      have hm : n = m := by omega
      subst hm
      obtain ⟨parts, g1, g2, g3, g4⟩ := read_elems (W := W) (c := P.cellsOf e) (cs := cs) (Q := fun p d => Typ P n e p d) k 0 xs (by rw [hl, hpt.2, Nat.zero_add]) hxl (fun j x hx => by
        have hj : j < k := by rw [← hxl]; exact (List.getElem?_eq_some_iff.1 hx).1
        have h1 := hf j hj
        rw [hx] at h1
        rw [Nat.zero_add]
        exact ih e _ x hpt.1 h1)
      refine ⟨parts.flatten, by simpa using g2, g3, ?_⟩
      rw [Typ, hu]
      refine ⟨parts, xs.map (·.1), g1, by simpa using hxl, rfl, rfl, fun j p dj hpj hdj => ?_⟩
      rw [List.getElem?_map] at hdj
      obtain ⟨x, hx, rfl⟩ := Option.map_eq_some_iff.1 hdj
      exact g4 j p x hpj hx
    · cases hpt
end
end Go.Ab

/- A row's frame: from the evaluator's answer to the row's contract. -/
set_option linter.unusedVariables false
set_option linter.unusedSimpArgs false
namespace Go.Ab
open Go Go.ChangeShapes Go.WideShapes Go.ChangeAt Go.RowKit

def TypAll {H : Type} (P : Program) : List Nat → List AV → List (DataW H) → Prop
  | [], [], [] => True
  | t :: ts, a :: as, d :: ds => (∃ n cs, Typ P n t cs d ∧ a = mkV P t cs) ∧ TypAll P ts as ds
  | _, _, _ => False

section
variable {H : Type} {enc : TypeId × Value → H} {P : Program} {W : World} {spare : Nat → Bool} {held : Bool}

theorem arg_read {ps : List Nat} (hp : plainS P ps = true) {r : Reach} {base t : Nat} (ht : t ∈ ps) {v : Value} {d : DataW H} {pl : List MemPlace} (h : DataW.Trod enc P W 0 spare held t v d pl) (hok : Value.okWide P W r base t v) :
    ∃ n cs, Typ P n t cs d ∧ Rep (U0 W) (mkV P t cs) v := by
  obtain ⟨fuel, hf⟩ := h
  obtain ⟨xs, h1, h2, h3⟩ := read_ok hp fuel t _ _ ht hf
  refine ⟨fuel, xs, h3, ?_⟩
  have hpt : plainT P ps t = true := List.all_eq_true.1 hp t ht
  unfold plainT at hpt
  have one : v.cells = #[v] → aggT P t = false → Rep (U0 W) (mkV P t xs) v := by
    intro hc ha
    rw [hc] at h1
    unfold mkV
    rw [ha]
    cases xs with
    | nil => have := h1.1; simp at this
    | cons x xs' => exact h1.2 0 x v rfl rfl
  have many : ∀ cs, v = .agg cs → aggT P t = true → Rep (U0 W) (mkV P t xs) v := by
    rintro cs rfl ha
    unfold mkV
    rw [ha]
    exact .agg xs cs (by have := h1.1; simpa [Value.cells] using this) h2 (fun j x c hx hc => h1.2 j x c hx (by simpa [Value.cells] using hc))
  split at hpt
  · rename_i hu
    obtain ⟨b, rfl⟩ := okWide_bool hu hok
    exact one rfl (by simp [aggT, hu])
  · rename_i k hu
    obtain ⟨b, rfl⟩ := okWide_int hu hok
    exact one rfl (by simp [aggT, hu])
  · rename_i hu
    obtain ⟨b, rfl⟩ := okWide_string hu hok
    exact one rfl (by simp [aggT, hu])
  · rename_i e hu
    obtain ⟨a, l, c, rfl⟩ := okWide_slice hu hok
    exact one rfl (by simp [aggT, hu])
  · rename_i fs hu
    unfold Value.okWide at hok
    rw [hu] at hok
    obtain ⟨cs, rfl, _⟩ := hok
    exact many cs rfl (by simp [aggT, hu])
  · rename_i k e hu
    unfold Value.okWide at hok
    rw [hu] at hok
    obtain ⟨cs, rfl, _⟩ := hok
    exact many cs rfl (by simp [aggT, hu])
  · cases hpt

theorem args_read {ps : List Nat} (hp : plainS P ps = true) {r : Reach} {base : Nat} : ∀ {ts : List Nat} {vs : List Value} {ds : List (DataW H)} {pl : List MemPlace}, (∀ t ∈ ts, t ∈ ps) → DataW.TrodAll enc P W 0 spare held ts vs ds pl →
    (∀ (j : Nat) (t : TypeId) (v : Value), ts[j]? = some t → vs[j]? = some v → Value.okWide P W r base t v) → ∃ as, Reps (U0 W) as vs ∧ TypAll P ts as ds
  | [], [], [], pl, _, _, _ => ⟨[], Reps.nil _, trivial⟩
  | [], _ :: _, _, pl, _, h, _ => by simp [DataW.TrodAll] at h
  | [], [], _ :: _, pl, _, h, _ => by simp [DataW.TrodAll] at h
  | _ :: _, [], _, pl, _, h, _ => by simp [DataW.TrodAll] at h
  | _ :: _, _ :: _, [], pl, _, h, _ => by simp [DataW.TrodAll] at h
  | t :: ts, v :: vs, d :: ds, pl, hts, h, hok => by
    obtain ⟨p, q, h1, h2, _⟩ := h
    obtain ⟨n, cs, g1, g2⟩ := arg_read hp (hts t (by simp)) h1 (hok 0 t v rfl rfl)
    obtain ⟨as, g3, g4⟩ := args_read hp (ts := ts) (fun t ht => hts t (List.mem_cons_of_mem _ ht)) h2 (fun j t v ht hv => hok (j + 1) t v (by simpa using ht) (by simpa using hv))
    exact ⟨mkV P t cs :: as, Reps.cons g2 g3, ⟨n, cs, g1, rfl⟩, g4⟩

theorem trodAll_below (hl : laidOutB P = true) {W' : World} (hb : Below W.heap.size W W') : ∀ {ts : List Nat} {vs : List Value} {ds : List (DataW H)} {pl : List MemPlace}, (∀ t ∈ ts, P.readableRec t = true ∧ t < P.types.size) →
    DataW.TrodAll enc P W 0 (fun _ => true) true ts vs ds pl → (∀ x ∈ pl, x.block < W.heap.size) → DataW.TrodAll enc P W' 0 (fun b => decide (b < W.heap.size)) true ts vs ds pl
  | [], [], [], pl, _, h, _ => h
  | [], _ :: _, _, pl, _, h, _ => by simp [DataW.TrodAll] at h
  | [], [], _ :: _, pl, _, h, _ => by simp [DataW.TrodAll] at h
  | _ :: _, [], _, pl, _, h, _ => by simp [DataW.TrodAll] at h
  | _ :: _, _ :: _, [], pl, _, h, _ => by simp [DataW.TrodAll] at h
  | t :: ts, v :: vs, d :: ds, pl, hts, h, hlt => by
    obtain ⟨p, q, h1, h2, rfl⟩ := h
    exact ⟨p, q, Below.trod hl (hts t (by simp)).1 (hts t (by simp)).2 h1 hb (fun x hx => hlt x (List.mem_append_left _ hx)),
      trodAll_below hl hb (fun t ht => hts t (List.mem_cons_of_mem _ ht)) h2 (fun x hx => hlt x (List.mem_append_right _ hx)), rfl⟩

/-- The row's 'post' for a law that answers true. -/
theorem post_true {fn : Func} {s : ChangeSpec} {apart : Bool} {W' : World} {args : Array Value} {ds gs : List (DataW H)} {before : List MemPlace} (hl : laidOutB P = true) (hts : ∀ t ∈ fn.params.toList, P.readableRec t = true ∧ t < P.types.size)
    {tb : Nat} (hres : fn.resultTypes = #[tb]) (htb : P.underlying tb = some .bool) (hsv : s.vars = []) (hW : DataW.Whole enc P fn.params.toList s.vars apart W args.toList ds gs before)
    (hr : (s.fn H (ds ++ gs)).results = [.lit (.bool true)]) (ha : (s.fn H (ds ++ gs)).args = ds) (hv : (s.fn H (ds ++ gs)).vars = []) (hb : Below W.heap.size W W') :
    s.post enc P fn apart true false false W args (.bool true) W' := by
  have hlt : ∀ x ∈ before, x.block < W.heap.size := hW.lt
  have hW0 := hW
  obtain ⟨p, q, hA, hV, rfl, hz, hn⟩ := hW
  refine ⟨ds, gs, p ++ q, [], p, [], hW0, ?_, ?_, ?_, hb.frame _, fun h => by cases h⟩
  · rw [hr, hres]
    exact trodAll_mk1 (shut_bool htb true)
  · rw [ha]
    exact trodAll_below hl hb hts hA (fun x hx => hlt x (List.mem_append_left _ hx))
  · rw [hv, hsv]
    rfl

theorem below_of_ext {V : Vw} (h : Ext (U0 W) V) : Below W.heap.size W V.w := ⟨h.os, h.tape, h.output, h.size, fun b hb => h.stab b hb⟩

/-- The evaluator says true: so does the call, and nothing old turns. -/
theorem law_contract {cx : Cx} (hX : CxOK cx) (gl : Gl cx (U0 W)) {n f : Nat} {as : List AV} (hev : evPure cx n f as = some (.bool true)) {args : Array Value} (hr : Reps (U0 W) as args.toList) {Q : Value → World → Prop}
    (hq : ∀ W', Below W.heap.size W W' → Q (.bool true) W') : Calls cx.P f args W fun e W' => ∃ v, e = .returned v ∧ Q v W' := by
  obtain ⟨_, hc⟩ := pure_call hX hev (ok_U0 W) rfl gl hr
  refine hc.mono ?_
  rintro e w' ⟨v, V, rfl, rfl, hm, ok, ext, rep⟩
  cases rep
  exact ⟨_, rfl, hq _ (below_of_ext ext)⟩
end
end Go.Ab

/- More fuel gives the same answer. -/
set_option linter.unusedVariables false
set_option linter.unusedSimpArgs false
namespace Go.Ab
open Go

variable {cx : Cx} {F F' Y Y' : CallT}
def CLe (F F' : CallT) : Prop := ∀ f as m r, F f as m = some r → F' f as m = some r

theorem ioGo_le (hF : CLe F F') {m : Mem} {f : Nat} {xs : List AV} {ids : List Nat} {r : AV × Mem} (h : ioGo F m f xs ids = some r) : ioGo F' m f xs ids = some r := by
  unfold ioGo at h ⊢
  split at h
  case isFalse => cases h
  rename_i hc
  rw [if_pos hc]
  cases hys : renL (fun id => idxA ids id 0) xs with
  | none => simp [hys] at h
  | some ys =>
    cases hM : memOf m (fun id => idxA ids id 0) ids with
    | none => simp [hys, hM] at h
    | some M =>
      simp only [hys, hM] at h ⊢
      cases hf : F f ys M with
      | none => simp [hf] at h
      | some rm => simp only [hf] at h; rw [hF _ _ _ _ hf]; exact h
theorem callV_le (hF : CLe F F') (hY : CLe Y Y') {ro : Bool} {m : Mem} {c : AV} {as : List AV} {r : AV × Mem} (h : callV cx ro F Y m c as = some r) : callV cx ro F' Y' m c as = some r := by
  cases c with
  | fn f first cap =>
    simp only [callV] at h ⊢
    generalize first ++ as ++ cap = L at h ⊢
    cases hx : cx.X f with
    | some g => simp only [hx] at h ⊢; exact h
    | none =>
      simp only [hx] at h ⊢
      split at h
      · rename_i hsh
        rw [if_pos hsh]
        split at h
        · cases h
        · rename_i hro
          rw [if_neg hro]
          cases hl : lendOwn m L with
          | none => simp [hl] at h
          | some p =>
            simp only [hl] at h ⊢
            cases hf : F f p.1 (kill m p.2) with
            | none => simp [hf] at h
            | some rm => simp only [hf] at h; rw [hF _ _ _ _ hf]; exact h
      · rename_i hsh
        rw [if_neg hsh]
        split at h
        · rename_i hio
          rw [if_pos hio]
          split at h
          · cases h
          · rename_i hro
            rw [if_neg hro]
            cases hl : lendOwn m L with
            | none => simp [hl] at h
            | some p =>
              simp only [hl] at h ⊢
              exact ioGo_le hF h
        · rename_i hio
          rw [if_neg hio]
          cases hz : fzs m L with
          | none => simp [hz] at h
          | some as' =>
            simp only [hz] at h ⊢
            cases hf : F f as' [] with
            | none => simp [hf] at h
            | some rm => simp only [hf] at h; rw [hF _ _ _ _ hf]; exact h
  | yld id =>
    simp only [callV] at h ⊢
    split at h
    · cases h
    · rename_i hro
      rw [if_neg hro]
      cases hl : lendOwn m as with
      | none => simp [hl] at h
      | some p =>
        simp only [hl] at h ⊢
        cases hf : Y id p.1 (kill m p.2) with
        | none => simp [hf] at h
        | some rm => simp only [hf] at h; rw [hY _ _ _ _ hf]; exact h
  | _ => cases h

theorem evOp_le (hF : CLe F F') (hY : CLe Y Y') {md : Nat} {e : Env} {m : Mem} {op : Op} {r : AV × Mem} (h : evOp cx md F Y e m op = some r) : evOp cx md F' Y' e m op = some r := by
  cases op with
  | call c =>
    obtain ⟨callee, args, ats⟩ := c
    cases callee with
    | value f =>
      simp only [evOp] at h ⊢
      split at h
      · split at h
        · cases h
        rename_i hcp
        rw [if_neg hcp]
        exact callV_le hF hY h
      · cases h
    | invoke _ _ => exact h
    | builtin b => exact h
  | _ => exact h

theorem evList_le (hF : CLe F F') (hY : CLe Y Y') {ro : Bool} {ops : Array Oper} : ∀ {os : List Oper} {e : Env} {m : Mem} {r : Env × Mem}, evList cx ro F Y ops os e m = some r → evList cx ro F' Y' ops os e m = some r
  | [], e, m, r, h => h
  | o :: os, e, m, r, h => by
    simp only [evList] at h ⊢
    unfold evOne at h ⊢
    cases hw : wantA ops e o with
    | none => simp [hw] at h
    | some b =>
      cases b with
      | false => simp only [hw] at h ⊢; exact evList_le hF hY h
      | true =>
        simp only [hw] at h ⊢
        split at h
        · rename_i e1 m1 h1
          split at h1
          · rename_i r1 m2 h2
            cases h1
            rw [evOp_le hF hY h2]
            exact evList_le hF hY h
          · cases h1
        · cases h

theorem evLoop_le {N : Nat} {c : Code} {b b' : Env → Mem → Run} (hb : ∀ e m r, b e m = some r → b' e m = some r) : ∀ {k k' : Nat}, k ≤ k' → ∀ {e : Env} {m : Mem} {r : Exit × Env × Mem}, evLoop N c b k e m = some r → evLoop N c b' k' e m = some r
  | 0, _, _, e, m, r, h => by cases h
  | k + 1, 0, hk, e, m, r, h => by omega
  | k + 1, k' + 1, hk, e, m, r, h => by
    simp only [evLoop] at h ⊢
    cases h1 : b e m with
    | none => simp [h1] at h
    | some p =>
      obtain ⟨x, e1, m1⟩ := p
      rw [hb _ _ _ h1]
      cases x with
      | normal => simp only [h1] at h ⊢; exact evLoop_le hb (by omega) h
      | _ => simp only [h1] at h ⊢; exact h

theorem evCode_le (hF : CLe F F') (hY : CLe Y Y') {n n' : Nat} (hn : n ≤ n') {top : Bool} (c : Code) : ∀ {e : Env} {m : Mem} {r : Exit × Env × Mem}, evCode cx F Y n top c e m = some r → evCode cx F' Y' n' top c e m = some r := by
  induction c with
  | region id ops draw =>
    intro e m r h
    simp only [evCode] at h ⊢
    split at h
    · rename_i e1 m1 h1; rw [evList_le hF hY h1]; exact h
    · cases h
  | seq a b iha ihb =>
    intro e m r h
    simp only [evCode] at h ⊢
    cases h1 : evCode cx F Y n top a e m with
    | none => simp [h1] at h
    | some p =>
      obtain ⟨x, e1, m1⟩ := p
      rw [iha h1]
      cases x with
      | normal => simp only [h1] at h ⊢; exact ihb h
      | _ => simp only [h1] at h ⊢; exact h
  | cond c a b iha ihb =>
    intro e m r h
    simp only [evCode] at h ⊢
    split at h
    · rename_i t hc
      cases t with
      | true => simp only [if_true] at h ⊢; exact iha h
      | false => simp only [Bool.false_eq_true, if_false] at h ⊢; exact ihb h
    · cases h
  | block id c ih =>
    intro e m r h
    simp only [evCode] at h ⊢
    cases h1 : evCode cx F Y n top c e m with
    | none => simp [h1] at h
    | some p =>
      obtain ⟨x, e1, m1⟩ := p
      rw [ih h1]
      cases x <;> simp only [h1] at h ⊢ <;> exact h
  | loop c ih =>
    intro e m r h
    simp only [evCode] at h ⊢
    exact evLoop_le (fun e m r h => ih h) hn h
  | rangeFunc g ps a b iha ihb =>
    intro e m r h
    simp only [evCode] at h ⊢
    split at h
    · rename_i htop
      rw [if_pos htop]
      split at h
      · rename_i f first cap hg
        generalize hq : F f (first ++ [.yld m.length] ++ cap) (m ++ [.lp e ps.toList a b .ready none]) = q at h
        cases q with
        | none => cases h
        | some rm => rw [hF _ _ _ _ hq]; exact h
      · cases h
    · cases h
  | _ => intro e m r h; exact h

theorem evFunW_le (hF : CLe F F') (hY : CLe Y Y') {n n' : Nat} (hn : n ≤ n') : CLe (evFunW cx F Y n) (evFunW cx F' Y' n') := by
  intro f as m r h
  unfold evFunW at h ⊢
  cases hf : cx.P.funcs[f]? with
  | none => simp [hf] at h
  | some fn =>
    simp only [hf] at h ⊢
    split at h
    case isFalse => cases h
    rename_i hok
    rw [if_pos hok]
    cases hb : fn.body with
    | none => simp [hb] at h
    | some c =>
      simp only [hb] at h ⊢
      cases hev : evCode cx F Y n true c (argEnv as) m with
      | none => simp [hev] at h
      | some p =>
        rw [evCode_le hF hY hn c hev]
        rw [hev] at h
        exact h
theorem evYldW_le (hF : CLe F F') (hY : CLe Y Y') {n n' : Nat} (hn : n ≤ n') : CLe (evYldW cx F Y n) (evYldW cx F' Y' n') := by
  intro id as m r h
  unfold evYldW at h ⊢
  split at h
  case h_2 => cases h
  rename_i e ps a b hm
  split at h
  case isFalse => cases h
  rename_i hl
  rw [if_pos hl]
  split at h
  case h_2 => cases h
  rename_i e1 m1 h1
  rw [evCode_le hF hY hn a h1]
  simp only
  split at h
  case h_2 => cases h
  rename_i h2
  split at h
  case h_2 => cases h
  rename_i m2 h3
  split at h
  case h_2 => cases h
  rename_i x e3 m3 h4
  rw [evCode_le hF hY hn b h4]
  exact h
theorem evAll_le : ∀ {n n' : Nat}, n ≤ n' → CLe (evFun cx n) (evFun cx n') ∧ CLe (evYld cx n) (evYld cx n')
  | 0, n', _ => ⟨fun f as m r h => (nomatch h), fun f as m r h => (nomatch h)⟩
  | n + 1, 0, h => by omega
  | n + 1, n' + 1, h => by
    obtain ⟨h1, h2⟩ := evAll_le (n := n) (n' := n') (by omega)
    exact ⟨evFunW_le h1 h2 (by omega), evYldW_le h1 h2 (by omega)⟩

/-- A function answers, with enough fuel. -/
def Ans (cx : Cx) (f : Nat) (as : List AV) (m : Mem) (r : AV × Mem) : Prop := ∃ n, evFun cx n f as m = some r
theorem Ans.at {f : Nat} {as : List AV} {m : Mem} {r : AV × Mem} (h : Ans cx f as m r) : ∃ n, ∀ n', n ≤ n' → evFun cx n' f as m = some r := by
  obtain ⟨n, h⟩ := h
  exact ⟨n, fun n' hn => (evAll_le hn).1 _ _ _ _ h⟩
theorem Ans.of {f n : Nat} {as : List AV} {m : Mem} {r : AV × Mem} (h : evFunW cx (evFun cx n) (evYld cx n) n f as m = some r) : Ans cx f as m r := ⟨n + 1, h⟩
end Go.Ab

/- Calls with pure arguments; what a path's equations are made of. -/
set_option linter.unusedVariables false
set_option linter.unusedSimpArgs false
namespace Go.Ab
open Go

variable {cx : Cx} {F Y : CallT}

/-- A call in a memory of its own, its result frozen. -/
def Pu (F : CallT) (f : Nat) (as : List AV) (r : AV) : Prop := ∃ r0 M, F f as [] = some (r0, M) ∧ fz M 6 r0 = some r
theorem pu_mk {f : Nat} {as : List AV} {r0 r : AV} {M : Mem} (h : F f as [] = some (r0, M)) (hz : fz M 6 r0 = some r) : Pu F f as r := ⟨r0, M, h, hz⟩
theorem pu_succ {n f : Nat} {al : List AV} {r : AV} (h : Pu (evFunW cx (evFun cx n) (evYld cx n) n) f al r) : Pu (evFun cx (n + 1)) f al r := h
def bt {α : Type} (b : Bool) (x y : α) : α := match b with | true => x | false => y

theorem fz_pure {m : Mem} {x : AV} (h : x.pure = true) : ∀ n, fz m n x = some x
  | 0 => by simp [fz, h]
  | n + 1 => by simp [fz, h]
theorem idsD_pure {m : Mem} {x : AV} (h : x.pure = true) : ∀ n, idsD m n x = []
  | 0 => rfl
  | n + 1 => by simp [idsD, h]
theorem fzs_pure {m : Mem} : ∀ {xs : List AV}, pureL xs = true → fzs m xs = some xs ∧ idsDL m xs = []
  | [], _ => ⟨rfl, rfl⟩
  | x :: xs, h => by
    simp only [pureL, Bool.and_eq_true] at h
    obtain ⟨h1, h2⟩ := fzs_pure (m := m) h.2
    constructor
    · unfold fzs at h1 ⊢
      simp only [List.mapM_cons, Option.bind_eq_bind, Option.pure_def, fz_pure h.1, h1, Option.bind_some]
    · unfold idsDL at h2 ⊢
      simp only [List.flatMap_cons, idsD_pure h.1, h2, List.nil_append]

theorem call_p {g : Nat} {r : AV} {ro : Bool} {m : Mem} {first cap args : List AV} (h : Pu F g (first ++ args ++ cap) r) (hx : cx.X g = none) (hs : plainF cx.sh g = true) (hL : pureL (first ++ args ++ cap) = true) (hr : r.pure = true) :
    callV cx ro F Y m (.fn g first cap) args = some (r, m) := by
  obtain ⟨r0, M, h1, h2⟩ := h
  obtain ⟨g1, g2⟩ := fzs_pure (m := m) hL
  obtain ⟨hs1, hs2, hs3⟩ := plainF_iff hs
  simp only [callV, hx, hs1, hs2, hs3, Bool.false_and, Bool.false_eq_true, if_false, g1, h1, h2, settle, hr, if_true, g2, List.isEmpty_nil, Bool.or_true]

/-- The rest of a list from a place on. -/
theorem drop_cons {α : Type} {xs l : List α} {a : α} {i : Nat} (h : xs.drop i = a :: l) : xs[i]? = some a ∧ i < xs.length ∧ xs.drop (i + 1) = l := by
  refine ⟨?_, ?_, ?_⟩
  · have := congrArg (·[0]?) h
    simpa [List.getElem?_drop] using this
  · rcases Nat.lt_or_ge i xs.length with hl | hl
    · exact hl
    · rw [List.drop_eq_nil_of_le hl] at h; cases h
  · have := congrArg List.tail h
    simpa using this
theorem drop_nil {α : Type} {xs : List α} {i : Nat} (h : xs.drop i = []) : xs.length ≤ i := by simpa using h
/-- An element of an immutable slice, its address. -/
theorem ix_seq {P : Program} {m : Mem} {t et sz : Nat} {z fl : Bool} {xs : List AV} {k : IntKind} {i : Nat} {y : AV} {cs : List AV} (he : elemT P t = some et) (hz : szT P et = some sz) (hi : xs[i]? = some y) (hc : y.cells = cs) (hn : cs ≠ []) :
    noMem m (indexAddrA P m t (.seq z fl sz xs) (.int k (i : Int))) = some (.rptr cs, m) := by
  subst hc
  have h1 : xs[(i : Int).toNat]? = some y := by simpa using hi
  simp [indexAddrA, he, hz, noMem, hi, hn]
theorem wrap_nat {i : Nat} (h : i < 9223372036854775807) : IntKind.i64.wrap ((i : Int) + 1) = ((i + 1 : Nat) : Int) := by
  rw [IntKind.wrap_i64]
  omega
/-- An environment that has these values in these temporaries, and is e elsewhere. -/
def envL : List Nat → List AV → Env → Env
  | t :: ts, v :: vs, e => upd (envL ts vs e) t v
  | _, _, e => e
theorem envL_self : ∀ {ts : List Nat} {vs : List AV} {e : Env}, ts.map e = vs → envL ts vs e = e
  | [], [], e, _ => rfl
  | [], _ :: _, e, h => by simp at h
  | t :: ts, [], e, h => by simp at h
  | t :: ts, v :: vs, e, h => by
    simp only [List.map_cons, List.cons.injEq] at h
    simp only [envL, envL_self h.2]
    funext u
    unfold upd
    split
    · rename_i hu; rw [hu]; exact h.1.symm
    · rfl
/-- The loops of a code, from the left, not those within loops. -/
def loopsOf : Code → List Code
  | .seq a b => loopsOf a ++ loopsOf b
  | .cond _ a b => loopsOf a ++ loopsOf b
  | .block _ c => loopsOf c
  | .loop c => [c]
  | _ => []
def loopC (P : Program) (f j : Nat) : Code := match (P.funcs[f]?).bind (·.body) with
  | some c => ((loopsOf c)[j]?).getD .skip
  | none => .skip
end Go.Ab
