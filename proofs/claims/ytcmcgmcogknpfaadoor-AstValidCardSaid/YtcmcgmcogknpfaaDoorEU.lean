/- What a range over a function leaves behind it; loops by fuel. -/
import Derived.RangeFuncRecord
import Derived.Test.YtcmcgmcogknpfaaDoorET
set_option linter.unusedVariables false
set_option linter.unusedSimpArgs false
namespace Go.Ab
open Go

/-! ### A new block that nothing leads to -/
def Vw.junk (V : Vw) (ob : Obj) : Vw := { V with w := V.w.alloc ob }
theorem ext_junk {V : Vw} (o : Ok V) (ob : Obj) : Ext V (V.junk ob) where
  os := rfl
  tape := rfl
  output := rfl
  size := by simp [Vw.junk]
  frame := fun b hb _ => heap_alloc_lt hb
  stab := fun b hb => heap_alloc_lt (o.sb b hb)
  sm := fun _ h => h
  sn := fun b hb => .inl hb
  len := Nat.le_refl _
  ver := fun _ _ v' h => ⟨v', h, Nat.le_refl _, fun _ => ⟨fun _ h => h, rfl⟩⟩
  rn := fun id _ h => .inr ⟨id, h⟩
  nn := fun _ _ h => ⟨h, .inl rfl⟩
theorem ok_junk {V : Vw} (o : Ok V) (ob : Obj) : Ok (V.junk ob) := by
  have hsz : (V.junk ob).w.heap.size = V.w.heap.size + 1 := by simp [Vw.junk]
  exact o.step (ext_junk o ob) (fun b h => by have := o.sb b h; omega) (fun id b h => ⟨by have := (o.rb id b h).1; omega, (o.rb id b h).2⟩)
    o.sep o.inj (fun id b k hm hr _ => .inl ⟨hm, hr, rfl, heap_alloc_lt (o.rb id b hr).1⟩)

/-! ### An abstract block given up, its place written anew -/
def Vw.diew (V : Vw) (id : Nat) (w : World) : Vw := { V with w := w, mem := V.mem.set id .dead }
theorem diew_ok {V : Vw} (o : Ok V) {id b v : Nat} {w : World} (hv : verOf V.mem id = some v) (hr : V.rs id = some b)
    (ho : w.os = V.w.os) (ht : w.tape = V.w.tape) (hp : w.output = V.w.output) (hs : w.heap.size = V.w.heap.size) (hh : ∀ j, j ≠ b → w.heap[j]? = V.w.heap[j]?) : Ok (V.diew id w) ∧ Ext V (V.diew id w) := by
  have ext : Ext V (V.diew id w) := {
    os := ho
    tape := ht
    output := hp
    size := Nat.le_of_eq hs.symm
    frame := fun j _ hn => hh j (fun e => hn id (by rw [hr, e]))
    stab := fun j hj => hh j (fun e => o.sep id b v hv hr (e ▸ hj))
    sm := fun _ h => h
    sn := fun _ h => .inl h
    len := by simp [Vw.diew]
    ver := fun j hj v' h => ⟨v', (verOf_die h).2, Nat.le_refl _, fun _ => ⟨fun _ h => h, rfl⟩⟩
    rn := fun id _ h => .inr ⟨id, h⟩
    nn := fun j hj h => ⟨h, by
      show (V.mem.set id .dead)[j]? = _ ∨ (V.mem.set id .dead)[j]? = _
      by_cases e : j = id
      · subst e; exact .inr (List.getElem?_set_self hj)
      · exact .inl (List.getElem?_set_ne (fun h => e h.symm))⟩ }
  refine ⟨o.step ext (fun b h => by have := o.sb b h; simp [Vw.diew]; omega) (fun j b h => by have := o.rb j b h; simp [Vw.diew]; omega) (fun j b v hv hr => o.sep j b v (verOf_die hv).2 hr)
    (fun j j' b v v' h1 h2 h3 h4 => o.inj j j' b v v' (verOf_die h1).2 (verOf_die h2).2 h3 h4) (fun j b' k hm hr' hd => ?_), ext⟩
  have hm' : (V.mem.set id .dead)[j]? = some k := hm
  by_cases e : j = id
  · subst e
    rw [List.getElem?_set_self (verOf_lt hv)] at hm'; cases hm'; exact absurd rfl hd
  · rw [List.getElem?_set_ne (fun h => e h.symm)] at hm'
    refine .inl ⟨hm', hr', rfl, hh b' (fun hb' => ?_)⟩
    subst hb'
    have h1 : verOf V.mem j = (shpB k).map (·.1) := verOf_some hm'
    cases hsk : shpB k with
    | none => cases k <;> simp [shpB] at hsk; exact hd rfl
    | some s => exact e (o.inj j id b' s.1 v (by rw [h1, hsk]; rfl) hv hr' hr)

/-! ### Marks -/
def MarkAt (N : Nat) (V : Vw) (D : Nat) : Prop := N ≤ D ∧ D < V.w.heap.size ∧ V.w.heap[D]? = some (.deferred (some [])) ∧ ¬ V.S D ∧ ∀ id, V.rs id ≠ some D
def Marks (N : Nat) (V : Vw) : List Deferred → Prop
  | [] => True
  | d :: ds => (∃ D, d = { target := .collected D, args := #[] } ∧ MarkAt N V D) ∧ d ∉ ds ∧ Marks N V ds
theorem MarkAt.mono {N D : Nat} {V V' : Vw} (e : Ext V V') (h : MarkAt N V D) : MarkAt N V' D := by
  obtain ⟨h1, h2, h3, h4, h5⟩ := h
  refine ⟨h1, Nat.lt_of_lt_of_le h2 e.size, (e.frame D h2 h5).trans h3, fun h => ?_, fun id h => ?_⟩
  · rcases e.sn D h with h | h | ⟨id, h⟩
    · exact h4 h
    · omega
    · exact h5 id h
  · rcases e.rn id D h with h | ⟨id', h⟩
    · omega
    · exact h5 id' h
theorem Marks.map {N : Nat} {V V' : Vw} (f : ∀ D, MarkAt N V D → MarkAt N V' D) : ∀ {ds : List Deferred}, Marks N V ds → Marks N V' ds
  | [], _ => trivial
  | d :: ds, h => by
    obtain ⟨⟨D, hd, hm⟩, h2, h3⟩ := h
    exact ⟨⟨D, hd, f D hm⟩, h2, Marks.map f h3⟩
theorem Marks.mono {N : Nat} {V V' : Vw} (e : Ext V V') {ds : List Deferred} (h : Marks N V ds) : Marks N V' ds := h.map (fun _ => MarkAt.mono e)
theorem MarkAt.trunc {N D k : Nat} {V : Vw} (h : MarkAt N V D) : MarkAt N (V.trunc k) D := by
  obtain ⟨h1, h2, h3, h4, h5⟩ := h
  refine ⟨h1, h2, h3, fun h => ?_, fun id h => ?_⟩
  · rcases h with h | ⟨id, _, _, _, h⟩
    · exact h4 h
    · exact h5 id h
  · simp only [Vw.trunc] at h
    split at h
    · exact h5 id h
    · cases h
theorem Marks.fresh {N D : Nat} {V : Vw} : ∀ {ds : List Deferred}, Marks N V ds → V.w.heap.size ≤ D → ({ target := .collected D, args := #[] } : Deferred) ∉ ds
  | [], _, _ => by simp
  | d :: ds, h, hD => by
    obtain ⟨⟨D', hd, hm⟩, _, h3⟩ := h
    intro hin
    rcases List.mem_cons.1 hin with he | hin
    · rw [hd] at he
      have : D = D' := by injection he with h1 _; injection h1
      have := hm.2.1; omega
    · exact Marks.fresh h3 hD hin

/-- A block that nothing leads to, written anew: what stands for a value goes on. -/
theorem off_rep {V : Vw} {D : Nat} {w : World} (hS : ¬ V.S D) (hh : ∀ j, j ≠ D → w.heap[j]? = V.w.heap[j]?) {x : AV} {v : Value} (h : Rep V x v) : Rep (V.at w) x v := by
  have hb : ∀ (a : Addr), V.S a.block → w.cell? a = V.w.cell? a := fun a ha => cell_same (hh _ (fun e => hS (e ▸ ha)))
  induction h with
  | int k n => exact .int k n
  | bool b => exact .bool b
  | str s => exact .str s
  | agg xs cs h hl _ ih => exact .agg xs cs h hl ih
  | tup xs cs h _ ih => exact .tup xs cs h ih
  | seqNil full sz => exact .seqNil full sz
  | seq full sz xs ad c us hc hf hS' h0 hsz hu _ ih =>
    exact .seq full sz xs ad c us hc hf hS' h0 hsz (fun j x m y hj hm => by
      have hx : xs ≠ [] := fun hx => by subst hx; simp at hj
      rw [show (V.at w).w = w from rfl, hb _ (by rw [add_block]; exact hS' hx)]
      exact hu j x m y hj hm) ih
  | own j ver v h1 h hv => exact .own j ver v h1 h hv
  | ptr j ver off v h1 h hv => exact .ptr j ver off v h1 h hv
  | aptr j ver sz i f v h1 h hv => exact .aptr j ver sz i f v h1 h hv
  | rptr xs ad us h0 hl hS' hu _ ih =>
    exact .rptr xs ad us h0 hl hS' (fun m y hm => by
      rw [show (V.at w).w = w from rfl, hb _ (by rw [add_block]; exact hS')]
      exact hu m y hm) ih
  | nilptr => exact .nilptr
  | fn f xs ys fs cs h h' _ _ ih ih' => exact .fn f xs ys fs cs h h' ih ih'
  | nilfn => exact .nilfn
  | yld j v h1 h hv => exact .yld j v h1 h hv
  | mp j v h1 h hv => exact .mp j v h1 h hv
  | nilmp => exact .nilmp
  | smap ks vs b es cl hS' hb' h1 h2 _ _ ih ih' => exact .smap ks vs b es cl hS' ((hh _ (fun e => hS (e ▸ hS'))).trans hb') h1 h2 ih ih'
  | junk v => exact .junk v
theorem off_ok {N D : Nat} {V : Vw} (o : Ok V) (hm : MarkAt N V D) {w : World} (ho : w.os = V.w.os) (ht : w.tape = V.w.tape) (hp : w.output = V.w.output) (hs : w.heap.size = V.w.heap.size)
    (hh : ∀ j, j ≠ D → w.heap[j]? = V.w.heap[j]?) : Ok (V.at w) ∧ (∀ V0, V0.w.heap.size ≤ N → Ext V0 V → Ext V0 (V.at w)) ∧ ∀ D', D' ≠ D → MarkAt N V D' → MarkAt N (V.at w) D' := by
  obtain ⟨h1, h2, h3, h4, h5⟩ := hm
  have hrp : ∀ {xs : List AV} {us : List Value}, Reps V xs us → Reps (V.at w) xs us := fun hr => ⟨hr.1, fun j x c hx hc => off_rep h4 hh (hr.2 j x c hx hc)⟩
  refine ⟨⟨fun b h => by have := o.sb b h; simp [Vw.at]; omega, fun id b h => by have := o.rb id b h; simp [Vw.at]; omega, o.sep, o.inj, fun id b k hm hr => ?_⟩, fun V0 hN e => ?_, fun D' hne hm => ?_⟩
  · have hb : (V.at w).w.heap[b]? = V.w.heap[b]? := hh b (fun e => h5 id (by rw [← e]; exact hr))
    have h := o.blk id b k hm hr
    cases k with
    | box cs => obtain ⟨vs, t, g1, g2, g3⟩ := h; exact ⟨vs, t, hb.trans g1, hrp g2, g3⟩
    | arr ty sz xs => obtain ⟨g1, g2, g3, g4, vs, g5, g6, g7⟩ := h; exact ⟨g1, g2, g3, g4, vs, hb.trans g5, g6, hrp g7⟩
    | lp env ps a bd st pend => obtain ⟨r, g1, g2, g3, g4, g5, g6, g7, g8⟩ := h; exact ⟨r, hb.trans g1, g2, g3, g4, g5, g6, g7, fun t => off_rep h4 hh (g8 t)⟩
    | mp ks vs => obtain ⟨es, cl, g1, g2, g3⟩ := h; exact ⟨es, cl, hb.trans g1, hrp g2, hrp g3⟩
    | dead => trivial
  · exact {
      os := ho.trans e.os
      tape := ht.trans e.tape
      output := hp.trans e.output
      size := by have := e.size; simp [Vw.at]; omega
      frame := fun b hb hn => (hh b (by omega)).trans (e.frame b hb hn)
      stab := fun b hb => (hh b (fun he => h4 (he ▸ e.sm b hb))).trans (e.stab b hb)
      sm := e.sm
      sn := e.sn
      len := e.len
      ver := e.ver
      rn := e.rn
      nn := e.nn }
  · obtain ⟨g1, g2, g3, g4, g5⟩ := hm
    exact ⟨g1, by simp [Vw.at]; omega, (hh D' hne).trans g3, g4, g5⟩

theorem leave_ok {F : Fence} {n N : Nat} {P : Program} {fn : Func} {tmps : Array Value} {R : Ending → World → Prop} : ∀ (ds : List Deferred) {V : Vw}, Ok V → Marks N V ds →
    (∀ V', Ok V' → V'.mem = V.mem → (∀ x v, Rep V x v → Rep V' x v) → (∀ V0, V0.w.heap.size ≤ N → Ext V0 V → Ext V0 V') → ∃ v, (results fn tmps).run P V'.w = .ok v V'.w ∧ R (.returned v) V'.w) →
    LeavesInM F n P fn tmps R ds .returning V.w
  | [], V, o, _, h => h V o rfl (fun _ _ h => h) (fun _ _ h => h)
  | d :: ds, V, o, hm, h => by
    obtain ⟨⟨D, hd, hD⟩, hnot, hrest⟩ := hm
    subst hd
    have hrun := run_takeDeferred (P := P) (w := V.w) hD.2.2.1
    have hh : ∀ j, j ≠ D → (V.w.putObj D (.deferred none)).heap[j]? = V.w.heap[j]? := fun j hj => World.putObj_heap_other hj
    obtain ⟨o', e', m'⟩ := off_ok (w := V.w.putObj D (.deferred none)) o hD rfl rfl rfl World.putObj_size hh
    have hrest' : ∀ {l : List Deferred}, ({ target := .collected D, args := #[] } : Deferred) ∉ l → Marks N V l → Marks N (V.at (V.w.putObj D (.deferred none))) l := by
      intro l
      induction l with
      | nil => intro _ _; trivial
      | cons q l ih =>
        rintro hn ⟨⟨D2, hq, hm2⟩, h2, h3⟩
        refine ⟨⟨D2, hq, m' D2 (fun e => hn ?_) hm2⟩, h2, ih (fun hin => hn (List.mem_cons_of_mem _ hin)) h3⟩
        subst e; subst hq; simp
    refine ⟨by simp, .inl ⟨D, _, rfl, hrun, ?_⟩⟩
    exact leave_ok ds o' (hrest' hnot hrest) (fun V' oV hmV hrV heV => h V' oV hmV (fun x v hr => hrV x v (off_rep hD.2.2.2.1 hh hr)) (fun V0 hN e => heV V0 hN (e' V0 hN e)))

/-! ### Loops by fuel -/
theorem exists_least {p : Nat → Prop} (h : ∃ k, p k) : ∃ k, p k ∧ ∀ j, p j → k ≤ j := by
  obtain ⟨k, hk⟩ := h
  induction k using Nat.strongRecOn with
  | _ k ih =>
    by_cases hj : ∃ j, j < k ∧ p j
    · obtain ⟨j, hjk, hpj⟩ := hj; exact ih j hjk hpj
    · exact ⟨k, hk, fun j hpj => Nat.le_of_not_lt (fun hlt => hj ⟨j, hlt, hpj⟩)⟩
noncomputable def least (p : Nat → Prop) : Nat := @dite _ (∃ k, p k ∧ ∀ j, p j → k ≤ j) (Classical.propDecidable _) (fun h => Classical.choose h) (fun _ => 0)
theorem least_spec {p : Nat → Prop} (h : ∃ k, p k) : p (least p) ∧ ∀ j, p j → least p ≤ j := by
  have h' := exists_least h
  unfold least
  rw [dif_pos h']
  exact Classical.choose_spec h'
theorem loop_fuel {F : Fence} {n : Nat} {P : Program} {c : Code} {Q : Exit → Act → World → Prop} {a : Act} {w : World} (p : Nat → Act → World → Prop) (h0 : ∃ k, p k a w)
    (round : ∀ k a w, p k a w → c.wpIn F n P (Exit.then (fun a' w' => ∃ j, j < k ∧ p j a' w') Q) a w) : (Code.loop c).wpIn F n P Q a w := by
  refine wpIn_loop (fun a w => ∃ k, p k a w) (fun a w => least (fun k => p k a w)) h0 (fun a w hI => ?_)
  obtain ⟨h1, h2⟩ := least_spec hI
  refine wpIn_mono (round _ a w h1) (fun e a' w' hq => ?_)
  cases e with
  | normal =>
    obtain ⟨j, hj, hp⟩ := hq
    exact ⟨⟨j, hp⟩, Nat.lt_of_le_of_lt ((least_spec ⟨j, hp⟩).2 j hp) hj⟩
  | _ => exact hq
end Go.Ab
