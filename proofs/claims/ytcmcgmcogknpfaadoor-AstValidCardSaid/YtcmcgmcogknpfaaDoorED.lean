/- What holds of a view throughout; the ways in which it goes on. -/
import Derived.Test.YtcmcgmcogknpfaaDoorEC
set_option linter.unusedVariables false
namespace Go.Ab
open Go

def wide (x : AV) (sz : Nat) : Prop := x.cells.length = sz ∧ ∀ y ∈ x.cells, y.leaf = true
def flatC (xs : List AV) : List AV := xs.flatMap AV.cells

/-- A loop's code fits the temporaries. -/
def LpOk (n : Nat) (ps : List Nat) (a bd : Code) : Prop := ∃ k, k ≤ n ∧ okCode k a = true ∧ okCode k bd = true ∧ ∀ p ∈ ps, p < k
def BlkOk (V : Vw) (id b : Nat) : Blk → Prop
  | .box cs => ∃ vs t, V.w.heap[b]? = some (.cells vs t (0, 0)) ∧ Reps V cs vs.toList ∧ ∀ y ∈ cs, y.leaf = true
  | .arr e sz xs => 0 < sz ∧ xs.length ≤ V.cp id ∧ V.cp id ≤ maxLen ∧ (∀ x ∈ xs, wide x sz) ∧
      ∃ vs, V.w.heap[b]? = some (.cells vs e (0, 0)) ∧ vs.size = V.cp id * sz ∧ Reps V (flatC xs) (vs.toList.take (xs.length * sz))
  | .lp env ps a bd st pend => ∃ r : Loop, V.w.heap[b]? = some (.loop r) ∧ r.state = st ∧ r.pending = pend ∧ (r.params = ps.toArray ∧ LpOk r.tmps.size ps a bd) ∧ r.assign = a ∧ r.body = bd ∧
      (∀ t, (env t).under id = true) ∧ ∀ t, Rep V (env t) (r.tmps.getD t undef)
  | .mp ks vs => ∃ (es : Array MapEntry) (cl : Nat), V.w.heap[b]? = some (.map es cl) ∧ Reps V ks (es.toList.map (·.key)) ∧ Reps V vs (es.toList.map (·.val))
  | .dead => True

theorem BlkOk.mono {V V' : Vw} (e : Ext V V') {id b : Nat} {k : Blk} (h : BlkOk V id b k) (hb : V'.w.heap[b]? = V.w.heap[b]?) (hc : V'.cp id = V.cp id) : BlkOk V' id b k := by
  cases k with
  | box cs =>
    obtain ⟨vs, t, h1, h2, h3⟩ := h
    exact ⟨vs, t, hb.trans h1, h2.mono e, h3⟩
  | arr ty sz xs =>
    obtain ⟨h1, h2, h3, h4, vs, h5, h6, h7⟩ := h
    exact ⟨h1, by rw [hc]; exact h2, by rw [hc]; exact h3, h4, vs, hb.trans h5, by rw [hc]; exact h6, h7.mono e⟩
  | lp env ps a bd st pend =>
    obtain ⟨r, h1, h2, h3, h4, h5, h6, h6', h7⟩ := h
    exact ⟨r, hb.trans h1, h2, h3, h4, h5, h6, h6', fun t => (h7 t).mono e⟩
  | mp ks vs =>
    obtain ⟨es, cl, h1, h2, h3⟩ := h
    exact ⟨es, cl, hb.trans h1, h2.mono e, h3.mono e⟩
  | dead => trivial

structure Ok (V : Vw) : Prop where
  sb : ∀ b, V.S b → b < V.w.heap.size
  rb : ∀ id b, V.rs id = some b → b < V.w.heap.size ∧ id < V.mem.length
  sep : ∀ id b v, verOf V.mem id = some v → V.rs id = some b → ¬ V.S b
  inj : ∀ id id' b v v', verOf V.mem id = some v → verOf V.mem id' = some v' → V.rs id = some b → V.rs id' = some b → id = id'
  blk : ∀ id b k, V.mem[id]? = some k → V.rs id = some b → BlkOk V id b k

theorem verOf_some {m : Mem} {id : Nat} {k : Blk} (h : m[id]? = some k) : verOf m id = (shpB k).map (·.1) := by simp [verOf, shp, h]
theorem verOf_append {m : Mem} {l : Mem} {id : Nat} (h : id < m.length) : verOf (m ++ l) id = verOf m id := by simp [verOf, shp, List.getElem?_append_left h]
theorem verOf_set_ne {m : Mem} {id j : Nat} {k : Blk} (h : j ≠ id) : verOf (m.set id k) j = verOf m j := by
  unfold verOf shp; rw [List.getElem?_set_ne (fun e => h e.symm)]
theorem verOf_set_self {m : Mem} {id : Nat} {k : Blk} (h : id < m.length) : verOf (m.set id k) id = (shpB k).map (·.1) := by
  unfold verOf shp; rw [List.getElem?_set_self h]; rfl

/-- From one view to the next: what must be shown anew. -/
theorem Ok.step {V V' : Vw} (o : Ok V) (e : Ext V V') (sb : ∀ b, V'.S b → b < V'.w.heap.size) (rb : ∀ id b, V'.rs id = some b → b < V'.w.heap.size ∧ id < V'.mem.length)
    (sep : ∀ id b v, verOf V'.mem id = some v → V'.rs id = some b → ¬ V'.S b)
    (inj : ∀ id id' b v v', verOf V'.mem id = some v → verOf V'.mem id' = some v' → V'.rs id = some b → V'.rs id' = some b → id = id')
    (hk : ∀ id b k, V'.mem[id]? = some k → V'.rs id = some b → k ≠ .dead → (V.mem[id]? = some k ∧ V.rs id = some b ∧ V'.cp id = V.cp id ∧ V'.w.heap[b]? = V.w.heap[b]?) ∨ BlkOk V' id b k) : Ok V' :=
  ⟨sb, rb, sep, inj, fun id b k hm hr => by
    by_cases hd : k = .dead
    · subst hd; trivial
    · rcases hk id b k hm hr hd with ⟨h1, h2, h3, h4⟩ | h
      · exact (o.blk id b k h1 h2).mono e h4 h3
      · exact h⟩

/-! ### The heap stays -/
def Vw.at (V : Vw) (w : World) : Vw := { V with w := w }
theorem ext_sameHeap {V : Vw} {w : World} (ho : w.os = V.w.os) (ht : w.tape = V.w.tape) (hp : w.output = V.w.output) (hh : w.heap = V.w.heap) : Ext V (V.at w) where
  os := ho
  tape := ht
  output := hp
  size := by simp [Vw.at, hh]
  frame := fun b _ _ => by simp [Vw.at, hh]
  stab := fun b _ => by simp [Vw.at, hh]
  sm := fun _ h => h
  sn := fun _ h => .inl h
  len := Nat.le_refl _
  ver := fun _ _ v' h => ⟨v', h, Nat.le_refl _, fun _ => ⟨fun _ h => h, rfl⟩⟩
  rn := fun id _ h => .inr ⟨id, h⟩
  nn := fun _ _ h => ⟨h, .inl rfl⟩
theorem ok_sameHeap {V : Vw} (o : Ok V) {w : World} (ho : w.os = V.w.os) (ht : w.tape = V.w.tape) (hp : w.output = V.w.output) (hh : w.heap = V.w.heap) : Ok (V.at w) :=
  o.step (ext_sameHeap ho ht hp hh) (fun b h => by simpa [Vw.at, hh] using o.sb b h) (fun id b h => by simpa [Vw.at, hh] using o.rb id b h) o.sep o.inj
    (fun id b k hm hr _ => .inl ⟨hm, hr, rfl, by simp [Vw.at, hh]⟩)

/-! ### The abstract memory grows, not yet laid -/
def Vw.grow (V : Vw) (l : Mem) : Vw := { V with mem := V.mem ++ l }
theorem ext_grow (V : Vw) (l : Mem) : Ext V (V.grow l) where
  os := rfl
  tape := rfl
  output := rfl
  size := Nat.le_refl _
  frame := fun _ _ _ => rfl
  stab := fun _ _ => rfl
  sm := fun _ h => h
  sn := fun _ h => .inl h
  len := by simp [Vw.grow]
  ver := fun id hid v' h => ⟨v', by rw [← verOf_append (l := l) hid]; exact h, Nat.le_refl _, fun _ => ⟨fun _ h => h, rfl⟩⟩
  rn := fun id _ h => .inr ⟨id, h⟩
  nn := fun id hid h => ⟨h, .inl (List.getElem?_append_left hid)⟩
theorem ok_grow {V : Vw} (o : Ok V) (l : Mem) : Ok (V.grow l) := by
  have hlt : ∀ id b, V.rs id = some b → id < V.mem.length := fun id b h => (o.rb id b h).2
  refine o.step (ext_grow V l) o.sb (fun id b h => ⟨(o.rb id b h).1, by have := hlt id b h; simp [Vw.grow]; omega⟩) (fun id b v hv hr => ?_) (fun id id' b v v' hv hv' hr hr' => ?_) (fun id b k hm hr _ => .inl ⟨?_, hr, rfl, rfl⟩)
  · have : verOf V.mem id = some v := by rw [← verOf_append (l := l) (hlt id b hr)]; exact hv
    exact o.sep id b v this hr
  · have h1 : verOf V.mem id = some v := by rw [← verOf_append (l := l) (hlt id b hr)]; exact hv
    have h2 : verOf V.mem id' = some v' := by rw [← verOf_append (l := l) (hlt id' b hr')]; exact hv'
    exact o.inj id id' b v v' h1 h2 hr hr'
  · have : (V.mem ++ l)[id]? = some k := hm
    rwa [List.getElem?_append_left (hlt id b hr)] at this

/-! ### A new block that is an abstract one's -/
def Vw.lay (V : Vw) (id : Nat) (o : Obj) (c : Nat) : Vw :=
  { V with w := V.w.alloc o, rs := fun j => if j = id then some V.w.heap.size else V.rs j, cp := fun j => if j = id then c else V.cp j }
theorem heap_alloc_lt {w : World} {o : Obj} {b : Nat} (h : b < w.heap.size) : (w.alloc o).heap[b]? = w.heap[b]? := by
  show (w.heap.push o)[b]? = _
  rw [Array.getElem?_push, if_neg (by omega)]
theorem ext_lay {V0 V : Vw} (e : Ext V0 V) (o : Ok V) {id : Nat} (ob : Obj) (hid : V0.mem.length ≤ id) : Ext V0 (V.lay id ob (V.cp id)) where
  os := e.os
  tape := e.tape
  output := e.output
  size := by have := e.size; simp [Vw.lay]; omega
  frame := fun b hb hn => (heap_alloc_lt (Nat.lt_of_lt_of_le hb e.size)).trans (e.frame b hb hn)
  stab := fun b hb => (heap_alloc_lt (o.sb b (e.sm b hb))).trans (e.stab b hb)
  sm := e.sm
  sn := e.sn
  len := e.len
  ver := fun j hj v' h => by
    obtain ⟨v0, h0, h1, h2⟩ := e.ver j hj v' h
    have hne : j ≠ id := by omega
    exact ⟨v0, h0, h1, fun he => ⟨fun b hb => by simp only [Vw.lay, if_neg hne]; exact (h2 he).1 b hb, by simp only [Vw.lay, if_neg hne]; exact (h2 he).2⟩⟩
  rn := fun j b h => by
    simp only [Vw.lay] at h
    split at h
    · cases h; exact .inl e.size
    · exact e.rn j b h
  nn := fun j hj h => by
    have hne : j ≠ id := by omega
    simp only [Vw.lay, if_neg hne]
    exact e.nn j hj h
/-- What stands for a value goes on when a block that nothing leads to yet is laid. -/
theorem lay_rep {V : Vw} (o : Ok V) {id : Nat} (ob : Obj) (hn : V.rs id = none) {x : AV} {v : Value} (h : Rep V x v) : Rep (V.lay id ob (V.cp id)) x v := by
  have hcp : ∀ j, (V.lay id ob (V.cp id)).cp j = V.cp j := fun j => by simp only [Vw.lay]; split <;> simp_all
  have hrs : ∀ j b, V.rs j = some b → (V.lay id ob (V.cp id)).rs j = some b := fun j b hb => by
    simp only [Vw.lay]
    split
    · rename_i e; subst e; rw [hn] at hb; cases hb
    · exact hb
  induction h with
  | int k n => exact .int k n
  | bool b => exact .bool b
  | str s => exact .str s
  | agg xs cs h hl _ ih => exact .agg xs cs h hl ih
  | tup xs cs h _ ih => exact .tup xs cs h ih
  | seqNil full sz => exact .seqNil full sz
  | seq full sz xs ad c us hc hf hS h0 hsz hu _ ih =>
    exact .seq full sz xs ad c us hc hf hS h0 hsz (fun j x m y hj hm => by
      have hx : xs ≠ [] := fun hx => by subst hx; simp at hj
      rw [cell_same (w := V.w) (by rw [add_block]; exact heap_alloc_lt (o.sb _ (hS hx)))]
      exact hu j x m y hj hm) ih
  | own j ver v h1 h hv => exact .own j ver v h1 h (fun hv' => by
      obtain ⟨b, hb, he⟩ := hv hv'
      exact ⟨b, hrs j b hb, by rw [hcp]; exact he⟩)
  | ptr j ver off v h1 h hv => exact .ptr j ver off v h1 h (fun hv' => by
      obtain ⟨b, hb, he⟩ := hv hv'
      exact ⟨b, hrs j b hb, he⟩)
  | aptr j ver sz i f v h1 h hv => exact .aptr j ver sz i f v h1 h (fun hv' => by
      obtain ⟨b, hb, he⟩ := hv hv'
      exact ⟨b, hrs j b hb, he⟩)
  | rptr xs ad us h0 hl hS hu _ ih =>
    exact .rptr xs ad us h0 hl hS (fun m y hm => by
      rw [cell_same (w := V.w) (by rw [add_block]; exact heap_alloc_lt (o.sb _ hS))]
      exact hu m y hm) ih
  | nilptr => exact .nilptr
  | fn f xs ys fs cs h h' _ _ ih ih' => exact .fn f xs ys fs cs h h' ih ih'
  | nilfn => exact .nilfn
  | yld j v h1 h hv => exact .yld j v h1 h (fun hv' => by
      obtain ⟨b, hb, he⟩ := hv hv'
      exact ⟨b, hrs j b hb, he⟩)
  | mp j v h1 h hv => exact .mp j v h1 h (fun hv' => by
      obtain ⟨b, hb, he⟩ := hv hv'
      exact ⟨b, hrs j b hb, he⟩)
  | nilmp => exact .nilmp
  | smap ks vs b es cl hS hb h1 h2 _ _ ih ih' => exact .smap ks vs b es cl hS ((heap_alloc_lt (o.sb _ hS)).trans hb) h1 h2 ih ih'
  | junk v => exact .junk v
theorem lay_blk {V : Vw} (o : Ok V) {id : Nat} (ob : Obj) (hn : V.rs id = none) {j b : Nat} {k : Blk} (hb : b < V.w.heap.size) (h : BlkOk V j b k) : BlkOk (V.lay id ob (V.cp id)) j b k := by
  have hcp : ∀ j, (V.lay id ob (V.cp id)).cp j = V.cp j := fun j => by simp only [Vw.lay]; split <;> simp_all
  have hh : (V.lay id ob (V.cp id)).w.heap[b]? = V.w.heap[b]? := heap_alloc_lt hb
  have hrp : ∀ {xs : List AV} {us : List Value}, Reps V xs us → Reps (V.lay id ob (V.cp id)) xs us := fun hr => ⟨hr.1, fun j x c hx hc => lay_rep o ob hn (hr.2 j x c hx hc)⟩
  cases k with
  | box cs => obtain ⟨vs, t, h1, h2, h3⟩ := h; exact ⟨vs, t, hh.trans h1, hrp h2, h3⟩
  | arr ty sz xs =>
    obtain ⟨h1, h2, h3, h4, vs, h5, h6, h7⟩ := h
    exact ⟨h1, by rw [hcp]; exact h2, by rw [hcp]; exact h3, h4, vs, hh.trans h5, by rw [hcp]; exact h6, hrp h7⟩
  | lp env ps a bd st pend =>
    obtain ⟨r, h1, h2, h3, h4, h5, h6, h6', h7⟩ := h
    exact ⟨r, hh.trans h1, h2, h3, h4, h5, h6, h6', fun t => lay_rep o ob hn (h7 t)⟩
  | mp ks vs =>
    obtain ⟨es, cl, h1, h2, h3⟩ := h
    exact ⟨es, cl, hh.trans h1, hrp h2, hrp h3⟩
  | dead => trivial
theorem ok_lay {V : Vw} (o : Ok V) {id : Nat} (ob : Obj) (hid : id < V.mem.length) (hn : V.rs id = none) (hb : ∀ k, V.mem[id]? = some k → BlkOk (V.lay id ob (V.cp id)) id V.w.heap.size k) : Ok (V.lay id ob (V.cp id)) := by
  have hsz : (V.lay id ob (V.cp id)).w.heap.size = V.w.heap.size + 1 := by simp [Vw.lay]
  have hrs : ∀ j b, (V.lay id ob (V.cp id)).rs j = some b → (j = id ∧ b = V.w.heap.size) ∨ (j ≠ id ∧ V.rs j = some b) := by
    intro j b h
    simp only [Vw.lay] at h
    split at h
    · rename_i e; cases h; exact .inl ⟨e, rfl⟩
    · rename_i e; exact .inr ⟨e, h⟩
  refine ⟨fun b h => by have := o.sb b h; omega, fun j b h => ?_, fun j b v hv hr => ?_, fun j j' b v v' hv hv' hr hr' => ?_, fun j b k hm hr => ?_⟩
  · rcases hrs j b h with ⟨rfl, hb'⟩ | ⟨_, h⟩
    · exact ⟨by omega, hid⟩
    · have := o.rb j b h; exact ⟨by omega, this.2⟩
  · rcases hrs j b hr with ⟨rfl, rfl⟩ | ⟨_, h⟩
    · intro hS; have := o.sb _ hS; omega
    · exact o.sep j b v hv h
  · rcases hrs j b hr with ⟨hj, hb1⟩ | ⟨hj, h⟩ <;> rcases hrs j' b hr' with ⟨hj', hb2⟩ | ⟨hj', h'⟩
    · exact hj.trans hj'.symm
    · have := (o.rb j' _ h').1; omega
    · have := (o.rb j _ h).1; omega
    · exact o.inj j j' b v v' hv hv' h h'
  · rcases hrs j b hr with ⟨rfl, rfl⟩ | ⟨hj, h⟩
    · exact hb k hm
    · exact lay_blk o ob hn (o.rb j b h).1 (o.blk j b k hm h)

/-! ### A block written anew, as long as it was -/
def Vw.wr (V : Vw) (id : Nat) (w : World) (k : Blk) : Vw := { V with w := w, mem := V.mem.set id k }
theorem ext_wr {V : Vw} (o : Ok V) {id b v : Nat} {w : World} {k k0 : Blk} (hm : V.mem[id]? = some k0) (hv : verOf V.mem id = some v) (hk : (shpB k).map (·.1) = some v) (hr : V.rs id = some b)
    (ho : w.os = V.w.os) (ht : w.tape = V.w.tape) (hp : w.output = V.w.output) (hs : w.heap.size = V.w.heap.size) (hh : ∀ j, j ≠ b → w.heap[j]? = V.w.heap[j]?) : Ext V (V.wr id w k) where
  os := ho
  tape := ht
  output := hp
  size := Nat.le_of_eq hs.symm
  frame := fun j _ hn => hh j (fun e => hn id (by rw [hr, e]))
  stab := fun j hj => hh j (fun e => o.sep id b v hv hr (e ▸ hj))
  sm := fun _ h => h
  sn := fun _ h => .inl h
  len := by simp [Vw.wr]
  ver := fun j hj v' h => by
    refine ⟨v', ?_, Nat.le_refl _, fun _ => ⟨fun _ h => h, rfl⟩⟩
    by_cases e : j = id
    · subst e
      have h' : verOf (V.mem.set j k) j = some v' := h
      rw [verOf_set_self hj, hk] at h'
      cases h'; exact hv
    · rw [← verOf_set_ne (k := k) e]; exact h
  rn := fun id _ h => .inr ⟨id, h⟩
  nn := fun j hj h => ⟨h, .inl (by
    have e : j ≠ id := fun e => by subst e; rw [hr] at h; cases h
    show (V.mem.set id k)[j]? = _
    rw [List.getElem?_set_ne (fun h => e h.symm)])⟩
theorem ok_wr {V : Vw} (o : Ok V) {id b v : Nat} {w : World} {k k0 : Blk} (hm : V.mem[id]? = some k0) (hv : verOf V.mem id = some v) (hk : (shpB k).map (·.1) = some v) (hr : V.rs id = some b)
    (ho : w.os = V.w.os) (ht : w.tape = V.w.tape) (hp : w.output = V.w.output) (hs : w.heap.size = V.w.heap.size) (hh : ∀ j, j ≠ b → w.heap[j]? = V.w.heap[j]?)
    (hb : BlkOk (V.wr id w k) id b k) : Ok (V.wr id w k) := by
  have hid : id < V.mem.length := verOf_lt hv
  have hver : ∀ j v', verOf (V.mem.set id k) j = some v' → verOf V.mem j = some v' := by
    intro j v' h
    by_cases e : j = id
    · subst e; rw [verOf_set_self hid, hk] at h; cases h; exact hv
    · rw [verOf_set_ne e] at h; exact h
  refine o.step (ext_wr o hm hv hk hr ho ht hp hs hh) (fun j h => by have := o.sb j h; simp [Vw.wr]; omega) (fun j b' h => by have := o.rb j b' h; simp [Vw.wr]; omega)
    (fun j b' v' hv' hr' => o.sep j b' v' (hver j v' hv') hr') (fun j j' b' v1 v2 h1 h2 h3 h4 => o.inj j j' b' v1 v2 (hver _ _ h1) (hver _ _ h2) h3 h4) (fun j b' k' hm' hr' hd => ?_)
  have hm'' : (V.mem.set id k)[j]? = some k' := hm'
  by_cases e : j = id
  · subst e
    rw [List.getElem?_set_self hid] at hm''
    cases hm''
    have : b' = b := by have h' : V.rs j = some b' := hr'; rw [hr] at h'; cases h'; rfl
    subst this
    exact .inr hb
  · rw [List.getElem?_set_ne (fun h => e h.symm)] at hm''
    refine .inl ⟨hm'', hr', rfl, hh b' (fun hb' => ?_)⟩
    subst hb'
    have h1 : verOf V.mem j = (shpB k').map (·.1) := verOf_some hm''
    cases hsk : shpB k' with
    | none => cases k' <;> simp [shpB] at hsk; exact hd rfl
    | some s => exact e (o.inj j id b' s.1 v (by rw [h1, hsk]; rfl) hv hr' hr)

/-! ### A block given up; blocks that are never written again -/
def Vw.die (V : Vw) (id : Nat) : Vw := { V with mem := V.mem.set id .dead }
theorem verOf_die {m : Mem} {id j v : Nat} (h : verOf (m.set id .dead) j = some v) : j ≠ id ∧ verOf m j = some v := by
  by_cases e : j = id
  · subst e
    by_cases hid : j < m.length
    · rw [verOf_set_self hid] at h; simp [shpB] at h
    · have := verOf_lt h; simp at this; omega
  · exact ⟨e, by rw [verOf_set_ne e] at h; exact h⟩
theorem ext_die (V : Vw) (id : Nat) : Ext V (V.die id) where
  os := rfl
  tape := rfl
  output := rfl
  size := Nat.le_refl _
  frame := fun _ _ _ => rfl
  stab := fun _ _ => rfl
  sm := fun _ h => h
  sn := fun _ h => .inl h
  len := by simp [Vw.die]
  ver := fun j hj v' h => ⟨v', (verOf_die h).2, Nat.le_refl _, fun _ => ⟨fun _ h => h, rfl⟩⟩
  rn := fun id _ h => .inr ⟨id, h⟩
  nn := fun j hj h => ⟨h, by
    show (V.mem.set id .dead)[j]? = _ ∨ (V.mem.set id .dead)[j]? = _
    by_cases e : j = id
    · subst e; exact .inr (List.getElem?_set_self hj)
    · exact .inl (List.getElem?_set_ne (fun h => e h.symm))⟩
theorem ok_die {V : Vw} (o : Ok V) (id : Nat) : Ok (V.die id) := by
  refine o.step (ext_die V id) o.sb (fun j b h => by have := o.rb j b h; simp [Vw.die]; exact this) (fun j b v hv hr => o.sep j b v (verOf_die hv).2 hr)
    (fun j j' b v v' h1 h2 h3 h4 => o.inj j j' b v v' (verOf_die h1).2 (verOf_die h2).2 h3 h4) (fun j b k hm hr hd => ?_)
  have hm' : (V.mem.set id .dead)[j]? = some k := hm
  by_cases e : j = id
  · subst e
    by_cases hid : j < V.mem.length
    · rw [List.getElem?_set_self hid] at hm'; cases hm'; exact absurd rfl hd
    · have := (List.getElem?_eq_some_iff.1 hm').1; simp at this; omega
  · rw [List.getElem?_set_ne (fun h => e h.symm)] at hm'
    exact .inl ⟨hm', hr, rfl, rfl⟩
def Vw.kills (V : Vw) (l : List Nat) : Vw := { V with mem := kill V.mem l }
theorem kills_nil (V : Vw) : V.kills [] = V := rfl
theorem kills_cons (V : Vw) (id : Nat) (l : List Nat) : V.kills (id :: l) = (V.die id).kills l := rfl
theorem ok_kills : ∀ (l : List Nat) {V : Vw}, Ok V → Ok (V.kills l) ∧ Ext V (V.kills l)
  | [], V, o => ⟨o, Ext.refl V⟩
  | id :: l, V, o => by
    rw [kills_cons]
    obtain ⟨h1, h2⟩ := ok_kills l (ok_die o id)
    exact ⟨h1, (ext_die V id).trans h2⟩
theorem verOf_kill : ∀ (l : List Nat) {m : Mem} {j v : Nat}, verOf (kill m l) j = some v → j ∉ l ∧ verOf m j = some v
  | [], m, j, v, h => ⟨by simp, h⟩
  | id :: l, m, j, v, h => by
    obtain ⟨h1, h2⟩ := verOf_kill l (m := m.set id .dead) h
    obtain ⟨h3, h4⟩ := verOf_die h2
    exact ⟨by simp [h1, h3], h4⟩

/-- Blocks that no living abstract block lies in may be called never written again. -/
def Vw.calm (V : Vw) (D : Nat → Prop) : Vw := { V with S := fun b => V.S b ∨ D b }
theorem ext_calm {V : Vw} {D : Nat → Prop} (h : ∀ b, D b → ∃ id, V.rs id = some b) : Ext V (V.calm D) where
  os := rfl
  tape := rfl
  output := rfl
  size := Nat.le_refl _
  frame := fun _ _ _ => rfl
  stab := fun _ _ => rfl
  sm := fun _ h => .inl h
  sn := fun b hb => by rcases hb with h1 | h1; exact .inl h1; exact .inr (.inr (h b h1))
  len := Nat.le_refl _
  ver := fun _ _ v' h => ⟨v', h, Nat.le_refl _, fun _ => ⟨fun _ h => h, rfl⟩⟩
  rn := fun id _ h => .inr ⟨id, h⟩
  nn := fun _ _ h => ⟨h, .inl rfl⟩
theorem ok_calm {V : Vw} (o : Ok V) {D : Nat → Prop} (h : ∀ b, D b → ∃ id, V.rs id = some b) (hl : ∀ id b v, verOf V.mem id = some v → V.rs id = some b → ¬ D b) : Ok (V.calm D) :=
  o.step (ext_calm h) (fun b hb => by rcases hb with h1 | h1; exact o.sb b h1; obtain ⟨id, hid⟩ := h b h1; exact (o.rb id b hid).1) o.rb
    (fun id b v hv hr hS => by rcases hS with h1 | h1; exact o.sep id b v hv hr h1; exact hl id b v hv hr h1) o.inj (fun id b k hm hr _ => .inl ⟨hm, hr, rfl, rfl⟩)

/-! ### A new block that is never written again -/
def Vw.lit (V : Vw) (ob : Obj) : Vw := { V with w := V.w.alloc ob, S := fun b => V.S b ∨ b = V.w.heap.size }
theorem ext_lit {V : Vw} (o : Ok V) (ob : Obj) : Ext V (V.lit ob) where
  os := rfl
  tape := rfl
  output := rfl
  size := by simp [Vw.lit]
  frame := fun b hb _ => heap_alloc_lt hb
  stab := fun b hb => heap_alloc_lt (o.sb b hb)
  sm := fun _ h => .inl h
  sn := fun b hb => by rcases hb with h1 | h1; exact .inl h1; exact .inr (.inl (by omega))
  len := Nat.le_refl _
  ver := fun _ _ v' h => ⟨v', h, Nat.le_refl _, fun _ => ⟨fun _ h => h, rfl⟩⟩
  rn := fun id _ h => .inr ⟨id, h⟩
  nn := fun _ _ h => ⟨h, .inl rfl⟩
theorem ok_lit {V : Vw} (o : Ok V) (ob : Obj) : Ok (V.lit ob) := by
  have hsz : (V.lit ob).w.heap.size = V.w.heap.size + 1 := by simp [Vw.lit]
  exact o.step (ext_lit o ob) (fun b hb => by rcases hb with h1 | h1; have := o.sb b h1; omega; omega) (fun id b h => ⟨by have := (o.rb id b h).1; omega, (o.rb id b h).2⟩)
    (fun id b v hv hr hS => by
      rcases hS with h1 | h1
      · exact o.sep id b v hv hr h1
      · have := (o.rb id b hr).1; omega) o.inj (fun id b k hm hr _ => .inl ⟨hm, hr, rfl, heap_alloc_lt (o.rb id b hr).1⟩)
theorem lit_new (V : Vw) (ob : Obj) : (V.lit ob).w.heap[V.w.heap.size]? = some ob := by
  show (V.w.heap.push ob)[V.w.heap.size]? = _
  simp
theorem lay_new (V : Vw) (id : Nat) (ob : Obj) (c : Nat) : (V.lay id ob c).w.heap[V.w.heap.size]? = some ob := by
  show (V.w.heap.push ob)[V.w.heap.size]? = _
  simp

/-! ### A new abstract block and its place -/
def Vw.new (V : Vw) (k : Blk) (ob : Obj) (c : Nat) : Vw :=
  { w := V.w.alloc ob, S := V.S, rs := fun j => if j = V.mem.length then some V.w.heap.size else V.rs j, cp := fun j => if j = V.mem.length then c else V.cp j, mem := V.mem ++ [k] }
theorem ext_new {V : Vw} (o : Ok V) (k : Blk) (ob : Obj) (c : Nat) : Ext V (V.new k ob c) where
  os := rfl
  tape := rfl
  output := rfl
  size := by simp [Vw.new]
  frame := fun b hb _ => heap_alloc_lt hb
  stab := fun b hb => heap_alloc_lt (o.sb b hb)
  sm := fun _ h => h
  sn := fun _ h => .inl h
  len := by simp [Vw.new]
  ver := fun j hj v' h => ⟨v', by have h' : verOf (V.mem ++ [k]) j = some v' := h; rwa [verOf_append hj] at h', Nat.le_refl _, fun _ =>
    ⟨fun b hb => by simp only [Vw.new, if_neg (Nat.ne_of_lt hj)]; exact hb, by simp only [Vw.new, if_neg (Nat.ne_of_lt hj)]⟩⟩
  rn := fun j b h => by
    simp only [Vw.new] at h
    split at h
    · cases h; exact .inl (Nat.le_refl _)
    · exact .inr ⟨j, h⟩
  nn := fun j hj h => ⟨by simp only [Vw.new, if_neg (Nat.ne_of_lt hj)]; exact h, .inl (List.getElem?_append_left hj)⟩
theorem ok_new {V : Vw} (o : Ok V) (k : Blk) (ob : Obj) (c : Nat) (hb : BlkOk (V.new k ob c) V.mem.length V.w.heap.size k) : Ok (V.new k ob c) := by
  have hsz : (V.new k ob c).w.heap.size = V.w.heap.size + 1 := by simp [Vw.new]
  have hln : (V.new k ob c).mem.length = V.mem.length + 1 := by simp [Vw.new]
  have hrs : ∀ j b, (V.new k ob c).rs j = some b → (j = V.mem.length ∧ b = V.w.heap.size) ∨ (j < V.mem.length ∧ V.rs j = some b) := by
    intro j b h
    simp only [Vw.new] at h
    split at h
    · rename_i e; cases h; exact .inl ⟨e, rfl⟩
    · exact .inr ⟨(o.rb j b h).2, h⟩
  have hvr : ∀ j v, j < V.mem.length → verOf (V.new k ob c).mem j = some v → verOf V.mem j = some v := fun j v hj h => by
    have h' : verOf (V.mem ++ [k]) j = some v := h
    rwa [verOf_append hj] at h'
  refine o.step (ext_new o k ob c) (fun b h => by have := o.sb b h; omega) (fun j b h => ?_) (fun j b v hv hr => ?_) (fun j j' b v v' hv hv' hr hr' => ?_) (fun j b k' hm hr hd => ?_)
  · rcases hrs j b h with ⟨hj, hb'⟩ | ⟨hj, h⟩
    · omega
    · have := (o.rb j b h).1; omega
  · rcases hrs j b hr with ⟨hj, hb'⟩ | ⟨hj, h⟩
    · intro hS; have := o.sb _ hS; omega
    · exact o.sep j b v (hvr j v hj hv) h
  · rcases hrs j b hr with ⟨hj, hb1⟩ | ⟨hj, h⟩ <;> rcases hrs j' b hr' with ⟨hj', hb2⟩ | ⟨hj', h'⟩
    · exact hj.trans hj'.symm
    · have := (o.rb j' _ h').1; omega
    · have := (o.rb j _ h).1; omega
    · exact o.inj j j' b v v' (hvr j v hj hv) (hvr j' v' hj' hv') h h'
  · have hm' : (V.mem ++ [k])[j]? = some k' := hm
    rcases hrs j b hr with ⟨hj, hb1⟩ | ⟨hj, h⟩
    · subst hj
      subst hb1
      simp at hm'
      subst hm'
      exact .inr hb
    · rw [List.getElem?_append_left hj] at hm'
      exact .inl ⟨hm', h, by simp only [Vw.new, if_neg (Nat.ne_of_lt hj)], heap_alloc_lt (o.rb j b h).1⟩
theorem new_heap (V : Vw) (k : Blk) (ob : Obj) (c : Nat) : (V.new k ob c).w.heap[V.w.heap.size]? = some ob := by
  show (V.w.heap.push ob)[V.w.heap.size]? = _
  simp
theorem new_mem (V : Vw) (k : Blk) (ob : Obj) (c : Nat) : (V.new k ob c).mem[V.mem.length]? = some k := by simp [Vw.new]
theorem new_rs (V : Vw) (k : Blk) (ob : Obj) (c : Nat) : (V.new k ob c).rs V.mem.length = some V.w.heap.size := by simp [Vw.new]
theorem new_cp (V : Vw) (k : Blk) (ob : Obj) (c : Nat) : (V.new k ob c).cp V.mem.length = c := by simp [Vw.new]
theorem new_hd (V : Vw) (k : Blk) (ob : Obj) (c : Nat) {v : Nat} (h : (shpB k).map (·.1) = some v) : (V.new k ob c).hd V.mem.length v :=
  ⟨by simp [Vw.new], fun v0 h0 => by rw [verOf_some (new_mem V k ob c), h] at h0; cases h0; exact Nat.le_refl _⟩
end Go.Ab
