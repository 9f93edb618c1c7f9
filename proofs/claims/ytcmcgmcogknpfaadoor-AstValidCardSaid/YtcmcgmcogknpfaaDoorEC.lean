/- What an abstract value says of a value in a world; how a world may go on. -/
import Derived.Test.YtcmcgmcogknpfaaDoorEB
set_option linter.unusedVariables false
namespace Go.Ab
open Go

/-- A world seen through an abstract memory. S: the blocks that are never written again. rs: where an abstract block lies. cp: an abstract array's capacity. -/
structure Vw where
  w : World
  S : Nat → Prop
  rs : Nat → Option Nat
  cp : Nat → Nat
  mem : Mem

/-- A handle that has not been overtaken. -/
def Vw.hd (V : Vw) (id ver : Nat) : Prop := id < V.mem.length ∧ ∀ v0, verOf V.mem id = some v0 → ver ≤ v0


inductive Rep (V : Vw) : AV → Value → Prop
  | int (k : IntKind) (n : Int) : Rep V (.int k n) (.int k n)
  | bool (b : Bool) : Rep V (.bool b) (.bool b)
  | str (s : ByteArray) : Rep V (.str s) (.string s)
  | agg (xs : List AV) (cs : Array Value) (h : cs.size = xs.length) (hl : ∀ x ∈ xs, x.leaf = true) (hr : ∀ (j : Nat) (x : AV) (c : Value), xs[j]? = some x → cs[j]? = some c → Rep V x c) : Rep V (.agg xs) (.agg cs)
  | tup (xs : List AV) (cs : Array Value) (h : cs.size = xs.length) (hr : ∀ (j : Nat) (x : AV) (c : Value), xs[j]? = some x → cs[j]? = some c → Rep V x c) : Rep V (.tup xs) (.tuple cs)
  | seqNil (full : Bool) (sz : Nat) : Rep V (.seq true full sz []) (.slice none 0 0)
  | seq (full : Bool) (sz : Nat) (xs : List AV) (ad : Addr) (c : Nat) (us : Nat → Nat → Value) (hc : xs.length ≤ c) (hf : full = true → c = xs.length)
      (hS : xs ≠ [] → V.S ad.block) (h0 : xs ≠ [] → 0 < sz) (hsz : ∀ x ∈ xs, x.cells.length = sz ∧ ∀ y ∈ x.cells, y.leaf = true)
      (hu : ∀ (j : Nat) (x : AV) (m : Nat) (y : AV), xs[j]? = some x → x.cells[m]? = some y → V.w.cell? (ad.add (j * sz + m)) = some (us j m))
      (hr : ∀ (j : Nat) (x : AV) (m : Nat) (y : AV), xs[j]? = some x → x.cells[m]? = some y → Rep V y (us j m)) : Rep V (.seq false full sz xs) (.slice (some ad) xs.length c)
  | own (id ver : Nat) (v : Value) (h1 : v.oneCell' = true) (h : V.hd id ver) (hv : verOf V.mem id = some ver → ∃ b, V.rs id = some b ∧ v = .slice (some ⟨b, 0, none⟩) ver (V.cp id)) : Rep V (.own id ver) v
  | ptr (id ver off : Nat) (v : Value) (h1 : v.oneCell' = true) (h : V.hd id ver) (hv : verOf V.mem id = some ver → ∃ b, V.rs id = some b ∧ v = .pointer (some ⟨b, off, none⟩)) : Rep V (.ptr id ver off) v
  | aptr (id ver sz i f : Nat) (v : Value) (h1 : v.oneCell' = true) (h : V.hd id ver) (hv : verOf V.mem id = some ver → ∃ b, V.rs id = some b ∧ v = .pointer (some ⟨b, i * sz + f, none⟩)) : Rep V (.aptr id ver sz i f) v
  | rptr (xs : List AV) (ad : Addr) (us : Nat → Value) (h0 : xs ≠ []) (hl : ∀ x ∈ xs, x.leaf = true) (hS : V.S ad.block)
      (hu : ∀ (m : Nat) (y : AV), xs[m]? = some y → V.w.cell? (ad.add m) = some (us m)) (hr : ∀ (m : Nat) (y : AV), xs[m]? = some y → Rep V y (us m)) : Rep V (.rptr xs) (.pointer (some ad))
  | nilptr : Rep V .nilptr (.pointer none)
  | fn (f : Nat) (xs ys : List AV) (fs cs : Array Value) (h : fs.size = xs.length) (h' : cs.size = ys.length)
      (hr : ∀ (j : Nat) (x : AV) (c : Value), xs[j]? = some x → fs[j]? = some c → Rep V x c) (hr' : ∀ (j : Nat) (x : AV) (c : Value), ys[j]? = some x → cs[j]? = some c → Rep V x c) : Rep V (.fn f xs ys) (.func (.func f) fs cs)
  | nilfn : Rep V .nilfn .nilFunc
  | yld (id : Nat) (v : Value) (h1 : v.oneCell' = true) (h : V.hd id 0) (hv : verOf V.mem id = some 0 → ∃ b, V.rs id = some b ∧ v = .func (.yield b) #[] #[]) : Rep V (.yld id) v
  | mp (id : Nat) (v : Value) (h1 : v.oneCell' = true) (h : V.hd id 0) (hv : verOf V.mem id = some 0 → ∃ b, V.rs id = some b ∧ v = .map (some b)) : Rep V (.mp id) v
  | nilmp : Rep V .nilmp (.map none)
  | smap (ks vs : List AV) (b : Nat) (es : Array MapEntry) (cl : Nat) (hS : V.S b) (hb : V.w.heap[b]? = some (.map es cl)) (h1 : es.size = ks.length) (h2 : es.size = vs.length)
      (hk : ∀ (j : Nat) (x : AV) (e : MapEntry), ks[j]? = some x → es[j]? = some e → Rep V x e.key) (hv : ∀ (j : Nat) (x : AV) (e : MapEntry), vs[j]? = some x → es[j]? = some e → Rep V x e.val) : Rep V (.smap ks vs) (.map (some b))
  | junk (v : Value) : Rep V .junk v

/-- How a view may go on. -/
structure Ext (V V' : Vw) : Prop where
  os : V'.w.os = V.w.os
  tape : V'.w.tape = V.w.tape
  output : V'.w.output = V.w.output
  size : V.w.heap.size ≤ V'.w.heap.size
  frame : ∀ b, b < V.w.heap.size → (∀ id, V.rs id ≠ some b) → V'.w.heap[b]? = V.w.heap[b]?
  stab : ∀ b, V.S b → V'.w.heap[b]? = V.w.heap[b]?
  sm : ∀ b, V.S b → V'.S b
  sn : ∀ b, V'.S b → V.S b ∨ V.w.heap.size ≤ b ∨ ∃ id, V.rs id = some b
  len : V.mem.length ≤ V'.mem.length
  ver : ∀ id, id < V.mem.length → ∀ v', verOf V'.mem id = some v' → ∃ v0, verOf V.mem id = some v0 ∧ v0 ≤ v' ∧ (v0 = v' → (∀ b, V.rs id = some b → V'.rs id = some b) ∧ V'.cp id = V.cp id)
  rn : ∀ id b, V'.rs id = some b → V.w.heap.size ≤ b ∨ ∃ id', V.rs id' = some b
  nn : ∀ id, id < V.mem.length → V.rs id = none → V'.rs id = none ∧ (V'.mem[id]? = V.mem[id]? ∨ V'.mem[id]? = some .dead)

theorem Ext.refl (V : Vw) : Ext V V := ⟨rfl, rfl, rfl, Nat.le_refl _, fun _ _ _ => rfl, fun _ _ => rfl, fun _ h => h, fun _ h => .inl h, Nat.le_refl _, fun _ _ v' h => ⟨v', h, Nat.le_refl _, fun _ => ⟨fun _ h => h, rfl⟩⟩, fun id _ h => .inr ⟨id, h⟩, fun _ _ h => ⟨h, .inl rfl⟩⟩

theorem verOf_lt {m : Mem} {id v : Nat} (h : verOf m id = some v) : id < m.length := by
  unfold verOf shp at h
  cases hm : m[id]? with
  | none => simp [hm] at h
  | some b => exact (List.getElem?_eq_some_iff.1 hm).1

theorem Ext.trans {A B C : Vw} (h : Ext A B) (k : Ext B C) : Ext A C where
  os := k.os.trans h.os
  tape := k.tape.trans h.tape
  output := k.output.trans h.output
  size := Nat.le_trans h.size k.size
  frame := fun b hb hn => (k.frame b (Nat.lt_of_lt_of_le hb h.size) (fun id e => by
    rcases h.rn id b e with h1 | ⟨id', h1⟩
    · omega
    · exact hn id' h1)).trans (h.frame b hb hn)
  stab := fun b hb => (k.stab b (h.sm b hb)).trans (h.stab b hb)
  sm := fun b hb => k.sm b (h.sm b hb)
  sn := fun b hb => by
    rcases k.sn b hb with h1 | h1 | ⟨id, h1⟩
    · exact h.sn b h1
    · exact .inr (.inl (Nat.le_trans h.size h1))
    · rcases h.rn id b h1 with h2 | h2
      · exact .inr (.inl h2)
      · exact .inr (.inr h2)
  len := Nat.le_trans h.len k.len
  ver := fun id hid v' hv => by
    obtain ⟨v1, h1, hle1, he1⟩ := k.ver id (Nat.lt_of_lt_of_le hid h.len) v' hv
    obtain ⟨v0, h0, hle0, he0⟩ := h.ver id hid v1 h1
    refine ⟨v0, h0, Nat.le_trans hle0 hle1, fun e => ?_⟩
    have e1 : v1 = v' := by omega
    have e0 : v0 = v1 := by omega
    exact ⟨fun b hb => (he1 e1).1 b ((he0 e0).1 b hb), (he1 e1).2.trans (he0 e0).2⟩
  rn := fun id b hb => by
    rcases k.rn id b hb with h1 | ⟨id', h1⟩
    · exact .inl (Nat.le_trans h.size h1)
    · exact h.rn id' b h1
  nn := fun id hid hn => by
    obtain ⟨h1, h2⟩ := h.nn id hid hn
    obtain ⟨h3, h4⟩ := k.nn id (Nat.lt_of_lt_of_le hid h.len) h1
    refine ⟨h3, ?_⟩
    rcases h4 with h4 | h4
    · rcases h2 with h2 | h2
      · exact .inl (h4.trans h2)
      · exact .inr (h4.trans h2)
    · exact .inr h4

theorem Ext.hd {V V' : Vw} (e : Ext V V') {id ver : Nat} (h : V.hd id ver) : V'.hd id ver :=
  ⟨Nat.lt_of_lt_of_le h.1 e.len, fun v' hv => by
    obtain ⟨v0, h0, hle, _⟩ := e.ver id h.1 v' hv
    exact Nat.le_trans (h.2 v0 h0) hle⟩
/-- A handle that is good now was good before, and leads to the same block. -/
theorem Ext.back {V V' : Vw} (e : Ext V V') {id ver : Nat} (h : V.hd id ver) (hv : verOf V'.mem id = some ver) :
    verOf V.mem id = some ver ∧ (∀ b, V.rs id = some b → V'.rs id = some b) ∧ V'.cp id = V.cp id := by
  obtain ⟨v0, h0, hle, he⟩ := e.ver id h.1 ver hv
  have : v0 = ver := Nat.le_antisymm hle (h.2 v0 h0)
  subst this
  exact ⟨h0, he rfl⟩

theorem cell_same {w w' : World} {a : Addr} (h : w'.heap[a.block]? = w.heap[a.block]?) : w'.cell? a = w.cell? a := by simp [World.cell?, h]
theorem add_block (a : Addr) (n : Nat) : (a.add n).block = a.block := by unfold Addr.add; split <;> rfl
theorem add_add (a : Addr) (i j : Nat) : (a.add i).add j = a.add (i + j) := by
  unfold Addr.add
  by_cases hi : i = 0 <;> by_cases hj : j = 0 <;> simp [hi, hj]
  omega
theorem add_lit (b o n : Nat) : (⟨b, o, none⟩ : Addr).add n = ⟨b, o + n, none⟩ := by unfold Addr.add; split <;> simp_all

theorem Rep.mono {V V' : Vw} (e : Ext V V') {x : AV} {v : Value} (h : Rep V x v) : Rep V' x v := by
  induction h with
  | int k n => exact .int k n
  | bool b => exact .bool b
  | str s => exact .str s
  | agg xs cs h hl _ ih => exact .agg xs cs h hl ih
  | tup xs cs h _ ih => exact .tup xs cs h ih
  | seqNil full sz => exact .seqNil full sz
  | seq full sz xs ad c us hc hf hS h0 hsz hu _ ih =>
    exact .seq full sz xs ad c us hc hf (fun hx => e.sm _ (hS hx)) h0 hsz (fun j x m y hj hm => by
      have hx : xs ≠ [] := fun hx => by subst hx; simp at hj
      rw [cell_same (w := V.w) (by rw [add_block]; exact e.stab _ (hS hx))]
      exact hu j x m y hj hm) ih
  | own id ver v h1 h hv => exact .own id ver v h1 (e.hd h) (fun hv' => by
      obtain ⟨h1, h2, h3⟩ := e.back h hv'
      obtain ⟨b, hb, rfl⟩ := hv h1
      exact ⟨b, h2 b hb, by rw [h3]⟩)
  | ptr id ver off v h1 h hv => exact .ptr id ver off v h1 (e.hd h) (fun hv' => by
      obtain ⟨h1, h2, h3⟩ := e.back h hv'
      obtain ⟨b, hb, rfl⟩ := hv h1
      exact ⟨b, h2 b hb, rfl⟩)
  | aptr id ver sz i f v h1 h hv => exact .aptr id ver sz i f v h1 (e.hd h) (fun hv' => by
      obtain ⟨h1, h2, h3⟩ := e.back h hv'
      obtain ⟨b, hb, rfl⟩ := hv h1
      exact ⟨b, h2 b hb, rfl⟩)
  | rptr xs ad us h0 hl hS hu _ ih =>
    exact .rptr xs ad us h0 hl (e.sm _ hS) (fun m y hm => by
      rw [cell_same (w := V.w) (by rw [add_block]; exact e.stab _ hS)]
      exact hu m y hm) ih
  | nilptr => exact .nilptr
  | fn f xs ys fs cs h h' _ _ ih ih' => exact .fn f xs ys fs cs h h' ih ih'
  | nilfn => exact .nilfn
  | yld id v h1 h hv => exact .yld id v h1 (e.hd h) (fun hv' => by
      obtain ⟨h1, h2, h3⟩ := e.back h hv'
      obtain ⟨b, hb, rfl⟩ := hv h1
      exact ⟨b, h2 b hb, rfl⟩)
  | mp id v h1 h hv => exact .mp id v h1 (e.hd h) (fun hv' => by
      obtain ⟨h1, h2, h3⟩ := e.back h hv'
      obtain ⟨b, hb, rfl⟩ := hv h1
      exact ⟨b, h2 b hb, rfl⟩)
  | nilmp => exact .nilmp
  | smap ks vs b es cl hS hb h1 h2 _ _ ih ih' => exact .smap ks vs b es cl (e.sm _ hS) ((e.stab _ hS).trans hb) h1 h2 ih ih'
  | junk v => exact .junk v

/-! ### Cells -/
/-- A list of cells, one by one. -/
def Reps (V : Vw) (xs : List AV) (cs : List Value) : Prop := cs.length = xs.length ∧ ∀ (j : Nat) (x : AV) (c : Value), xs[j]? = some x → cs[j]? = some c → Rep V x c
theorem Reps.mono {V V' : Vw} (e : Ext V V') {xs : List AV} {cs : List Value} (h : Reps V xs cs) : Reps V' xs cs := ⟨h.1, fun j x c hx hc => (h.2 j x c hx hc).mono e⟩
theorem Reps.get {V : Vw} {xs : List AV} {cs : List Value} (h : Reps V xs cs) {j : Nat} {x : AV} (hx : xs[j]? = some x) : ∃ c, cs[j]? = some c ∧ Rep V x c := by
  have hj := (List.getElem?_eq_some_iff.1 hx).1
  have : j < cs.length := by rw [h.1]; exact hj
  exact ⟨cs[j], List.getElem?_eq_getElem this, h.2 j x _ hx (List.getElem?_eq_getElem this)⟩
theorem Reps.take {V : Vw} {xs : List AV} {cs : List Value} (h : Reps V xs cs) (n : Nat) : Reps V (xs.take n) (cs.take n) :=
  ⟨by simp [h.1], fun j x c hx hc => by
    rw [List.getElem?_take] at hx hc
    split at hx
    · rename_i hj; rw [if_pos hj] at hc; exact h.2 j x c hx hc
    · cases hx⟩
theorem Reps.drop {V : Vw} {xs : List AV} {cs : List Value} (h : Reps V xs cs) (n : Nat) : Reps V (xs.drop n) (cs.drop n) :=
  ⟨by simp [h.1], fun j x c hx hc => by
    rw [List.getElem?_drop] at hx hc
    exact h.2 _ x c hx hc⟩
theorem Reps.append {V : Vw} {xs ys : List AV} {cs ds : List Value} (h : Reps V xs cs) (k : Reps V ys ds) : Reps V (xs ++ ys) (cs ++ ds) :=
  ⟨by simp [h.1, k.1], fun j x c hx hc => by
    by_cases hj : j < xs.length
    · rw [List.getElem?_append_left hj] at hx
      rw [List.getElem?_append_left (by rw [h.1]; exact hj)] at hc
      exact h.2 j x c hx hc
    · rw [List.getElem?_append_right (by omega)] at hx
      rw [List.getElem?_append_right (by rw [h.1]; omega), h.1] at hc
      exact k.2 _ x c hx hc⟩
theorem Reps.nil (V : Vw) : Reps V [] [] := ⟨rfl, fun j x c hx => by simp at hx⟩
theorem Reps.cons {V : Vw} {x : AV} {c : Value} {xs : List AV} {cs : List Value} (h : Rep V x c) (k : Reps V xs cs) : Reps V (x :: xs) (c :: cs) :=
  ⟨by simp [k.1], fun j y d hy hd => by
    cases j with
    | zero => simp at hy hd; subst hy; subst hd; exact h
    | succ j => simp at hy hd; exact k.2 j y d hy hd⟩
theorem Reps.inv {V : Vw} {x : AV} {xs : List AV} {cs : List Value} (h : Reps V (x :: xs) cs) : ∃ c cs', cs = c :: cs' ∧ Rep V x c ∧ Reps V xs cs' := by
  cases cs with
  | nil => have := h.1; simp at this
  | cons c cs' => exact ⟨c, cs', rfl, h.2 0 x c rfl rfl, by have := h.1; simpa using this, fun j y d hy hd => h.2 (j + 1) y d (by simpa using hy) (by simpa using hd)⟩

theorem Rep.one {V : Vw} {x : AV} {v : Value} (h : Rep V x v) (hx : x.leaf = true) : v.oneCell' = true := by
  cases h <;> first | rfl | assumption | (simp [AV.leaf] at hx)
theorem cells_of_one {v : Value} (h : v.oneCell' = true) : v.cells = #[v] := by
  cases v <;> first | rfl | (simp [Value.oneCell'] at h)
theorem cells_leaf {x : AV} (hx : x.leaf = true) : x.cells = [x] := by cases x <;> first | rfl | (simp [AV.leaf] at hx)
/-- A value's cells. (A tuple has no place in memory.) -/
theorem Rep.cells {V : Vw} {x : AV} {v : Value} (h : Rep V x v) (hx : x.data = true) : Reps V x.cells v.cells.toList ∧ (∀ y ∈ x.cells, y.leaf = true) ∧ ∀ u ∈ v.cells.toList, u.oneCell' = true := by
  by_cases hl : x.leaf = true
  · rw [cells_leaf hl, cells_of_one (h.one hl)]
    exact ⟨Reps.cons h (Reps.nil V), by simpa using hl, by simpa using h.one hl⟩
  · cases h with
    | agg xs cs hs hll hr =>
      refine ⟨⟨by simpa [AV.cells, Value.cells] using hs, fun j x c hx hc => hr j x c hx (by simpa [Value.cells] using hc)⟩, hll, fun u hu => ?_⟩
      obtain ⟨j, hj, rfl⟩ := List.getElem_of_mem hu
      have hj' : j < xs.length := by have : j < cs.size := by simpa [Value.cells] using hj
                                     omega
      have := hr j xs[j] cs[j] (List.getElem?_eq_getElem hj') (Array.getElem?_eq_getElem (by omega))
      simp only [Value.cells, Array.getElem_toList]
      exact this.one (hll _ (List.getElem_mem hj'))
    | tup xs cs => simp [AV.data] at hx
    | junk v => simp [AV.data] at hx
    | _ => exact absurd rfl hl
end Go.Ab
