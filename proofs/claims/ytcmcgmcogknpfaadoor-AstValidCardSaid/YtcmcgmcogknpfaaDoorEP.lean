/- Two operations that may change places. -/
import Derived.Test.YtcmcgmcogknpfaaDoorEO
set_option linter.unusedVariables false
set_option linter.unusedSimpArgs false
namespace Go.Ab
open Go

variable {cx : Cx} {F Y : CallT}

theorem get_app {m l : Mem} {id : Nat} {k : Blk} (h : m[id]? = some k) : (m ++ l)[id]? = some k := by
  rw [List.getElem?_append_left (List.getElem?_eq_some_iff.1 h).1]; exact h

/-- Frozen in a longer memory: the same. -/
theorem fz_ext {m : Mem} (l : Mem) : ∀ (n : Nat) {x y : AV}, fz m n x = some y → fz (m ++ l) n x = some y ∧ idsD (m ++ l) n x = idsD m n x := by
  intro n
  induction n with
  | zero => intro x y h; exact ⟨h, rfl⟩
  | succ n ih =>
    intro x y h
    simp only [fz] at h
    simp only [fz, idsD]
    split at h
    · rename_i hp; simp only [hp, if_true]; exact ⟨h, trivial⟩
    rename_i hp
    simp only [if_neg hp]
    have lst : ∀ {xs ys : List AV}, xs.mapM (fz m n) = some ys → xs.mapM (fz (m ++ l) n) = some ys ∧ xs.flatMap (idsD (m ++ l) n) = xs.flatMap (idsD m n) :=
      fun hm => mapM_at (fun x _ y hy => ih hy) hm
    cases x with
    | own id ver =>
      simp only at h ⊢
      cases hm : m[id]? with
      | none => simp [hm] at h
      | some k =>
        rw [get_app hm]
        simp only [hm] at h
        cases k with
        | arr e sz xs =>
          simp only at h ⊢
          split at h
          · rename_i hl
            obtain ⟨ys, hy, rfl⟩ := Option.map_eq_some_iff.1 h
            obtain ⟨h1, h2⟩ := lst hy
            simp only [if_pos hl, h1, h2]; exact ⟨rfl, trivial⟩
          · cases h
        | _ => cases h
    | ptr id ver off =>
      simp only at h ⊢
      cases hm : m[id]? with
      | none => simp [hm] at h
      | some k =>
        rw [get_app hm]
        simp only [hm] at h
        cases k with
        | box cs =>
          simp only at h ⊢
          split at h
          · rename_i hl
            obtain ⟨ys, hy, rfl⟩ := Option.map_eq_some_iff.1 h
            obtain ⟨h1, h2⟩ := lst hy
            simp only [if_pos hl, h1, h2]; exact ⟨rfl, trivial⟩
          · cases h
        | _ => cases h
    | agg xs => simp only at h ⊢; obtain ⟨ys, hy, rfl⟩ := Option.map_eq_some_iff.1 h; obtain ⟨h1, h2⟩ := lst hy; rw [h1]; exact ⟨rfl, h2⟩
    | tup xs => simp only at h ⊢; obtain ⟨ys, hy, rfl⟩ := Option.map_eq_some_iff.1 h; obtain ⟨h1, h2⟩ := lst hy; rw [h1]; exact ⟨rfl, h2⟩
    | seq z f s xs => simp only at h ⊢; obtain ⟨ys, hy, rfl⟩ := Option.map_eq_some_iff.1 h; obtain ⟨h1, h2⟩ := lst hy; rw [h1]; exact ⟨rfl, h2⟩
    | rptr xs => simp only at h ⊢; obtain ⟨ys, hy, rfl⟩ := Option.map_eq_some_iff.1 h; obtain ⟨h1, h2⟩ := lst hy; rw [h1]; exact ⟨rfl, h2⟩
    | fn f a b =>
      simp only at h ⊢
      cases ha : a.mapM (fz m n) with
      | none => simp [ha] at h
      | some as =>
        cases hb : b.mapM (fz m n) with
        | none => simp [ha, hb] at h
        | some bs =>
          simp only [ha, hb] at h
          obtain ⟨h1, h2⟩ := lst ha
          obtain ⟨h3, h4⟩ := lst hb
          rw [h1, h2, h3, h4]; exact ⟨h, rfl⟩
    | smap a b =>
      simp only at h ⊢
      cases ha : a.mapM (fz m n) with
      | none => simp [ha] at h
      | some as =>
        cases hb : b.mapM (fz m n) with
        | none => simp [ha, hb] at h
        | some bs =>
          simp only [ha, hb] at h
          obtain ⟨h1, h2⟩ := lst ha
          obtain ⟨h3, h4⟩ := lst hb
          rw [h1, h2, h3, h4]; exact ⟨h, rfl⟩
    | mp id =>
      simp only at h ⊢
      cases hm : m[id]? with
      | none => simp [hm] at h
      | some k =>
        rw [get_app hm]
        simp only [hm] at h
        cases k with
        | mp a b =>
          simp only at h ⊢
          cases ha : a.mapM (fz m n) with
          | none => simp [ha] at h
          | some as =>
            cases hb : b.mapM (fz m n) with
            | none => simp [ha, hb] at h
            | some bs =>
              simp only [ha, hb] at h
              obtain ⟨h1, h2⟩ := lst ha
              obtain ⟨h3, h4⟩ := lst hb
              simp only [h1, h2, h3, h4]; exact ⟨h, trivial⟩
        | _ => cases h
    | _ => cases h

/-- A value that stands for something. -/
def Std (V : Vw) (x : AV) : Prop := ∃ v, Rep V x v
theorem std_list {V : Vw} : ∀ {xs : List AV}, (∀ x ∈ xs, Std V x) → ∃ vs, Reps V xs vs
  | [], _ => ⟨[], Reps.nil V⟩
  | x :: xs, h => by
    obtain ⟨v, hv⟩ := h x (by simp)
    obtain ⟨vs, hvs⟩ := std_list (xs := xs) (fun y hy => h y (List.mem_cons_of_mem _ hy))
    exact ⟨v :: vs, Reps.cons hv hvs⟩
theorem std_cells {V : Vw} {x : AV} (hl : ∀ y ∈ x.cells, y.leaf = true) (h : ∀ y ∈ x.cells, Std V y) : Std V x := by
  cases x with
  | agg xs =>
    obtain ⟨vs, hvs⟩ := std_list h
    exact ⟨.agg vs.toArray, .agg xs _ (by simpa [AV.cells] using hvs.1) hl (fun j x c hx hc => hvs.2 j x c hx (by simpa using hc))⟩
  | _ => exact h _ (by simp [AV.cells])
theorem std_reps {V : Vw} {xs : List AV} {vs : List Value} (h : Reps V xs vs) : ∀ x ∈ xs, Std V x := by
  intro x hx
  obtain ⟨j, hj, rfl⟩ := List.getElem_of_mem hx
  obtain ⟨c, _, hc⟩ := h.get (List.getElem?_eq_getElem hj)
  exact ⟨c, hc⟩
theorem hid_lt {V : Vw} {x : AV} (h : Std V x) {id : Nat} (hi : hid x = some id) : id < V.mem.length := by
  obtain ⟨v, h⟩ := h
  cases h with
  | own _ _ _ _ hd => cases hi; exact hd.1
  | ptr _ _ _ _ _ hd => cases hi; exact hd.1
  | aptr _ _ _ _ _ _ _ hd => cases hi; exact hd.1
  | mp _ _ _ hd => cases hi; exact hd.1
  | _ => cases hi

/-- Frozen in a longer memory, it froze before. -/
theorem fz_back {V : Vw} (o : Ok V) (l : Mem) : ∀ (n : Nat) {x y : AV}, Std V x → fz (V.mem ++ l) n x = some y → fz V.mem n x = some y ∧ idsD V.mem n x = idsD (V.mem ++ l) n x := by
  intro n
  induction n with
  | zero => intro x y _ h; exact ⟨h, rfl⟩
  | succ n ih =>
    intro x y hs h
    simp only [fz] at h
    simp only [fz, idsD]
    split at h
    · rename_i hp; simp only [hp, if_true]; exact ⟨h, trivial⟩
    rename_i hp
    simp only [if_neg hp]
    have lst : ∀ {xs ys : List AV}, (∀ x ∈ xs, Std V x) → xs.mapM (fz (V.mem ++ l) n) = some ys → xs.mapM (fz V.mem n) = some ys ∧ xs.flatMap (idsD V.mem n) = xs.flatMap (idsD (V.mem ++ l) n) :=
      fun hst hm => mapM_at (fun x hx y hy => ih (hst x hx) hy) hm
    cases x with
    | own id ver =>
      simp only at h ⊢
      have hlt := hid_lt hs (id := id) rfl
      rw [List.getElem?_append_left hlt] at h ⊢
      cases hm : V.mem[id]? with
      | none => simp [hm] at h
      | some k =>
        simp only [hm] at h
        cases k with
        | arr e sz xs =>
          simp only at h ⊢
          split at h
          · rename_i hl
            obtain ⟨ys, hy, rfl⟩ := Option.map_eq_some_iff.1 h
            obtain ⟨v, hv⟩ := hs
            obtain ⟨b, hb, _⟩ := own_valid hv (by rw [verOf_some hm]; simp [shpB, hl])
            obtain ⟨h2, h3, h4, h5, vs, h6, h7, h8⟩ := o.blk id b _ hm hb
            have hall := std_reps h8
            have hst : ∀ x ∈ xs, Std V x := fun x hx => std_cells (h5 x hx).2 (fun y hy => hall y (List.mem_flatMap.2 ⟨x, hx, hy⟩))
            obtain ⟨h1, h2⟩ := lst hst hy
            simp only [if_pos hl, h1, h2]; exact ⟨rfl, trivial⟩
          · cases h
        | _ => cases h
    | ptr id ver off =>
      simp only at h ⊢
      have hlt := hid_lt hs (id := id) rfl
      rw [List.getElem?_append_left hlt] at h ⊢
      cases hm : V.mem[id]? with
      | none => simp [hm] at h
      | some k =>
        simp only [hm] at h
        cases k with
        | box cs =>
          simp only at h ⊢
          split at h
          · rename_i hl
            obtain ⟨ys, hy, rfl⟩ := Option.map_eq_some_iff.1 h
            obtain ⟨v, hv⟩ := hs
            obtain ⟨b, hb, _⟩ := ptr_valid hv (by rw [verOf_some hm]; simp [shpB, hl.1])
            obtain ⟨vs, t, h6, h8, _⟩ := o.blk id b _ hm hb
            have hall := std_reps h8
            obtain ⟨h1, h2⟩ := lst (fun x hx => hall x (List.mem_of_mem_drop hx)) hy
            simp only [if_pos hl, h1, h2]; exact ⟨rfl, trivial⟩
          · cases h
        | _ => cases h
    | agg xs =>
      simp only at h ⊢
      obtain ⟨ys, hy, rfl⟩ := Option.map_eq_some_iff.1 h
      obtain ⟨v, hv⟩ := hs
      have hst : ∀ x ∈ xs, Std V x := by obtain ⟨vs, _, hr, _⟩ := agg_inv hv; exact std_reps hr
      obtain ⟨h1, h2⟩ := lst hst hy; rw [h1]; exact ⟨rfl, h2⟩
    | tup xs =>
      simp only at h ⊢
      obtain ⟨ys, hy, rfl⟩ := Option.map_eq_some_iff.1 h
      obtain ⟨v, hv⟩ := hs
      have hst : ∀ x ∈ xs, Std V x := by
        cases hv with
        | tup _ cs hl hr => exact std_reps (vs := cs.toList) ⟨by simpa using hl, fun j x c hx hc => hr j x c hx (by simpa using hc)⟩
      obtain ⟨h1, h2⟩ := lst hst hy; rw [h1]; exact ⟨rfl, h2⟩
    | seq z f s xs =>
      simp only at h ⊢
      obtain ⟨ys, hy, rfl⟩ := Option.map_eq_some_iff.1 h
      obtain ⟨v, hv⟩ := hs
      have hst : ∀ x ∈ xs, Std V x := by
        cases hv with
        | seqNil => intro x hx; simp at hx
        | seq _ _ _ ad c us hc hf hS h0 hsz hu hr =>
          intro x hx
          obtain ⟨j, hj, rfl⟩ := List.getElem_of_mem hx
          refine std_cells (hsz _ hx).2 (fun y hy => ?_)
          obtain ⟨m, hm, rfl⟩ := List.getElem_of_mem hy
          exact ⟨_, hr j _ m _ (List.getElem?_eq_getElem hj) (List.getElem?_eq_getElem hm)⟩
      obtain ⟨h1, h2⟩ := lst hst hy; rw [h1]; exact ⟨rfl, h2⟩
    | rptr xs =>
      simp only at h ⊢
      obtain ⟨ys, hy, rfl⟩ := Option.map_eq_some_iff.1 h
      obtain ⟨v, hv⟩ := hs
      have hst : ∀ x ∈ xs, Std V x := by
        cases hv with
        | rptr _ ad us h0 hl hS hu hr =>
          intro x hx
          obtain ⟨j, hj, rfl⟩ := List.getElem_of_mem hx
          exact ⟨_, hr j _ (List.getElem?_eq_getElem hj)⟩
      obtain ⟨h1, h2⟩ := lst hst hy; rw [h1]; exact ⟨rfl, h2⟩
    | fn f a b =>
      simp only at h ⊢
      obtain ⟨v, hv⟩ := hs
      have hst : (∀ x ∈ a, Std V x) ∧ ∀ x ∈ b, Std V x := by
        cases hv with
        | fn _ _ _ fs cs hl hl' hr hr' =>
          exact ⟨std_reps (vs := fs.toList) ⟨by simpa using hl, fun j x c hx hc => hr j x c hx (by simpa using hc)⟩, std_reps (vs := cs.toList) ⟨by simpa using hl', fun j x c hx hc => hr' j x c hx (by simpa using hc)⟩⟩
      cases ha : a.mapM (fz (V.mem ++ l) n) with
      | none => simp [ha] at h
      | some as =>
        cases hb : b.mapM (fz (V.mem ++ l) n) with
        | none => simp [ha, hb] at h
        | some bs =>
          simp only [ha, hb] at h
          obtain ⟨h1, h2⟩ := lst hst.1 ha
          obtain ⟨h3, h4⟩ := lst hst.2 hb
          rw [h1, h2, h3, h4]; exact ⟨h, rfl⟩
    | smap a b =>
      simp only at h ⊢
      obtain ⟨v, hv⟩ := hs
      have hst : (∀ x ∈ a, Std V x) ∧ ∀ x ∈ b, Std V x := by
        cases hv with
        | smap _ _ bk es cl hS hb h1 h2 hk hvv => exact ⟨std_reps (reps_entries h1 hk), std_reps (reps_entries h2 hvv)⟩
      cases ha : a.mapM (fz (V.mem ++ l) n) with
      | none => simp [ha] at h
      | some as =>
        cases hb : b.mapM (fz (V.mem ++ l) n) with
        | none => simp [ha, hb] at h
        | some bs =>
          simp only [ha, hb] at h
          obtain ⟨h1, h2⟩ := lst hst.1 ha
          obtain ⟨h3, h4⟩ := lst hst.2 hb
          rw [h1, h2, h3, h4]; exact ⟨h, rfl⟩
    | mp id =>
      simp only at h ⊢
      have hlt := hid_lt hs (id := id) rfl
      rw [List.getElem?_append_left hlt] at h ⊢
      cases hm : V.mem[id]? with
      | none => simp [hm] at h
      | some k =>
        simp only [hm] at h
        cases k with
        | mp a b =>
          simp only at h ⊢
          have hst : (∀ x ∈ a, Std V x) ∧ ∀ x ∈ b, Std V x := by
            obtain ⟨v, hv⟩ := hs
            cases hv with
            | mp _ _ _ _ hv =>
              obtain ⟨bk, hbk, _⟩ := hv (by simp [verOf, shp, hm, shpB])
              obtain ⟨es, cl, g1, g2, g3⟩ := o.blk id bk _ hm hbk
              exact ⟨std_reps g2, std_reps g3⟩
          cases ha : a.mapM (fz (V.mem ++ l) n) with
          | none => simp [ha] at h
          | some as =>
            cases hb : b.mapM (fz (V.mem ++ l) n) with
            | none => simp [ha, hb] at h
            | some bs =>
              simp only [ha, hb] at h
              obtain ⟨h1, h2⟩ := lst hst.1 ha
              obtain ⟨h3, h4⟩ := lst hst.2 hb
              simp only [h1, h2, h3, h4]; exact ⟨h, trivial⟩
        | _ => cases h
    | _ => cases h

/-! ### One memory, and another: what keeps an operation's result -/
/-- What class c asks of two memories. -/
def Kept (c : Nat) (m m' : Mem) : Prop := (c = 1 → m.length ≤ m'.length ∧ ∀ id, id < m.length → shp m' id = shp m id) ∧ (c = 2 → ∃ l, m' = m ++ l)
theorem Kept.refl (c : Nat) (m : Mem) : Kept c m m := ⟨fun _ => ⟨Nat.le_refl _, fun _ _ => rfl⟩, fun _ => ⟨[], by simp⟩⟩
theorem Kept.trans {c : Nat} {a b d : Mem} (h : Kept c a b) (k : Kept c b d) : Kept c a d :=
  ⟨fun hc => ⟨Nat.le_trans (h.1 hc).1 (k.1 hc).1, fun id hid => ((k.1 hc).2 id (Nat.lt_of_lt_of_le hid (h.1 hc).1)).trans ((h.1 hc).2 id hid)⟩,
   fun hc => by obtain ⟨l, rfl⟩ := h.2 hc; obtain ⟨l', rfl⟩ := k.2 hc; exact ⟨l ++ l', by simp⟩⟩
theorem Kept.app (c : Nat) (m l : Mem) : Kept c m (m ++ l) :=
  ⟨fun _ => ⟨by simp, fun id hid => by unfold shp; rw [List.getElem?_append_left hid]⟩, fun _ => ⟨l, rfl⟩⟩
theorem shp_lt {m : Mem} {id : Nat} (h : (shp m id).isSome = true) : id < m.length := by
  unfold shp at h
  cases hm : m[id]? with
  | none => simp [hm] at h
  | some k => exact (List.getElem?_eq_some_iff.1 hm).1

theorem tr_fwd {ops : Array Oper} {o : Oper} (hc : cls ops o ≤ 2) {e : Env} {m m' : Mem} (hk : Kept (cls ops o) m m') {r : AV} {m1 : Mem} (h : evOp cx 1 F Y e m o.op = some (r, m1)) :
    m1 = m ∧ evOp cx 1 F Y e m' o.op = some (r, m') := by
  have h3 : cls ops o = 0 ∨ cls ops o = 1 ∨ cls ops o = 2 := by omega
  rcases h3 with hc | hc | hc
  · exact ev0 hc h m'
  · refine ev1 hc h (fun x hx v hv id hi hs => ?_)
    rw [hc] at hk
    exact (hk.1 rfl).2 id (shp_lt hs)
  · refine ev2 hc h (fun x hx v hv => ?_)
    rw [hc] at hk
    obtain ⟨l, rfl⟩ := hk.2 rfl
    exact ⟨fun id hi hs => by
      cases hm : m[id]? with
      | none => simp [hm] at hs
      | some k => exact get_app hm, fun y hy => fz_ext l 6 hy⟩

theorem tr_back {V : Vw} (ok : Ok V) (gl : Gl cx V) {ops : Array Oper} {o : Oper} (hc : cls ops o ≤ 2) {e : Env} {a : Act} (he : EnvRep V e a) {m' : Mem} (hk : Kept (cls ops o) V.mem m') {r : AV} {m1 : Mem}
    (h : evOp cx 1 F Y e m' o.op = some (r, m1)) : m1 = m' ∧ evOp cx 1 F Y e V.mem o.op = some (r, V.mem) := by
  have h3 : cls ops o = 0 ∨ cls ops o = 1 ∨ cls ops o = 2 := by omega
  rcases h3 with hc | hc | hc
  · exact ev0 hc h V.mem
  · refine ev1 hc h (fun x hx v hv id hi hs => ?_)
    rw [hc] at hk
    exact ((hk.1 rfl).2 id (hid_lt ⟨_, evX_ok gl he hv⟩ hi)).symm
  · refine ev2 hc h (fun x hx v hv => ?_)
    rw [hc] at hk
    obtain ⟨l, rfl⟩ := hk.2 rfl
    exact ⟨fun id hi hs => by rw [List.getElem?_append_left (hid_lt ⟨_, evX_ok gl he hv⟩ hi)], fun y hy => fz_back ok l 6 ⟨_, evX_ok gl he hv⟩ hy⟩

/-- Class 3: it lays new blocks alone. -/
theorem eff3 {ops : Array Oper} {o : Oper} (hc : cls ops o = 3) {e : Env} {m m1 : Mem} {r : AV} (h : evOp cx 2 F Y e m o.op = some (r, m1)) : ∃ l, m1 = m ++ l := by
  unfold cls at hc
  have nm : ∀ {x : Option AV}, noMem m x = some (r, m1) → ∃ l, m1 = m ++ l := fun h => ⟨[], by rw [(noMem_some h).2]; simp⟩
  cases hop : o.op with
  | box t x =>
    rw [hop] at h
    simp only [evOp] at h
    split at h
    · cases h
    · split at h
      · split at h
        · simp only [Option.some.injEq, Prod.mk.injEq] at h; exact ⟨_, h.2.symm⟩
        · cases h
      · cases h
  | makeSlice t x y =>
    rw [hop] at h
    simp only [evOp] at h
    split at h
    · split at h
      · split at h
        · simp only [Option.some.injEq, Prod.mk.injEq] at h; exact ⟨_, h.2.symm⟩
        · cases h
      · cases h
    · cases h
  | call c =>
    obtain ⟨callee, args, ats⟩ := c
    rw [hop] at h hc
    cases callee with
    | value f => cases f <;> simp at hc
    | invoke _ _ => simp [evOp] at h
    | builtin b =>
      simp only [evOp] at h
      cases hxs : evXs cx e args.toList with
      | none => simp [hxs] at h
      | some xs =>
        simp only [hxs] at h
        split at h
        · exact nm h
        · rename_i x y t t' hxe hte
          split at h
          · rename_i hseq
            have hseq : isSeq x = true := by
              rcases hseq with hh | hh
              · exact absurd hh (by decide)
              · exact hh.2
            unfold appendA at h
            split at h
            · split at h
              · split at h
                · split at h
                  · cases x with
                    | seq z full sz' ys =>
                      simp only at h
                      split at h
                      · split at h
                        · split at h
                          · simp only [Option.some.injEq, Prod.mk.injEq] at h; exact ⟨[], by rw [← h.2]; simp⟩
                          · split at h
                            · simp only [Option.some.injEq, Prod.mk.injEq] at h; exact ⟨[], by rw [← h.2]; simp⟩
                            · cases h
                        · split at h
                          · simp only [Option.some.injEq, Prod.mk.injEq] at h; exact ⟨_, h.2.symm⟩
                          · split at h
                            · simp only [Option.some.injEq, Prod.mk.injEq] at h; exact ⟨_, h.2.symm⟩
                            · cases h
                      · cases h
                    | _ => simp [isSeq] at hseq
                  · cases h
                · cases h
              · cases h
            · cases h
          · cases h
        · exact nm h
        · exact nm h
        · cases h
  | binOp b t x y yt => rw [hop] at hc; cases b <;> simp at hc
  | move x => rw [hop] at hc; simp at hc
  | assign x => rw [hop] at hc; simp at hc
  | pick c a b => rw [hop] at hc; simp at hc
  | build t ps => rw [hop] at hc; simp at hc
  | buildSlice t n ps => rw [hop] at hc; simp at hc
  | unOp u t x => rw [hop] at hc; simp at hc
  | convert s d x => rw [hop] at hc; simp at hc
  | makeFunc fn a b => rw [hop] at hc; simp at hc
  | slice t x lo hi mx => rw [hop] at hc; simp at hc
  | field s x j => rw [hop] at hc; simp at hc
  | index t x y => rw [hop] at hc; simp at hc
  | extract x j => rw [hop] at hc; simp at hc
  | alloc t => rw [hop] at hc; simp at hc
  | nilCheck x => rw [hop] at hc; simp at hc
  | fieldAddr s x j => rw [hop] at hc; simp at hc
  | indexAddr t x y => rw [hop] at hc; simp at hc
  | store t x y => rw [hop] at hc; simp at hc
  | load t x => rw [hop] at hc; simp at hc
  | lookup t x k b => rw [hop] at hc; simp at hc
  | mapUpdate t x k y => rw [hop] at hc; simp at hc
  | makeMap t rr =>
    rw [hop] at h
    simp only [evOp] at h
    cases rr with
    | some _ => cases h
    | none =>
      simp only at h
      split at h
      · cases h
      · simp only [Option.some.injEq, Prod.mk.injEq] at h; exact ⟨_, h.2.symm⟩
  | _ => rw [hop] at h; simp [evOp] at h

theorem shp_set {m : Mem} {id : Nat} {k k' : Blk} (hm : m[id]? = some k) (hk : shpB k' = shpB k) (j : Nat) : shp (m.set id k') j = shp m j := by
  unfold shp
  by_cases e : j = id
  · subst e
    rw [List.getElem?_set_self (List.getElem?_eq_some_iff.1 hm).1, hm]
    exact hk
  · rw [List.getElem?_set_ne (fun h => e h.symm)]

/-- Class 4: a store keeps every block's shape. -/
theorem eff4 {ops : Array Oper} {o : Oper} (hc : cls ops o = 4) {e : Env} {m m1 : Mem} {r : AV} (h : evOp cx 0 F Y e m o.op = some (r, m1)) : m1.length = m.length ∧ ∀ id, shp m1 id = shp m id := by
  unfold cls at hc
  cases hop : o.op with
  | store t x y =>
    rw [hop] at h
    simp only [evOp] at h
    split at h
    · rename_i x' y' hx hy
      split at h
      · cases h
      obtain ⟨m2, hm2, he⟩ := Option.map_eq_some_iff.1 h
      simp only [Prod.mk.injEq] at he
      obtain ⟨_, rfl⟩ := he
      unfold storeA at hm2
      split at hm2
      · split at hm2
        · split at hm2
          · rename_i id ver off cs hm
            split at hm2
            · rename_i hcnd
              cases hm2
              refine ⟨by simp, shp_set hm ?_⟩
              simp only [shpB, over, List.length_append, List.length_take, List.length_drop]
              have := hcnd.2
              congr 2; omega
            · cases hm2
          · cases hm2
        · split at hm2
          · rename_i id ver sz i f e' sz' xs hm
            split at hm2
            · rename_i hcnd
              obtain ⟨x0, hx0, rfl⟩ := Option.map_eq_some_iff.1 hm2
              refine ⟨by simp, shp_set hm ?_⟩
              simp [shpB, hcnd.2.1]
            · split at hm2
              · rename_i hcnd
                split at hm2
                · cases hm2
                · cases hm2
                  refine ⟨by simp, shp_set hm ?_⟩
                  simp [shpB, hcnd.2.1]
              · cases hm2
          · cases hm2
        · cases hm2
      · cases hm2
    · cases h
  | call c =>
    obtain ⟨callee, args, ats⟩ := c
    rw [hop] at h hc
    cases callee with
    | value f => cases f <;> simp at hc
    | invoke _ _ => simp [evOp] at h
    | builtin b =>
      cases b with
      | append => dsimp only at hc; split at hc <;> cases hc
      | _ => simp at hc
  | binOp b t x y yt => rw [hop] at hc; cases b <;> simp at hc
  | move x => rw [hop] at hc; simp at hc
  | assign x => rw [hop] at hc; simp at hc
  | pick c a b => rw [hop] at hc; simp at hc
  | build t ps => rw [hop] at hc; simp at hc
  | buildSlice t n ps => rw [hop] at hc; simp at hc
  | unOp u t x => rw [hop] at hc; simp at hc
  | convert s d x => rw [hop] at hc; simp at hc
  | makeFunc fn a b => rw [hop] at hc; simp at hc
  | slice t x lo hi mx => rw [hop] at hc; simp at hc
  | field s x j => rw [hop] at hc; simp at hc
  | index t x y => rw [hop] at hc; simp at hc
  | extract x j => rw [hop] at hc; simp at hc
  | alloc t => rw [hop] at hc; simp at hc
  | nilCheck x => rw [hop] at hc; simp at hc
  | fieldAddr s x j => rw [hop] at hc; simp at hc
  | indexAddr t x y => rw [hop] at hc; simp at hc
  | box t x => rw [hop] at hc; simp at hc
  | makeSlice t x y => rw [hop] at hc; simp at hc
  | load t x => rw [hop] at hc; simp at hc
  | lookup t x k b => rw [hop] at hc; simp at hc
  | makeMap t r => rw [hop] at hc; simp at hc
  | mapUpdate t x k y =>
    rw [hop] at h
    simp only [evOp] at h
    split at h
    · rename_i x' k' y' hx hk hy
      split at h
      · cases h
      obtain ⟨m2, hm2, he⟩ := Option.map_eq_some_iff.1 h
      simp only [Prod.mk.injEq] at he
      obtain ⟨_, rfl⟩ := he
      unfold updA at hm2
      split at hm2
      · split at hm2
        · rename_i hm
          split at hm2
          · split at hm2
            · cases hm2; exact ⟨by simp, shp_set hm rfl⟩
            · cases hm2; exact ⟨by simp, shp_set hm rfl⟩
            · cases hm2
          · cases hm2
        · cases hm2
      · cases hm2
    · cases h
  | _ => rw [hop] at h; simp [evOp] at h
end Go.Ab
