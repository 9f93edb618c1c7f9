/- The operations on memory: what the abstract one gives, the model's gives. -/
import Derived.Test.YtcmcgmcogknpfaaDoorED
set_option linter.unusedVariables false
set_option linter.unusedSimpArgs false
namespace Go.Ab
open Go

variable {P : Program}

theorem run_und {t : Nat} {d : TypeDesc} (h : P.underlying t = some d) (w : World) : (underlying t).run P w = .ok d w := by
  simp [underlying, h]
theorem run_tinfo {t : Nat} {i : TypeInfo} (h : P.info? t = some i) (w : World) : (typeInfo t).run P w = .ok i w := by
  simp [typeInfo, h]
theorem run_szOf {t n : Nat} (h : szT P t = some n) (w : World) : (sizeOf t).run P w = .ok n w := by
  unfold szT at h
  obtain ⟨i, hi, rfl⟩ := Option.map_eq_some_iff.1 h
  simp [sizeOf, run_tinfo hi]
theorem run_isAgg_true {t : Nat} (h : aggT P t = true) (w : World) : (isAgg t).run P w = .ok true w := by
  unfold aggT at h
  split at h
  · rename_i f hd; simp [isAgg, run_und hd]
  · rename_i n e hd; simp [isAgg, run_und hd]
  · cases h
theorem run_isAgg_false {t : Nat} (h : aggT P t = false) (h' : hasT P t = true) (w : World) : (isAgg t).run P w = .ok false w := by
  unfold aggT at h
  unfold hasT at h'
  obtain ⟨d, hd⟩ := Option.isSome_iff_exists.1 h'
  simp only [hd] at h
  simp only [isAgg, Sem.run_bind, run_und hd, Result.andThen_ok]
  split at h <;> simp_all

/-- cs lie from ad on. -/
def Lies (V : Vw) (ad : Addr) (cs : List AV) : Prop := ∃ us : List Value, Reps V cs us ∧ ∀ m u, us[m]? = some u → V.w.cell? (ad.add m) = some u

theorem run_load_cell {w : World} {a : Addr} {v : Value} (h : w.cell? a = some v) : (load a).run P w = .ok v w := by simp [h]
theorem Lies.drop {V : Vw} {ad : Addr} {cs : List AV} (h : Lies V ad cs) (n : Nat) : Lies V (ad.add n) (cs.drop n) := by
  obtain ⟨us, hr, hc⟩ := h
  exact ⟨us.drop n, hr.drop n, fun m u hu => by rw [add_add]; rw [List.getElem?_drop] at hu; exact hc _ u hu⟩

theorem load_take {V : Vw} {t : Nat} {ad : Addr} {cs : List AV} {r : AV} (hl : Lies V ad cs) (hlf : ∀ y ∈ cs, y.leaf = true) (h : takeT P t cs = some r) :
    ∃ u, (loadVar t ad).run P V.w = .ok u V.w ∧ Rep V r u := by
  obtain ⟨us, hr, hc⟩ := hl
  unfold takeT at h
  split at h
  · rename_i ha
    split at h
    · rename_i n hn
      split at h
      · rename_i hle
        cases h
        have hlen : (us.take n).length = n := by rw [List.length_take, hr.1]; omega
        have hrun := run_loadCells_list (P := P) (w := V.w) ad (us.take n) (fun j v hv => by
          rw [List.getElem?_take] at hv
          split at hv
          · exact hc j v hv
          · cases hv)
        rw [hlen] at hrun
        refine ⟨.agg (us.take n).toArray, ?_, ?_⟩
        · simp only [loadVar, Sem.run_bind, run_isAgg_true ha, Result.andThen_ok, if_true, run_szOf hn, hrun, Sem.run_pure]
        · have hr' := hr.take n
          exact .agg _ _ (by simpa using hr'.1) (fun y hy => hlf y (List.mem_of_mem_take hy)) (fun j x c hx hcx => hr'.2 j x c hx (by simpa using hcx))
      · cases h
    · cases h
  · rename_i ha
    split at h
    · rename_i hh
      cases cs with
      | nil => simp at h
      | cons x cs =>
        simp at h; subst h
        obtain ⟨c, us', rfl, h1, h2⟩ := hr.inv
        have := hc 0 c (by simp)
        refine ⟨c, ?_, h1⟩
        simp only [loadVar, Sem.run_bind, run_isAgg_false (by simpa using ha) hh, Result.andThen_ok, Bool.false_eq_true, if_false]
        exact run_load_cell (by simpa [Addr.add] using this)
    · cases h

/-! ### A flat list of wide elements -/
theorem flatC_length {xs : List AV} {sz : Nat} (h : ∀ x ∈ xs, wide x sz) : (flatC xs).length = xs.length * sz := by
  induction xs with
  | nil => simp [flatC]
  | cons x xs ih =>
    have h1 := (h x (by simp)).1
    have h2 := ih (fun y hy => h y (by simp [hy]))
    simp only [flatC, List.flatMap_cons, List.length_append, List.length_cons] at h2 ⊢
    rw [h1, h2, Nat.succ_mul]; omega
theorem flatC_get {xs : List AV} {sz : Nat} (h : ∀ x ∈ xs, wide x sz) {j m : Nat} {x : AV} (hj : xs[j]? = some x) (hm : m < sz) : (flatC xs)[j * sz + m]? = x.cells[m]? := by
  induction xs generalizing j with
  | nil => simp at hj
  | cons y ys ih =>
    have h1 := (h y (by simp)).1
    cases j with
    | zero =>
      simp at hj; subst hj
      simp only [flatC, List.flatMap_cons, Nat.zero_mul, Nat.zero_add]
      rw [List.getElem?_append_left (by omega)]
    | succ j =>
      simp only [List.getElem?_cons_succ] at hj
      have := ih (fun z hz => h z (by simp [hz])) hj
      simp only [flatC, List.flatMap_cons] at this ⊢
      rw [List.getElem?_append_right (by rw [h1, Nat.succ_mul]; omega), h1]
      rw [show (j + 1) * sz + m - sz = j * sz + m from by rw [Nat.succ_mul]; omega]
      exact this
theorem flatC_drop {xs : List AV} {sz : Nat} (h : ∀ x ∈ xs, wide x sz) {j : Nat} {x : AV} (hj : xs[j]? = some x) (f : Nat) (hf : f ≤ sz) :
    ∃ r, (flatC xs).drop (j * sz + f) = x.cells.drop f ++ r := by
  induction xs generalizing j with
  | nil => simp at hj
  | cons y ys ih =>
    have h1 := (h y (by simp)).1
    cases j with
    | zero =>
      simp at hj; subst hj
      refine ⟨flatC ys, ?_⟩
      simp only [flatC, List.flatMap_cons, Nat.zero_mul, Nat.zero_add]
      rw [List.drop_append_of_le_length (by omega)]
    | succ j =>
      simp only [List.getElem?_cons_succ] at hj
      obtain ⟨r, hr⟩ := ih (fun z hz => h z (by simp [hz])) hj
      refine ⟨r, ?_⟩
      simp only [flatC, List.flatMap_cons] at hr ⊢
      rw [show (j + 1) * sz + f = y.cells.length + (j * sz + f) from by rw [h1, Nat.succ_mul]; omega, List.drop_append, List.drop_eq_nil_of_le (by omega), Nat.add_sub_cancel_left, hr]
      rfl

theorem cell_block {w : World} {b o : Nat} {vs : Array Value} {t : Nat} (h : w.heap[b]? = some (.cells vs t (0, 0))) : w.cell? ⟨b, o, none⟩ = vs[o]? := by
  simp [World.cell?, h]
theorem lies_box {V : Vw} {b o : Nat} {vs : Array Value} {t : Nat} {cs : List AV} (h : V.w.heap[b]? = some (.cells vs t (0, 0))) (hr : Reps V cs vs.toList) : Lies V ⟨b, o, none⟩ (cs.drop o) :=
  ⟨vs.toList.drop o, hr.drop o, fun m u hu => by
    rw [add_lit, cell_block h]
    rw [List.getElem?_drop] at hu
    simpa using hu⟩
theorem Lies.app {V : Vw} {ad : Addr} {a b : List AV} (h : Lies V ad (a ++ b)) : Lies V ad a := by
  obtain ⟨us, hr, hc⟩ := h
  have hr' := hr.take a.length
  rw [List.take_left' rfl] at hr'
  exact ⟨us.take a.length, hr', fun m u hu => by
    rw [List.getElem?_take] at hu
    split at hu
    · exact hc m u hu
    · cases hu⟩
theorem lies_arr {V : Vw} {b : Nat} {vs : Array Value} {t sz : Nat} {xs : List AV} (h : V.w.heap[b]? = some (.cells vs t (0, 0))) (hw : ∀ x ∈ xs, wide x sz)
    (hr : Reps V (flatC xs) (vs.toList.take (xs.length * sz))) {i : Nat} {x : AV} (hi : xs[i]? = some x) (f : Nat) (hf : f ≤ sz) : Lies V ⟨b, i * sz + f, none⟩ (x.cells.drop f) := by
  obtain ⟨r, hd⟩ := flatC_drop hw hi f hf
  have hr' := hr.drop (i * sz + f)
  rw [hd] at hr'
  refine Lies.app (b := r) ⟨_, hr', fun m u hu => ?_⟩
  rw [add_lit, cell_block h]
  rw [List.getElem?_drop, List.getElem?_take] at hu
  split at hu
  · simpa using hu
  · cases hu

theorem verOf_box {m : Mem} {id : Nat} {cs : List AV} (h : m[id]? = some (.box cs)) : verOf m id = some cs.length := by simp [verOf_some h, shpB]
theorem verOf_arr {m : Mem} {id e sz : Nat} {xs : List AV} (h : m[id]? = some (.arr e sz xs)) : verOf m id = some xs.length := by simp [verOf_some h, shpB]

theorem load_ok {V : Vw} (o : Ok V) {t : Nat} {x r : AV} {v : Value} (hv : Rep V x v) (h : loadA P V.mem t x = some r) :
    ∃ u, (Instr.loadAt t v).run P V.w = .ok u V.w ∧ Rep V r u := by
  unfold loadA at h
  cases hv with
  | rptr xs ad us h0 hl hS hu hr =>
    have hL : Lies V ad xs := ⟨(List.range xs.length).map us, ⟨by simp, fun j x c hx hc => by
      have hj := (List.getElem?_eq_some_iff.1 hx).1
      simp [List.getElem?_map, List.getElem?_range hj] at hc
      subst hc; exact hr j x hx⟩, fun m u hm => by
      by_cases hj : m < xs.length
      · simp [List.getElem?_map, List.getElem?_range hj] at hm
        subst hm; exact hu m xs[m] (List.getElem?_eq_getElem hj)
      · simp [List.getElem?_map, List.getElem?_eq_none (show (List.range xs.length).length ≤ m by simp; omega)] at hm⟩
    simpa [Instr.loadAt, Instr.sureAddr] using load_take hL hl h
  | ptr id ver off v h1 hh hv =>
    cases hm : V.mem[id]? with
    | none => simp [hm] at h
    | some k =>
      cases k with
      | box cs =>
        simp only [hm] at h
        split at h
        · rename_i hlen
          obtain ⟨b, hb, rfl⟩ := hv (by rw [verOf_box hm, hlen])
          obtain ⟨vs, ty, h2, h3, h4⟩ := o.blk id b _ hm hb
          have hL := lies_box (o := off) h2 h3
          simpa [Instr.loadAt, Instr.sureAddr] using load_take hL (fun y hy => h4 y (List.mem_of_mem_drop hy)) h
        · cases h
      | _ => simp [hm] at h
  | aptr id ver sz i f v h1 hh hv =>
    cases hm : V.mem[id]? with
    | none => simp [hm] at h
    | some k =>
      cases k with
      | arr e sz' xs =>
        simp only [hm] at h
        split at h
        · rename_i hc
          obtain ⟨hlen, rfl⟩ := hc
          obtain ⟨b, hb, rfl⟩ := hv (by rw [verOf_arr hm, hlen])
          obtain ⟨h2, h3, h4, h5, vs, h6, h7, h8⟩ := o.blk id b _ hm hb
          obtain ⟨x, hx, hx'⟩ := Option.bind_eq_some_iff.1 h
          have hxm : x ∈ xs := List.mem_of_getElem? hx
          by_cases hf : f ≤ sz
          · have hL := lies_arr h6 h5 h8 hx f hf
            simpa [Instr.loadAt, Instr.sureAddr] using load_take hL (fun y hy => (h5 x hxm).2 y (List.mem_of_mem_drop hy)) hx'
          · have hnil : x.cells.drop f = [] := List.drop_eq_nil_of_le (by rw [(h5 x hxm).1]; omega)
            have hL : Lies V ⟨b, i * sz + f, none⟩ (x.cells.drop f) := by rw [hnil]; exact ⟨[], Reps.nil V, fun m u hu => by simp at hu⟩
            simpa [Instr.loadAt, Instr.sureAddr] using load_take hL (fun y hy => (h5 x hxm).2 y (List.mem_of_mem_drop hy)) hx'
        · cases h
      | _ => simp [hm] at h
  | _ => cases h
end Go.Ab
