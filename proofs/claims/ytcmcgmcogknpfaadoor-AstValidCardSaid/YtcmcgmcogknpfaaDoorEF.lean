/- The operations on memory, second part: stores, new boxes, addresses. -/
import Derived.Test.YtcmcgmcogknpfaaDoorEE
set_option linter.unusedVariables false
set_option linter.unusedSimpArgs false
namespace Go.Ab
open Go

variable {P : Program}

theorem over_length {cs vs : List AV} {off : Nat} (h : off + vs.length ≤ cs.length) : (over cs off vs).length = cs.length := by
  unfold over; simp; omega
theorem reps_over {V : Vw} {cs ys : List AV} {us vs : List Value} {off : Nat} (h : Reps V cs us) (k : Reps V ys vs) : Reps V (over cs off ys) (us.take off ++ vs ++ us.drop (off + vs.length)) := by
  unfold over
  rw [k.1]
  exact ((h.take off).append k).append (h.drop _)
theorem leaf_over {cs ys : List AV} {off : Nat} (h : ∀ y ∈ cs, y.leaf = true) (k : ∀ y ∈ ys, y.leaf = true) : ∀ y ∈ over cs off ys, y.leaf = true := by
  intro y hy
  unfold over at hy
  simp only [List.mem_append] at hy
  rcases hy with (hy | hy) | hy
  · exact h y (List.mem_of_mem_take hy)
  · exact k y hy
  · exact h y (List.mem_of_mem_drop hy)

theorem setRow_same {w : World} {g k : Nat} {cs : Array Value} (h : k ≠ g) : (w.setRow g cs).heap[k]? = w.heap[k]? := setRow_other w g k cs h
theorem not_tup {x : AV} (h : x.data = true) : x.data = true := h
theorem store_row {V : Vw} (o : Ok V) {t b off : Nat} {vs : Array Value} {ty : Nat} {x : AV} {vx : Value} (hb : V.w.heap[b]? = some (.cells vs ty (0, 0)))
    (hx : Rep V x vx) (hd : x.data = true) (hsz : szT P t = some x.cells.length) (hle : off + x.cells.length ≤ vs.size) :
    (Instr.storeAt t (.pointer (some ⟨b, off, none⟩)) vx).run P V.w = .ok () (V.w.setRow b (vs.toList.take off ++ vx.cells.toList ++ vs.toList.drop (off + vx.cells.toList.length)).toArray) := by
  obtain ⟨hr, hl, h1⟩ := hx.cells (not_tup hd)
  have hlen : vx.cells.size = x.cells.length := by have := hr.1; simpa using this
  have hst := run_storeCells_at P b off ty vx.cells.toList 0 vs V.w hb (by simp; omega) h1
  simp only [Nat.add_zero] at hst
  simp only [Instr.storeAt, Instr.sureAddr, storeVar, Sem.run_bind, Sem.run_pure, Result.andThen_ok, run_szOf hsz, hlen, ne_eq, not_true_eq_false, if_false, hst]

theorem verOf_set_same {m : Mem} {id : Nat} {k k0 : Blk} (h : m[id]? = some k0) : verOf (m.set id k) id = (shpB k).map (·.1) := verOf_set_self (List.getElem?_eq_some_iff.1 h).1

theorem store_ok {V : Vw} (o : Ok V) {t : Nat} {a x : AV} {va vx : Value} {m' : Mem} (ha : Rep V a va) (hx : Rep V x vx) (h : storeA P V.mem t a x = some m') :
    ∃ V', (Instr.storeAt t va vx).run P V.w = .ok () V'.w ∧ V'.mem = m' ∧ Ok V' ∧ Ext V V' := by
  unfold storeA at h
  split at h
  case isFalse => cases h
  rename_i hc
  obtain ⟨hsz, hd⟩ := hc
  cases ha with
  | ptr id ver off v h1 hh hv =>
    cases hm : V.mem[id]? with
    | none => simp [hm] at h
    | some k =>
      cases k with
      | box cs =>
        simp only [hm] at h
        split at h
        case isFalse => cases h
        rename_i hc
        obtain ⟨hlen, hle⟩ := hc
        cases h
        have hver := verOf_box hm
        obtain ⟨b, hb, rfl⟩ := hv (by rw [hver, hlen])
        obtain ⟨vs, ty, h2, h3, h4⟩ := o.blk id b _ hm hb
        have hvs : vs.size = cs.length := by simpa using h3.1
        have hrun := store_row (P := P) (t := t) (off := off) o h2 hx hd hsz (by omega)
        obtain ⟨hr, hl, h1⟩ := hx.cells (not_tup hd)
        have hk : (shpB (.box (over cs off x.cells))).map (·.1) = some cs.length := by simp [shpB, over_length hle]
        have e := ext_wr (w := V.w.setRow b (vs.toList.take off ++ vx.cells.toList ++ vs.toList.drop (off + vx.cells.toList.length)).toArray) o hm hver hk hb rfl rfl rfl (by simp) (fun j hj => setRow_same hj)
        refine ⟨V.wr id (V.w.setRow b (vs.toList.take off ++ vx.cells.toList ++ vs.toList.drop (off + vx.cells.toList.length)).toArray) _, hrun, rfl, ok_wr o hm hver hk hb rfl rfl rfl (by simp) (fun j hj => setRow_same hj) ⟨_, ty, setRow_heap V.w b vs _ ty (0, 0) h2, ?_, leaf_over h4 hl⟩, e⟩
        rw [List.toList_toArray]
        exact (reps_over (off := off) h3 hr).mono e
      | _ => simp [hm] at h
  | aptr id ver sz i f v h1 hh hv =>
    cases hm : V.mem[id]? with
    | none => simp [hm] at h
    | some k =>
      cases k with
      | arr ety sz' xs =>
        simp only [hm] at h
        have hver := verOf_arr hm
        have key : ∀ (hlen : xs.length = ver) (x0 y : AV) (hx0 : xs[i]? = some x0) (hwy : wide y sz') (hsz' : sz = sz') (hle : f + x.cells.length ≤ sz') (hyc : y.cells = over x0.cells f x.cells),
            ∃ V', (Instr.storeAt t va vx).run P V.w = .ok () V'.w ∧ V'.mem = V.mem.set id (.arr ety sz' (xs.set i y)) ∧ Ok V' ∧ Ext V V' := by
          intro hlen x0 y hx0 hwy hsz' hle hyc
          subst hsz'
          obtain ⟨b, hb, rfl⟩ := hv (by rw [hver, hlen])
          obtain ⟨h2, h3, h4, h5, vs, h6, h7, h8⟩ := o.blk id b _ hm hb
          obtain ⟨hr, hl, h1⟩ := hx.cells (not_tup hd)
          have hi : i < xs.length := (List.getElem?_eq_some_iff.1 hx0).1
          have hlt : (i + 1) * sz ≤ xs.length * sz := Nat.mul_le_mul_right _ hi
          rw [Nat.succ_mul] at hlt
          have hcap : xs.length * sz ≤ V.cp id * sz := Nat.mul_le_mul_right _ h3
          have hrun := store_row (P := P) (t := t) (off := i * sz + f) o h6 hx hd hsz (by omega)
          have hk : (shpB (.arr ety sz (xs.set i y))).map (·.1) = some xs.length := by simp [shpB]
          have hvl : vx.cells.toList.length = x.cells.length := hr.1
          have e := ext_wr (w := V.w.setRow b (vs.toList.take (i * sz + f) ++ vx.cells.toList ++ vs.toList.drop (i * sz + f + vx.cells.toList.length)).toArray) o hm hver hk hb rfl rfl rfl (by simp) (fun j hj => setRow_same hj)
          have hw' : ∀ z ∈ xs.set i y, wide z sz := by
            intro z hz
            rcases List.mem_or_eq_of_mem_set hz with hz | rfl
            · exact h5 z hz
            · exact hwy
          refine ⟨V.wr id (V.w.setRow b (vs.toList.take (i * sz + f) ++ vx.cells.toList ++ vs.toList.drop (i * sz + f + vx.cells.toList.length)).toArray) _, hrun, rfl, ok_wr o hm hver hk hb rfl rfl rfl (by simp) (fun j hj => setRow_same hj) ⟨h2, by rw [List.length_set]; exact h3, h4, hw', _, setRow_heap V.w b vs _ ety (0, 0) h6, ?_, ?_⟩, e⟩
          · have hvsl : vs.toList.length = vs.size := by simp
            show (List.toArray _).size = V.cp id * sz
            simp only [List.size_toArray, List.length_append, List.length_take, List.length_drop, hvl, hvsl]
            omega
          · have hfl : (flatC (xs.set i y)).length = xs.length * sz := by rw [flatC_length hw']; simp
            have hxw := h5 x0 (List.mem_of_getElem? hx0)
            have hxl := hxw.1
            have hvl2 : vx.cells.size = x.cells.length := by simpa using hr.1
            refine ⟨?_, fun j z c hz hc => ?_⟩
            · simp only [List.toList_toArray, List.length_take, List.length_append, List.length_drop, hvl, hfl, List.length_set]
              have hvsl : vs.toList.length = vs.size := by simp
              simp only [hvsl]
              omega
            · -- cell j of the flat list
              simp only [List.length_set, List.getElem?_take] at hc
              split at hc
              case isFalse => cases hc
              rename_i hj
              have hq : j / sz < xs.length := (Nat.div_lt_iff_lt_mul h2).2 hj
              have hm' : j % sz < sz := Nat.mod_lt _ h2
              have hje : j / sz * sz + j % sz = j := by rw [Nat.mul_comm]; exact Nat.div_add_mod j sz
              obtain ⟨z0, hz0⟩ : ∃ z0, (xs.set i y)[j / sz]? = some z0 := ⟨_, List.getElem?_eq_getElem (by simpa using hq)⟩
              have hflat := flatC_get hw' hz0 hm'
              rw [hje] at hflat
              rw [hflat] at hz
              simp only [List.append_assoc] at hc
              by_cases hiq : j / sz = i
              · have hz0' : z0 = y := by rw [hiq, List.getElem?_set_self hi] at hz0; cases hz0; rfl
                subst hz0'
                rw [hyc] at hz
                unfold over at hz
                have hjl : j = i * sz + j % sz := by rw [← hiq]; exact hje.symm
                by_cases ha : j % sz < f
                · rw [List.append_assoc, List.getElem?_append_left (by simp; omega), List.getElem?_take_of_lt ha] at hz
                  rw [List.getElem?_append_left (by simp; omega), List.getElem?_take_of_lt (by omega)] at hc
                  have hf0 := flatC_get h5 hx0 hm'
                  rw [← hjl] at hf0
                  refine (h8.2 j z c (by rw [hf0]; exact hz) (by rw [List.getElem?_take_of_lt hj]; simpa using hc)).mono e
                · by_cases hb2 : j % sz < f + x.cells.length
                  · rw [List.append_assoc, List.getElem?_append_right (by simp; omega), List.getElem?_append_left (by simp; omega)] at hz
                    rw [List.getElem?_append_right (by simp; omega), List.getElem?_append_left (by simp; omega)] at hc
                    simp only [List.length_take] at hz hc
                    have hvsl : vs.toList.length = vs.size := by simp
                    rw [show min f x0.cells.length = f from by rw [hxw.1]; omega] at hz
                    rw [show min (i * sz + f) vs.toList.length = i * sz + f from by rw [hvsl]; omega, show j - (i * sz + f) = j % sz - f from by omega] at hc
                    exact (hr.2 _ z c hz hc).mono e
                  · rw [List.getElem?_append_right (by simp; omega)] at hz
                    rw [List.getElem?_append_right (by simp; omega), List.getElem?_append_right (by simp [hvl]; omega)] at hc
                    simp only [List.length_append, List.length_take, List.getElem?_drop, hvl] at hz hc
                    have hvsl : vs.toList.length = vs.size := by simp
                    rw [show min f x0.cells.length = f from by rw [hxw.1]; omega, show f + x.cells.length + (j % sz - (f + x.cells.length)) = j % sz from by omega] at hz
                    rw [show min (i * sz + f) vs.toList.length = i * sz + f from by rw [hvsl]; omega, show i * sz + f + x.cells.length + (j - (i * sz + f) - x.cells.length) = j from by omega] at hc
                    have hf0 := flatC_get h5 hx0 hm'
                    rw [← hjl] at hf0
                    exact (h8.2 j z c (by rw [hf0]; exact hz) (by rw [List.getElem?_take_of_lt hj]; exact hc)).mono e
              · rw [List.getElem?_set_ne (fun h => hiq h.symm)] at hz0
                have hf0 := flatC_get h5 hz0 hm'
                rw [hje] at hf0
                have hsame : vs.toList[j]? = some c := by
                  by_cases hlt2 : j / sz < i
                  · have : (j / sz + 1) * sz ≤ i * sz := Nat.mul_le_mul_right _ hlt2
                    rw [Nat.succ_mul] at this
                    rw [List.getElem?_append_left (by simp; omega), List.getElem?_take_of_lt (by omega)] at hc
                    exact hc
                  · have : (i + 1) * sz ≤ j / sz * sz := Nat.mul_le_mul_right _ (by omega)
                    rw [Nat.succ_mul] at this
                    rw [List.getElem?_append_right (by simp; omega), List.getElem?_append_right (by simp [hvl]; omega)] at hc
                    simp only [List.length_take, List.getElem?_drop, hvl] at hc
                    have hvsl : vs.toList.length = vs.size := by simp
                    rw [show min (i * sz + f) vs.toList.length = i * sz + f from by rw [hvsl]; omega, show i * sz + f + x.cells.length + (j - (i * sz + f) - x.cells.length) = j from by omega] at hc
                    exact hc
                exact (h8.2 j z c (by rw [hf0]; exact hz) (by rw [List.getElem?_take_of_lt hj]; exact hsame)).mono e
        split at h
        · rename_i hc
          obtain ⟨hlen, rfl, hle, hsz1⟩ := hc
          cases hx0 : xs[i]? with
          | none => simp [hx0] at h
          | some x0 =>
            simp only [hx0, Option.map_some] at h
            cases h
            have hleaf : ∀ y ∈ x.cells, y.leaf = true := (hx.cells (not_tup hd)).2.1
            obtain ⟨b, hb, hb'⟩ := hv (by rw [hver, hlen])
            have h5 := (o.blk id b _ hm hb).2.2.2.1
            have hxw := h5 x0 (List.mem_of_getElem? hx0)
            exact key hlen x0 (.agg (over x0.cells f x.cells)) hx0 ⟨by show (over x0.cells f x.cells).length = sz; rw [over_length (by rw [hxw.1]; exact hle)]; exact hxw.1, leaf_over hxw.2 hleaf⟩ rfl hle rfl
        · split at h
          · rename_i hc
            obtain ⟨hlen, hszz, hf0, hsz1, hi⟩ := hc
            have hx1 : x.leaf = true ∧ m' = V.mem.set id (.arr ety sz (xs.set i x)) := by
              cases x <;> first | (simp at h; done) | (simp [AV.data] at hd; done) | (simp at h; exact ⟨rfl, h.symm⟩)
            obtain ⟨hleaf, rfl⟩ := hx1
            subst hszz
            subst hf0
            have hcl := cells_leaf hleaf
            have hx0 : xs[i]? = some xs[i] := List.getElem?_eq_getElem hi
            obtain ⟨b, hb, hb'⟩ := hv (by rw [hver, hlen])
            have h5 := (o.blk id b _ hm hb).2.2.2.1
            have hxw := h5 xs[i] (List.mem_of_getElem? hx0)
            refine key hlen xs[i] x hx0 ⟨by rw [hcl, hsz1]; rfl, by rw [hcl]; simpa using hleaf⟩ rfl (by rw [hcl]; simp; omega) ?_
            unfold over
            rw [hcl]
            have : (xs[i]).cells.length = 1 := by rw [hxw.1, hsz1]
            rw [List.take_zero, List.nil_append, List.drop_eq_nil_of_le (by simp; omega), List.append_nil]
          · cases h
      | _ => simp [hm] at h
  | _ => cases h
end Go.Ab
