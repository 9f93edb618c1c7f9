/- Maps whose keys are numbers, texts or bools. -/
import Derived.MapKept
import Derived.Laws.Strings
import Derived.Laws.MakeOwn
import Derived.Test.YtcmcgmcogknpfaaDoorEM
set_option linter.unusedVariables false
set_option linter.unusedSimpArgs false
namespace Go.Ab
open Go

variable {P : Program}

theorem bytes_list (c : ByteArray) : c.toList = c.data.toList := ByteArray.toList_eq c
theorem bytes_inj {a b : ByteArray} (h : a.toList = b.toList) : a = b := by
  rw [bytes_list, bytes_list] at h
  cases a; cases b; simp at h; subst h; rfl
theorem beq_list (a b : ByteArray) : (a == b) = (a.data.toList == b.data.toList) := by
  rw [← bytes_list, ← bytes_list, Bool.eq_iff_iff, MapKept.bytes_beq, beq_iff_eq]
  constructor
  · rintro rfl; rfl
  · intro h; exact bytes_inj h

theorem same_ok {V : Vw} {kd : TypeDesc} {k x : AV} {u c : Value} (hk : Rep V k u) (hx : Rep V x c) {b : Bool} (h : sameA kd k x = some b) : Instr.sameNow kd u c = some b := by
  unfold sameA at h
  split at h
  · cases hk; cases hx
    unfold Instr.sameNow
    split at h
    · rename_i he
      simp only [he, if_true]
      cases h
      rfl
    · cases h
  · cases hk; cases hx
    rw [← beq_list] at h
    exact h
  · cases hk; cases hx
    exact h
  · cases h

theorem find_ok {V : Vw} {kd : TypeDesc} {k : AV} {u : Value} (hk : Rep V k u) : ∀ {ks vs : List AV} {es : List MapEntry} {i : Nat} {r : Option (Nat × AV)}, Reps V ks (es.map (·.key)) → Reps V vs (es.map (·.val)) → findA kd k ks vs i = some r →
    ∃ q, Instr.findNow kd u es i = some q ∧ (match r, q with
      | none, none => True
      | some (j, y), some (j', v) => j' = j ∧ Rep V y v ∧ i ≤ j ∧ ∃ e, es[j - i]? = some e ∧ sameA kd k (ks.getD (j - i) .undef) = some true ∧ j - i < ks.length
      | _, _ => False)
  | [], [], es, i, r, h1, h2, h => by
    simp [findA] at h
    subst h
    have : es = [] := List.eq_nil_of_length_eq_zero (by have := h1.1; simpa using this)
    subst this
    exact ⟨none, rfl, trivial⟩
  | [], _ :: _, es, i, r, h1, h2, h => by simp [findA] at h
  | _ :: _, [], es, i, r, h1, h2, h => by simp [findA] at h
  | x :: ks, y :: vs, [], i, r, h1, h2, h => by have := h1.1; simp at this
  | x :: ks, y :: vs, e :: es, i, r, h1, h2, h => by
    simp only [List.map_cons] at h1 h2
    obtain ⟨c, cs, hc, hx, hks⟩ := h1.inv
    obtain ⟨d, ds, hd, hy, hvs⟩ := h2.inv
    cases hc
    cases hd
    simp only [findA] at h
    cases hs : sameA kd k x with
    | none => simp [hs] at h
    | some b =>
      have hn := same_ok hk hx hs
      cases b with
      | true =>
        simp only [hs] at h
        cases h
        exact ⟨some (i, e.val), by simp [Instr.findNow, hn], rfl, hy, Nat.le_refl _, e, by simp, by simpa using hs, by simp⟩
      | false =>
        simp only [hs] at h
        obtain ⟨q, hq, hm⟩ := find_ok hk (ks := ks) (vs := vs) (es := es) hks hvs h
        refine ⟨q, by simp [Instr.findNow, hn, hq], ?_⟩
        cases r with
        | none => cases q <;> exact hm
        | some p =>
          cases q with
          | none => exact hm
          | some q =>
            obtain ⟨g1, g2, g3, e', g4, g5, g6⟩ := hm
            have hj : p.1 - i = (p.1 - (i + 1)) + 1 := by omega
            refine ⟨g1, g2, by omega, e', by rw [hj]; simpa using g4, by rw [hj]; simpa using g5, by rw [hj]; simpa using g6⟩

theorem fit_key {V : Vw} {kd : TypeDesc} {k : AV} {u : Value} (hk : Rep V k u) (h : fitA kd k = true) : MapKept.IsKey kd u := by
  unfold fitA at h
  split at h
  · cases hk; simp at h; subst h; simp [MapKept.IsKey]
  · cases hk; simp [MapKept.IsKey]
  · cases hk; simp [MapKept.IsKey]
  · cases h

theorem mapT_some {t kt et : Nat} (h : mapT P t = some (kt, et)) : P.underlying t = some (.map kt et) := by
  unfold mapT at h
  split at h
  · rename_i hu; cases h; exact hu
  · cases h
theorem keyD_some {t : Nat} {kd : TypeDesc} (h : keyD P t = some kd) : ∃ kt et, mapT P t = some (kt, et) ∧ P.underlying kt = some kd ∧ keyK kd = true := by
  unfold keyD at h
  split at h
  · rename_i kt et hm
    split at h
    · rename_i kd' hk
      split at h
      · rename_i hq; cases h; exact ⟨kt, et, hm, hk, hq⟩
      · cases h
    · cases h
  · cases h

/-- The entries of a map, in the world. -/
theorem entries_ok {V : Vw} (o : Ok V) {x : AV} {v : Value} (hx : Rep V x v) {ks vs : List AV} (h : entriesA V.mem x = some (ks, vs)) :
    ∃ es : Array MapEntry, Reps V ks (es.toList.map (·.key)) ∧ Reps V vs (es.toList.map (·.val)) ∧ ((v = .map none ∧ es = #[]) ∨ ∃ b cl, v = .map (some b) ∧ V.w.heap[b]? = some (.map es cl)) := by
  cases hx with
  | nilmp => simp [entriesA] at h; obtain ⟨rfl, rfl⟩ := h; exact ⟨#[], Reps.nil _, Reps.nil _, .inl ⟨rfl, rfl⟩⟩
  | smap ks' vs' b es cl hS hb h1 h2 hk hv =>
    simp [entriesA] at h
    obtain ⟨rfl, rfl⟩ := h
    exact ⟨es, reps_entries h1 hk, reps_entries h2 hv, .inr ⟨b, cl, rfl, hb⟩⟩
  | mp id v h1 hh hv =>
    simp only [entriesA] at h
    split at h
    · rename_i ks' vs' hm
      simp at h
      obtain ⟨rfl, rfl⟩ := h
      obtain ⟨b, hb, rfl⟩ := hv (by simp [verOf, shp, hm, shpB])
      obtain ⟨es, cl, g1, g2, g3⟩ := o.blk id b _ hm hb
      exact ⟨es, g2, g3, .inr ⟨b, cl, rfl, g1⟩⟩
    · cases h
  | _ => cases h

theorem look_ok {V : Vw} (o : Ok V) {t : Nat} {x k r : AV} {v u : Value} {ok : Bool} (hx : Rep V x v) (hk : Rep V k u) (h : lookA P V.mem t x k ok = some r) :
    ∃ w, (Instr.lookup t v u ok).run P V.w = .ok w V.w ∧ Rep V r w := by
  unfold lookA at h
  split at h
  case h_2 => cases h
  rename_i kt et kd ks vs hmt hkd hen
  split at h
  case isFalse => cases h
  rename_i hfit
  obtain ⟨kt', et', hm', hu, _⟩ := keyD_some hkd
  rw [hmt] at hm'
  cases hm'
  have hum := mapT_some hmt
  obtain ⟨es, h1, h2, hor⟩ := entries_ok o hx hen
  have pair : ∀ {a b : AV} {c d : Value}, Rep V a c → Rep V b d → Rep V (.tup [a, b]) (.tuple #[c, d]) := by
    intro a b c d ha hb
    refine .tup _ _ rfl (fun j x y hx hy => ?_)
    match j, hx, hy with
    | 0, hx, hy => simp at hx hy; subst hx; subst hy; exact ha
    | 1, hx, hy => simp at hx hy; subst hx; subst hy; exact hb
    | j + 2, hx, _ => simp at hx
  -- the run, once the finding is known
  have key : ∀ (q : Option (Nat × Value)), Instr.findNow kd u es.toList 0 = some q → ∀ (y : Value) (b : Bool), (match q with | some (_, v) => (v, b) = (y, true) | none => b = false ∧ (zeroValue et).run P V.w = .ok y V.w) →
      (Instr.lookup t v u ok).run P V.w = .ok (if ok then .tuple #[y, .bool b] else y) V.w := by
    intro q hq y b hyb
    have hck : ∀ e, (Instr.checkKey e 10000 kt u).run P V.w = .ok () V.w := fun e => MapKept.run_checkKey hu (fit_key hk hfit) e 9999
    have hfk : (Instr.findKey kt u es.toList).run P V.w = .ok q V.w := MapKept.run_findKey hu hq
    unfold Instr.lookup
    rcases hor with ⟨rfl, rfl⟩ | ⟨b', cl, rfl, hb⟩
    · simp only [Sem.run_bind, run_und hum, Result.andThen_ok, Sem.run_pure, hck]
      rw [hfk]
      cases q with
      | none => simp only [Result.andThen_ok, hyb.2, Sem.run_bind, Sem.run_pure, hyb.1]
      | some p => simp only [Prod.mk.injEq] at hyb; simp only [Result.andThen_ok, Sem.run_bind, Sem.run_pure, hyb.1, hyb.2]
    · simp only [Sem.run_bind, run_und hum, Result.andThen_ok, MapKept.run_getObj_map hb, Sem.run_pure, hck, hfk]
      cases q with
      | none => simp only [Result.andThen_ok, hyb.2, Sem.run_bind, Sem.run_pure, hyb.1]
      | some p => simp only [Prod.mk.injEq] at hyb; simp only [Result.andThen_ok, Sem.run_bind, Sem.run_pure, hyb.1, hyb.2]
  split at h
  · rename_i j y hf
    obtain ⟨q, hq, hm⟩ := find_ok hk h1 h2 hf
    cases q with
    | none => exact hm.elim
    | some p =>
      obtain ⟨_, hr, _⟩ := hm
      refine ⟨_, key _ hq p.2 true rfl, ?_⟩
      cases h
      cases ok with
      | true => exact pair hr (.bool true)
      | false => exact hr
  · rename_i hf
    obtain ⟨q, hq, hm⟩ := find_ok hk h1 h2 hf
    cases q with
    | some p => exact hm.elim
    | none =>
      obtain ⟨z, hz, rfl⟩ := Option.map_eq_some_iff.1 h
      obtain ⟨i, zv, g1, g2, g3, g4⟩ := zero_rep hz
      refine ⟨_, key _ hq zv false ⟨rfl, by simp [zeroValue, run_tinfo g1, g2]⟩, ?_⟩
      cases ok with
      | true => exact pair (g4 V) (.bool false)
      | false => exact g4 V
  · cases h

/-! ### Writing -/
theorem same_bits {V : Vw} {kd : TypeDesc} {k x : AV} {u c : Value} (hk : Rep V k u) (hx : Rep V x c) (h : sameA kd k x = some true) : Instr.sameBits 10000 c u = true := by
  unfold sameA at h
  split at h
  · cases hk; cases hx
    split at h
    · rename_i he
      simp at h
      subst he; subst h
      simp [Instr.sameBits]
    · cases h
  · cases hk; cases hx
    simp at h
    rename_i a b
    have : a = b := by cases a; cases b; simp at h; subst h; rfl
    subst this
    rw [Instr.sameBits]
    exact (MapKept.bytes_beq _ _).2 rfl
  · cases hk; cases hx
    simp at h
    subst h
    simp [Instr.sameBits]
  · cases h
theorem reps_modify {V : Vw} {xs : List AV} {es : Array MapEntry} {g : MapEntry → Value} {f : MapEntry → MapEntry} {i : Nat} {x : AV} (h : Reps V xs (es.toList.map g)) (hx : ∀ e, es[i]? = some e → Rep V x (g (f e))) :
    Reps V (xs.set i x) ((es.modify i f).toList.map g) := by
  refine ⟨by have := h.1; simpa using this, fun j y c hy hc => ?_⟩
  rw [List.getElem?_map, Array.getElem?_toList, Array.getElem?_modify] at hc
  obtain ⟨e, he, rfl⟩ := Option.map_eq_some_iff.1 hc
  by_cases hj : i = j
  · subst hj
    rw [if_pos rfl] at he
    obtain ⟨e', he', rfl⟩ := Option.map_eq_some_iff.1 he
    have hi : i < xs.length := by have := h.1; have h2 := (Array.getElem?_eq_some_iff.1 he').1; simp at this; omega
    rw [List.getElem?_set_self hi] at hy
    cases hy
    exact hx e' he'
  · rw [if_neg hj] at he
    rw [List.getElem?_set_ne hj] at hy
    exact h.2 j y _ hy (by rw [List.getElem?_map]; simp [he])

theorem upd_ok {V : Vw} (o : Ok V) {t : Nat} {x k y : AV} {v u c : Value} {m' : Mem} (hx : Rep V x v) (hk : Rep V k u) (hy : Rep V y c) (h : updA P V.mem t x k y = some m') :
    ∃ V', (Instr.mapUpdate t v u c).run P V.w = .ok () V'.w ∧ V'.mem = m' ∧ Ok V' ∧ Ext V V' := by
  unfold updA at h
  split at h
  case h_2 => cases h
  rename_i id kd hkd
  split at h
  case h_2 => cases h
  rename_i ks vs hm
  split at h
  case isFalse => cases h
  rename_i hfit
  obtain ⟨kt, et, hmt, hu, _⟩ := keyD_some hkd
  have hum := mapT_some hmt
  have hv0 : verOf V.mem id = some 0 := by simp [verOf, shp, hm, shpB]
  obtain ⟨b, hb, rfl⟩ : ∃ b, V.rs id = some b ∧ v = .map (some b) := by cases hx with | mp _ _ _ _ hv => exact hv hv0
  obtain ⟨es, cl, g1, g2, g3⟩ := o.blk id b _ hm hb
  have hck : (Instr.checkKey false 10000 kt u).run P V.w = .ok () V.w := MapKept.run_checkKey hu (fit_key hk hfit) false 9999
  have hlt : b < V.w.heap.size := (o.rb id b hb).1
  -- the block set anew
  have fin : ∀ (es' : Array MapEntry) (cl' : Nat) (ks' vs' : List AV), (∀ V' : Vw, Ext V V' → Reps V' ks' (es'.toList.map (·.key)) ∧ Reps V' vs' (es'.toList.map (·.val))) →
      (Instr.mapUpdate t (.map (some b)) u c).run P V.w = .ok () { V.w with heap := V.w.heap.setIfInBounds b (.map es' cl') } → m' = V.mem.set id (.mp ks' vs') →
      ∃ V', (Instr.mapUpdate t (.map (some b)) u c).run P V.w = .ok () V'.w ∧ V'.mem = m' ∧ Ok V' ∧ Ext V V' := by
    rintro es' cl' ks' vs' hr hrun rfl
    have hs : (V.w.heap.setIfInBounds b (.map es' cl')).size = V.w.heap.size := by simp
    have hh : ∀ j, j ≠ b → (V.w.heap.setIfInBounds b (.map es' cl'))[j]? = V.w.heap[j]? := fun j hj => Array.getElem?_setIfInBounds_ne (Ne.symm hj)
    have ext : Ext V (V.wr id { V.w with heap := V.w.heap.setIfInBounds b (.map es' cl') } (.mp ks' vs')) := ext_wr o hm hv0 rfl hb rfl rfl rfl hs hh
    refine ⟨V.wr id { V.w with heap := V.w.heap.setIfInBounds b (.map es' cl') } (.mp ks' vs'), hrun, rfl, ok_wr o hm hv0 rfl hb rfl rfl rfl hs hh ?_, ext⟩
    exact ⟨es', cl', by show (V.w.heap.setIfInBounds b (.map es' cl'))[b]? = _; simp [hlt], (hr _ ext).1, (hr _ ext).2⟩
  split at h
  · rename_i j y' hf
    obtain ⟨q, hq, hmm⟩ := find_ok hk g2 g3 hf
    cases q with
    | none => exact hmm.elim
    | some p =>
      obtain ⟨hp1, _, _, e, he, hsame, hjl⟩ := hmm
      rw [Nat.sub_zero] at he hsame hjl
      have hfk : (Instr.findKey kt u es.toList).run P V.w = .ok (some p) V.w := MapKept.run_findKey hu hq
      have hej : es[j]? = some e := by simpa using he
      have hkj : ks[j]? = some ks[j] := List.getElem?_eq_getElem hjl
      have hkr : Rep V ks[j] e.key := g2.2 j _ _ hkj (by rw [List.getElem?_map]; simp [hej])
      have hsb : Instr.sameBits 10000 e.key u = true := same_bits hk hkr (by simpa [List.getD_eq_getElem?_getD, hkj] using hsame)
      cases h
      refine fin (es.modify j fun e => { e with key := u, val := c }) cl (ks.set j k) (vs.set j y) (fun V' ext => ⟨reps_modify (g2.mono ext) (fun _ _ => hk.mono ext), reps_modify (g3.mono ext) (fun _ _ => hy.mono ext)⟩) ?_ rfl
      have hp : p.1 = j := hp1
      simp only [Instr.mapUpdate, Sem.run_bind, run_und hum, Result.andThen_ok, MapKept.run_getObj_map g1, hck, hfk, hp, hej, Option.map_some, Option.getD_some, Instr.keyThatStays, hsb, if_true, Sem.run_pure]
      exact MapKept.run_setObj_map _ g1
  · rename_i hf
    obtain ⟨q, hq, hmm⟩ := find_ok hk g2 g3 hf
    cases q with
    | some p => exact hmm.elim
    | none =>
      have hfk : (Instr.findKey kt u es.toList).run P V.w = .ok none V.w := MapKept.run_findKey hu hq
      cases h
      refine fin (es.push { key := u, val := c, born := cl }) (cl + 1) (ks ++ [k]) (vs ++ [y]) (fun V' ext => ⟨?_, ?_⟩) ?_ rfl
      · simp only [Array.toList_push, List.map_append, List.map_cons, List.map_nil]
        exact (g2.mono ext).append (Reps.cons (hk.mono ext) (Reps.nil _))
      · simp only [Array.toList_push, List.map_append, List.map_cons, List.map_nil]
        exact (g3.mono ext).append (Reps.cons (hy.mono ext) (Reps.nil _))
      · simp only [Instr.mapUpdate, Sem.run_bind, run_und hum, Result.andThen_ok, MapKept.run_getObj_map g1, hck, hfk]
        exact MapKept.run_setObj_map _ g1
  · cases h

theorem makeS_ok {V : Vw} (o : Ok V) {t et sz b : Nat} {z : AV} {l c : Int} (kl kc : IntKind) (he : elemT P t = some et) (hsz : szT P et = some sz) (hb : byT P et = some b) (hz : zeroT P et = some z)
    (h0l : 0 ≤ l) (hlc : l ≤ c) (hby : b * c.toNat ≤ 140737488355328) (hc : c.toNat ≤ 140737488350000) (hzl : z.cells.length = sz) (hzd : z.data = true) (h0 : 0 < sz) :
    ∃ V' v, (Instr.makeSlice t (.int kl l) (.int kc c)).run P V.w = .ok v V'.w ∧ V'.mem = V.mem ++ [.arr et sz (List.replicate l.toNat z)] ∧ Ok V' ∧ Ext V V' ∧ Rep V' (.own V.mem.length l.toNat) v := by
  unfold elemT at he
  split at he
  case h_2 => cases he
  rename_i e' hu
  cases he
  obtain ⟨i, zv, hi, hiz, _, hzr⟩ := zero_rep hz
  have hisz : i.size = sz := by unfold szT at hsz; rw [hi] at hsz; simpa using hsz
  have hib : i.bytes = b := by unfold byT at hb; rw [hi] at hb; simpa using hb
  obtain ⟨hrz, hlz, h1z⟩ := (hzr V).cells (not_tup hzd)
  have hzs : zv.cells.size = sz := by have := hrz.1; simp at this; omega
  have hcc : ((c.toNat : Nat) : Int) = c := Int.toNat_of_nonneg (by omega)
  have hbi : (b : Int) * (c.toNat : Int) ≤ 281474976710656 := by
    rw [← Int.natCast_mul]
    exact Int.le_trans (Int.ofNat_le.2 hby) (by decide)
  have hrun := run_make (P := P) V.w t et i zv hu hi hiz kl kc l c h0l hlc (by rw [hib, ← hcc]; exact hbi) (by omega)
  rw [hisz] at hrun
  have hwz : ∀ x ∈ List.replicate l.toNat z, wide x sz := fun x hx => by
    have := List.eq_of_mem_replicate hx
    subst this
    exact ⟨hzl, hlz⟩
  have hlcn : l.toNat ≤ c.toNat := by omega
  have e := ext_new o (.arr et sz (List.replicate l.toNat z)) (.cells (madeCells zv.cells (c.toNat * sz)) et) c.toNat
  have hmul : l.toNat * sz ≤ c.toNat * sz := Nat.mul_le_mul_right _ hlcn
  have hrep : Reps (V.new (.arr et sz (List.replicate l.toNat z)) (.cells (madeCells zv.cells (c.toNat * sz)) et) c.toNat) (flatC (List.replicate l.toNat z)) ((madeCells zv.cells (c.toNat * sz)).toList.take ((List.replicate l.toNat z).length * sz)) := by
    refine ⟨?_, fun k y q hy hq => ?_⟩
    · have h1 := size_madeCells zv.cells (c.toNat * sz)
      rw [flatC_length hwz, List.length_take, List.length_replicate]
      rw [show (madeCells zv.cells (c.toNat * sz)).toList.length = c.toNat * sz from h1]
      exact Nat.min_eq_left hmul
    have hk : k < l.toNat * sz := by
      have := (List.getElem?_eq_some_iff.1 hy).1
      rwa [flatC_length hwz, List.length_replicate] at this
    have hqz : k / sz < l.toNat := (Nat.div_lt_iff_lt_mul h0).2 hk
    have hg := flatC_get hwz (j := k / sz) (m := k % sz) (x := z) (by rw [List.getElem?_replicate, if_pos hqz]) (Nat.mod_lt _ h0)
    rw [show k / sz * sz + k % sz = k from by rw [Nat.mul_comm]; exact Nat.div_add_mod k sz, hy] at hg
    obtain ⟨c', hc', hrep⟩ := hrz.get hg.symm
    have hcq : q = c' := by
      rw [List.getElem?_take, List.length_replicate, if_pos hk, Array.getElem?_toList] at hq
      unfold madeCells at hq
      rw [Array.getElem?_map, Array.getElem?_range, if_pos (by omega)] at hq
      simp only [Option.map_some, Option.some.injEq] at hq
      rw [Array.getElem?_toList] at hc'
      rw [← hq, hzs, getElem!_def, hc']
    rw [hcq]; exact hrep.mono e
  refine ⟨V.new (.arr et sz (List.replicate l.toNat z)) (.cells (madeCells zv.cells (c.toNat * sz)) et) c.toNat, .slice (some ⟨V.w.heap.size, 0, none⟩) l.toNat c.toNat, hrun, rfl, ok_new o _ _ _ ?_, e, ?_⟩
  · refine ⟨h0, by rw [new_cp]; simpa using hlcn, by rw [new_cp]; simp [maxLen]; omega, hwz, madeCells zv.cells (c.toNat * sz), new_heap V _ _ _, by rw [new_cp, size_madeCells], hrep⟩
  · exact .own _ _ _ rfl (new_hd V (.arr et sz (List.replicate l.toNat z)) _ _ (by simp [shpB])) (fun _ => ⟨_, new_rs V _ _ _, by rw [new_cp]⟩)

theorem make_ok {V : Vw} (o : Ok V) (t : Nat) : ∃ V' v, (Instr.makeMap t none).run P V.w = .ok v V'.w ∧ V'.mem = V.mem ++ [.mp [] []] ∧ Ok V' ∧ Ext V V' ∧ Rep V' (.mp V.mem.length) v := by
  have e := ext_new o (.mp [] []) (.map #[] 0) 0
  refine ⟨V.new (.mp [] []) (.map #[] 0) 0, .map (some V.w.heap.size), rfl, rfl, ok_new o _ _ _ ⟨#[], 0, new_heap V _ _ _, Reps.nil _, Reps.nil _⟩, e, ?_⟩
  exact .mp _ _ rfl (new_hd V (.mp [] []) _ _ rfl) (fun _ => ⟨_, new_rs V _ _ _, rfl⟩)
end Go.Ab
