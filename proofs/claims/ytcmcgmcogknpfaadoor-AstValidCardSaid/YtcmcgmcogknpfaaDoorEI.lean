/- The operations on memory, fifth part: append, slice literals; arithmetic. -/
import Derived.Test.YtcmcgmcogknpfaaDoorEH
set_option linter.unusedVariables false
set_option linter.unusedSimpArgs false
namespace Go.Ab
open Go

variable {P : Program}

theorem len_ok {V : Vw} {t ty : Nat} {x r : AV} {v : Value} (hv : Rep V x v) (h : lenA P V.mem t x = some r) : ∃ u, (Builtin.len_ #[t] ty #[v]).run P V.w = .ok u V.w ∧ Rep V r u := by
  unfold lenA at h
  cases x with
  | str s =>
    simp only at h
    split at h
    · rename_i ht
      unfold strT at ht
      split at ht
      case h_2 => cases ht
      rename_i hu
      cases h
      cases hv
      exact ⟨_, by simp [Builtin.len_, run_und hu, goInt], .int _ _⟩
    · cases h
  | seq z full sz xs =>
    simp only at h
    split at h
    · rename_i ht
      unfold sliceT elemT at ht
      split at ht
      case h_2 => cases ht
      rename_i e hu
      cases h
      obtain ⟨a, c, rfl, _⟩ := seq_form hv
      exact ⟨_, by simp [Builtin.len_, run_und hu, goInt], .int _ _⟩
    · cases h
  | own id ver =>
    simp only at h
    split at h
    · rename_i ht
      obtain ⟨ht, hver⟩ := ht
      unfold sliceT elemT at ht
      split at ht
      case h_2 => cases ht
      rename_i e hu
      cases h
      obtain ⟨b, hb, rfl⟩ := own_valid hv hver
      exact ⟨_, by simp [Builtin.len_, run_und hu, goInt], .int _ _⟩
    · cases h
  | agg cs =>
    simp only at h
    obtain ⟨p, hp, rfl⟩ := Option.map_eq_some_iff.1 h
    obtain ⟨n, e⟩ := p
    unfold arrT at hp
    split at hp
    case h_2 => cases hp
    rename_i n' e' hu
    simp only [Option.some.injEq, Prod.mk.injEq] at hp
    obtain ⟨rfl, rfl⟩ := hp
    exact ⟨_, by simp [Builtin.len_, run_und hu, goInt], .int _ _⟩
  | _ => cases h

/-- A slice's elements, as append reads them. -/
theorem elems_ok {V : Vw} (o : Ok V) {y : AV} {v : Value} {sz0 sz : Nat} {ys : List AV} (hv : Rep V y v) (h : elemsA V.mem y = some (sz0, ys)) (hw : ∀ x ∈ ys, x.cells.length = sz) :
    (∃ a c, v = .slice a ys.length c) ∧ (ys ≠ [] → ∃ ad c, v = .slice (some ad) ys.length c ∧ Lies V ad (flatC ys)) ∧ ∀ x ∈ ys, wide x sz := by
  cases y with
  | seq z full sz1 xs =>
    simp only [elemsA, Option.some.injEq, Prod.mk.injEq] at h
    obtain ⟨rfl, rfl⟩ := h
    cases z with
    | true =>
      cases hv
      exact ⟨⟨_, _, rfl⟩, fun h => absurd rfl h, fun x hx => by simp at hx⟩
    | false =>
      obtain ⟨ad, c, rfl, _, _, _, _, hww, hl⟩ := lies_of_seq hv
      exact ⟨⟨_, _, rfl⟩, fun _ => ⟨ad, c, rfl, hl⟩, fun x hx => ⟨hw x hx, (hww x hx).2⟩⟩
  | own id ver =>
    simp only [elemsA] at h
    cases hm : V.mem[id]? with
    | none => simp [hm] at h
    | some k =>
      cases k with
      | arr e sz1 xs =>
        simp only [hm] at h
        split at h
        · rename_i hlen
          simp only [Option.some.injEq, Prod.mk.injEq] at h
          obtain ⟨rfl, rfl⟩ := h
          obtain ⟨b, hb, rfl⟩ := own_valid hv (by rw [verOf_arr hm, hlen])
          obtain ⟨h2, h3, h4, h5, vs, h6, h7, h8⟩ := o.blk id b _ hm hb
          refine ⟨⟨_, _, by rw [hlen]⟩, fun _ => ⟨⟨b, 0, none⟩, V.cp id, by rw [hlen], ⟨_, h8, fun m u hu => ?_⟩⟩, fun x hx => ⟨hw x hx, (h5 x hx).2⟩⟩
          rw [add_lit, cell_block h6]
          rw [List.getElem?_take] at hu
          split at hu
          · simpa using hu
          · cases hu
        · cases h
      | _ => simp [hm] at h
  | _ => simp [elemsA] at h

theorem run_append_empty (w : World) (t ty e : TypeId) (i : TypeInfo) (ht : P.underlying t = some (.slice e)) (hi : P.info? e = some i) (a b : Option Addr) (n c d : Nat) (h : n ≤ c) :
    (Builtin.append_ #[t, t] ty #[.slice a n c, .slice b 0 d]).run P w = .ok (.slice a n c) w := by
  cases b with
  | none => cases a <;> simp [Builtin.append_, run_und ht, sizeOf, run_tinfo hi, Builtin.lenOf, h, Builtin.firstCells, storeCells]
  | some b => cases a <;> simp [Builtin.append_, run_und ht, sizeOf, run_tinfo hi, Builtin.lenOf, h, Builtin.firstCells, storeCells, loadCells, loadCellsFrom]

def Vw.app (V : Vw) (id b c : Nat) (w : World) (k : Blk) : Vw :=
  { w := w, S := V.S, rs := fun j => if j = id then some b else V.rs j, cp := fun j => if j = id then c else V.cp j, mem := V.mem.set id k }
/-- The view behind an append that lengthens block id: it lies in b now. -/
theorem app_step {V : Vw} (o : Ok V) {id b0 b c e sz v0 v1 : Nat} {w : World} {k k0 : Blk} (hm : V.mem[id]? = some k0) (hv : verOf V.mem id = some v0) (hk : (shpB k).map (·.1) = some v1) (hlt : v0 < v1)
    (hr : V.rs id = some b0) (hg : V.w.grownBy w (some b0)) (hb : b = b0 ∨ (V.w.heap.size ≤ b ∧ b < w.heap.size)) (hblk : Ext V (V.app id b c w k) → BlkOk (V.app id b c w k) id b k) :
    Ext V (V.app id b c w k) ∧ Ok (V.app id b c w k) := by
  have hid : id < V.mem.length := verOf_lt hv
  have hb0 := (o.rb id b0 hr).1
  have e : Ext V (V.app id b c w k) := {
    os := hg.os
    tape := hg.tape
    output := hg.output
    size := hg.size
    frame := fun j hj hn => hg.block j hj (fun e => hn id (by rw [hr]; exact e.symm))
    stab := fun j hj => hg.block j (o.sb j hj) (fun e => by cases e; exact o.sep id b0 v0 hv hr hj)
    sm := fun _ h => h
    sn := fun _ h => .inl h
    len := by simp [Vw.app]
    ver := fun j hj v' h => by
      have h' : verOf (V.mem.set id k) j = some v' := h
      by_cases e : j = id
      · subst e
        rw [verOf_set_self hj, hk] at h'
        cases h'
        exact ⟨v0, hv, by omega, fun e => by omega⟩
      · rw [verOf_set_ne e] at h'
        exact ⟨v', h', Nat.le_refl _, fun _ => ⟨fun b' hb' => by simp only [Vw.app, if_neg e]; exact hb', by simp only [Vw.app, if_neg e]⟩⟩
    rn := fun j b' h => by
      simp only [Vw.app] at h
      split at h
      · cases h
        rcases hb with rfl | hb
        · exact .inr ⟨id, hr⟩
        · exact .inl hb.1
      · exact .inr ⟨j, h⟩
    nn := fun j hj h => by
      have hne : j ≠ id := fun e => by subst e; rw [hr] at h; cases h
      exact ⟨by simp only [Vw.app, if_neg hne]; exact h, .inl (List.getElem?_set_ne (fun h => hne h.symm))⟩ }
  refine ⟨e, o.step e (fun j hj => Nat.lt_of_lt_of_le (o.sb j hj) hg.size) (fun j b' h => ?_) (fun j b' v' hv' hr' => ?_) (fun j j' b' va vb ha hb' hra hrb => ?_) (fun j b' k' hm' hr' hd => ?_)⟩
  · simp only [Vw.app] at h ⊢
    split at h
    · rename_i e; cases h; subst e
      refine ⟨?_, by simpa using hid⟩
      have := hg.size
      rcases hb with rfl | hb <;> omega
    · have h1 := o.rb j b' h; have h2 := hg.size; exact ⟨by omega, by simpa using h1.2⟩
  · simp only [Vw.app] at hr'
    split at hr'
    · cases hr'
      intro hS
      rcases hb with rfl | hb
      · exact o.sep id b v0 hv hr hS
      · have := o.sb b hS; omega
    · rename_i e
      have h' : verOf (V.mem.set id k) j = some v' := hv'
      rw [verOf_set_ne e] at h'
      exact o.sep j b' v' h' hr'
  · have ha' : verOf (V.mem.set id k) j = some va := ha
    have hb'' : verOf (V.mem.set id k) j' = some vb := hb'
    simp only [Vw.app] at hra hrb
    split at hra <;> split at hrb
    · rename_i e1 e2; exact e1.trans e2.symm
    · rename_i e1 e2
      cases hra
      rw [verOf_set_ne e2] at hb''
      exfalso
      rcases hb with rfl | hb
      · exact e2 (o.inj j' id b vb v0 hb'' hv hrb hr)
      · have := (o.rb j' b hrb).1; omega
    · rename_i e1 e2
      cases hrb
      rw [verOf_set_ne e1] at ha'
      exfalso
      rcases hb with rfl | hb
      · exact e1 (o.inj j id b va v0 ha' hv hra hr)
      · have := (o.rb j b hra).1; omega
    · rename_i e1 e2
      rw [verOf_set_ne e1] at ha'
      rw [verOf_set_ne e2] at hb''
      exact o.inj j j' b' va vb ha' hb'' hra hrb
  · have hm2 : (V.mem.set id k)[j]? = some k' := hm'
    simp only [Vw.app] at hr'
    split at hr'
    · rename_i e1
      cases hr'
      subst e1
      rw [List.getElem?_set_self hid] at hm2
      cases hm2
      exact .inr (hblk e)
    · rename_i e1
      rw [List.getElem?_set_ne (fun h => e1 h.symm)] at hm2
      refine .inl ⟨hm2, hr', by simp only [Vw.app, if_neg e1], hg.block b' (o.rb j b' hr').1 (fun e => ?_)⟩
      have eb : b' = b0 := by simpa using e
      have h1 : verOf V.mem j = (shpB k').map (·.1) := verOf_some hm2
      cases hsk : shpB k' with
      | none => cases k' <;> simp [shpB] at hsk; exact hd rfl
      | some s => exact e1 (o.inj j id b0 s.1 v0 (by rw [h1, hsk]; rfl) hv (by rw [← eb]; exact hr') hr)

theorem allCells_spec {sz : Nat} {xs : List AV} (h : allCells sz xs = true) : ∀ x ∈ xs, x.cells.length = sz := by
  intro x hx
  have := List.all_eq_true.1 h x hx
  simpa using this

theorem ofVs_length : ∀ (vs : List Value) (xs : List AV), ofVs vs = some xs → xs.length = vs.length := fun vs xs h => by
  have := (ofVs_reps ⟨default, fun _ => False, fun _ => none, fun _ => 0, []⟩ vs xs h).1
  exact this.symm
theorem ofV_junk (v : Value) : ofV v ≠ some .junk := by
  unfold ofV
  split <;> (try split) <;> (try split) <;> simp
theorem zero_cells {t : Nat} {z : AV} {sz : Nat} (h : (zeroT P t).any (fun z => z.cells.length == sz) = true) : ∃ (i : TypeInfo) (v : Value), P.info? t = some i ∧ i.zero = some v ∧ v.cells.size = sz := by
  obtain ⟨z, hz, hl⟩ := (Option.any_eq_true _ _).1 h
  obtain ⟨i, v, h1, h2, h3, h4⟩ := zero_rep hz
  refine ⟨i, v, h1, h2, ?_⟩
  have hr := h4 ⟨default, fun _ => False, fun _ => none, fun _ => 0, []⟩
  simp at hl
  by_cases ht : z.data = true
  · have := (hr.cells ht).1.1
    rw [← hl, ← this]; simp
  · have ht' : ∃ xs, z = .tup xs := by
      cases z <;> first | exact ⟨_, rfl⟩ | (exfalso; exact ht rfl) | exact absurd h3 (ofV_junk _)
    obtain ⟨xs, rfl⟩ := ht'
    cases hr
    simpa [AV.cells, Value.cells] using hl

theorem ownsRow_inv {w : World} {base e size n : Nat} {v : Value} {xs : List Value} (h : w.ownsRow base e size v n xs) (hn : 0 < n) :
    ∃ g cap cur, v = .slice (some ⟨g, 0, none⟩) n cap ∧ base ≤ g ∧ w.heap[g]? = some (.cells cur e (0, 0)) ∧ n ≤ cap ∧ cap ≤ maxLen ∧ cur.size = cap * size ∧ cur.toList.take (n * size) = xs := by
  rcases h.2 with ⟨_, h0⟩ | h
  · omega
  · exact h

theorem append_ok {V : Vw} (o : Ok V) {t t' ty : Nat} {s y r : AV} {m' : Mem} {vs vy : Value} (hs : Rep V s vs) (hy : Rep V y vy) (h : appendA P V.mem t t' s y = some (r, m')) :
    ∃ u V', (Builtin.append_ #[t, t'] ty #[vs, vy]).run P V.w = .ok u V'.w ∧ V'.mem = m' ∧ Ok V' ∧ Ext V V' ∧ Rep V' r u := by
  unfold appendA at h
  split at h
  case isFalse => cases h
  rename_i htt
  subst htt
  split at h
  case h_2 => cases h
  rename_i e sz0 ys he hel
  split at h
  case h_2 => cases h
  rename_i sz bytes hsz hby
  split at h
  case isFalse => cases h
  rename_i hc
  obtain ⟨hsz0, hall, hzero⟩ := hc
  unfold elemT at he
  split at he
  case h_2 => cases he
  rename_i e' hu
  cases he
  obtain ⟨i, z, hi, hz, hzs⟩ := zero_cells (z := .undef) hzero
  have hisz : i.size = sz := by unfold szT at hsz; rw [hi] at hsz; simpa using hsz
  have hiby : i.bytes = bytes := by unfold byT at hby; rw [hi] at hby; simpa using hby
  obtain ⟨⟨ya, yc, hyf⟩, hyl, hyw⟩ := elems_ok o hy hel (allCells_spec hall)
  cases s with
  | own id ver =>
    simp only at h
    cases hm : V.mem[id]? with
    | none => simp [hm] at h
    | some k =>
      cases k with
      | arr e1 sz1 xs =>
        simp only [hm] at h
        split at h
        case isFalse => cases h
        rename_i hc
        obtain ⟨hlen, rfl, rfl, hb1, hb2⟩ := hc
        have hver := verOf_arr hm
        obtain ⟨b, hb, rfl⟩ := own_valid hs (by rw [hver, hlen])
        obtain ⟨h2, h3, h4, h5, cur, h6, h7, h8⟩ := o.blk id b _ hm hb
        split at h
        · rename_i hnil
          cases h
          subst hnil
          rw [hyf]
          exact ⟨_, V, run_append_empty V.w t ty e1 i hu hi _ _ _ _ _ (by rw [← hlen]; exact h3), rfl, o, Ext.refl V, hs⟩
        · rename_i hne
          cases h
          obtain ⟨ad, c, rfl, us, hus, hcell⟩ := hyl hne
          have hfl := flatC_length hyw
          have hown : V.w.ownsRow 0 e1 sz1 (.slice (some ⟨b, 0, none⟩) ver (V.cp id)) ver (cur.toList.take (ver * sz1)) := by
            refine ⟨?_, .inr ⟨b, V.cp id, cur, rfl, Nat.zero_le _, h6, by omega, h4, h7, rfl⟩⟩
            have : ver * sz1 ≤ V.cp id * sz1 := Nat.mul_le_mul_right _ (by omega)
            simp; omega
          have h1 : ∀ u ∈ us, u.oneCell' = true := by
            intro u hu'
            obtain ⟨j, hj, rfl⟩ := List.getElem_of_mem hu'
            have hj' : j < (flatC ys).length := by rw [← hus.1]; exact hj
            have hrep := hus.2 j _ _ (List.getElem?_eq_getElem hj') (List.getElem?_eq_getElem hj)
            refine hrep.one ?_
            have hmem := List.getElem_mem hj'
            obtain ⟨x, hx, hxc⟩ := List.mem_flatMap.1 hmem
            exact (hyw x hx).2 _ hxc
          obtain ⟨v', w', hrun, hown', hgrow, _⟩ := run_append_own (P := P) V.w 0 t ty e1 i z sz1 bytes hu hi hz hisz hiby hzs hsz0 _ ver _ hown ad ys.length c us (by rw [hus.1, hfl]) hcell h1
            (by simp only [maxLen]; omega) (by rw [← hlen]; exact hb1) (Nat.zero_le _)
          have hyp : 0 < ys.length := List.length_pos_iff.2 hne
          have hrow' := hgrow
          obtain ⟨g, cap, cur', rfl, _, hg1, hg2, hg3, hg4, hg5⟩ := ownsRow_inv hown' (by omega)
          have hxy : ∀ x ∈ xs ++ ys, wide x sz1 := by
            intro x hx
            rcases List.mem_append.1 hx with hx | hx
            · exact h5 x hx
            · exact hyw x hx
          have hgb : g = b ∨ (V.w.heap.size ≤ g ∧ g < w'.heap.size) := by
            by_cases hgs : g < V.w.heap.size
            · left
              -- an old block with cells of this row: the law says only that all but b stay; g is where the row lies
              by_cases hgb : g = b
              · exact hgb
              · exact absurd hrun (by
                  intro hrun
                  have hroom : ver + ys.length ≤ V.cp id ∨ ¬ (ver + ys.length ≤ V.cp id) := Decidable.em _
                  rcases hroom with hroom | hroom
                  · have hr2 := run_append_room (P := P) V.w t ty e1 i hu hi b ver (V.cp id) cur h6 ad ys.length c us (by rw [hus.1, hfl, hisz]) hcell h1 hroom (by
                      rw [hus.1, hfl, hisz, ← Nat.add_mul, h7]; exact Nat.mul_le_mul_right _ hroom)
                    rw [hr2] at hrun
                    simp only [Result.ok.injEq, Value.slice.injEq, Option.some.injEq, Addr.mk.injEq] at hrun
                    exact hgb hrun.1.1.1.symm
                  · have hr2 := run_append_grow (P := P) V.w t ty e1 i z hu hi hz ⟨b, 0, none⟩ ver (V.cp id) (cur.toList.take (ver * sz1)) (by
                        have : ver * sz1 ≤ V.cp id * sz1 := Nat.mul_le_mul_right _ (by omega)
                        simp [hisz]; omega) (fun j v hv => by
                        rw [add_lit, cell_block h6]
                        rw [List.getElem?_take] at hv
                        split at hv
                        · simpa using hv
                        · cases hv) ad ys.length c us (by rw [hus.1, hfl, hisz]) hcell (by omega) (by omega) (by rw [hiby]; exact growslice_fits (by omega) (by rw [← hlen]; exact hb1))
                    rw [hr2] at hrun
                    simp only [Result.ok.injEq, Value.slice.injEq, Option.some.injEq, Addr.mk.injEq] at hrun
                    have := hrun.1.1.1
                    omega)
            · right
              exact ⟨by omega, (Array.getElem?_eq_some_iff.1 hg1).1⟩
          obtain ⟨ee, oo⟩ := app_step (e := e1) (sz := sz1) (c := cap) (b := g) (v1 := xs.length + ys.length) (k := .arr e1 sz1 (xs ++ ys)) (w := w') o hm hver (by simp [shpB]) (by omega) hb (by simpa [Value.ownBlock] using hgrow) hgb (fun ext => by
            refine ⟨hsz0, by simp [Vw.app]; omega, by simp [Vw.app]; exact hg3, hxy, cur', hg1, by simp [Vw.app]; exact hg4, ?_⟩
            have hrx : Reps V (flatC xs) (cur.toList.take (ver * sz1)) := by rw [← hlen]; exact h8
            have hall : Reps V (flatC xs ++ flatC ys) (cur.toList.take (ver * sz1) ++ us) := hrx.append hus
            have hfx : flatC (xs ++ ys) = flatC xs ++ flatC ys := by simp [flatC]
            rw [hfx, show (xs ++ ys).length * sz1 = (ver + ys.length) * sz1 from by rw [List.length_append, hlen], hg5]
            exact hall.mono ext)
          refine ⟨_, V.app id g cap w' (.arr e1 sz1 (xs ++ ys)), hrun, rfl, oo, ee, ?_⟩
          have hmm : (V.app id g cap w' (.arr e1 sz1 (xs ++ ys))).mem[id]? = some (.arr e1 sz1 (xs ++ ys)) := by
            show (V.mem.set id _)[id]? = _
            rw [List.getElem?_set_self (verOf_lt hver)]
          refine .own _ _ _ rfl ⟨verOf_lt (verOf_arr hmm), fun v0 hv0 => ?_⟩ (fun _ => ⟨g, by simp [Vw.app], ?_⟩)
          · rw [verOf_arr hmm] at hv0; cases hv0; simp; omega
          · simp [Vw.app]
      | _ => simp [hm] at h
  | seq z' full sz1 xs =>
    simp only at h
    split at h
    case isFalse => cases h
    rename_i hc
    obtain ⟨hb1, hb2⟩ := hc
    obtain ⟨a, c, rfl, hlc, hzz, hzn⟩ := seq_form hs
    split at h
    · rename_i hnil
      subst hnil
      rw [hyf]
      split at h
      · rename_i hzt
        cases h
        obtain ⟨he, hx⟩ := hzz hzt
        subst hx
        refine ⟨_, V, run_append_empty V.w t ty e i hu hi _ _ _ _ _ hlc, rfl, o, Ext.refl V, ?_⟩
        rw [he]
        exact .seqNil _ _
      · rename_i hzt
        split at h
        · rename_i hfs
          cases h
          refine ⟨_, V, run_append_empty V.w t ty e i hu hi _ _ _ _ _ hlc, rfl, o, Ext.refl V, ?_⟩
          have hz0 : z' = false := by simpa using hzt
          have hf1 : full = true := hfs.1
          rw [← hfs.2]
          rw [hz0, hf1] at hs
          exact hs
        · cases h
    · rename_i hne
      obtain ⟨ad, yc', rfl, us, hus, hcell⟩ := hyl hne
      have hfl := flatC_length hyw
      have hyp : 0 < ys.length := List.length_pos_iff.2 hne
      have fin : ∀ (xs : List AV) (olds : List Value) (hwx : ∀ x ∈ xs, wide x sz) (hro : Reps V (flatC xs) olds) (old : Nat) (hlt : old < xs.length + ys.length) (vs : Value)
          (hrun : (Builtin.append_ #[t, t] ty #[vs, .slice (some ad) ys.length yc']).run P V.w = .ok (.slice (some ⟨V.w.heap.size, 0, none⟩) (xs.length + ys.length) (grownCap V.w (xs.length + ys.length) old e))
            (V.w.drew.alloc (.cells (olds.toArray ++ us.toArray ++ Builtin.zeroCells z.cells (grownCap V.w (xs.length + ys.length) old e - (xs.length + ys.length))) e))) (hb2 : xs.length + ys.length ≤ 140737488355328),
          ∃ u V', (Builtin.append_ #[t, t] ty #[vs, .slice (some ad) ys.length yc']).run P V.w = .ok u V'.w ∧ V'.mem = V.mem ++ [.arr e sz (xs ++ ys)] ∧ Ok V' ∧ Ext V V' ∧ Rep V' (.own V.mem.length (xs.length + ys.length)) u := by
        intro xs olds hwx hro old hlt vs hrun hb2
        have o1 : Ok (V.at V.w.drew) := ok_sameHeap o rfl rfl rfl rfl
        have e1 : Ext V (V.at V.w.drew) := ext_sameHeap rfl rfl rfl rfl
        have hcap := grownCap_ge V.w (xs.length + ys.length) old e
        have hcm := grownCap_le_maxLen V.w (xs.length + ys.length) old e (by simp only [maxLen]; omega)
        have hxy : ∀ x ∈ xs ++ ys, wide x sz := by
          intro x hx
          rcases List.mem_append.1 hx with hx | hx
          · exact hwx x hx
          · exact hyw x hx
        have hol : olds.length = xs.length * sz := by rw [hro.1, flatC_length hwx]
        have hul : us.length = ys.length * sz := by rw [hus.1, hfl]
        have e2 := ext_new o1 (.arr e sz (xs ++ ys)) (.cells (olds.toArray ++ us.toArray ++ Builtin.zeroCells z.cells (grownCap V.w (xs.length + ys.length) old e - (xs.length + ys.length))) e) (grownCap V.w (xs.length + ys.length) old e)
        refine ⟨_, (V.at V.w.drew).new (.arr e sz (xs ++ ys)) (.cells (olds.toArray ++ us.toArray ++ Builtin.zeroCells z.cells (grownCap V.w (xs.length + ys.length) old e - (xs.length + ys.length))) e) (grownCap V.w (xs.length + ys.length) old e), hrun, rfl,
          ok_new o1 _ _ _ ⟨hsz0, by rw [show (V.at V.w.drew).mem.length = V.mem.length from rfl]; rw [show V.mem.length = (V.at V.w.drew).mem.length from rfl, new_cp]; simp; omega, by rw [new_cp]; exact hcm, hxy, _, new_heap _ _ _ _, ?_, ?_⟩, e1.trans e2, ?_⟩
        · rw [new_cp]
          simp only [Array.size_append, List.size_toArray, size_zeroCells, hzs, hol, hul, ← Nat.add_mul]
          congr 1; omega
        · have hfx : flatC (xs ++ ys) = flatC xs ++ flatC ys := by simp [flatC]
          rw [hfx]
          have : ((olds.toArray ++ us.toArray ++ Builtin.zeroCells z.cells (grownCap V.w (xs.length + ys.length) old e - (xs.length + ys.length))).toList.take ((xs ++ ys).length * sz)) = olds ++ us := by
            rw [Array.toList_append, Array.toList_append]
            simp only [List.toList_toArray]
            rw [show (xs ++ ys).length * sz = (olds ++ us).length from by rw [List.length_append, List.length_append, hol, hul, Nat.add_mul]]
            exact List.take_left
          rw [this]
          exact (hro.append hus).mono (e1.trans e2)
        · exact .own _ _ _ rfl (new_hd _ _ _ _ (by simp [shpB])) (fun _ => ⟨_, new_rs _ _ _ _, by rw [show V.mem.length = (V.at V.w.drew).mem.length from rfl, new_cp]; rfl⟩)
      split at h
      · rename_i hzt
        cases h
        obtain ⟨he, hx⟩ := hzz hzt
        subst hx
        simp only [Value.slice.injEq] at he
        obtain ⟨rfl, _, rfl⟩ := he
        have hrun := run_append_nil (P := P) (w := V.w) t ty e i z hu hi hz ad ys.length yc' us (by rw [hus.1, hfl, hisz]) hcell hyp (by omega) (by rw [hiby]; simp at hb1; omega)
        have := fin [] [] (fun x hx => by simp at hx) (Reps.nil V) 0 (by simpa using hyp) (.slice none 0 0) (by simpa using hrun) (by simpa using hb2)
        simpa using this
      · rename_i hzt
        split at h
        · rename_i hfs
          cases h
          obtain ⟨hf1, rfl, hax⟩ := hfs
          have hz0 : z' = false := by simpa using hzt
          subst hz0
          subst hf1
          obtain ⟨ax, cx, he, _, hfull, _, _, hwx, us', hus', hcell'⟩ := lies_of_seq hs
          simp only [Value.slice.injEq] at he
          obtain ⟨rfl, _, rfl⟩ := he
          have hcx := hfull rfl
          subst hcx
          have hrun := run_append_grow (P := P) (w := V.w) t ty e i z hu hi hz ax xs.length xs.length us' (by rw [hus'.1, flatC_length hwx, hisz]) hcell' ad ys.length yc' us (by rw [hus.1, hfl, hisz]) hcell (by omega) (by omega)
            (by rw [hiby]; exact growslice_fits (by omega) hb1)
          exact fin xs us' hwx hus' xs.length (by omega) _ hrun hb2
        · cases h
  | _ => cases h
end Go.Ab
