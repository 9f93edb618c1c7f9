/- Literals; arithmetic; comparisons. -/
import Derived.Laws.Strings
import Derived.Test.YtcmcgmcogknpfaaDoorEI
set_option linter.unusedVariables false
set_option linter.unusedSimpArgs false
namespace Go.Ab
open Go

variable {P : Program}

theorem foldl_set : ∀ (vs : List Value) (k off : Nat) (cs : Array Value), off + k + vs.length ≤ cs.size →
    ((vs.zipIdx k).foldl (fun (cs : Array Value) (p : Value × Nat) => cs.setIfInBounds (off + p.2) p.1) cs).toList = cs.toList.take (off + k) ++ vs ++ cs.toList.drop (off + k + vs.length)
  | [], k, off, cs, h => by simp
  | v :: vs, k, off, cs, h => by
    simp only [List.length_cons] at h
    simp only [List.zipIdx_cons, List.foldl_cons]
    rw [foldl_set vs (k + 1) off _ (by simp; omega)]
    simp only [Array.toList_setIfInBounds, List.length_cons]
    have hlt : off + k < cs.toList.length := by simp; omega
    rw [show off + (k + 1) = off + k + 1 from by omega, List.take_set, List.take_succ_eq_append_getElem hlt, List.set_append_right _ _ (by simp; omega)]
    simp only [List.length_take]
    rw [show off + k - min (off + k) cs.toList.length = 0 from by omega]
    simp only [List.set_cons_zero, List.append_assoc, List.singleton_append]
    rw [List.drop_set_of_lt (by omega)]
    rw [show off + k + 1 + vs.length = off + k + (vs.length + 1) from by omega]

theorem fill_one {v : Value} {cells : Array Value} {off size : Nat} (hs : v.cells.size = size) (hle : off + size ≤ cells.size) :
    (v.cells.zipIdx.foldl (fun (cs : Array Value) (p : Value × Nat) => cs.setIfInBounds (off + p.2) p.1) cells).toList = cells.toList.take off ++ v.cells.toList ++ cells.toList.drop (off + size) := by
  rw [← Array.foldl_toList, Array.toList_zipIdx]
  have := foldl_set v.cells.toList 0 off cells (by simp; omega)
  rw [this]
  simp [hs]

/-- Parts, one by one. -/
def RepsP (V : Vw) : List (Nat × AV) → List (Nat × Value) → Prop
  | [], [] => True
  | (j, x) :: ps, (k, v) :: vs => j = k ∧ Rep V x v ∧ RepsP V ps vs
  | _, _ => False

theorem fillS_ok {V : Vw} {sz : Nat} (h0 : 0 < sz) : ∀ (ps : List (Nat × AV)) (vs : List (Nat × Value)) (xs r : List AV) (cells : Array Value), RepsP V ps vs → (∀ x ∈ xs, wide x sz) → Reps V (flatC xs) cells.toList → fillS sz xs ps = some r →
    ∃ cells', Instr.fill (fun i => some (i * sz, sz)) cells vs = some cells' ∧ Reps V (flatC r) cells'.toList ∧ (∀ x ∈ r, wide x sz) ∧ r.length = xs.length
  | [], [], xs, r, cells, _, hw, hr, h => by simp [fillS] at h; subst h; exact ⟨cells, rfl, hr, hw, rfl⟩
  | [], _ :: _, _, _, _, hp, _, _, _ => hp.elim
  | _ :: _, [], _, _, _, hp, _, _, _ => hp.elim
  | (j, x) :: ps, (k, v) :: vs, xs, r, cells, hp, hw, hr, h => by
    obtain ⟨rfl, hx, hp⟩ := hp
    simp only [fillS] at h
    split at h
    case isFalse => cases h
    rename_i hc
    obtain ⟨hl, hd, hj⟩ := hc
    obtain ⟨hrx, hlf, h1⟩ := hx.cells (not_tup hd)
    have hvs : v.cells.size = sz := by have := hrx.1; simp at this; omega
    have hcl : cells.size = xs.length * sz := by have := hr.1; rw [flatC_length hw] at this; simpa using this
    have hle : j * sz + sz ≤ cells.size := by
      have : (j + 1) * sz ≤ xs.length * sz := Nat.mul_le_mul_right _ hj
      rw [Nat.succ_mul] at this; omega
    have hwx : wide x sz := ⟨hl, hlf⟩
    have hw' : ∀ z ∈ xs.set j x, wide z sz := by
      intro z hz
      rcases List.mem_or_eq_of_mem_set hz with hz | rfl
      · exact hw z hz
      · exact hwx
    have hf := fill_one (v := v) (cells := cells) (off := j * sz) hvs hle
    have hr' : Reps V (flatC (xs.set j x)) (v.cells.zipIdx.foldl (fun (cs : Array Value) (p : Value × Nat) => cs.setIfInBounds (j * sz + p.2) p.1) cells).toList := by
      rw [hf, flatC_set hw hj hwx]
      have := reps_over (off := j * sz) hr hrx
      simpa [hvs] using this
    obtain ⟨cells', hc1, hc2, hc3, hc4⟩ := fillS_ok h0 ps vs _ r _ hp hw' hr' h
    refine ⟨cells', ?_, hc2, hc3, by simpa using hc4⟩
    simp only [Instr.fill]
    rw [if_neg (by simp [hvs]; omega)]
    exact hc1

theorem buildSlice_ok {V : Vw} (o : Ok V) {t et len sz : Nat} {z : AV} {ps : List (Nat × AV)} {vs : Array (Nat × Value)} {xs : List AV} (he : elemT P t = some et) (hsz : szT P et = some sz) (hz : zeroT P et = some z)
    (hzl : z.cells.length = sz) (hzd : z.data = true) (h0 : 0 < sz) (hbig : len * sz ≤ 16777216) (hp : RepsP V ps vs.toList) (h : fillS sz (List.replicate len z) ps = some xs) :
    ∃ u V', (Instr.buildSlice t len vs).run P V.w = .ok u V'.w ∧ V'.mem = V.mem ∧ Ok V' ∧ Ext V V' ∧ Rep V' (.seq false true sz xs) u := by
  unfold elemT at he
  split at he
  case h_2 => cases he
  rename_i e' hu
  cases he
  obtain ⟨i, zv, hi, hiz, _, hzr⟩ := zero_rep hz
  have hisz : i.size = sz := by unfold szT at hsz; rw [hi] at hsz; simpa using hsz
  obtain ⟨hrz, hlz, h1z⟩ := (hzr V).cells (not_tup hzd)
  have hzs : zv.cells.size = sz := by have := hrz.1; simp at this; omega
  by_cases hlen : len = 0
  · subst hlen
    have hx : xs = [] := by
      cases ps with
      | nil => simp [fillS] at h; exact h
      | cons p ps => obtain ⟨j, x⟩ := p; simp [fillS] at h
    have hps : vs.toList = [] := by
      cases ps with
      | nil => cases hvv : vs.toList with
        | nil => rfl
        | cons a b => rw [hvv] at hp; exact hp.elim
      | cons p ps => obtain ⟨j, x⟩ := p; simp [fillS] at h
    subst hx
    have hvs : vs = #[] := by rw [← Array.toList_inj]; simpa using hps
    subst hvs
    refine ⟨.slice (some ⟨V.w.heap.size, 0, none⟩) 0 0, V.lit (.cells #[] et), ?_, rfl, ok_lit o _, ext_lit o _, ?_⟩
    · simp [Instr.buildSlice, run_und hu, sizeOf, run_tinfo hi, Instr.fill, newRow, Vw.lit]
      rw [show Array.map (fun _ : Nat => (default : Value)) (Array.range 0) = #[] from Array.eq_empty_of_size_eq_zero (by simp)]
    · exact seq_of_lies (xs := []) ⟨[], Reps.nil _, fun m u hu => by simp at hu⟩ (fun x hx => by simp at hx) (fun h => absurd rfl h) (fun h => absurd rfl h) (by simp) (fun _ => by simp)
  · have hwz : ∀ x ∈ List.replicate len z, wide x sz := fun x hx => by
      have := List.eq_of_mem_replicate hx
      subst this
      exact ⟨hzl, hlz⟩
    have hr0 : Reps V (flatC (List.replicate len z)) ((Array.range (len * i.size)).map (zv.cells[· % zv.cells.size]!)).toList := by
      refine ⟨by rw [flatC_length hwz]; simp [hisz], fun k y c hy hc => ?_⟩
      have hk : k < len * sz := by
        have := (List.getElem?_eq_some_iff.1 hy).1
        rwa [flatC_length hwz, List.length_replicate] at this
      have hq : k / sz < len := (Nat.div_lt_iff_lt_mul h0).2 hk
      have hg := flatC_get hwz (j := k / sz) (m := k % sz) (x := z) (by rw [List.getElem?_replicate, if_pos hq]) (Nat.mod_lt _ h0)
      rw [show k / sz * sz + k % sz = k from by rw [Nat.mul_comm]; exact Nat.div_add_mod k sz, hy] at hg
      have hm := Nat.mod_lt k h0
      obtain ⟨c', hc', hrep⟩ := hrz.get hg.symm
      have hcc : c = c' := by
        rw [Array.getElem?_toList, Array.getElem?_map, Array.getElem?_range, hisz, if_pos hk] at hc
        simp only [Option.map_some, Option.some.injEq] at hc
        rw [Array.getElem?_toList] at hc'
        rw [← hc, hzs, getElem!_def, hc']
      rw [hcc]; exact hrep
    obtain ⟨cells', hf, hr, hw, hl⟩ := fillS_ok h0 ps vs.toList _ xs _ hp hwz hr0 h
    have hrun := run_buildSlice (P := P) V.w t et len vs cells' i zv hu hi hiz (by rw [hisz]; omega) (by
        rw [hisz]
        intro e
        rcases Nat.mul_eq_zero.1 e with h | h <;> omega) (by rw [hisz] at hf ⊢; exact hf)
    have hlx : xs.length = len := by simpa using hl
    have e := ext_lit o (.cells cells' et)
    refine ⟨_, V.lit (.cells cells' et), hrun, rfl, ok_lit o _, e, ?_⟩
    rw [← hlx]
    refine seq_of_lies ⟨cells'.toList, hr.mono e, fun m u hu => ?_⟩ hw (fun _ => .inr rfl) (fun _ => h0) (Nat.le_refl _) (fun _ => rfl)
    rw [add_lit, cell_block (lit_new V _)]
    simpa using hu

theorem fillA_ok {V : Vw} {t : Nat} {fs : Array Field} (hu : P.underlying t = some (.struct fs)) : ∀ (ps : List (Nat × AV)) (vs : List (Nat × Value)) (cs r : List AV) (cells : Array Value) (pl : Array (Nat × Nat)), RepsP V ps vs →
    (∀ j o ft, fldT P t j = some (ft, o) → ∀ n, szT P ft = some n → pl[j]? = some (o, n)) → (∀ y ∈ cs, y.leaf = true) → Reps V cs cells.toList → fillA P t cs ps = some r →
    ∃ cells', Instr.fill (pl[·]?) cells vs = some cells' ∧ Reps V r cells'.toList ∧ (∀ y ∈ r, y.leaf = true)
  | [], [], cs, r, cells, pl, _, _, hl, hr, h => by simp [fillA] at h; subst h; exact ⟨cells, rfl, hr, hl⟩
  | [], _ :: _, _, _, _, _, hp, _, _, _, _ => hp.elim
  | _ :: _, [], _, _, _, _, hp, _, _, _, _ => hp.elim
  | (j, x) :: ps, (k, v) :: vs, cs, r, cells, pl, hp, hpl, hl, hr, h => by
    obtain ⟨rfl, hx, hp⟩ := hp
    simp only [fillA] at h
    cases hf : fldT P t j with
    | none => simp [hf] at h
    | some p =>
      obtain ⟨ft, o⟩ := p
      simp only [hf] at h
      split at h
      case isFalse => cases h
      rename_i hc
      obtain ⟨hs, hd, hle⟩ := hc
      obtain ⟨hrx, hlf, h1⟩ := hx.cells (not_tup hd)
      have hvs : v.cells.size = x.cells.length := by have := hrx.1; simpa using this
      have hcl : cells.size = cs.length := by have := hr.1; simpa using this
      have hp1 := hpl j o ft hf _ hs
      have hf1 := fill_one (v := v) (cells := cells) (off := o) hvs (by omega)
      have hr' : Reps V (over cs o x.cells) (v.cells.zipIdx.foldl (fun (cs : Array Value) (p : Value × Nat) => cs.setIfInBounds (o + p.2) p.1) cells).toList := by
        rw [hf1]
        have := reps_over (off := o) hr hrx
        rw [hrx.1] at this
        exact this
      obtain ⟨cells', hc1, hc2, hc3⟩ := fillA_ok hu ps vs _ r _ pl hp hpl (leaf_over hl hlf) hr' h
      refine ⟨cells', ?_, hc2, hc3⟩
      simp only [Instr.fill, hp1]
      rw [if_neg (by simp [hvs]; omega)]
      exact hc1

theorem mapM_get : ∀ (fs : List Field) (pl : List (Nat × Nat)), fs.mapM (fun f => (P.info? f.type).map fun i => (f.offset, i.size)) = some pl → ∀ (j : Nat) (f : Field), fs[j]? = some f → ∀ (n : Nat), szT P f.type = some n → pl[j]? = some (f.offset, n)
  | [], pl, h, j, f, hf, n, hn => by simp at hf
  | g :: fs, pl, h, j, f, hf, n, hn => by
    simp only [List.mapM_cons, Option.bind_eq_bind, Option.pure_def] at h
    cases hi : P.info? g.type with
    | none => simp [hi] at h
    | some i =>
      cases hr : fs.mapM (fun f => (P.info? f.type).map fun i => (f.offset, i.size)) with
      | none => simp [hi, hr] at h
      | some rest =>
        simp [hi, hr] at h
        subst h
        cases j with
        | zero =>
          simp at hf
          subst hf
          unfold szT at hn
          rw [hi] at hn
          simp at hn
          simp [hn]
        | succ j =>
          simp at hf
          simpa using mapM_get fs rest hr j f hf n hn

theorem build_ok {V : Vw} {t : Nat} {z r : List AV} {ps : List (Nat × AV)} {vs : Array (Nat × Value)} (hz : zeroT P t = some (.agg z)) (hpl : plT P t = true) (hp : RepsP V ps vs.toList) (h : fillA P t z ps = some r) :
    ∃ u, (Instr.build t vs).run P V.w = .ok u V.w ∧ Rep V (.agg r) u := by
  obtain ⟨i, zv, hi, hiz, _, hzr⟩ := zero_rep hz
  unfold plT at hpl
  split at hpl
  case h_2 => cases hpl
  rename_i fs hu
  obtain ⟨pl, hpl⟩ := Option.isSome_iff_exists.1 hpl
  obtain ⟨cs, rfl, hr, hl⟩ := agg_inv (hzr V)
  obtain ⟨cells', h1, h2, h3⟩ := fillA_ok hu ps vs.toList z r cs pl.toArray hp (fun j o ft hf n hn => by
    unfold fldT at hf
    rw [hu] at hf
    obtain ⟨f, hfj, hfe⟩ := Option.map_eq_some_iff.1 hf
    simp only [Prod.mk.injEq] at hfe
    obtain ⟨rfl, rfl⟩ := hfe
    simpa using mapM_get _ _ hpl j f (by simpa using hfj) n hn) hl hr h
  refine ⟨.agg cells', run_build V.w t vs cells' ?_, .agg _ _ (by simpa using h2.1) h3 (fun j x c hx hc => h2.2 j x c hx (by simpa using hc))⟩
  unfold Program.built
  simp only [hi, hu, hiz, hpl]
  exact h1

/-! ### Arithmetic and comparisons -/
theorem int_ok {V : Vw} {op : BinOp} {k k' : IntKind} {a b : Int} {r : AV} (t : Nat) (h : (match op with
    | .shl => intA .shl k a b
    | .shr => intA .shr k a b
    | op => if k = k' then intA op k a b else none) = some r) : ∃ u, (binOp op t (.int k a) (.int k' b)).run P V.w = .ok u V.w ∧ Rep V r u := by
  have e : ∀ x y : Int, (x == y) = decide (x = y) := fun x y => by rw [Bool.eq_iff_iff]; simp
  cases op
  case shl =>
    simp only [intA] at h
    split at h
    · cases h
    · rename_i hb
      cases h
      exact ⟨_, by simp [binOp, Op.shift, hb], .int _ _⟩
  case shr =>
    simp only [intA] at h
    split at h
    · cases h
    · rename_i hb
      cases h
      exact ⟨_, by simp [binOp, Op.shift, hb], .int _ _⟩
  all_goals
    simp only at h
    split at h
    case isFalse => cases h
    rename_i hk
    subst hk
    simp only [intA] at h
  case add => cases h; exact ⟨_, by simp [binOp, Op.intArith], .int _ _⟩
  case sub => cases h; exact ⟨_, by simp [binOp, Op.intArith], .int _ _⟩
  case mul => cases h; exact ⟨_, by simp [binOp, Op.intArith], .int _ _⟩
  case quo =>
    split at h
    · cases h
    · rename_i hb; cases h; exact ⟨_, by simp [binOp, Op.intDiv, hb], .int _ _⟩
  case rem =>
    split at h
    · cases h
    · rename_i hb; cases h; exact ⟨_, by simp [binOp, Op.intDiv, hb], .int _ _⟩
  case and => cases h; exact ⟨.int k _, by simp [binOp, Op.intBits], .int _ _⟩
  case or => cases h; exact ⟨.int k _, by simp [binOp, Op.intBits], .int _ _⟩
  case xor => cases h; exact ⟨.int k _, by simp [binOp, Op.intBits], .int _ _⟩
  case andNot => cases h; exact ⟨.int k _, by simp [binOp, Op.intBits], .int _ _⟩
  case eql => cases h; exact ⟨.bool (decide (a = b)), by simp [binOp, Op.intCmp, e], .bool _⟩
  case neq => cases h; exact ⟨.bool (!decide (a = b)), by simp [binOp, Op.intCmp, bne, e], .bool _⟩
  case lss => cases h; exact ⟨_, by simp [binOp, Op.intCmp], .bool _⟩
  case leq => cases h; exact ⟨_, by simp [binOp, Op.intCmp], .bool _⟩
  case gtr => cases h; exact ⟨_, by simp [binOp, Op.intCmp], .bool _⟩
  case geq => cases h; exact ⟨_, by simp [binOp, Op.intCmp], .bool _⟩

theorem str_ok {V : Vw} {op : BinOp} {a b : ByteArray} {r : AV} (t : Nat) (h : strA op a b = some r) : ∃ u, (binOp op t (.string a) (.string b)).run P V.w = .ok u V.w ∧ Rep V r u := by
  cases op <;> simp only [strA] at h <;> (try simp only [← ByteArray.toList_eq] at h)
  case add =>
    split at h
    · cases h
    · rename_i hb; cases h; exact ⟨_, by simp only [binOp, Op.stringOp]; rw [if_neg hb]; rfl, .str _⟩
  all_goals first | (cases h; done) | (cases h; exact ⟨_, rfl, .bool _⟩)

theorem eqIn_bool {w : World} {d t : Nat} (hu : P.underlying t = some .bool) (a b : Bool) : (Op.equalIn (d + 1) t (.bool a) (.bool b)).run P w = .ok (a == b) w := by
  simp only [Op.equalIn, Sem.run_bind, run_und hu, Result.andThen_ok, Sem.run_pure]
theorem eqIn_nil {w : World} {d t e : Nat} (hu : P.underlying t = some (.slice e)) (n c m k : Nat) (b : Option Addr) : (Op.equalIn (d + 1) t (.slice none n c) (.slice b m k)).run P w = .ok b.isNone w := by
  simp only [Op.equalIn, Sem.run_bind, run_und hu, Result.andThen_ok, Sem.run_pure]
theorem eqIn_slice {w : World} {d t e : Nat} (hu : P.underlying t = some (.slice e)) (n c m k : Nat) (b : Addr) : (Op.equalIn (d + 1) t (.slice (some b) n c) (.slice none m k)).run P w = .ok false w := by
  simp only [Op.equalIn, Sem.run_bind, run_und hu, Result.andThen_ok, Sem.run_pure]
theorem eqIn_fn1 {w : World} {d t : Nat} {a b : Array TypeId} {c : Bool} (hu : P.underlying t = some (.func a b c)) : (Op.equalIn (d + 1) t .nilFunc .nilFunc).run P w = .ok true w := by
  simp only [Op.equalIn, Sem.run_bind, run_und hu, Result.andThen_ok, Sem.run_pure]
theorem eqIn_fn2 {w : World} {d t : Nat} {a b : Array TypeId} {c : Bool} (hu : P.underlying t = some (.func a b c)) (f : Fn) (x y : Array Value) : (Op.equalIn (d + 1) t (.func f x y) .nilFunc).run P w = .ok false w := by
  simp only [Op.equalIn, Sem.run_bind, run_und hu, Result.andThen_ok, Sem.run_pure]
theorem eqIn_fn3 {w : World} {d t : Nat} {a b : Array TypeId} {c : Bool} (hu : P.underlying t = some (.func a b c)) (f : Fn) (x y : Array Value) : (Op.equalIn (d + 1) t .nilFunc (.func f x y)).run P w = .ok false w := by
  simp only [Op.equalIn, Sem.run_bind, run_und hu, Result.andThen_ok, Sem.run_pure]
theorem eq_depth (t : Nat) (x y : Value) : Op.equal t x y = Op.equalIn (9999 + 1) t x y := rfl

theorem eq_ok {V : Vw} {t : Nat} {x y : AV} {vx vy : Value} {b : Bool} (hx : Rep V x vx) (hy : Rep V y vy) (h : eqA P V.mem t x y = some b) : (Op.equal t vx vy).run P V.w = .ok b V.w := by
  have hsl : ∀ {t : Nat}, sliceT P t = true → ∃ e, P.underlying t = some (.slice e) := by
    intro t ht
    unfold sliceT elemT at ht
    split at ht
    · rename_i e hu; exact ⟨e, hu⟩
    · cases ht
  have hfn : ∀ {t : Nat}, funcT P t = true → ∃ a b c, P.underlying t = some (.func a b c) := by
    intro t ht
    unfold funcT at ht
    split at ht
    · rename_i a b c hu; exact ⟨a, b, c, hu⟩
    · cases ht
  rw [eq_depth]
  unfold eqA at h
  split at h
  · split at h
    · rename_i ht
      unfold boolT at ht
      split at ht
      case h_2 => cases ht
      rename_i hu
      cases h
      cases hx; cases hy
      exact eqIn_bool hu _ _
    · cases h
  · split at h
    · rename_i ht
      obtain ⟨e, hu⟩ := hsl ht
      cases h
      cases hy
      cases hx
      · exact eqIn_nil hu _ _ _ _ _
      · exact eqIn_slice hu _ _ _ _ _
    · cases h
  · split at h
    · rename_i ht
      obtain ⟨e, hu⟩ := hsl ht
      cases h
      cases hx
      cases hy
      · exact eqIn_nil hu _ _ _ _ _
      · exact eqIn_nil hu _ _ _ _ _
    · cases h
  · split at h
    · rename_i ht
      obtain ⟨e, hu⟩ := hsl ht.1
      cases h
      obtain ⟨b, hb, rfl⟩ := own_valid hx ht.2
      cases hy
      exact eqIn_slice hu _ _ _ _ _
    · cases h
  · split at h
    · rename_i ht
      obtain ⟨e, hu⟩ := hsl ht.1
      cases h
      obtain ⟨b, hb, rfl⟩ := own_valid hy ht.2
      cases hx
      exact eqIn_nil hu _ _ _ _ _
    · cases h
  · split at h
    · rename_i ht
      obtain ⟨a, b, c, hu⟩ := hfn ht
      cases h
      cases hx; cases hy
      exact eqIn_fn1 hu
    · cases h
  · split at h
    · rename_i ht
      obtain ⟨a, b, c, hu⟩ := hfn ht
      cases h
      cases hx; cases hy
      exact eqIn_fn2 hu _ _ _
    · cases h
  · split at h
    · rename_i ht
      obtain ⟨a, b, c, hu⟩ := hfn ht
      cases h
      cases hx; cases hy
      exact eqIn_fn3 hu _ _ _
    · cases h
  · cases h

theorem bin_ok {V : Vw} {op : BinOp} {t : Nat} {x y r : AV} {vx vy : Value} (ox oy : Operand) (hx : Rep V x vx) (hy : Rep V y vy) (h : binA P V.mem op t x y = some r) :
    ∃ u, (do eqGuard op t ox oy vx vy; binOp op t vx vy : Sem Value).run P V.w = .ok u V.w ∧ Rep V r u := by
  unfold binA at h
  split at h
  · rename_i k a k' b
    cases hx; cases hy
    obtain ⟨u, h1, h2⟩ := int_ok (P := P) t h
    refine ⟨u, ?_, h2⟩
    have hg : (eqGuard op t ox oy (.int k a) (.int k' b)).run P V.w = .ok () V.w := by unfold eqGuard; split <;> rfl
    simp only [Sem.run_bind, hg, Result.andThen_ok, h1]
  · rename_i a b
    cases hx; cases hy
    obtain ⟨u, h1, h2⟩ := str_ok (P := P) t h
    refine ⟨u, ?_, h2⟩
    have hg : (eqGuard op t ox oy (.string a) (.string b)).run P V.w = .ok () V.w := by unfold eqGuard; split <;> rfl
    simp only [Sem.run_bind, hg, Result.andThen_ok, h1]
  · have hnon : ∀ b, eqA P V.mem t x y = some b → (eqGuard op t ox oy vx vy).run P V.w = .ok () V.w ∧ binOp .eql t vx vy = (do pure (.bool (← Op.equal t vx vy))) ∧ binOp .neq t vx vy = (do pure (.bool (!(← Op.equal t vx vy)))) := by
      intro b hb
      unfold eqA at hb
      split at hb
      · cases hx; cases hy; exact ⟨by unfold eqGuard; split <;> rfl, rfl, rfl⟩
      · cases hy; cases hx <;> exact ⟨by unfold eqGuard; split <;> rfl, rfl, rfl⟩
      · cases hx; cases hy <;> exact ⟨by unfold eqGuard; split <;> rfl, rfl, rfl⟩
      · split at hb
        · rename_i ht; obtain ⟨b, _, rfl⟩ := own_valid hx ht.2; cases hy; exact ⟨by unfold eqGuard; split <;> rfl, rfl, rfl⟩
        · cases hb
      · split at hb
        · rename_i ht; obtain ⟨b, _, rfl⟩ := own_valid hy ht.2; cases hx; exact ⟨by unfold eqGuard; split <;> rfl, rfl, rfl⟩
        · cases hb
      · cases hx; cases hy; exact ⟨by unfold eqGuard; split <;> rfl, rfl, rfl⟩
      · cases hx; cases hy; exact ⟨by unfold eqGuard; split <;> rfl, rfl, rfl⟩
      · cases hx; cases hy; exact ⟨by unfold eqGuard; split <;> rfl, rfl, rfl⟩
      · cases hb
    cases op <;> simp only at h
    case eql =>
      obtain ⟨b, hb, rfl⟩ := Option.map_eq_some_iff.1 h
      obtain ⟨h1, h2, _⟩ := hnon b hb
      exact ⟨.bool b, by simp only [Sem.run_bind, h1, Result.andThen_ok, h2, eq_ok hx hy hb, Sem.run_pure], .bool _⟩
    case neq =>
      obtain ⟨b, hb, rfl⟩ := Option.map_eq_some_iff.1 h
      obtain ⟨h1, _, h2⟩ := hnon b hb
      exact ⟨.bool (!b), by simp only [Sem.run_bind, h1, Result.andThen_ok, h2, eq_ok hx hy hb, Sem.run_pure], .bool _⟩
    all_goals cases h

theorem un_ok {V : Vw} {op : UnOp} {x r : AV} {v : Value} (hx : Rep V x v) (h : unA op x = some r) : ∃ u, (Op.unary op v).run P V.w = .ok u V.w ∧ Rep V r u := by
  unfold unA at h
  cases x with
  | int k n =>
    cases hx
    cases op <;> simp only at h
    case neg => cases h; exact ⟨_, by simp [Op.unary, Op.intArith], .int _ _⟩
    case xor => cases h; exact ⟨.int k _, rfl, .int _ _⟩
    all_goals cases h
  | bool b =>
    cases hx
    cases op <;> simp only at h
    case not => cases h; exact ⟨_, rfl, .bool _⟩
    all_goals cases h
  | _ => cases h

theorem conv_ok {V : Vw} {src dst : Nat} {x r : AV} {v : Value} (hx : Rep V x v) (h : convA P src dst x = some r) : ∃ u, (convert src dst v).run P V.w = .ok u V.w ∧ Rep V r u := by
  unfold convA at h
  split at h
  · rename_i d k k' n hs hd
    cases h
    cases hx
    refine ⟨.int k (k.wrap n), ?_, .int _ _⟩
    simp only [convert, Sem.run_bind, run_und hs, run_und hd, Result.andThen_ok]
    rfl
  · rename_i d s hs hd
    cases h
    cases hx
    refine ⟨.string s, ?_, .str _⟩
    simp only [convert, Sem.run_bind, run_und hs, run_und hd, Result.andThen_ok]
    rfl
  · cases h

theorem max_ok {V : Vw} (ats : Array Nat) (ty : Nat) {op : Bool} {xs : List AV} {r : AV} {vs : Array Value} (hx : Reps V xs vs.toList) (h : maxA op xs = some r) :
    ∃ u, (if op then Builtin.max_ ats ty vs else Builtin.min_ ats ty vs).run P V.w = .ok u V.w ∧ Rep V r u := by
  have key : ∀ (l : List AV) (ws : List Value) (x : AV) (v : Value) (r : AV), Rep V x v → Reps V l ws →
      l.foldlM (fun a b => match a, b with
        | .int k x, .int _ y => some (.int k (if op then (if y > x then y else x) else (if y < x then y else x)))
        | _, _ => none) x = some r → ∃ u, (ws.foldlM (if op then Builtin.max2 else Builtin.min2) v).run P V.w = .ok u V.w ∧ Rep V r u := by
    intro l
    induction l with
    | nil =>
      intro ws x v r hx hr h
      have : ws = [] := List.eq_nil_of_length_eq_zero hr.1
      subst this
      simp at h
      subst h
      exact ⟨v, rfl, hx⟩
    | cons y l ih =>
      intro ws x v r hx hr h
      obtain ⟨w, ws', rfl, hy, hr'⟩ := hr.inv
      simp only [List.foldlM_cons] at h
      obtain ⟨z, hz, h⟩ := Option.bind_eq_some_iff.1 h
      split at hz
      · rename_i k a k' b
        cases hz
        cases hx; cases hy
        obtain ⟨u, h1, h2⟩ := ih ws' _ _ r (.int k _) hr' h
        refine ⟨u, ?_, h2⟩
        simp only [List.foldlM_cons, Sem.run_bind]
        cases op with
        | true => simpa [Builtin.max2] using h1
        | false => simpa [Builtin.min2] using h1
      · cases hz
  cases xs with
  | nil => simp [maxA] at h
  | cons x l =>
    obtain ⟨v, ws, hvs, h1, h2⟩ := hx.inv
    simp only [maxA] at h
    obtain ⟨u, h3, h4⟩ := key l ws x v r h1 h2 h
    refine ⟨u, ?_, h4⟩
    cases op with
    | true => simpa [Builtin.max_, hvs] using h3
    | false => simpa [Builtin.min_, hvs] using h3
end Go.Ab
