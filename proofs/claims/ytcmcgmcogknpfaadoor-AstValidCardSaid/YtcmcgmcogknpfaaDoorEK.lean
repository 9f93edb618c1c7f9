/- Freezing, and what a call leaves behind. -/
import Derived.Test.YtcmcgmcogknpfaaDoorEJ
set_option linter.unusedVariables false
set_option linter.unusedSimpArgs false
namespace Go.Ab
open Go

theorem pureL_mem : ∀ {xs : List AV}, pureL xs = true → ∀ x ∈ xs, x.pure = true
  | [], _, x, hx => by simp at hx
  | y :: ys, h, x, hx => by
    simp only [pureL, Bool.and_eq_true] at h
    rcases List.mem_cons.1 hx with rfl | hx
    · exact h.1
    · exact pureL_mem h.2 x hx
theorem flatL_mem : ∀ {xs : List AV}, flatL xs = true → ∀ x ∈ xs, x.flat = true
  | [], _, x, hx => by simp at hx
  | y :: ys, h, x, hx => by
    simp only [flatL, Bool.and_eq_true] at h
    rcases List.mem_cons.1 hx with rfl | hx
    · exact h.1
    · exact flatL_mem h.2 x hx
theorem underL_mem {N : Nat} : ∀ {xs : List AV}, underL N xs = true → ∀ x ∈ xs, x.under N = true
  | [], _, x, hx => by simp at hx
  | y :: ys, h, x, hx => by
    simp only [underL, Bool.and_eq_true] at h
    rcases List.mem_cons.1 hx with rfl | hx
    · exact h.1
    · exact underL_mem h.2 x hx
theorem mem_of_get {xs : List AV} {j : Nat} {x : AV} (h : xs[j]? = some x) : x ∈ xs := List.mem_of_getElem? h
theorem pure_cells {x y : AV} {m : Nat} (h : x.pure = true) (hy : x.cells[m]? = some y) : y.pure = true := by
  cases x with
  | agg xs => exact pureL_mem h y (mem_of_get hy)
  | _ => (simp only [AV.cells] at hy; have := List.mem_of_getElem? hy; simp at this; subst this; exact h)
theorem under_cells {N : Nat} {x y : AV} {m : Nat} (h : x.under N = true) (hy : x.cells[m]? = some y) : y.under N = true := by
  cases x with
  | agg xs => exact underL_mem h y (mem_of_get hy)
  | _ => (simp only [AV.cells] at hy; have := List.mem_of_getElem? hy; simp at this; subst this; exact h)

/-- What is pure does not hang on the abstract memory. -/
theorem pure_rep {V U : Vw} (hw : ∀ b, V.S b → U.w.heap[b]? = V.w.heap[b]?) (hS : ∀ b, V.S b → U.S b) {x : AV} {v : Value} (h : Rep V x v) (hp : x.pure = true) : Rep U x v := by
  induction h with
  | int k n => exact .int k n
  | bool b => exact .bool b
  | str s => exact .str s
  | agg xs cs h hl _ ih => exact .agg xs cs h hl (fun j x c hx hc => ih j x c hx hc (pureL_mem hp x (mem_of_get hx)))
  | tup xs cs h _ ih => exact .tup xs cs h (fun j x c hx hc => ih j x c hx hc (pureL_mem hp x (mem_of_get hx)))
  | seqNil full sz => exact .seqNil full sz
  | seq full sz xs ad c us hc hf hS' h0 hsz hu _ ih =>
    exact .seq full sz xs ad c us hc hf (fun hx => hS _ (hS' hx)) h0 hsz (fun j x m y hj hm => by
      have hx : xs ≠ [] := fun hx => by subst hx; simp at hj
      rw [cell_same (w := V.w) (by rw [add_block]; exact hw _ (hS' hx))]
      exact hu j x m y hj hm) (fun j x m y hj hm => ih j x m y hj hm (pure_cells (pureL_mem hp x (mem_of_get hj)) hm))
  | own id ver v h1 h hv => cases hp
  | ptr id ver off v h1 h hv => cases hp
  | aptr id ver sz i f v h1 h hv => cases hp
  | rptr xs ad us h0 hl hS' hu _ ih =>
    exact .rptr xs ad us h0 hl (hS _ hS') (fun m y hm => by
      rw [cell_same (w := V.w) (by rw [add_block]; exact hw _ hS')]
      exact hu m y hm) (fun m y hm => ih m y hm (pureL_mem hp y (mem_of_get hm)))
  | nilptr => exact .nilptr
  | fn f xs ys fs cs h h' _ _ ih ih' =>
    simp only [AV.pure, Bool.and_eq_true] at hp
    exact .fn f xs ys fs cs h h' (fun j x c hx hc => ih j x c hx hc (pureL_mem hp.1 x (mem_of_get hx))) (fun j x c hx hc => ih' j x c hx hc (pureL_mem hp.2 x (mem_of_get hx)))
  | nilfn => exact .nilfn
  | yld id v h1 h hv => cases hp
  | mp id v h1 h hv => cases hp
  | junk v => cases hp
  | nilmp => exact .nilmp
  | smap ks vs b es cl hS' hb h1 h2 _ _ ih ih' =>
    simp only [AV.pure, Bool.and_eq_true] at hp
    exact .smap ks vs b es cl (hS _ hS') ((hw _ hS').trans hb) h1 h2 (fun j x c hx hc => ih j x c hx hc (pureL_mem hp.1 x (mem_of_get hx))) (fun j x c hx hc => ih' j x c hx hc (pureL_mem hp.2 x (mem_of_get hx)))

/-- What is flat hangs on nothing. -/
theorem flat_rep {V U : Vw} {x : AV} {v : Value} (h : Rep V x v) (hp : x.flat = true) : Rep U x v := by
  induction h with
  | int k n => exact .int k n
  | bool b => exact .bool b
  | str s => exact .str s
  | agg xs cs h hl _ ih => exact .agg xs cs h hl (fun j x c hx hc => ih j x c hx hc (flatL_mem hp x (mem_of_get hx)))
  | tup xs cs h _ ih => exact .tup xs cs h (fun j x c hx hc => ih j x c hx hc (flatL_mem hp x (mem_of_get hx)))
  | seqNil full sz => exact .seqNil full sz
  | seq full sz xs ad c us hc hf hS' h0 hsz hu _ ih =>
    simp only [AV.flat, Bool.false_or, List.isEmpty_iff] at hp
    subst hp
    exact .seq full sz [] ad c us hc hf (fun hx => absurd rfl hx) (fun hx => absurd rfl hx) hsz (fun j x m y hj hm => by simp at hj) (fun j x m y hj hm => by simp at hj)
  | nilptr => exact .nilptr
  | nilfn => exact .nilfn
  | nilmp => exact .nilmp
  | _ => cases hp

theorem mapM_some {f : AV → Option AV} : ∀ {xs ys : List AV}, xs.mapM f = some ys → ys.length = xs.length ∧ ∀ (j : Nat) (x : AV), xs[j]? = some x → ∃ y, ys[j]? = some y ∧ f x = some y
  | [], ys, h => by simp at h; subst h; exact ⟨rfl, fun j x hx => by simp at hx⟩
  | x :: xs, ys, h => by
    simp only [List.mapM_cons, Option.bind_eq_bind, Option.pure_def] at h
    obtain ⟨y, hy, h⟩ := Option.bind_eq_some_iff.1 h
    obtain ⟨zs, hz, h⟩ := Option.bind_eq_some_iff.1 h
    cases h
    obtain ⟨h1, h2⟩ := mapM_some hz
    refine ⟨by simp [h1], fun j w hw => ?_⟩
    cases j with
    | zero => simp at hw; subst hw; exact ⟨y, rfl, hy⟩
    | succ j => simp at hw; simpa using h2 j w hw

theorem pureL_of {ys : List AV} (h : ∀ y ∈ ys, y.pure = true) : pureL ys = true := by
  induction ys with
  | nil => rfl
  | cons y ys ih => simp only [pureL, Bool.and_eq_true]; exact ⟨h y (by simp), ih (fun z hz => h z (by simp [hz]))⟩

/-- Freezing keeps the form. -/
theorem fz_form {m : Mem} : ∀ {n : Nat} {x y : AV}, fz m n x = some y → y.pure = true ∧ y.leaf = x.leaf ∧ (x.data = true → y.cells.length = x.cells.length ∧ ∀ (j : Nat) (c : AV), x.cells[j]? = some c → ∃ k d, y.cells[j]? = some d ∧ (c.pure = true ∧ d = c ∨ k ≤ n ∧ fz m k c = some d ∧ ∀ id ∈ idsD m k c, id ∈ idsD m n x) ∧ d.leaf = c.leaf)
  | 0, x, y, h => by
    simp only [fz] at h
    split at h
    · rename_i hp; cases h; exact ⟨hp, rfl, fun _ => ⟨rfl, fun j c hc => ⟨0, c, hc, .inl ⟨pure_cells hp hc, rfl⟩, rfl⟩⟩⟩
    · cases h
  | n + 1, x, y, h => by
    have h00 := h
    simp only [fz] at h
    split at h
    · rename_i hp; cases h; exact ⟨hp, rfl, fun _ => ⟨rfl, fun j c hc => ⟨0, c, hc, .inl ⟨pure_cells hp hc, rfl⟩, rfl⟩⟩⟩
    · rename_i hp
      have one : ∀ (hl : x.leaf = true) (hl' : y.leaf = true) (hpy : y.pure = true), y.pure = true ∧ y.leaf = x.leaf ∧ (x.data = true → y.cells.length = x.cells.length ∧ ∀ (j : Nat) (c : AV), x.cells[j]? = some c → ∃ k d, y.cells[j]? = some d ∧ (c.pure = true ∧ d = c ∨ k ≤ (n + 1) ∧ fz m k c = some d ∧ ∀ id ∈ idsD m k c, id ∈ idsD m (n + 1) x) ∧ d.leaf = c.leaf) := by
        intro hl hl' hpy
        refine ⟨hpy, hl'.trans hl.symm, fun _ => ?_⟩
        rw [cells_leaf hl, cells_leaf hl']
        refine ⟨rfl, fun j c hc => ?_⟩
        cases j with
        | zero => simp at hc; subst hc; exact ⟨n + 1, y, rfl, .inr ⟨Nat.le_refl _, h00, fun _ h => h⟩, hl'.trans hl.symm⟩
        | succ j => simp at hc
      have all : ∀ {xs ys : List AV}, xs.mapM (fz m n) = some ys → ∀ y ∈ ys, y.pure = true := by
        intro xs ys hm y hy
        obtain ⟨j, hj, rfl⟩ := List.getElem_of_mem hy
        obtain ⟨h1, h2⟩ := mapM_some hm
        obtain ⟨z, hz, hfz⟩ := h2 j xs[j] (List.getElem?_eq_getElem (by omega))
        rw [List.getElem?_eq_getElem hj] at hz
        cases hz
        exact (fz_form hfz).1
      cases x with
      | own id ver =>
        simp only at h
        split at h
        · split at h
          · obtain ⟨ys, hy, rfl⟩ := Option.map_eq_some_iff.1 h
            exact one rfl rfl (pureL_of (all hy))
          · cases h
        · cases h
      | ptr id ver off =>
        simp only at h
        split at h
        · split at h
          · obtain ⟨ys, hy, rfl⟩ := Option.map_eq_some_iff.1 h
            exact one rfl rfl (pureL_of (all hy))
          · cases h
        · cases h
      | agg xs =>
        simp only at h
        obtain ⟨ys, hy, rfl⟩ := Option.map_eq_some_iff.1 h
        obtain ⟨h1, h2⟩ := mapM_some hy
        refine ⟨pureL_of (all hy), rfl, fun _ => ⟨h1, fun j c hc => ?_⟩⟩
        obtain ⟨d, hd, hf⟩ := h2 j c hc
        exact ⟨n, d, hd, .inr ⟨by omega, hf, fun id hid => by simp only [idsD, if_neg hp]; exact List.mem_flatMap.2 ⟨c, mem_of_get hc, hid⟩⟩, (fz_form hf).2.1⟩
      | tup xs =>
        simp only at h
        obtain ⟨ys, hy, rfl⟩ := Option.map_eq_some_iff.1 h
        exact ⟨pureL_of (all hy), rfl, fun hd => by simp [AV.data] at hd⟩
      | seq z full sz xs =>
        simp only at h
        obtain ⟨ys, hy, rfl⟩ := Option.map_eq_some_iff.1 h
        exact one rfl rfl (pureL_of (all hy))
      | rptr xs =>
        simp only at h
        obtain ⟨ys, hy, rfl⟩ := Option.map_eq_some_iff.1 h
        exact one rfl rfl (pureL_of (all hy))
      | fn f a b =>
        simp only at h
        split at h
        · rename_i a' b' ha hb
          cases h
          exact one rfl rfl (by simp only [AV.pure, Bool.and_eq_true]; exact ⟨pureL_of (all ha), pureL_of (all hb)⟩)
        · cases h
      | mp id =>
        simp only at h
        split at h
        · split at h
          · rename_i a' b' ha hb
            cases h
            exact one rfl rfl (by simp only [AV.pure, Bool.and_eq_true]; exact ⟨pureL_of (all ha), pureL_of (all hb)⟩)
          · cases h
        · cases h
      | smap ks vs =>
        simp only at h
        split at h
        · rename_i a' b' ha hb
          cases h
          exact one rfl rfl (by simp only [AV.pure, Bool.and_eq_true]; exact ⟨pureL_of (all ha), pureL_of (all hb)⟩)
        · cases h
      | _ => first | cases h | (simp [AV.pure] at hp)

theorem fz_live {m : Mem} : ∀ {n : Nat} {x y : AV}, fz m n x = some y → ∀ id ∈ idsD m n x, ∃ v, verOf m id = some v
  | 0, x, y, h, id, hid => by simp [idsD] at hid
  | n + 1, x, y, h, id, hid => by
    have all : ∀ {xs ys : List AV}, xs.mapM (fz m n) = some ys → id ∈ xs.flatMap (idsD m n) → ∃ v, verOf m id = some v := by
      intro xs ys hm hin
      obtain ⟨c, hc, hid⟩ := List.mem_flatMap.1 hin
      obtain ⟨j, hj, rfl⟩ := List.getElem_of_mem hc
      obtain ⟨d, hd, hf⟩ := (mapM_some hm).2 j _ (List.getElem?_eq_getElem hj)
      exact fz_live hf id hid
    simp only [fz] at h
    simp only [idsD] at hid
    split at h
    · rename_i hp; rw [if_pos hp] at hid; simp at hid
    · rename_i hp
      rw [if_neg hp] at hid
      cases x with
      | own id' ver =>
        simp only at h hid
        split at h
        · rename_i e sz xs hm
          split at h
          · obtain ⟨ys, hy, rfl⟩ := Option.map_eq_some_iff.1 h
            rw [hm] at hid
            rcases List.mem_cons.1 hid with rfl | hid
            · exact ⟨_, verOf_arr hm⟩
            · exact all hy hid
          · cases h
        · cases h
      | ptr id' ver off =>
        simp only at h hid
        split at h
        · rename_i cs hm
          split at h
          · obtain ⟨ys, hy, rfl⟩ := Option.map_eq_some_iff.1 h
            rw [hm] at hid
            rcases List.mem_cons.1 hid with rfl | hid
            · exact ⟨_, verOf_box hm⟩
            · exact all hy hid
          · cases h
        · cases h
      | agg xs => simp only at h hid; obtain ⟨ys, hy, rfl⟩ := Option.map_eq_some_iff.1 h; exact all hy hid
      | tup xs => simp only at h hid; obtain ⟨ys, hy, rfl⟩ := Option.map_eq_some_iff.1 h; exact all hy hid
      | seq z full sz xs => simp only at h hid; obtain ⟨ys, hy, rfl⟩ := Option.map_eq_some_iff.1 h; exact all hy hid
      | rptr xs => simp only at h hid; obtain ⟨ys, hy, rfl⟩ := Option.map_eq_some_iff.1 h; exact all hy hid
      | fn f a b =>
        simp only at h hid
        split at h
        · rename_i a' b' ha hb
          rcases List.mem_append.1 hid with hid | hid
          · exact all ha hid
          · exact all hb hid
        · cases h
      | smap a b =>
        simp only at h hid
        split at h
        · rename_i a' b' ha hb
          rcases List.mem_append.1 hid with hid | hid
          · exact all ha hid
          · exact all hb hid
        · cases h
      | mp id' =>
        simp only at h hid
        split at h
        · rename_i ks vs hm
          split at h
          · rename_i a' b' ha hb
            rw [hm] at hid
            rcases List.mem_cons.1 hid with rfl | hid
            · exact ⟨0, by simp [verOf, shp, hm, shpB]⟩
            · rcases List.mem_append.1 hid with hid | hid
              · exact all ha hid
              · exact all hb hid
          · cases h
        · cases h
      | _ => first | cases h | (simp at hid)

theorem reps_entries {V : Vw} {xs : List AV} {es : Array MapEntry} {g : MapEntry → Value} (h1 : es.size = xs.length) (h : ∀ (j : Nat) (x : AV) (e : MapEntry), xs[j]? = some x → es[j]? = some e → Rep V x (g e)) : Reps V xs (es.toList.map g) :=
  ⟨by simpa using h1, fun j x c hx hc => by
    rw [List.getElem?_map] at hc
    obtain ⟨e, he, rfl⟩ := Option.map_eq_some_iff.1 hc
    exact h j x e hx (by simpa using he)⟩
theorem smap_mk {U : Vw} {ks vs : List AV} {b cl : Nat} {es : Array MapEntry} (hS : U.S b) (hb : U.w.heap[b]? = some (.map es cl)) (h1 : Reps U ks (es.toList.map (·.key))) (h2 : Reps U vs (es.toList.map (·.val))) : Rep U (.smap ks vs) (.map (some b)) :=
  .smap ks vs b es cl hS hb (by have := h1.1; simpa using this) (by have := h2.1; simpa using this)
    (fun j x e hx he => h1.2 j x _ hx (by rw [List.getElem?_map]; simp [he])) (fun j x e hx he => h2.2 j x _ hx (by rw [List.getElem?_map]; simp [he]))

theorem fz_rep {V U : Vw} (o : Ok V) (hw : U.w = V.w) (hS : ∀ b, V.S b → U.S b) : ∀ (n : Nat) {x y : AV} {v : Value}, Rep V x v → fz V.mem n x = some y → (∀ id ∈ idsD V.mem n x, ∀ b, V.rs id = some b → U.S b) → Rep U y v := by
  intro n
  induction n using Nat.strongRecOn with
  | _ n ih =>
  intro x y v hv h hid
  have hpure : ∀ {x : AV} {v : Value}, Rep V x v → x.pure = true → Rep U x v := fun hr hp => pure_rep (fun b _ => by rw [hw]) hS hr hp
  cases n with
  | zero =>
    simp only [fz] at h
    split at h
    · rename_i hp; cases h; exact hpure hv hp
    · cases h
  | succ n =>
    have h00 := h
    simp only [fz] at h
    split at h
    · rename_i hp; cases h; exact hpure hv hp
    rename_i hp
    have hidx : ∀ {k : Nat} {c : AV}, (∀ id ∈ idsD V.mem k c, id ∈ idsD V.mem (n + 1) x) → ∀ id ∈ idsD V.mem k c, ∀ b, V.rs id = some b → U.S b := fun hs id hi b hb => hid id (hs id hi) b hb
    -- a list of values, each frozen
    have lst : ∀ {xs ys : List AV} {us : List Value}, xs.mapM (fz V.mem n) = some ys → (∀ id ∈ xs.flatMap (idsD V.mem n), ∀ b, V.rs id = some b → U.S b) → Reps V xs us → Reps U ys us := by
      intro xs ys us hm hi hr
      obtain ⟨h1, h2⟩ := mapM_some hm
      refine ⟨by rw [h1]; exact hr.1, fun j d u hd hu => ?_⟩
      have hj : j < xs.length := by rw [← h1]; exact (List.getElem?_eq_some_iff.1 hd).1
      obtain ⟨d', hd', hf⟩ := h2 j _ (List.getElem?_eq_getElem hj)
      rw [hd] at hd'
      cases hd'
      exact ih n (Nat.lt_succ_self n) (hr.2 j _ u (List.getElem?_eq_getElem hj) hu) hf (fun id hi' b hb => hi id (List.mem_flatMap.2 ⟨_, List.getElem_mem hj, hi'⟩) b hb)
    -- elements of a slice, each frozen, cell by cell
    have cel : ∀ {xs ys : List AV}, xs.mapM (fz V.mem n) = some ys → (∀ id ∈ xs.flatMap (idsD V.mem n), ∀ b, V.rs id = some b → U.S b) → (∀ z ∈ xs, z.data = true) →
        ys.length = xs.length ∧ ∀ (j : Nat) (d : AV), ys[j]? = some d → ∃ c, xs[j]? = some c ∧ d.cells.length = c.cells.length ∧ ∀ (m : Nat) (q : AV), d.cells[m]? = some q → ∃ p, c.cells[m]? = some p ∧ q.leaf = p.leaf ∧ ∀ u, Rep V p u → Rep U q u := by
      intro xs ys hm hi hd
      obtain ⟨h1, h2⟩ := mapM_some hm
      refine ⟨h1, fun j d hdj => ?_⟩
      have hj : j < xs.length := by rw [← h1]; exact (List.getElem?_eq_some_iff.1 hdj).1
      obtain ⟨d', hd', hf⟩ := h2 j _ (List.getElem?_eq_getElem hj)
      rw [hdj] at hd'
      cases hd'
      obtain ⟨_, _, hc⟩ := fz_form hf
      obtain ⟨hlen, hcell⟩ := hc (hd _ (List.getElem_mem hj))
      refine ⟨_, List.getElem?_eq_getElem hj, hlen, fun m q hq => ?_⟩
      have hm' : m < (xs[j]).cells.length := by rw [← hlen]; exact (List.getElem?_eq_some_iff.1 hq).1
      obtain ⟨k, q', hq', hor, hl⟩ := hcell m _ (List.getElem?_eq_getElem hm')
      rw [hq] at hq'
      cases hq'
      refine ⟨_, List.getElem?_eq_getElem hm', hl, fun u hu => ?_⟩
      rcases hor with ⟨hpc, rfl⟩ | ⟨hk, hfk, hids⟩
      · exact hpure hu hpc
      · exact ih k (by omega) hu hfk (fun id hi' b hb => hi id (List.mem_flatMap.2 ⟨_, List.getElem_mem hj, hids id hi'⟩) b hb)
    cases x with
    | own id ver =>
      simp only at h
      split at h
      case h_2 => cases h
      rename_i e sz xs hm
      split at h
      case isFalse => cases h
      rename_i hlen
      obtain ⟨ys, hy, rfl⟩ := Option.map_eq_some_iff.1 h
      obtain ⟨b, hb, rfl⟩ := own_valid hv (by rw [verOf_arr hm, hlen])
      obtain ⟨h2, h3, h4, h5, vs, h6, h7, h8⟩ := o.blk id b _ hm hb
      have hidx' : ∀ id' ∈ idsD V.mem (n + 1) (.own id ver), ∀ b, V.rs id' = some b → U.S b := hid
      simp only [idsD, if_neg hp, hm] at hidx'
      have hSb : U.S b := hidx' id (by simp) b hb
      have hdat : ∀ z ∈ xs, z.data = true := by
        intro z hz
        cases z with
        | tup ws => have := (h5 _ hz).2 (.tup ws) (by simp [AV.cells]); simp [AV.leaf] at this
        | junk => have := (h5 _ hz).2 .junk (by simp [AV.cells]); simp [AV.leaf] at this
        | _ => rfl
      obtain ⟨hyl, hyc⟩ := cel hy (fun id' hi' b' hb' => hidx' id' (by simp [hi']) b' hb') hdat
      have hwy : ∀ d ∈ ys, wide d sz := by
        intro d hd
        obtain ⟨j, hj, rfl⟩ := List.getElem_of_mem hd
        obtain ⟨c, hc, hl, hq⟩ := hyc j _ (List.getElem?_eq_getElem hj)
        have hwc := h5 c (mem_of_get hc)
        refine ⟨hl.trans hwc.1, fun q hqm => ?_⟩
        obtain ⟨m, hm', rfl⟩ := List.getElem_of_mem hqm
        obtain ⟨p, hp', hlf, _⟩ := hq m _ (List.getElem?_eq_getElem hm')
        rw [hlf]; exact hwc.2 p (mem_of_get hp')
      rw [show ver = ys.length from by rw [hyl, hlen]]
      refine seq_of_lies ⟨vs.toList.take (xs.length * sz), ⟨?_, fun k q u hq hu => ?_⟩, fun k u hu => ?_⟩ hwy (fun _ => hSb) (fun _ => h2) (by rw [hyl]; exact h3) (fun hf => by cases hf)
      · have h81 := h8.1
        rw [flatC_length h5] at h81
        rw [flatC_length hwy, hyl]; exact h81
      · have hk : k < xs.length * sz := by
          have := (List.getElem?_eq_some_iff.1 hq).1
          rwa [flatC_length hwy, hyl] at this
        have hqd : k / sz < ys.length := by rw [hyl]; exact (Nat.div_lt_iff_lt_mul h2).2 hk
        have hkk : k / sz * sz + k % sz = k := by rw [Nat.mul_comm]; exact Nat.div_add_mod k sz
        have hgy := flatC_get hwy (List.getElem?_eq_getElem hqd) (Nat.mod_lt k h2)
        rw [hkk, hq] at hgy
        obtain ⟨c, hc, hl, hcq⟩ := hyc _ _ (List.getElem?_eq_getElem hqd)
        obtain ⟨p, hp', _, hrp⟩ := hcq _ q hgy.symm
        have hgx := flatC_get h5 hc (Nat.mod_lt k h2)
        rw [hkk, hp'] at hgx
        exact hrp u (h8.2 k p u hgx hu)
      · rw [hw, add_lit, cell_block h6]
        rw [List.getElem?_take] at hu
        split at hu
        · simpa using hu
        · cases hu
    | ptr id ver off =>
      simp only at h
      split at h
      case h_2 => cases h
      rename_i cs hm
      split at h
      case isFalse => cases h
      rename_i hc
      obtain ⟨hlen, hoff⟩ := hc
      obtain ⟨ys, hy, rfl⟩ := Option.map_eq_some_iff.1 h
      obtain ⟨b, hb, rfl⟩ := ptr_valid hv (by rw [verOf_box hm, hlen])
      obtain ⟨vs, ty, h2, h3, h4⟩ := o.blk id b _ hm hb
      have hidx' : ∀ id' ∈ idsD V.mem (n + 1) (.ptr id ver off), ∀ b, V.rs id' = some b → U.S b := hid
      simp only [idsD, if_neg hp, hm] at hidx'
      have hSb : U.S b := hidx' id (by simp) b hb
      have hr := lst (us := vs.toList.drop off) hy (fun id' hi' b' hb' => hidx' id' (by
        simp only [List.mem_cons]
        exact .inr hi') b' hb') (h3.drop off)
      obtain ⟨hyl, hyf⟩ := mapM_some hy
      refine .rptr _ _ (fun k => (vs.toList.drop off).getD k (.tuple #[])) (fun e => ?_) (fun q hq => ?_) hSb (fun k q hq => ?_) (fun k q hq => ?_)
      · have := congrArg List.length e; simp [hyl] at this; omega
      · obtain ⟨j, hj, rfl⟩ := List.getElem_of_mem hq
        obtain ⟨d, hd, hf⟩ := hyf j _ (List.getElem?_eq_getElem (by omega))
        rw [List.getElem?_eq_getElem hj] at hd
        cases hd
        rw [(fz_form hf).2.1]
        exact h4 _ (List.mem_of_mem_drop (List.getElem_mem _))
      · obtain ⟨u, hu, _⟩ := hr.get hq
        rw [hw, add_lit, cell_block h2]
        have hu' := hu
        rw [List.getElem?_drop] at hu'
        simp only [List.getD_eq_getElem?_getD, hu, Option.getD_some]
        simpa using hu'
      · obtain ⟨u, hu, hrep⟩ := hr.get hq
        simp only [List.getD_eq_getElem?_getD, hu, Option.getD_some]
        exact hrep
    | agg xs =>
      simp only at h
      obtain ⟨ys, hy, rfl⟩ := Option.map_eq_some_iff.1 h
      obtain ⟨us, rfl, hr, hl⟩ := agg_inv hv
      have hidx' : ∀ id' ∈ idsD V.mem (n + 1) (.agg xs), ∀ b, V.rs id' = some b → U.S b := hid
      simp only [idsD, if_neg hp] at hidx'
      have hr' := lst hy hidx' hr
      refine .agg _ _ (by simpa using hr'.1) (fun q hq => ?_) (fun j c u hc hu => hr'.2 j c u hc (by simpa using hu))
      obtain ⟨hyl, hyf⟩ := mapM_some hy
      obtain ⟨j, hj, rfl⟩ := List.getElem_of_mem hq
      obtain ⟨d, hd, hf⟩ := hyf j _ (List.getElem?_eq_getElem (by omega))
      rw [List.getElem?_eq_getElem hj] at hd
      cases hd
      rw [(fz_form hf).2.1]
      exact hl _ (List.getElem_mem _)
    | tup xs =>
      simp only at h
      obtain ⟨ys, hy, rfl⟩ := Option.map_eq_some_iff.1 h
      have hidx' : ∀ id' ∈ idsD V.mem (n + 1) (.tup xs), ∀ b, V.rs id' = some b → U.S b := hid
      simp only [idsD, if_neg hp] at hidx'
      cases hv with
      | tup xs us hs hr =>
        have hr' := lst (us := us.toList) hy hidx' ⟨by simpa using hs, fun j c u hc hu => hr j c u hc (by simpa using hu)⟩
        exact .tup _ _ (by simpa using hr'.1) (fun j c u hc hu => hr'.2 j c u hc (by simpa using hu))
    | seq z full sz xs =>
      simp only at h
      obtain ⟨ys, hy, rfl⟩ := Option.map_eq_some_iff.1 h
      have hidx' : ∀ id' ∈ idsD V.mem (n + 1) (.seq z full sz xs), ∀ b, V.rs id' = some b → U.S b := hid
      simp only [idsD, if_neg hp] at hidx'
      cases hv with
      | seqNil => simp at hy; subst hy; exact .seqNil _ _
      | seq full sz xs ad c us hc hf hS' h0 hsz hu hr =>
        have hdat : ∀ z ∈ xs, z.data = true := by
          intro z hz
          cases z with
          | tup ws => have := (hsz _ hz).2 (.tup ws) (by simp [AV.cells]); simp [AV.leaf] at this
          | junk => have := (hsz _ hz).2 .junk (by simp [AV.cells]); simp [AV.leaf] at this
          | _ => rfl
        obtain ⟨hyl, hyc⟩ := cel hy hidx' hdat
        have hne : ys ≠ [] → xs ≠ [] := fun hy0 e => by subst e; simp at hyl; exact hy0 hyl
        rw [← hyl]
        refine .seq full sz ys ad c us (by omega) (fun h => by rw [hyl]; exact hf h) (fun h => hS _ (hS' (hne h))) (fun h => h0 (hne h)) (fun d hd => ?_) (fun j d m q hd hq => ?_) (fun j d m q hd hq => ?_)
        · obtain ⟨j, hj, rfl⟩ := List.getElem_of_mem hd
          obtain ⟨c', hc', hl, hq⟩ := hyc j _ (List.getElem?_eq_getElem hj)
          have hwc := hsz c' (mem_of_get hc')
          refine ⟨hl.trans hwc.1, fun q hqm => ?_⟩
          obtain ⟨m, hm', rfl⟩ := List.getElem_of_mem hqm
          obtain ⟨p, hp', hlf, _⟩ := hq m _ (List.getElem?_eq_getElem hm')
          rw [hlf]; exact hwc.2 p (mem_of_get hp')
        · obtain ⟨c', hc', hl, hcq⟩ := hyc j d hd
          obtain ⟨p, hp', _, _⟩ := hcq m q hq
          rw [hw]; exact hu j c' m p hc' hp'
        · obtain ⟨c', hc', hl, hcq⟩ := hyc j d hd
          obtain ⟨p, hp', _, hrp⟩ := hcq m q hq
          exact hrp _ (hr j c' m p hc' hp')
    | rptr xs =>
      simp only at h
      obtain ⟨ys, hy, rfl⟩ := Option.map_eq_some_iff.1 h
      have hidx' : ∀ id' ∈ idsD V.mem (n + 1) (.rptr xs), ∀ b, V.rs id' = some b → U.S b := hid
      simp only [idsD, if_neg hp] at hidx'
      cases hv with
      | rptr xs ad us h0 hl hS' hu hr =>
        obtain ⟨hyl, hyf⟩ := mapM_some hy
        have hbk : ∀ (m : Nat) (q : AV), ys[m]? = some q → ∃ p, xs[m]? = some p ∧ fz V.mem n p = some q := by
          intro m q hq
          have hm' : m < xs.length := by rw [← hyl]; exact (List.getElem?_eq_some_iff.1 hq).1
          obtain ⟨d, hd, hf⟩ := hyf m _ (List.getElem?_eq_getElem hm')
          rw [hq] at hd; cases hd
          exact ⟨_, List.getElem?_eq_getElem hm', hf⟩
        refine .rptr ys ad us (fun e => ?_) (fun q hq => ?_) (hS _ hS') (fun m q hq => ?_) (fun m q hq => ?_)
        · subst e; simp at hyl; exact h0 (List.eq_nil_of_length_eq_zero hyl.symm)
        · obtain ⟨j, hj, rfl⟩ := List.getElem_of_mem hq
          obtain ⟨p, hp', hf⟩ := hbk j _ (List.getElem?_eq_getElem hj)
          rw [(fz_form hf).2.1]; exact hl p (mem_of_get hp')
        · obtain ⟨p, hp', hf⟩ := hbk m q hq
          rw [hw]; exact hu m p hp'
        · obtain ⟨p, hp', hf⟩ := hbk m q hq
          exact ih n (Nat.lt_succ_self n) (hr m p hp') hf (fun id hi b hb => hidx' id (List.mem_flatMap.2 ⟨p, mem_of_get hp', hi⟩) b hb)
    | fn f a b =>
      simp only at h
      split at h
      case h_2 => cases h
      rename_i a' b' ha hb
      cases h
      have hidx' : ∀ id' ∈ idsD V.mem (n + 1) (.fn f a b), ∀ b, V.rs id' = some b → U.S b := hid
      simp only [idsD, if_neg hp] at hidx'
      cases hv with
      | fn f xs ys fs cs h1 h2 hr hr' =>
        have r1 := lst (us := fs.toList) ha (fun id hi => hidx' id (List.mem_append_left _ hi)) ⟨by simpa using h1, fun j c u hc hu => hr j c u hc (by simpa using hu)⟩
        have r2 := lst (us := cs.toList) hb (fun id hi => hidx' id (List.mem_append_right _ hi)) ⟨by simpa using h2, fun j c u hc hu => hr' j c u hc (by simpa using hu)⟩
        exact .fn f _ _ _ _ (by simpa using r1.1) (by simpa using r2.1) (fun j c u hc hu => r1.2 j c u hc (by simpa using hu)) (fun j c u hc hu => r2.2 j c u hc (by simpa using hu))
    | smap a b =>
      simp only at h
      split at h
      case h_2 => cases h
      rename_i a' b' ha hb
      cases h
      have hidx' : ∀ id' ∈ idsD V.mem (n + 1) (.smap a b), ∀ b, V.rs id' = some b → U.S b := hid
      simp only [idsD, if_neg hp] at hidx'
      cases hv with
      | smap _ _ bk es cl hS' hbk h1 h2 hk hvv =>
        have r1 := lst (us := es.toList.map (·.key)) ha (fun id hi => hidx' id (List.mem_append_left _ hi)) (reps_entries h1 hk)
        have r2 := lst (us := es.toList.map (·.val)) hb (fun id hi => hidx' id (List.mem_append_right _ hi)) (reps_entries h2 hvv)
        exact smap_mk (hS _ hS') (by rw [hw]; exact hbk) r1 r2
    | mp id =>
      simp only at h
      split at h
      case h_2 => cases h
      rename_i ks vs hm
      split at h
      case h_2 => cases h
      rename_i a' b' ha hb
      cases h
      have hidx' : ∀ id' ∈ idsD V.mem (n + 1) (.mp id), ∀ b, V.rs id' = some b → U.S b := hid
      simp only [idsD, if_neg hp, hm] at hidx'
      cases hv with
      | mp _ _ h1 hh hv =>
        obtain ⟨bk, hbk, rfl⟩ := hv (by simp [verOf, shp, hm, shpB])
        obtain ⟨es, cl, g1, g2, g3⟩ := o.blk id bk _ hm hbk
        have r1 := lst ha (fun id hi => hidx' id (List.mem_cons_of_mem _ (List.mem_append_left _ hi))) g2
        have r2 := lst hb (fun id hi => hidx' id (List.mem_cons_of_mem _ (List.mem_append_right _ hi))) g3
        exact smap_mk (hidx' id (by simp) bk hbk) (by rw [hw]; exact g1) r1 r2
    | _ => first | cases h | (simp [AV.pure] at hp)
end Go.Ab
