/- Before and behind a call. -/
import Derived.Test.YtcmcgmcogknpfaaDoorEK
set_option linter.unusedVariables false
set_option linter.unusedSimpArgs false
namespace Go.Ab
open Go

def inRs (V : Vw) (ids : List Nat) (b : Nat) : Prop := ∃ id ∈ ids, V.rs id = some b
def Live (V : Vw) (ids : List Nat) : Prop := ∀ id ∈ ids, ∃ v, verOf V.mem id = some v

/-! ### Handles given up, what they lead to never written again -/
def Vw.frz (V : Vw) (ids : List Nat) : Vw := { V with S := fun b => V.S b ∨ inRs V ids b, mem := kill V.mem ids }
theorem frz_eq (V : Vw) (ids : List Nat) : V.frz ids = (V.kills ids).calm (inRs V ids) := rfl
theorem ok_frz {V : Vw} (o : Ok V) {ids : List Nat} (hl : Live V ids) : Ok (V.frz ids) ∧ Ext V (V.frz ids) := by
  obtain ⟨o1, e1⟩ := ok_kills ids o
  have hd : ∀ b, inRs V ids b → ∃ id, (V.kills ids).rs id = some b := fun b ⟨id, _, h⟩ => ⟨id, h⟩
  have hn : ∀ id b v, verOf (V.kills ids).mem id = some v → (V.kills ids).rs id = some b → ¬ inRs V ids b := by
    intro id b v hv hr ⟨id', hid', hr'⟩
    obtain ⟨h1, h2⟩ := verOf_kill ids hv
    obtain ⟨v', hv'⟩ := hl id' hid'
    have := o.inj id id' b v v' h2 hv' hr hr'
    subst this
    exact h1 hid'
  rw [frz_eq]
  exact ⟨ok_calm o1 hd hn, e1.trans (ext_calm hd)⟩

/-! ### A call with pure arguments: the callee's view -/
def Vw.callee (V : Vw) (ids : List Nat) : Vw := { w := V.w, S := fun b => V.S b ∨ inRs V ids b, rs := fun _ => none, cp := V.cp, mem := [] }
theorem ok_callee {V : Vw} (o : Ok V) (ids : List Nat) : Ok (V.callee ids) where
  sb := fun b h => by
    rcases h with h | ⟨id, _, h⟩
    · exact o.sb b h
    · exact (o.rb id b h).1
  rb := fun id b h => by cases h
  sep := fun id b v _ h => by cases h
  inj := fun id id' b v v' _ _ h => by cases h
  blk := fun id b k _ h => by cases h

/-- A view closed: all that lives in it becomes what is never written again. -/
def Vw.close (V : Vw) : Vw := { w := V.w, S := fun b => V.S b ∨ ∃ id v, verOf V.mem id = some v ∧ V.rs id = some b, rs := fun _ => none, cp := V.cp, mem := [] }
theorem ok_close {V : Vw} (o : Ok V) : Ok V.close where
  sb := fun b h => by
    rcases h with h | ⟨id, _, _, h⟩
    · exact o.sb b h
    · exact (o.rb id b h).1
  rb := fun id b h => by cases h
  sep := fun id b v _ h => by cases h
  inj := fun id id' b v v' _ _ h => by cases h
  blk := fun id b k _ h => by cases h
theorem ext_close {U V : Vw} (e : Ext U V) (hm : U.mem = []) : Ext U V.close where
  os := e.os
  tape := e.tape
  output := e.output
  size := e.size
  frame := e.frame
  stab := e.stab
  sm := fun b h => .inl (e.sm b h)
  sn := fun b h => by
    rcases h with h | ⟨id, _, _, h⟩
    · exact e.sn b h
    · rcases e.rn id b h with h | h
      · exact .inr (.inl h)
      · exact .inr (.inr h)
  len := by simp [hm, Vw.close]
  ver := fun id hid => by rw [hm] at hid; simp at hid
  rn := fun id b h => by cases h
  nn := fun id hid => by rw [hm] at hid; simp at hid
theorem rep_close {V : Vw} (o : Ok V) {n : Nat} {x y : AV} {v : Value} (h : Rep V x v) (hf : fz V.mem n x = some y) : Rep V.close y v :=
  fz_rep (U := V.close) o rfl (fun b hb => .inl hb) n h hf (fun id hid b hb => by
    obtain ⟨v', hv'⟩ := fz_live hf id hid
    exact .inr ⟨id, v', hv', hb⟩)

/-- Behind a call with pure arguments: the caller's view. -/
def Vw.back (V : Vw) (U : Vw) (ks : List Nat) : Vw :=
  { w := U.w, S := fun b => (V.S b ∨ inRs V ks b) ∨ (V.w.heap.size ≤ b ∧ U.S b), rs := V.rs, cp := V.cp, mem := kill V.mem ks }
theorem back_ok {V U : Vw} (o : Ok V) {ids ks : List Nat} (oU : Ok U) (e : Ext (V.callee ids) U) (hl : Live V ks) :
    Ok (V.back U ks) ∧ Ext V (V.back U ks) := by
  have hfr : ∀ b, b < V.w.heap.size → U.w.heap[b]? = V.w.heap[b]? := fun b hb => e.frame b hb (fun id h => by cases h)
  obtain ⟨o1, e1⟩ := ok_frz o hl
  have ext : Ext V (V.back U ks) := {
    os := e.os
    tape := e.tape
    output := e.output
    size := e.size
    frame := fun b hb _ => hfr b hb
    stab := fun b hb => hfr b (o.sb b hb)
    sm := fun b h => .inl (.inl h)
    sn := fun b h => by
      rcases h with (h | ⟨id, _, h⟩) | h
      · exact .inl h
      · exact .inr (.inr ⟨id, h⟩)
      · exact .inr (.inl h.1)
    len := e1.len
    ver := fun id hid v' h => by
      obtain ⟨v0, h0, h1, h2⟩ := e1.ver id hid v' h
      exact ⟨v0, h0, h1, h2⟩
    rn := fun id b h => .inr ⟨id, h⟩
    nn := fun id hid h => e1.nn id hid h }
  refine ⟨o.step ext (fun b h => ?_) (fun id b h => ?_) (fun id b v hv hr hS => ?_) (fun id id' b v v' hv hv' hr hr' => o1.inj id id' b v v' hv hv' hr hr') (fun id b k hm hr hd => ?_), ext⟩
  · rcases h with h | h
    · exact Nat.lt_of_lt_of_le (o1.sb b h) e.size
    · exact oU.sb b h.2
  · have := o.rb id b h
    exact ⟨Nat.lt_of_lt_of_le this.1 e.size, Nat.lt_of_lt_of_le this.2 e1.len⟩
  · rcases hS with h | h
    · exact o1.sep id b v hv hr h
    · have := (o.rb id b hr).1; omega
  · have hv : ∃ v, verOf (kill V.mem ks) id = some v := by
      have h1 : verOf (kill V.mem ks) id = (shpB k).map (·.1) := verOf_some hm
      cases hsk : shpB k with
      | none => cases k <;> simp [shpB] at hsk; exact absurd rfl hd
      | some s => exact ⟨s.1, by rw [h1, hsk]; rfl⟩
    obtain ⟨v, hv⟩ := hv
    obtain ⟨hnot, _⟩ := verOf_kill ks hv
    have hsame : ∀ (l : List Nat) (m : Mem), id ∉ l → (kill m l)[id]? = m[id]? := by
      intro l
      induction l with
      | nil => intro m _; rfl
      | cons a l ih =>
        intro m h
        simp only [List.mem_cons, not_or] at h
        show (kill (m.set a .dead) l)[id]? = _
        rw [ih _ h.2, List.getElem?_set_ne (fun e => h.1 e.symm)]
    have hm' : (kill V.mem ks)[id]? = some k := hm
    rw [hsame ks V.mem hnot] at hm'
    exact .inl ⟨hm', hr, rfl, hfr b (o.rb id b hr).1⟩
theorem back_rep {V U : Vw} {ids ks : List Nat} (e : Ext (V.callee ids) U) {r : AV} {v : Value} (h : Rep U r v) (hp : r.pure = true) (hk : r.flat = true ∨ ids = [] ∨ ks = ids) : Rep (V.back U ks) r v := by
  rcases hk with hf | hk
  · exact flat_rep h hf
  · refine pure_rep (V := U) (U := V.back U ks) (fun b _ => rfl) (fun b hb => ?_) h hp
    rcases e.sn b hb with h1 | h1 | ⟨id, h1⟩
    · rcases h1 with h1 | h1
      · exact .inl (.inl h1)
      · rcases hk with rfl | rfl
        · obtain ⟨id, hid, _⟩ := h1; simp at hid
        · exact .inl (.inr h1)
    · exact .inr ⟨h1, hb⟩
    · cases h1

/-! ### A call that shared the memory: what the callee made goes -/
def dropped (V : Vw) (N : Nat) (b : Nat) : Prop := ∃ id v, N ≤ id ∧ verOf V.mem id = some v ∧ V.rs id = some b
def Vw.trunc (V : Vw) (N : Nat) : Vw :=
  { w := V.w, S := fun b => V.S b ∨ dropped V N b, rs := fun id => if id < N then V.rs id else none, cp := V.cp, mem := V.mem.take N }
theorem verOf_take {m : Mem} {N id v : Nat} (h : verOf (m.take N) id = some v) : id < N ∧ verOf m id = some v := by
  have h1 := verOf_lt h
  simp at h1
  refine ⟨by omega, ?_⟩
  unfold verOf shp at h ⊢
  rwa [List.getElem?_take_of_lt (by omega)] at h
theorem take_get {m : Mem} {N id : Nat} {k : Blk} (h : (m.take N)[id]? = some k) : id < N ∧ m[id]? = some k := by
  rw [List.getElem?_take] at h
  split at h
  · exact ⟨by assumption, h⟩
  · cases h
theorem under_hd {V : Vw} {N id ver : Nat} (hN : N ≤ V.mem.length) (h : V.hd id ver) (hid : id < N) : (V.trunc N).hd id ver :=
  ⟨by simp [Vw.trunc]; omega, fun v0 h0 => h.2 v0 (verOf_take h0).2⟩
theorem under_rep {V : Vw} {N : Nat} (hN : N ≤ V.mem.length) {x : AV} {v : Value} (h : Rep V x v) (hu : x.under N = true) : Rep (V.trunc N) x v := by
  induction h with
  | int k n => exact .int k n
  | bool b => exact .bool b
  | str s => exact .str s
  | agg xs cs h hl _ ih => exact .agg xs cs h hl (fun j x c hx hc => ih j x c hx hc (underL_mem hu x (mem_of_get hx)))
  | tup xs cs h _ ih => exact .tup xs cs h (fun j x c hx hc => ih j x c hx hc (underL_mem hu x (mem_of_get hx)))
  | seqNil full sz => exact .seqNil full sz
  | seq full sz xs ad c us hc hf hS' h0 hsz hu' _ ih =>
    exact .seq full sz xs ad c us hc hf (fun hx => .inl (hS' hx)) h0 hsz (fun j x m y hj hm => hu' j x m y hj hm) (fun j x m y hj hm => ih j x m y hj hm (under_cells (underL_mem hu x (mem_of_get hj)) hm))
  | own id ver v h1 h hv =>
    have hid : id < N := by simpa [AV.under] using hu
    exact .own id ver v h1 (under_hd hN h hid) (fun hv' => by
      obtain ⟨b, hb, he⟩ := hv (verOf_take hv').2
      exact ⟨b, by simp only [Vw.trunc, if_pos hid]; exact hb, he⟩)
  | ptr id ver off v h1 h hv =>
    have hid : id < N := by simpa [AV.under] using hu
    exact .ptr id ver off v h1 (under_hd hN h hid) (fun hv' => by
      obtain ⟨b, hb, he⟩ := hv (verOf_take hv').2
      exact ⟨b, by simp only [Vw.trunc, if_pos hid]; exact hb, he⟩)
  | aptr id ver sz i f v h1 h hv =>
    have hid : id < N := by simpa [AV.under] using hu
    exact .aptr id ver sz i f v h1 (under_hd hN h hid) (fun hv' => by
      obtain ⟨b, hb, he⟩ := hv (verOf_take hv').2
      exact ⟨b, by simp only [Vw.trunc, if_pos hid]; exact hb, he⟩)
  | rptr xs ad us h0 hl hS' hu' _ ih => exact .rptr xs ad us h0 hl (.inl hS') (fun m y hm => hu' m y hm) (fun m y hm => ih m y hm (underL_mem hu y (mem_of_get hm)))
  | nilptr => exact .nilptr
  | fn f xs ys fs cs h h' _ _ ih ih' =>
    simp only [AV.under, Bool.and_eq_true] at hu
    exact .fn f xs ys fs cs h h' (fun j x c hx hc => ih j x c hx hc (underL_mem hu.1 x (mem_of_get hx))) (fun j x c hx hc => ih' j x c hx hc (underL_mem hu.2 x (mem_of_get hx)))
  | nilfn => exact .nilfn
  | yld id v h1 h hv =>
    have hid : id < N := by simpa [AV.under] using hu
    exact .yld id v h1 (under_hd hN h hid) (fun hv' => by
      obtain ⟨b, hb, he⟩ := hv (verOf_take hv').2
      exact ⟨b, by simp only [Vw.trunc, if_pos hid]; exact hb, he⟩)
  | mp id v h1 h hv =>
    have hid : id < N := by simpa [AV.under] using hu
    exact .mp id v h1 (under_hd hN h hid) (fun hv' => by
      obtain ⟨b, hb, he⟩ := hv (verOf_take hv').2
      exact ⟨b, by simp only [Vw.trunc, if_pos hid]; exact hb, he⟩)
  | junk v => exact .junk v
  | nilmp => exact .nilmp
  | smap ks vs b es cl hS' hb h1 h2 _ _ ih ih' =>
    simp only [AV.under, Bool.and_eq_true] at hu
    exact .smap ks vs b es cl (.inl hS') hb h1 h2 (fun j x c hx hc => ih j x c hx hc (underL_mem hu.1 x (mem_of_get hx))) (fun j x c hx hc => ih' j x c hx hc (underL_mem hu.2 x (mem_of_get hx)))

theorem underL_of {N : Nat} {ys : List AV} (h : ∀ y ∈ ys, y.under N = true) : underL N ys = true := by
  induction ys with
  | nil => rfl
  | cons y ys ih => simp only [underL, Bool.and_eq_true]; exact ⟨h y (by simp), ih (fun z hz => h z (by simp [hz]))⟩
theorem under_of_cells {N : Nat} {x : AV} (h : ∀ y ∈ x.cells, y.under N = true) : x.under N = true := by
  cases x with
  | agg xs => exact underL_of h
  | _ => exact h _ (by simp [AV.cells])
/-- All handles of what stands for a value lie in the memory. -/
theorem rep_under {V : Vw} {x : AV} {v : Value} (h : Rep V x v) : x.under V.mem.length = true := by
  induction h with
  | agg xs cs h hl _ ih =>
    refine underL_of (fun y hy => ?_)
    obtain ⟨j, hj, rfl⟩ := List.getElem_of_mem hy
    exact ih j _ _ (List.getElem?_eq_getElem hj) (Array.getElem?_eq_getElem (by omega))
  | tup xs cs h _ ih =>
    refine underL_of (fun y hy => ?_)
    obtain ⟨j, hj, rfl⟩ := List.getElem_of_mem hy
    exact ih j _ _ (List.getElem?_eq_getElem hj) (Array.getElem?_eq_getElem (by omega))
  | seq full sz xs ad c us hc hf hS' h0 hsz hu' _ ih =>
    refine underL_of (fun y hy => under_of_cells (fun q hq => ?_))
    obtain ⟨j, hj, rfl⟩ := List.getElem_of_mem hy
    obtain ⟨m, hm, rfl⟩ := List.getElem_of_mem hq
    exact ih j _ m _ (List.getElem?_eq_getElem hj) (List.getElem?_eq_getElem hm)
  | rptr xs ad us h0 hl hS' hu' _ ih =>
    refine underL_of (fun y hy => ?_)
    obtain ⟨j, hj, rfl⟩ := List.getElem_of_mem hy
    exact ih j _ (List.getElem?_eq_getElem hj)
  | fn f xs ys fs cs h h' _ _ ih ih' =>
    simp only [AV.under, Bool.and_eq_true]
    refine ⟨underL_of (fun y hy => ?_), underL_of (fun y hy => ?_)⟩
    · obtain ⟨j, hj, rfl⟩ := List.getElem_of_mem hy
      exact ih j _ _ (List.getElem?_eq_getElem hj) (Array.getElem?_eq_getElem (by omega))
    · obtain ⟨j, hj, rfl⟩ := List.getElem_of_mem hy
      exact ih' j _ _ (List.getElem?_eq_getElem hj) (Array.getElem?_eq_getElem (by omega))
  | own id ver v h1 h hv => simpa [AV.under] using h.1
  | ptr id ver off v h1 h hv => simpa [AV.under] using h.1
  | aptr id ver sz i f v h1 h hv => simpa [AV.under] using h.1
  | yld id v h1 h hv => simpa [AV.under] using h.1
  | mp id v h1 h hv => simpa [AV.under] using h.1
  | smap ks vs b es cl hS' hb h h' _ _ ih ih' =>
    simp only [AV.under, Bool.and_eq_true]
    refine ⟨underL_of (fun y hy => ?_), underL_of (fun y hy => ?_)⟩
    · obtain ⟨j, hj, rfl⟩ := List.getElem_of_mem hy
      exact ih j _ _ (List.getElem?_eq_getElem hj) (Array.getElem?_eq_getElem (by omega))
    · obtain ⟨j, hj, rfl⟩ := List.getElem_of_mem hy
      exact ih' j _ _ (List.getElem?_eq_getElem hj) (Array.getElem?_eq_getElem (by omega))
  | _ => rfl
mutual
theorem under_mono {N M : Nat} (h : N ≤ M) : ∀ {x : AV}, x.under N = true → x.under M = true
  | .agg xs, hu => underL_mono h (xs := xs) hu
  | .tup xs, hu => underL_mono h (xs := xs) hu
  | .seq _ _ _ xs, hu => underL_mono h (xs := xs) hu
  | .rptr xs, hu => underL_mono h (xs := xs) hu
  | .fn _ a b, hu => by
    simp only [AV.under, Bool.and_eq_true] at hu ⊢
    exact ⟨underL_mono h (xs := a) hu.1, underL_mono h (xs := b) hu.2⟩
  | .own id _, hu => by simp only [AV.under, decide_eq_true_eq] at hu ⊢; omega
  | .ptr id _ _, hu => by simp only [AV.under, decide_eq_true_eq] at hu ⊢; omega
  | .aptr id .., hu => by simp only [AV.under, decide_eq_true_eq] at hu ⊢; omega
  | .yld id, hu => by simp only [AV.under, decide_eq_true_eq] at hu ⊢; omega
  | .mp id, hu => by simp only [AV.under, decide_eq_true_eq] at hu ⊢; omega
  | .smap a b, hu => by
    simp only [AV.under, Bool.and_eq_true] at hu ⊢
    exact ⟨underL_mono h (xs := a) hu.1, underL_mono h (xs := b) hu.2⟩
  | .nilmp, _ => rfl
  | .junk, _ => rfl
  | .int .., _ => rfl
  | .bool .., _ => rfl
  | .str .., _ => rfl
  | .nilptr, _ => rfl
  | .nilfn, _ => rfl
theorem underL_mono {N M : Nat} (h : N ≤ M) : ∀ {xs : List AV}, underL N xs = true → underL M xs = true
  | [], _ => rfl
  | x :: xs, hu => by
    simp only [underL, Bool.and_eq_true] at hu ⊢
    exact ⟨under_mono h (x := x) hu.1, underL_mono h (xs := xs) hu.2⟩
end

theorem reps_under {V : Vw} {N : Nat} (hN : N ≤ V.mem.length) {xs : List AV} {us : List Value} (h : Reps V xs us) (hu : underL N xs = true) : Reps (V.trunc N) xs us :=
  ⟨h.1, fun j x c hx hc => under_rep hN (h.2 j x c hx hc) (underL_mem hu x (mem_of_get hx))⟩
theorem trunc_ok {V0 V : Vw} (o : Ok V) (e : Ext V0 V) {N : Nat} (hN0 : N = V0.mem.length) (hu : (V.mem.take N).all (blkUnder N 0) = true) : Ok (V.trunc N) ∧ Ext V0 (V.trunc N) := by
  have hN : N ≤ V.mem.length := by rw [hN0]; exact e.len
  have hrs : ∀ id b, (V.trunc N).rs id = some b → id < N ∧ V.rs id = some b := by
    intro id b h
    simp only [Vw.trunc] at h
    split at h
    · exact ⟨by assumption, h⟩
    · cases h
  refine ⟨⟨fun b h => ?_, fun id b h => ?_, fun id b v hv hr hS => ?_, fun id id' b v v' hv hv' hr hr' => ?_, fun id b k hm hr => ?_⟩, ?_⟩
  · rcases h with h | ⟨id, v, _, _, h⟩
    · exact o.sb b h
    · exact (o.rb id b h).1
  · obtain ⟨h1, h2⟩ := hrs id b h
    exact ⟨(o.rb id b h2).1, by simp [Vw.trunc]; omega⟩
  · obtain ⟨h1, h2⟩ := hrs id b hr
    have hv1 := (verOf_take hv).2
    rcases hS with h | ⟨id', v', hn, hv', hr'⟩
    · exact o.sep id b v hv1 h2 h
    · have := o.inj id id' b v v' hv1 hv' h2 hr'; omega
  · exact o.inj id id' b v v' (verOf_take hv).2 (verOf_take hv').2 (hrs id b hr).2 (hrs id' b hr').2
  · obtain ⟨h1, h2⟩ := hrs id b hr
    obtain ⟨_, hm'⟩ := take_get hm
    have hbk := o.blk id b k hm' h2
    have hku : blkUnder N 0 k = true := List.all_eq_true.1 hu k (List.mem_of_getElem? hm)
    cases k with
    | box cs =>
      obtain ⟨vs, t, g1, g2, g3⟩ := hbk
      exact ⟨vs, t, g1, reps_under hN g2 hku, g3⟩
    | arr ty sz xs =>
      obtain ⟨g1, g2, g3, g4, vs, g5, g6, g7⟩ := hbk
      refine ⟨g1, g2, g3, g4, vs, g5, g6, reps_under hN g7 ?_⟩
      refine underL_of (fun y hy => ?_)
      obtain ⟨x, hx, hxy⟩ := List.mem_flatMap.1 hy
      obtain ⟨m, hm, rfl⟩ := List.getElem_of_mem hxy
      exact under_cells (underL_mem hku x hx) (List.getElem?_eq_getElem hm)
    | lp env ps a bd st pend =>
      obtain ⟨r, g1, g2, g3, g4, g5, g6, g7, g8⟩ := hbk
      exact ⟨r, g1, g2, g3, g4, g5, g6, g7, fun t => under_rep hN (g8 t) (under_mono (Nat.le_of_lt h1) (g7 t))⟩
    | mp ks vs =>
      simp only [blkUnder, Bool.and_eq_true] at hku
      obtain ⟨es, cl, g1, g2, g3⟩ := hbk
      exact ⟨es, cl, g1, reps_under hN g2 hku.1, reps_under hN g3 hku.2⟩
    | dead => trivial
  · exact {
      os := e.os
      tape := e.tape
      output := e.output
      size := e.size
      frame := e.frame
      stab := e.stab
      sm := fun b h => .inl (e.sm b h)
      sn := fun b h => by
        rcases h with h | ⟨id, v, _, _, h⟩
        · exact e.sn b h
        · rcases e.rn id b h with h | h
          · exact .inr (.inl h)
          · exact .inr (.inr h)
      len := by simp [Vw.trunc]; omega
      ver := fun id hid v' h => by
        obtain ⟨v0, g0, g1, g2⟩ := e.ver id hid v' (verOf_take h).2
        refine ⟨v0, g0, g1, fun he => ⟨fun b hb => ?_, (g2 he).2⟩⟩
        simp only [Vw.trunc, if_pos (show id < N by omega)]
        exact (g2 he).1 b hb
      rn := fun id b h => e.rn id b (hrs id b h).2
      nn := fun id hid h => by
        obtain ⟨h1, h2⟩ := e.nn id hid h
        have hlt : id < N := by omega
        refine ⟨by simp only [Vw.trunc, if_pos hlt]; exact h1, ?_⟩
        simp only [Vw.trunc, List.getElem?_take_of_lt hlt]
        exact h2 }
theorem retrunc_ok {V0 V : Vw} (o : Ok V) (e : Ext V0 V) {r r' : AV} {v : Value} {m' : Mem} (hr : Rep V r v) (h : retrunc V0.mem.length (r, V.mem) = some (r', m')) :
    ∃ V', V'.w = V.w ∧ V'.mem = m' ∧ Ok V' ∧ Ext V0 V' ∧ Rep V' r' v := by
  unfold retrunc at h
  split at h
  case isFalse => cases h
  rename_i hu
  obtain ⟨ot, et⟩ := trunc_ok o e rfl hu
  split at h
  · rename_i hru
    cases h
    exact ⟨V.trunc V0.mem.length, rfl, rfl, ot, et, under_rep e.len hr hru⟩
  · split at h
    · rename_i hids
      obtain ⟨x, hx, he⟩ := Option.map_eq_some_iff.1 h
      cases he
      refine ⟨V.trunc V0.mem.length, rfl, rfl, ot, et, fz_rep (U := V.trunc V0.mem.length) o rfl (fun b hb => .inl hb) 6 hr hx (fun id hid b hb => ?_)⟩
      obtain ⟨v', hv'⟩ := fz_live hx id hid
      have := List.all_eq_true.1 hids id hid
      exact .inr ⟨id, v', by simpa using this, hv', hb⟩
    · cases h
end Go.Ab
