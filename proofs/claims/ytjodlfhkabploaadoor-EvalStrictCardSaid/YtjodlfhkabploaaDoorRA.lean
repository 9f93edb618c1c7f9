/- From a row's input to trees; what the laid variables give. -/
import Derived.Test.YtjodlfhkabploaaDoorHA
import Derived.Test.YtjodlfhkabploaaDoorRows
import Derived.ProofKit
import Derived.LaidMore
import Derived.OpenShut
import Derived.Stop.Joined
set_option linter.unusedVariables false
set_option linter.unusedSimpArgs false
namespace Go.Ab
open Go Go.Proofs Go.ChangeShapes Go.WideShapes Go.ChangeAt Go.RowKit

/-! ### Trees -/
theorem typ_int {H : Type} {P : Program} {n t : Nat} {k : IntKind} {xs : List AV} {d : DataW H} (hu : P.underlying t = some (.int k)) (h : Typ P n t xs d) : ∃ i, xs = [.int k i] ∧ d = .lit (.int k i) ∧ (Lit.int k i).wf = true := by
  cases n with
  | zero => exact h.elim
  | succ n => unfold Typ at h; rw [hu] at h; exact h
theorem typ_str {H : Type} {P : Program} {n t : Nat} {xs : List AV} {d : DataW H} (hu : P.underlying t = some .string) (h : Typ P n t xs d) : ∃ s : ByteArray, xs = [.str s] ∧ d = .lit (.string s.data.toList) ∧ s.size ≤ maxLen := by
  cases n with
  | zero => exact h.elim
  | succ n => unfold Typ at h; rw [hu] at h; exact h
theorem typ_seq {H : Type} {P : Program} {n t e : Nat} {xs : List AV} {d : DataW H} (hu : P.underlying t = some (.slice e)) (h : Typ P n t xs d) :
    ∃ (z : Bool) (ys : List AV), xs = [.seq z z (P.cellsOf e) ys] ∧ ys.length ≤ maxLen ∧ ∃ m, m < n ∧ ∀ y ∈ ys, ∃ cs dj, Typ (H := H) P m e cs dj ∧ y = mkV P e cs := by
  cases n with
  | zero => exact h.elim
  | succ n =>
    unfold Typ at h; rw [hu] at h
    rcases h with ⟨rfl, _⟩ | ⟨ys, ds, sp, rfl, _, hl, hm, hy⟩
    · exact ⟨true, [], rfl, Nat.zero_le _, n, Nat.lt_succ_self n, fun y hy => by simp at hy⟩
    · refine ⟨false, ys, rfl, hm, n, Nat.lt_succ_self n, fun y hy' => ?_⟩
      obtain ⟨j, hj, rfl⟩ := List.getElem_of_mem hy'
      obtain ⟨cs, h1, h2⟩ := hy j _ _ (List.getElem?_eq_getElem hj) (List.getElem?_eq_getElem (by omega))
      exact ⟨cs, _, h1, h2⟩
theorem typ_struct4 {H : Type} {P : Program} {n t : Nat} {f1 f2 f3 f4 : Field} {xs : List AV} {d : DataW H} (hu : P.underlying t = some (.struct #[f1, f2, f3, f4])) (h : Typ P n t xs d) :
    ∃ p1 p2 p3 p4 d1 d2 d3 d4, xs = p1 ++ p2 ++ p3 ++ p4 ∧ ∃ m, m < n ∧ Typ (H := H) P m f1.type p1 d1 ∧ Typ (H := H) P m f2.type p2 d2 ∧ Typ (H := H) P m f3.type p3 d3 ∧ Typ (H := H) P m f4.type p4 d4 := by
  cases n with
  | zero => exact h.elim
  | succ n =>
    unfold Typ at h; rw [hu] at h
    obtain ⟨parts, ds, hl, hd, _, rfl, hp⟩ := h
    match parts, ds, hl, hd, hp with
    | [p1, p2, p3, p4], [d1, d2, d3, d4], _, _, hp =>
      exact ⟨p1, p2, p3, p4, d1, d2, d3, d4, by simp, n, Nat.lt_succ_self n, hp 0 f1 p1 d1 rfl rfl rfl, hp 1 f2 p2 d2 rfl rfl rfl, hp 2 f3 p3 d3 rfl rfl rfl, hp 3 f4 p4 d4 rfl rfl rfl⟩
theorem fields4 {u : Option TypeDesc} {a b c d : Nat} (h : (match u with | some (.struct fs) => fs.toList.map (·.type) | _ => []) = [a, b, c, d]) : ∃ f1 f2 f3 f4, u = some (.struct #[f1, f2, f3, f4]) ∧ f1.type = a ∧ f2.type = b ∧ f3.type = c ∧ f4.type = d := by
  split at h
  · rename_i fs
    obtain ⟨l⟩ := fs
    simp only at h
    match l, h with
    | [f1, f2, f3, f4], h =>
      simp only [List.map_cons, List.map_nil, List.cons.injEq, and_true] at h
      exact ⟨f1, f2, f3, f4, rfl, h.1, h.2.1, h.2.2.1, h.2.2.2⟩
  · simp at h
theorem nodeF : ∃ f1 f2 f3 f4, Tryd.prog.underlying 24 = some (.struct #[f1, f2, f3, f4]) ∧ f1.type = 5 ∧ f2.type = 3 ∧ f3.type = 9 ∧ f4.type = 22 := fields4 (by kernel_rfl)
theorem u_u8 : Tryd.prog.underlying 5 = some (.int .u8) := by kernel_rfl
theorem u_int : Tryd.prog.underlying 3 = some (.int .i64) := by kernel_rfl
theorem u_str : Tryd.prog.underlying 9 = some .string := by kernel_rfl
theorem u_nodes : Tryd.prog.underlying 22 = some (.slice 24) := by kernel_rfl
theorem c_node : Tryd.prog.cellsOf 24 = 4 := by kernel_rfl
theorem a_node : aggT Tryd.prog 24 = true := by kernel_rfl
theorem trees_of {Q : AV → Prop} (hQ : ∀ y, Q y → ∃ t : Tr, t.ok ∧ y = t.av) : ∀ (ys : List AV), (∀ y ∈ ys, Q y) → ∃ ts : List Tr, okL ts ∧ ys = avs ts
  | [], _ => ⟨[], trivial, rfl⟩
  | y :: ys, h => by
    obtain ⟨t, h1, rfl⟩ := hQ y (h y (by simp))
    obtain ⟨ts, h2, rfl⟩ := trees_of hQ ys (fun z hz => h z (List.mem_cons_of_mem _ hz))
    exact ⟨t :: ts, ⟨h1, h2⟩, rfl⟩
/-- An argument of the program's tree type is a tree. -/
theorem tree_of {H : Type} : ∀ (n : Nat) {xs : List AV} {d : DataW H}, Typ Tryd.prog n 24 xs d → ∃ t : Tr, t.ok ∧ mkV Tryd.prog 24 xs = t.av := by
  intro n
  induction n using Nat.strongRecOn with
  | _ n ih =>
    intro xs d h
    obtain ⟨f1, f2, f3, f4, hu, e1, e2, e3, e4⟩ := nodeF
    obtain ⟨p1, p2, p3, p4, d1, d2, d3, d4, rfl, m, hm, h1, h2, h3, h4⟩ := typ_struct4 hu h
    rw [e1] at h1
    rw [e2] at h2
    rw [e3] at h3
    rw [e4] at h4
    obtain ⟨k, rfl, _, w1⟩ := typ_int u_u8 h1
    obtain ⟨num, rfl, _, w2⟩ := typ_int u_int h2
    obtain ⟨s, rfl, _, w3⟩ := typ_str u_str h3
    obtain ⟨z, ys, rfl, w4, m', hm', hy⟩ := typ_seq u_nodes h4
    obtain ⟨ts, w5, rfl⟩ := trees_of (Q := fun y => ∃ cs dj, Typ (H := H) Tryd.prog m' 24 cs dj ∧ y = mkV Tryd.prog 24 cs)
      (fun y ⟨cs, dj, ht, hy⟩ => by
        obtain ⟨t, a1, a2⟩ := ih m' (by omega) ht
        exact ⟨t, a1, hy.trans a2⟩) ys hy
    refine ⟨.mk k num s z z ts, ⟨w1, w2, w3, by rw [avs_length] at w4; exact w4, w5⟩, ?_⟩
    unfold mkV
    rw [a_node, c_node]
    rfl
theorem plain_all : plainS Tryd.prog [24, 5, 3, 9, 22, 138, 26, 4] = true := by kernel_rfl

/-! ### The laid variables -/
def laidL : List (String × DataW Unit) := [("unicode.White_Space", Go.Proofs.YtjodlfhkabploaaDoor.Rows.laid_unicode_White_Space), ("strings.asciiSpace", Go.Proofs.YtjodlfhkabploaaDoor.Rows.laid_strings_asciiSpace)]
theorem g_ascii : Tryd.prog.globalNamed "strings.asciiSpace" = some 0 := by kernel_rfl
theorem g_white : Tryd.prog.globalNamed "unicode.White_Space" = some 1 := by kernel_rfl
def asciiV : List Int := (List.range 256).map fun i => if i = 9 ∨ i = 10 ∨ i = 11 ∨ i = 12 ∨ i = 13 ∨ i = 32 then 1 else 0
theorem laid_ascii : (Go.Proofs.YtjodlfhkabploaaDoor.Rows.laid_strings_asciiSpace : DataW Unit) = .agg (asciiV.map fun i => .lit (.int .u8 i)) := by kernel_rfl
theorem ascii_cells : asciiSp = asciiV.map (fun i => .int .u8 i) := by kernel_rfl
theorem flat_ones {H : Type} {P : Program} {n t : Nat} {k : IntKind} (hu : P.underlying t = some (.int k)) : ∀ (vs : List Int) (parts : List (List AV)) (ds : List (DataW H)), parts.length = ds.length → ds = vs.map (fun i => .lit (.int k i)) →
    (∀ (j : Nat) (p : List AV) (dj : DataW H), parts[j]? = some p → ds[j]? = some dj → Typ P n t p dj) → parts.flatten = vs.map (fun i => .int k i)
  | [], parts, ds, hl, hd, h => by
    subst hd
    have : parts = [] := List.eq_nil_of_length_eq_zero (by simpa using hl)
    subst this; rfl
  | v :: vs, [], ds, hl, hd, h => by subst hd; simp at hl
  | v :: vs, p :: parts, ds, hl, hd, h => by
    subst hd
    obtain ⟨i, rfl, hi, _⟩ := typ_int hu (h 0 p _ rfl rfl)
    simp only [DataW.lit.injEq, Lit.int.injEq, true_and] at hi
    subst hi
    have := flat_ones hu vs parts (vs.map fun i => .lit (.int k i)) (by simpa using hl) rfl (fun j q dj hq hdj => h (j + 1) q dj (by simpa using hq) (by simpa using hdj))
    simp only [List.flatten_cons, this, List.map_cons, List.singleton_append]
theorem plain_ascii : plainS Tryd.prog [124, 5] = true := by kernel_rfl
theorem t_ascii : (Tryd.prog.globals[0]?).map (·.type) = some 124 := by kernel_rfl
theorem u_ascii : Tryd.prog.underlying 124 = some (.array 256 5) := by kernel_rfl
theorem plain_laid : (laidL.all fun x => x.2.handleName?.isNone) = true := by kernel_rfl
/-- The condition on the laid variables gives the table's cells. -/
theorem gl_of_laid {W : World} (h : laidMetH Tryd.prog laidL W) : Gl cx (U0 W) := by
  rw [MakeChecks.laidMetH_plain _ _ _ plain_laid] at h
  obtain ⟨ps, ⟨g0, t0, cs0, f0, p0, q0, hg0, ht0, hv0, hd0, ⟨g1, t1, cs1, f1, p1, q1, hg1, ht1, hv1, hd1, _, _⟩, _⟩, _, _⟩ := h
  obtain rfl := Option.some.inj (g_ascii.symm.trans hg1)
  obtain rfl := Option.some.inj (t_ascii.symm.trans ht1)
  obtain ⟨xs, hr, hl, ht⟩ := read_ok plain_ascii f1 _ _ _ (by simp) hd1
  have hxs : xs = asciiSp := by
    simp only at ht
    rw [laid_ascii] at ht
    cases f1 with
    | zero => exact ht.elim
    | succ n =>
      unfold Typ at ht
      rw [u_ascii] at ht
      obtain ⟨parts, ds, h1, h2, h3, rfl, h5⟩ := ht
      simp only [DataW.agg.injEq] at h3
      rw [ascii_cells]
      exact flat_ones u_u8 asciiV parts ds (by omega) h3.symm h5
  subst hxs
  intro g cs hg
  have hg : (if g = 0 then some asciiSp else none) = some cs := hg
  split at hg
  · rename_i hgz
    subst hgz
    cases hg
    have hcell : ∀ (m : Nat) (y : AV), asciiSp[m]? = some y → ∃ c, W.cell? ⟨0, m, none⟩ = some c ∧ Rep (U0 W) y c := by
      intro m y hy
      obtain ⟨c, hc, hrep⟩ := hr.get hy
      refine ⟨c, ?_, hrep⟩
      rw [World.var?_cell g_ascii hv1 m]
      simpa using hc
    obtain ⟨c0, hc0, _⟩ := hcell 0 (.int .u8 0) rfl
    refine ⟨by kernel_rfl, .rptr asciiSp _ (fun m => ((W.cell? ⟨0, m, none⟩).getD default)) (fun e => by have := congrArg List.length e; simp [asciiSp] at this) hl ?_ (fun m y hy => ?_) (fun m y hy => ?_)⟩
    · show 0 < W.heap.size
      unfold World.cell? at hc0
      cases hh : W.heap[(0 : Nat)]? with
      | none => simp [hh] at hc0
      | some o => exact (Array.getElem?_eq_some_iff.1 hh).1
    · obtain ⟨c, hc, _⟩ := hcell m y hy
      show W.cell? _ = _
      rw [add_lit, Nat.zero_add, hc]
      rfl
    · obtain ⟨c, hc, hrep⟩ := hcell m y hy
      rw [hc]
      exact hrep
  · cases hg
theorem typAll_one {H : Type} {P : Program} {t : Nat} {al : List AV} {ds : List (DataW H)} (h : TypAll P [t] al ds) : ∃ a d, al = [a] ∧ ds = [d] ∧ ∃ n cs, Typ P n t cs d ∧ a = mkV P t cs := by
  cases al with
  | nil => cases ds <;> exact h.elim
  | cons a al =>
    cases ds with
    | nil => exact h.elim
    | cons d ds =>
      obtain ⟨⟨n, cs, h1, h2⟩, h3⟩ := h
      cases al with
      | cons _ _ => cases ds <;> exact h3.elim
      | nil =>
        cases ds with
        | cons _ _ => exact h3.elim
        | nil => exact ⟨a, d, rfl, rfl, n, cs, h1, h2⟩
theorem typAll_cons {H : Type} {P : Program} {t : Nat} {ts : List Nat} {al : List AV} {ds : List (DataW H)} (h : TypAll P (t :: ts) al ds) : ∃ a d al' ds', al = a :: al' ∧ ds = d :: ds' ∧ (∃ n cs, Typ P n t cs d ∧ a = mkV P t cs) ∧ TypAll P ts al' ds' := by
  cases al with
  | nil => cases ds <;> exact h.elim
  | cons a al =>
    cases ds with
    | nil => exact h.elim
    | cons d ds => exact ⟨a, d, al, ds, rfl, rfl, h.1, h.2⟩
theorem typAll_nil {H : Type} {P : Program} {al : List AV} {ds : List (DataW H)} (h : TypAll P [] al ds) : al = [] ∧ ds = [] := by
  cases al with
  | nil => cases ds with
    | nil => exact ⟨rfl, rfl⟩
    | cons _ _ => exact h.elim
  | cons _ _ => cases ds <;> exact h.elim
theorem own : ownKnob Tryd.prog.godebug = none := by kernel_rfl
theorem door_met (os : Os) (args : Array Value) : laidMetH Tryd.prog laidL ((World.doorLaid Tryd.prog 400 os).forCall (fun _ _ => 0) ⟨#[], args, []⟩).memory :=
  laidMetH_of_parts3 (fuel := 8) (laidMet_of_run' 300 (by kernel_rfl) (by kernel_rfl)) (by kernel_rfl) (by kernel_rfl)
theorem laid_out : laidOutB Tryd.prog = true := by kernel_rfl
theorem u_bool : Tryd.prog.underlying 4 = some .bool := by kernel_rfl
theorem readable : ∀ t ∈ [24, 5, 3, 9, 22, 138, 26, 4], Tryd.prog.readableRec t = true ∧ t < Tryd.prog.types.size := by
  intro t ht
  simp only [List.mem_cons, List.not_mem_nil, or_false] at ht
  rcases ht with rfl | rfl | rfl | rfl | rfl | rfl | rfl | rfl <;> exact ⟨by kernel_rfl, of_decide_eq_true (by kernel_rfl)⟩
end Go.Ab
