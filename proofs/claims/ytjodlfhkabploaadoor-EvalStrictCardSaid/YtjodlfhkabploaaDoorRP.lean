/- Programs out of a row's input. -/
import Derived.Test.YtjodlfhkabploaaDoorRA
import Derived.Test.YtjodlfhkabploaaDoorGP
set_option linter.unusedVariables false
set_option linter.unusedSimpArgs false
namespace Go.Ab
open Go Go.Proofs Go.ChangeShapes Go.WideShapes Go.ChangeAt Go.RowKit

theorem typ_struct3 {H : Type} {P : Program} {n t : Nat} {f1 f2 f3 : Field} {xs : List AV} {d : DataW H} (hu : P.underlying t = some (.struct #[f1, f2, f3])) (h : Typ P n t xs d) :
    ∃ p1 p2 p3 d1 d2 d3, xs = p1 ++ p2 ++ p3 ∧ ∃ m, m < n ∧ Typ (H := H) P m f1.type p1 d1 ∧ Typ (H := H) P m f2.type p2 d2 ∧ Typ (H := H) P m f3.type p3 d3 := by
  cases n with
  | zero => exact h.elim
  | succ n =>
    unfold Typ at h; rw [hu] at h
    obtain ⟨parts, ds, hl, hd, _, rfl, hp⟩ := h
    match parts, ds, hl, hd, hp with
    | [p1, p2, p3], [d1, d2, d3], _, _, hp =>
      exact ⟨p1, p2, p3, d1, d2, d3, by simp, n, Nat.lt_succ_self n, hp 0 f1 p1 d1 rfl rfl rfl, hp 1 f2 p2 d2 rfl rfl rfl, hp 2 f3 p3 d3 rfl rfl rfl⟩
theorem fields3 {u : Option TypeDesc} {a b c : Nat} (h : (match u with | some (.struct fs) => fs.toList.map (·.type) | _ => []) = [a, b, c]) : ∃ f1 f2 f3, u = some (.struct #[f1, f2, f3]) ∧ f1.type = a ∧ f2.type = b ∧ f3.type = c := by
  split at h
  · rename_i fs
    obtain ⟨l⟩ := fs
    simp only at h
    match l, h with
    | [f1, f2, f3], h =>
      simp only [List.map_cons, List.map_nil, List.cons.injEq, and_true] at h
      exact ⟨f1, f2, f3, rfl, h.1, h.2.1, h.2.2⟩
  · simp at h
theorem cells_of {H : Type} {n : Nat} {xs : List AV} {d : DataW H} (h : Typ Tryd.prog n 24 xs d) : ∃ t : Tr, t.ok ∧ xs = t.cells := by
  obtain ⟨t, h1, h2⟩ := tree_of n h
  refine ⟨t, h1, ?_⟩
  unfold mkV at h2
  rw [a_node, if_pos rfl, Tr.av_cells] at h2
  cases h2
  rfl
theorem list_of {α : Type} {Q : AV → Prop} {R : α → Prop} {f : α → AV} (hQ : ∀ y, Q y → ∃ t : α, R t ∧ y = f t) : ∀ (ys : List AV), (∀ y ∈ ys, Q y) → ∃ ts : List α, (∀ t ∈ ts, R t) ∧ ys = ts.map f
  | [], _ => ⟨[], fun t ht => by simp at ht, rfl⟩
  | y :: ys, h => by
    obtain ⟨t, h1, rfl⟩ := hQ y (h y (by simp))
    obtain ⟨ts, h2, rfl⟩ := list_of hQ ys (fun z hz => h z (List.mem_cons_of_mem _ hz))
    exact ⟨t :: ts, fun u hu => by
      rcases List.mem_cons.1 hu with rfl | hu
      · exact h1
      · exact h2 u hu, rfl⟩
theorem varF : ∃ f1 f2 f3, Tryd.prog.underlying 91 = some (.struct #[f1, f2, f3]) ∧ f1.type = 9 ∧ f2.type = 5 ∧ f3.type = 3 := fields3 (by kernel_rfl)
theorem procF : ∃ f1 f2 f3, Tryd.prog.underlying 71 = some (.struct #[f1, f2, f3]) ∧ f1.type = 9 ∧ f2.type = 64 ∧ f3.type = 24 := fields3 (by kernel_rfl)
theorem progF : ∃ f1 f2 f3, Tryd.prog.underlying 67 = some (.struct #[f1, f2, f3]) ∧ f1.type = 64 ∧ f2.type = 65 ∧ f3.type = 24 := fields3 (by kernel_rfl)
theorem u_vars : Tryd.prog.underlying 64 = some (.slice 91) := by kernel_rfl
theorem u_procs : Tryd.prog.underlying 65 = some (.slice 71) := by kernel_rfl
theorem c_var : Tryd.prog.cellsOf 91 = 3 := by kernel_rfl
theorem c_proc : Tryd.prog.cellsOf 71 = 6 := by kernel_rfl
theorem a_var : aggT Tryd.prog 91 = true := by kernel_rfl
theorem a_proc : aggT Tryd.prog 71 = true := by kernel_rfl
theorem a_prog : aggT Tryd.prog 67 = true := by kernel_rfl
theorem var_of {H : Type} {n : Nat} {xs : List AV} {d : DataW H} (h : Typ Tryd.prog n 91 xs d) : ∃ v : VarD, v.ok ∧ mkV Tryd.prog 91 xs = v.av := by
  obtain ⟨f1, f2, f3, hu, e1, e2, e3⟩ := varF
  obtain ⟨p1, p2, p3, d1, d2, d3, rfl, m, hm, h1, h2, h3⟩ := typ_struct3 hu h
  rw [e1] at h1
  rw [e2] at h2
  rw [e3] at h3
  obtain ⟨s, rfl, _, w1⟩ := typ_str u_str h1
  obtain ⟨k, rfl, _, w2⟩ := typ_int u_u8 h2
  obtain ⟨l, rfl, _, w3⟩ := typ_int u_int h3
  refine ⟨⟨s, k, l⟩, ⟨w2, w3, w1⟩, ?_⟩
  unfold mkV
  rw [a_var]
  rfl
theorem vars_of {H : Type} {n : Nat} {xs : List AV} {d : DataW H} (h : Typ Tryd.prog n 64 xs d) : ∃ (z : Bool) (l : List VarD), l.length ≤ maxLen ∧ (∀ v ∈ l, v.ok) ∧ xs = [.seq z z 3 (vavs l)] := by
  obtain ⟨z, ys, rfl, w4, m', hm', hy⟩ := typ_seq u_vars h
  obtain ⟨ts, w5, rfl⟩ := list_of (f := VarD.av) (R := VarD.ok) (Q := fun y => ∃ cs dj, Typ (H := H) Tryd.prog m' 91 cs dj ∧ y = mkV Tryd.prog 91 cs)
    (fun y ⟨cs, dj, ht, hy⟩ => by
      obtain ⟨t, a1, a2⟩ := var_of ht
      exact ⟨t, a1, hy.trans a2⟩) ys hy
  exact ⟨z, ts, by simpa using w4, w5, by rw [c_var]; rfl⟩
theorem proc_of {H : Type} {n : Nat} {xs : List AV} {d : DataW H} (h : Typ Tryd.prog n 71 xs d) : ∃ v : Prc, v.ok ∧ mkV Tryd.prog 71 xs = v.av := by
  obtain ⟨f1, f2, f3, hu, e1, e2, e3⟩ := procF
  obtain ⟨p1, p2, p3, d1, d2, d3, rfl, m, hm, h1, h2, h3⟩ := typ_struct3 hu h
  rw [e1] at h1
  rw [e2] at h2
  rw [e3] at h3
  obtain ⟨s, rfl, _, w1⟩ := typ_str u_str h1
  obtain ⟨z, l, w2, w3, rfl⟩ := vars_of h2
  obtain ⟨t, w4, rfl⟩ := cells_of h3
  refine ⟨⟨s, z, z, l, t⟩, ⟨w1, w2, w3, w4⟩, ?_⟩
  unfold mkV
  rw [a_proc]
  rfl
theorem prog_of {H : Type} {n : Nat} {xs : List AV} {d : DataW H} (h : Typ Tryd.prog n 67 xs d) : ∃ v : Pgm, v.ok ∧ mkV Tryd.prog 67 xs = v.av := by
  obtain ⟨f1, f2, f3, hu, e1, e2, e3⟩ := progF
  obtain ⟨p1, p2, p3, d1, d2, d3, rfl, m, hm, h1, h2, h3⟩ := typ_struct3 hu h
  rw [e1] at h1
  rw [e2] at h2
  rw [e3] at h3
  obtain ⟨z, l, w2, w3, rfl⟩ := vars_of h1
  obtain ⟨z', ys, rfl, w4, m', hm', hy⟩ := typ_seq u_procs h2
  obtain ⟨ts, w5, rfl⟩ := list_of (f := Prc.av) (R := Prc.ok) (Q := fun y => ∃ cs dj, Typ (H := H) Tryd.prog m' 71 cs dj ∧ y = mkV Tryd.prog 71 cs)
    (fun y ⟨cs, dj, ht, hy⟩ => by
      obtain ⟨t, a1, a2⟩ := proc_of ht
      exact ⟨t, a1, hy.trans a2⟩) ys hy
  obtain ⟨t, w6, rfl⟩ := cells_of h3
  refine ⟨⟨z, z, l, z', z', ts, t⟩, ⟨w2, w3, by simpa using w4, w5, w6⟩, ?_⟩
  unfold mkV
  rw [a_prog, c_proc]
  rfl
theorem plain_prog : plainS Tryd.prog [67, 64, 65, 91, 71, 24, 5, 3, 9, 22] = true := by kernel_rfl
theorem readable_prog : ∀ t ∈ [67, 5], Tryd.prog.readableRec t = true ∧ t < Tryd.prog.types.size := by
  intro t ht
  simp only [List.mem_cons, List.not_mem_nil, or_false] at ht
  rcases ht with rfl | rfl <;> exact ⟨by kernel_rfl, of_decide_eq_true (by kernel_rfl)⟩
theorem u8_of {H : Type} {n : Nat} {xs : List AV} {d : DataW H} (h : Typ Tryd.prog n 5 xs d) : ∃ v : Int, (Lit.int .u8 v).wf = true ∧ mkV Tryd.prog 5 xs = .int .u8 v := by
  obtain ⟨k, rfl, _, w⟩ := typ_int u_u8 h
  exact ⟨k, w, by rw [mkV, if_neg (by unfold aggT; rw [u_u8]; simp)]; rfl⟩
end Go.Ab
