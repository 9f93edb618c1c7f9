/- Variables, numbers and texts out of a row's input. -/
import Derived.Test.YtjodlfhkabploaaDoorRP
import Derived.Test.YtjodlfhkabploaaDoorHS
set_option linter.unusedVariables false
set_option linter.unusedSimpArgs false
namespace Go.Ab
open Go Go.Proofs Go.ChangeShapes Go.WideShapes Go.ChangeAt Go.RowKit

theorem typ_struct2 {H : Type} {P : Program} {n t : Nat} {f1 f2 : Field} {xs : List AV} {d : DataW H} (hu : P.underlying t = some (.struct #[f1, f2])) (h : Typ P n t xs d) :
    ∃ p1 p2 d1 d2, xs = p1 ++ p2 ∧ ∃ m, m < n ∧ Typ (H := H) P m f1.type p1 d1 ∧ Typ (H := H) P m f2.type p2 d2 := by
  cases n with
  | zero => exact h.elim
  | succ n =>
    unfold Typ at h; rw [hu] at h
    obtain ⟨parts, ds, hl, hd, _, rfl, hp⟩ := h
    match parts, ds, hl, hd, hp with
    | [p1, p2], [d1, d2], _, _, hp =>
      exact ⟨p1, p2, d1, d2, by simp, n, Nat.lt_succ_self n, hp 0 f1 p1 d1 rfl rfl rfl, hp 1 f2 p2 d2 rfl rfl rfl⟩
theorem fields2 {u : Option TypeDesc} {a b : Nat} (h : (match u with | some (.struct fs) => fs.toList.map (·.type) | _ => []) = [a, b]) : ∃ f1 f2, u = some (.struct #[f1, f2]) ∧ f1.type = a ∧ f2.type = b := by
  split at h
  · rename_i fs
    obtain ⟨l⟩ := fs
    simp only at h
    match l, h with
    | [f1, f2], h =>
      simp only [List.map_cons, List.map_nil, List.cons.injEq, and_true] at h
      exact ⟨f1, f2, rfl, h.1, h.2⟩
  · simp at h
structure IntL where
  z : Bool
  l : List Int
def IntL.av (v : IntL) : AV := .seq v.z v.z 1 (iavs v.l)
def IntL.ok (v : IntL) : Prop := v.l.length ≤ maxLen ∧ ∀ n ∈ v.l, (Lit.int .i64 n).wf = true
structure CelL where
  z : Bool
  l : List Cel
def CelL.av (v : CelL) : AV := .seq v.z v.z 2 (cavs v.l)
def CelL.ok (v : CelL) : Prop := v.l.length ≤ maxLen ∧ ∀ c ∈ v.l, c.ok
theorem u_ints : Tryd.prog.underlying 26 = some (.slice 3) := by kernel_rfl
theorem c_int : Tryd.prog.cellsOf 3 = 1 := by kernel_rfl
theorem ints_at {H : Type} {n : Nat} {xs : List AV} {d : DataW H} (h : Typ Tryd.prog n 26 xs d) : ∃ v : IntL, v.ok ∧ xs = [v.av] := by
  obtain ⟨z, ys, rfl, w4, m', hm', hy⟩ := typ_seq u_ints h
  obtain ⟨ts, w5, rfl⟩ := list_of (f := iav) (R := fun n : Int => (Lit.int .i64 n).wf = true) (Q := fun y => ∃ cs dj, Typ (H := H) Tryd.prog m' 3 cs dj ∧ y = mkV Tryd.prog 3 cs)
    (fun y ⟨cs, dj, ht, hy⟩ => by
      obtain ⟨k, rfl, _, w⟩ := typ_int u_int ht
      refine ⟨k, w, ?_⟩
      rw [hy, mkV, if_neg (by unfold aggT; rw [u_int]; simp)]; rfl) ys hy
  exact ⟨⟨z, ts⟩, ⟨by simpa using w4, w5⟩, by rw [c_int]; rfl⟩
theorem ints_of {H : Type} {n : Nat} {xs : List AV} {d : DataW H} (h : Typ Tryd.prog n 26 xs d) : ∃ v : IntL, v.ok ∧ mkV Tryd.prog 26 xs = v.av := by
  obtain ⟨v, ho, rfl⟩ := ints_at h
  exact ⟨v, ho, by rw [mkV, if_neg (by unfold aggT; rw [u_ints]; simp)]; rfl⟩
theorem celF : ∃ f1 f2, Tryd.prog.underlying 32 = some (.struct #[f1, f2]) ∧ f1.type = 9 ∧ f2.type = 26 := fields2 (by kernel_rfl)
theorem u_cels : Tryd.prog.underlying 25 = some (.slice 32) := by kernel_rfl
theorem c_cel : Tryd.prog.cellsOf 32 = 2 := by kernel_rfl
theorem a_cel : aggT Tryd.prog 32 = true := by kernel_rfl
theorem cel_of {H : Type} {n : Nat} {xs : List AV} {d : DataW H} (h : Typ Tryd.prog n 32 xs d) : ∃ v : Cel, v.ok ∧ mkV Tryd.prog 32 xs = v.av := by
  obtain ⟨f1, f2, hu, e1, e2⟩ := celF
  obtain ⟨p1, p2, d1, d2, rfl, m, hm, h1, h2⟩ := typ_struct2 hu h
  rw [e1] at h1
  rw [e2] at h2
  obtain ⟨s, rfl, _, w1⟩ := typ_str u_str h1
  obtain ⟨l, w2, rfl⟩ := ints_at h2
  refine ⟨⟨s, l.z, l.z, l.l⟩, ⟨w1, w2.1⟩, ?_⟩
  unfold mkV
  rw [a_cel]
  rfl
theorem cells_of' {H : Type} {n : Nat} {xs : List AV} {d : DataW H} (h : Typ Tryd.prog n 25 xs d) : ∃ v : CelL, v.ok ∧ mkV Tryd.prog 25 xs = v.av := by
  obtain ⟨z, ys, rfl, w4, m', hm', hy⟩ := typ_seq u_cels h
  obtain ⟨ts, w5, rfl⟩ := list_of (f := Cel.av) (R := Cel.ok) (Q := fun y => ∃ cs dj, Typ (H := H) Tryd.prog m' 32 cs dj ∧ y = mkV Tryd.prog 32 cs)
    (fun y ⟨cs, dj, ht, hy⟩ => by
      obtain ⟨t, a1, a2⟩ := cel_of ht
      exact ⟨t, a1, hy.trans a2⟩) ys hy
  refine ⟨⟨z, ts⟩, ⟨by simpa using w4, w5⟩, ?_⟩
  rw [mkV, if_neg (by unfold aggT; rw [u_cels]; simp), c_cel]
  rfl
theorem int_of {H : Type} {n : Nat} {xs : List AV} {d : DataW H} (h : Typ Tryd.prog n 3 xs d) : ∃ v : Int, (Lit.int .i64 v).wf = true ∧ mkV Tryd.prog 3 xs = .int .i64 v := by
  obtain ⟨k, rfl, _, w⟩ := typ_int u_int h
  exact ⟨k, w, by rw [mkV, if_neg (by unfold aggT; rw [u_int]; simp)]; rfl⟩
theorem str_of {H : Type} {n : Nat} {xs : List AV} {d : DataW H} (h : Typ Tryd.prog n 9 xs d) : ∃ v : ByteArray, v.size ≤ maxLen ∧ mkV Tryd.prog 9 xs = .str v := by
  obtain ⟨k, rfl, _, w⟩ := typ_str u_str h
  exact ⟨k, w, by rw [mkV, if_neg (by unfold aggT; rw [u_str]; simp)]; rfl⟩
theorem plain_cells : plainS Tryd.prog [24, 5, 3, 9, 22, 25, 32, 26] = true := by kernel_rfl
theorem readable_cells : ∀ t ∈ [24, 5, 3, 9, 26, 25], Tryd.prog.readableRec t = true ∧ t < Tryd.prog.types.size := by
  intro t ht
  simp only [List.mem_cons, List.not_mem_nil, or_false] at ht
  rcases ht with rfl | rfl | rfl | rfl | rfl | rfl <;> exact ⟨by kernel_rfl, of_decide_eq_true (by kernel_rfl)⟩
end Go.Ab
