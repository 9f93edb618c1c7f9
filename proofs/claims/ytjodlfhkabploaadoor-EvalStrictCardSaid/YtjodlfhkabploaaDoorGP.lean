/- Declarations, procedures and programs as abstract values. -/
import Derived.Test.YtjodlfhkabploaaDoorHA
set_option linter.unusedVariables false
set_option linter.unusedSimpArgs false
namespace Go.Ab
open Go Go.Proofs

abbrev vd (s : ByteArray) (k l : Int) : AV := .agg [.str s, .int .u8 k, .int .i64 l]
abbrev pc (s : ByteArray) (ps : AV) (k num : Int) (t : ByteArray) (kids : AV) : AV := .agg [.str s, ps, .int .u8 k, .int .i64 num, .str t, kids]
abbrev pr (vs ps : AV) (k num : Int) (s : ByteArray) (kids : AV) : AV := .agg [vs, ps, .int .u8 k, .int .i64 num, .str s, kids]
structure VarD where
  name : ByteArray
  kind : Int
  len : Int
def VarD.av (v : VarD) : AV := vd v.name v.kind v.len
def vavs (l : List VarD) : List AV := l.map VarD.av
structure Prc where
  name : ByteArray
  z : Bool
  fl : Bool
  params : List VarD
  body : Tr
def Tr.cells : Tr → List AV
  | .mk k num s z fl kids => [.int .u8 k, .int .i64 num, .str s, .seq z fl 4 (avs kids)]
theorem Tr.av_cells (t : Tr) : t.av = .agg t.cells := by cases t; rfl
def Prc.av (p : Prc) : AV := .agg (.str p.name :: .seq p.z p.fl 3 (vavs p.params) :: p.body.cells)
def pavs (l : List Prc) : List AV := l.map Prc.av
structure Pgm where
  zv : Bool
  fv : Bool
  vars : List VarD
  zp : Bool
  fp : Bool
  procs : List Prc
  main : Tr
def Pgm.av (p : Pgm) : AV := .agg (.seq p.zv p.fv 3 (vavs p.vars) :: .seq p.zp p.fp 6 (pavs p.procs) :: p.main.cells)
theorem vavs_pure (l : List VarD) : pureL (vavs l) = true := by
  induction l with
  | nil => rfl
  | cons v l ih => simp only [vavs, List.map_cons, pureL, Bool.and_eq_true] at ih ⊢; exact ⟨rfl, ih⟩
theorem cells_pure (t : Tr) : pureL t.cells = true := by
  cases t with | mk k num s z fl kids => simp [Tr.cells, pureL, AV.pure, avs_pure]
theorem prc_pure (p : Prc) : p.av.pure = true := by simp [Prc.av, AV.pure, pureL, vavs_pure, cells_pure]
theorem pavs_pure (l : List Prc) : pureL (pavs l) = true := by
  induction l with
  | nil => rfl
  | cons v l ih => simp only [pavs, List.map_cons, pureL, Bool.and_eq_true] at ih ⊢; exact ⟨prc_pure v, ih⟩
theorem pgm_pure (p : Pgm) : p.av.pure = true := by simp [Pgm.av, AV.pure, pureL, vavs_pure, pavs_pure, cells_pure]
theorem vavs_length (l : List VarD) : (vavs l).length = l.length := by simp [vavs]
theorem pavs_length (l : List Prc) : (pavs l).length = l.length := by simp [pavs]
theorem vavs_get (l : List VarD) (i : Nat) : (vavs l)[i]? = (l[i]?).map VarD.av := by simp [vavs]
theorem pavs_get (l : List Prc) (i : Nat) : (pavs l)[i]? = (l[i]?).map Prc.av := by simp [pavs]
def VarD.ok (v : VarD) : Prop := (Lit.int .u8 v.kind).wf = true ∧ (Lit.int .i64 v.len).wf = true ∧ v.name.size ≤ maxLen
def Prc.ok (p : Prc) : Prop := p.name.size ≤ maxLen ∧ p.params.length ≤ maxLen ∧ (∀ v ∈ p.params, v.ok) ∧ p.body.ok
def Pgm.ok (p : Pgm) : Prop := p.vars.length ≤ maxLen ∧ (∀ v ∈ p.vars, v.ok) ∧ p.procs.length ≤ maxLen ∧ (∀ q ∈ p.procs, q.ok) ∧ p.main.ok
end Go.Ab
