/- The program's trees as abstract values; the evaluator over this program. -/
import Derived.Test.YtjodlfhkabploaaDoorProg
import Derived.Test.YtjodlfhkabploaaDoorJD
set_option linter.unusedVariables false
set_option linter.unusedSimpArgs false
namespace Go.Ab
open Go Go.Proofs

def asciiSp : List AV := (List.range 256).map fun i => .int .u8 (if i = 9 ∨ i = 10 ∨ i = 11 ∨ i = 12 ∨ i = 13 ∨ i = 32 then 1 else 0)
/-- The functions whose calls share the caller's memory. -/
def shared (f : Nat) : Bool := [
 74,
 75,
  1000000].contains f
noncomputable def cx : Cx := { P := Tryd.prog, X := fun _ => none, sh := shared, G := fun g => if g = 0 then some asciiSp else none }
theorem cx_ok : CxOK cx := ⟨by kernel_rfl, fun f g args r h => by cases h⟩

abbrev nd (k : Int) (num : Int) (s : ByteArray) (kids : AV) : AV := .agg [.int .u8 k, .int .i64 num, .str s, kids]
/-- A tree as the program's api.Node. -/
inductive Tr where
  | mk (k num : Int) (s : ByteArray) (z fl : Bool) (kids : List Tr)
mutual
def Tr.av : Tr → AV
  | .mk k num s z fl kids => nd k num s (.seq z fl 4 (avs kids))
def avs : List Tr → List AV
  | [] => []
  | t :: ts => t.av :: avs ts
end
mutual
theorem av_pure : ∀ (t : Tr), t.av.pure = true
  | .mk k num s z fl kids => by
    have := avs_pure kids
    simp [Tr.av, AV.pure, pureL, this]
theorem avs_pure : ∀ (ts : List Tr), pureL (avs ts) = true
  | [] => rfl
  | t :: ts => by
    have h1 := av_pure t
    have h2 := avs_pure ts
    simp [avs, pureL, h1, h2]
end
theorem avs_length : ∀ (ts : List Tr), (avs ts).length = ts.length
  | [] => rfl
  | t :: ts => by simp [avs, avs_length ts]
theorem avs_get : ∀ (ts : List Tr) (i : Nat), (avs ts)[i]? = (ts[i]?).map Tr.av
  | [], i => by simp [avs]
  | t :: ts, 0 => by simp [avs]
  | t :: ts, i + 1 => by simpa [avs] using avs_get ts i
theorem avs_map (ts : List Tr) : avs ts = ts.map Tr.av := by
  induction ts with
  | nil => rfl
  | cons t ts ih => simp [avs, ih]
theorem av_nd (t : Tr) : ∃ k num s ks, t.av = nd k num s ks := by
  cases t with | mk k num s z fl kids => exact ⟨k, num, s, _, rfl⟩
/-! ### Trees within the machine's bounds -/
mutual
def Tr.ok : Tr → Prop
  | .mk k num s z fl kids => (Lit.int .u8 k).wf = true ∧ (Lit.int .i64 num).wf = true ∧ s.size ≤ maxLen ∧ kids.length ≤ maxLen ∧ okL kids
def okL : List Tr → Prop
  | [] => True
  | t :: ts => t.ok ∧ okL ts
end
theorem okL_mem : ∀ {ts : List Tr}, okL ts → ∀ t ∈ ts, t.ok
  | [], _, t, ht => by simp at ht
  | u :: ts, h, t, ht => by
    rcases List.mem_cons.1 ht with rfl | ht
    · exact h.1
    · exact okL_mem h.2 t ht
end Go.Ab
