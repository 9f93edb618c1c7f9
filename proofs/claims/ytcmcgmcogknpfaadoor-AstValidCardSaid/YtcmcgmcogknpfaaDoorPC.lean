/- Calls with pure arguments; what a path's equations are made of. -/
import Derived.Laws.BitsLemmas
import Derived.Test.YtcmcgmcogknpfaaDoorPB
set_option linter.unusedVariables false
set_option linter.unusedSimpArgs false
namespace Go.Ab
open Go

variable {cx : Cx} {F Y : CallT}

/-- A call in a memory of its own, its result frozen. -/
def Pu (F : CallT) (f : Nat) (as : List AV) (r : AV) : Prop := ∃ r0 M, F f as [] = some (r0, M) ∧ fz M 6 r0 = some r
theorem pu_mk {f : Nat} {as : List AV} {r0 r : AV} {M : Mem} (h : F f as [] = some (r0, M)) (hz : fz M 6 r0 = some r) : Pu F f as r := ⟨r0, M, h, hz⟩
theorem pu_succ {n f : Nat} {al : List AV} {r : AV} (h : Pu (evFunW cx (evFun cx n) (evYld cx n) n) f al r) : Pu (evFun cx (n + 1)) f al r := h
def bt {α : Type} (b : Bool) (x y : α) : α := match b with | true => x | false => y

theorem fz_pure {m : Mem} {x : AV} (h : x.pure = true) : ∀ n, fz m n x = some x
  | 0 => by simp [fz, h]
  | n + 1 => by simp [fz, h]
theorem idsD_pure {m : Mem} {x : AV} (h : x.pure = true) : ∀ n, idsD m n x = []
  | 0 => rfl
  | n + 1 => by simp [idsD, h]
theorem fzs_pure {m : Mem} : ∀ {xs : List AV}, pureL xs = true → fzs m xs = some xs ∧ idsDL m xs = []
  | [], _ => ⟨rfl, rfl⟩
  | x :: xs, h => by
    simp only [pureL, Bool.and_eq_true] at h
    obtain ⟨h1, h2⟩ := fzs_pure (m := m) h.2
    constructor
    · unfold fzs at h1 ⊢
      simp only [List.mapM_cons, Option.bind_eq_bind, Option.pure_def, fz_pure h.1, h1, Option.bind_some]
    · unfold idsDL at h2 ⊢
      simp only [List.flatMap_cons, idsD_pure h.1, h2, List.nil_append]

theorem call_p {g : Nat} {r : AV} {ro : Bool} {m : Mem} {first cap args : List AV} (h : Pu F g (first ++ args ++ cap) r) (hx : cx.X g = none) (hs : cx.sh g = false) (hL : pureL (first ++ args ++ cap) = true) (hr : r.pure = true) :
    callV cx ro F Y m (.fn g first cap) args = some (r, m) := by
  obtain ⟨r0, M, h1, h2⟩ := h
  obtain ⟨g1, g2⟩ := fzs_pure (m := m) hL
  simp only [callV, hx, hs, Bool.false_eq_true, if_false, g1, h1, h2, settle, hr, if_true, g2, List.isEmpty_nil, Bool.or_true]

/-- The rest of a list from a place on. -/
theorem drop_cons {α : Type} {xs l : List α} {a : α} {i : Nat} (h : xs.drop i = a :: l) : xs[i]? = some a ∧ i < xs.length ∧ xs.drop (i + 1) = l := by
  refine ⟨?_, ?_, ?_⟩
  · have := congrArg (·[0]?) h
    simpa [List.getElem?_drop] using this
  · rcases Nat.lt_or_ge i xs.length with hl | hl
    · exact hl
    · rw [List.drop_eq_nil_of_le hl] at h; cases h
  · have := congrArg List.tail h
    simpa using this
theorem drop_nil {α : Type} {xs : List α} {i : Nat} (h : xs.drop i = []) : xs.length ≤ i := by simpa using h
/-- An element of an immutable slice, its address. -/
theorem ix_seq {P : Program} {m : Mem} {t et sz : Nat} {z fl : Bool} {xs : List AV} {k : IntKind} {i : Nat} {y : AV} {cs : List AV} (he : elemT P t = some et) (hz : szT P et = some sz) (hi : xs[i]? = some y) (hc : y.cells = cs) (hn : cs ≠ []) :
    noMem m (indexAddrA P m t (.seq z fl sz xs) (.int k (i : Int))) = some (.rptr cs, m) := by
  subst hc
  have h1 : xs[(i : Int).toNat]? = some y := by simpa using hi
  simp [indexAddrA, he, hz, noMem, hi, hn]
theorem wrap_nat {i : Nat} (h : i < 9223372036854775807) : IntKind.i64.wrap ((i : Int) + 1) = ((i + 1 : Nat) : Int) := by
  rw [IntKind.wrap_i64]
  omega
/-- An environment that has these values in these temporaries, and is e elsewhere. -/
def envL : List Nat → List AV → Env → Env
  | t :: ts, v :: vs, e => upd (envL ts vs e) t v
  | _, _, e => e
theorem envL_self : ∀ {ts : List Nat} {vs : List AV} {e : Env}, ts.map e = vs → envL ts vs e = e
  | [], [], e, _ => rfl
  | [], _ :: _, e, h => by simp at h
  | t :: ts, [], e, h => by simp at h
  | t :: ts, v :: vs, e, h => by
    simp only [List.map_cons, List.cons.injEq] at h
    simp only [envL, envL_self h.2]
    funext u
    unfold upd
    split
    · rename_i hu; rw [hu]; exact h.1.symm
    · rfl
/-- The loops of a code, from the left, not those within loops. -/
def loopsOf : Code → List Code
  | .seq a b => loopsOf a ++ loopsOf b
  | .cond _ a b => loopsOf a ++ loopsOf b
  | .block _ c => loopsOf c
  | .loop c => [c]
  | _ => []
def loopC (P : Program) (f j : Nat) : Code := match (P.funcs[f]?).bind (·.body) with
  | some c => ((loopsOf c)[j]?).getD .skip
  | none => .skip
end Go.Ab
