/- Joined: XQA XQB XQC. -/
import Derived.Test.YtjodlfhkabploaaDoorJD
/- The evaluator without fuel: its limit, and runs of code over it. -/
set_option linter.unusedVariables false
set_option linter.unusedSimpArgs false
namespace Go.Ab
open Go

variable {cx : Cx}
open Classical in
noncomputable def limC (G : Nat → CallT) : CallT := fun f as m => if h : ∃ r n, G n f as m = some r then some h.choose else none
theorem limC_iff {G : Nat → CallT} (mono : ∀ n n', n ≤ n' → CLe (G n) (G n')) {f : Nat} {as : List AV} {m : Mem} {r : AV × Mem} : limC G f as m = some r ↔ ∃ n, G n f as m = some r := by
  unfold limC
  constructor
  · intro h
    split at h
    · rename_i hx
      cases h
      exact hx.choose_spec
    · cases h
  · rintro ⟨n, hn⟩
    have hx : ∃ r n, G n f as m = some r := ⟨r, n, hn⟩
    rw [dif_pos hx]
    obtain ⟨n', hn'⟩ := hx.choose_spec
    have h1 := mono n (max n n') (by omega) _ _ _ _ hn
    have h2 := mono n' (max n n') (by omega) _ _ _ _ hn'
    rw [h1] at h2
    exact h2.symm
/-- A function's calls, and a round's, with enough fuel. -/
noncomputable def Fi (cx : Cx) : CallT := limC (evFun cx)
noncomputable def Yi (cx : Cx) : CallT := limC (evYld cx)
theorem fi_iff {f : Nat} {as : List AV} {m : Mem} {r : AV × Mem} : Fi cx f as m = some r ↔ ∃ n, evFun cx n f as m = some r := limC_iff fun _ _ h => (evAll_le h).1
theorem yi_iff {f : Nat} {as : List AV} {m : Mem} {r : AV × Mem} : Yi cx f as m = some r ↔ ∃ n, evYld cx n f as m = some r := limC_iff fun _ _ h => (evAll_le h).2

theorem ioGo_lim {m : Mem} {f : Nat} {xs : List AV} {ids : List Nat} {r : AV × Mem} (h : ioGo (Fi cx) m f xs ids = some r) : ∃ N, ioGo (evFun cx N) m f xs ids = some r := by
  unfold ioGo at h ⊢
  split at h
  case isFalse => cases h
  rename_i hc
  simp only [if_pos hc]
  cases hys : renL (fun id => idxA ids id 0) xs with
  | none => simp [hys] at h
  | some ys =>
    cases hM : memOf m (fun id => idxA ids id 0) ids with
    | none => simp [hys, hM] at h
    | some M =>
      simp only [hys, hM] at h ⊢
      cases hf : Fi cx f ys M with
      | none => simp [hf] at h
      | some rm =>
        simp only [hf] at h
        obtain ⟨N, hN⟩ := fi_iff.1 hf
        exact ⟨N, by rw [hN]; exact h⟩
theorem callV_lim {ro : Bool} {m : Mem} {c : AV} {as : List AV} {r : AV × Mem} (h : callV cx ro (Fi cx) (Yi cx) m c as = some r) : ∃ N, callV cx ro (evFun cx N) (evYld cx N) m c as = some r := by
  cases c with
  | fn f first cap =>
    simp only [callV] at h ⊢
    generalize first ++ as ++ cap = L at h ⊢
    cases hx : cx.X f with
    | some g => simp only [hx] at h ⊢; exact ⟨0, h⟩
    | none =>
      simp only [hx] at h ⊢
      split at h
      · rename_i hsh
        simp only [if_pos hsh]
        split at h
        · cases h
        · rename_i hro
          simp only [if_neg hro]
          cases hl : lendOwn m L with
          | none => simp [hl] at h
          | some p =>
            simp only [hl] at h ⊢
            cases hf : Fi cx f p.1 (kill m p.2) with
            | none => simp [hf] at h
            | some rm =>
              simp only [hf] at h
              obtain ⟨N, hN⟩ := fi_iff.1 hf
              exact ⟨N, by rw [hN]; exact h⟩
      · rename_i hsh
        simp only [if_neg hsh]
        split at h
        · rename_i hio
          simp only [if_pos hio]
          split at h
          · cases h
          · rename_i hro
            simp only [if_neg hro]
            cases hl : lendOwn m L with
            | none => simp [hl] at h
            | some p =>
              simp only [hl] at h ⊢
              exact ioGo_lim h
        · rename_i hio
          simp only [if_neg hio]
          cases hz : fzs m L with
          | none => simp [hz] at h
          | some as' =>
            simp only [hz] at h ⊢
            cases hf : Fi cx f as' [] with
            | none => simp [hf] at h
            | some rm =>
              simp only [hf] at h
              obtain ⟨N, hN⟩ := fi_iff.1 hf
              exact ⟨N, by rw [hN]; exact h⟩
  | yld id =>
    simp only [callV] at h ⊢
    split at h
    · cases h
    · rename_i hro
      simp only [if_neg hro]
      cases hl : lendOwn m as with
      | none => simp [hl] at h
      | some p =>
        simp only [hl] at h ⊢
        cases hf : Yi cx id p.1 (kill m p.2) with
        | none => simp [hf] at h
        | some rm =>
          simp only [hf] at h
          obtain ⟨N, hN⟩ := yi_iff.1 hf
          exact ⟨N, by rw [hN]; exact h⟩
  | _ => cases h

theorem evOp_lim {md : Nat} {e : Env} {m : Mem} {op : Op} {r : AV × Mem} (h : evOp cx md (Fi cx) (Yi cx) e m op = some r) : ∃ N, evOp cx md (evFun cx N) (evYld cx N) e m op = some r := by
  cases op with
  | call c =>
    obtain ⟨callee, args, ats⟩ := c
    cases callee with
    | value f =>
      simp only [evOp] at h ⊢
      split at h
      · rename_i fv as hf has
        split at h
        · cases h
        rename_i hcp
        obtain ⟨N, hN⟩ := callV_lim h
        exact ⟨N, by rw [if_neg hcp]; exact hN⟩
      · cases h
    | invoke _ _ => exact ⟨0, h⟩
    | builtin b => exact ⟨0, h⟩
  | _ => exact ⟨0, h⟩

theorem evList_lim {ro : Bool} {ops : Array Oper} : ∀ {os : List Oper} {e : Env} {m : Mem} {r : Env × Mem}, evList cx ro (Fi cx) (Yi cx) ops os e m = some r → ∃ N, evList cx ro (evFun cx N) (evYld cx N) ops os e m = some r
  | [], e, m, r, h => ⟨0, h⟩
  | o :: os, e, m, r, h => by
    simp only [evList] at h ⊢
    unfold evOne at h ⊢
    cases hw : wantA ops e o with
    | none => simp [hw] at h
    | some b =>
      cases b with
      | false => simp only [hw] at h ⊢; exact evList_lim h
      | true =>
        simp only [hw] at h ⊢
        split at h
        · rename_i e1 m1 h1
          split at h1
          · rename_i r1 m2 h2
            cases h1
            obtain ⟨N, hN⟩ := evOp_lim h2
            obtain ⟨M, hM⟩ := evList_lim h
            have a1 := evAll_le (cx := cx) (show N ≤ max N M by omega)
            have a2 := evAll_le (cx := cx) (show M ≤ max N M by omega)
            refine ⟨max N M, ?_⟩
            rw [evOp_le a1.1 a1.2 hN]
            exact evList_le a2.1 a2.2 hM
          · cases h1
        · cases h

theorem evLoop_lim {N0 : Nat} {c : Code} {b : Env → Mem → Run} {bN : Nat → Env → Mem → Run} (mono : ∀ n n', n ≤ n' → ∀ e m r, bN n e m = some r → bN n' e m = some r) (hb : ∀ e m r, b e m = some r → ∃ N, bN N e m = some r) :
    ∀ {k : Nat} {e : Env} {m : Mem} {r : Exit × Env × Mem}, evLoop N0 c b k e m = some r → ∃ N, evLoop N0 c (bN N) k e m = some r
  | 0, e, m, r, h => by cases h
  | k + 1, e, m, r, h => by
    simp only [evLoop] at h ⊢
    cases h1 : b e m with
    | none => simp [h1] at h
    | some p =>
      obtain ⟨x, e1, m1⟩ := p
      obtain ⟨N, hN⟩ := hb _ _ _ h1
      cases x with
      | normal =>
        simp only [h1] at h
        obtain ⟨M, hM⟩ := evLoop_lim mono hb h
        refine ⟨max N M, ?_⟩
        rw [mono N (max N M) (by omega) _ _ _ hN]
        exact evLoop_le (mono M (max N M) (by omega)) (Nat.le_refl _) hM
      | _ => simp only [h1] at h; exact ⟨N, by rw [hN]; exact h⟩

theorem evCode_lim {n : Nat} {top : Bool} (c : Code) : ∀ {e : Env} {m : Mem} {r : Exit × Env × Mem}, evCode cx (Fi cx) (Yi cx) n top c e m = some r → ∃ N, evCode cx (evFun cx N) (evYld cx N) n top c e m = some r := by
  induction c with
  | region id ops draw =>
    intro e m r h
    simp only [evCode] at h ⊢
    split at h
    · rename_i e1 m1 h1
      obtain ⟨N, hN⟩ := evList_lim h1
      exact ⟨N, by rw [hN]; exact h⟩
    · cases h
  | seq a b iha ihb =>
    intro e m r h
    simp only [evCode] at h ⊢
    cases h1 : evCode cx (Fi cx) (Yi cx) n top a e m with
    | none => simp [h1] at h
    | some p =>
      obtain ⟨x, e1, m1⟩ := p
      obtain ⟨N, hN⟩ := iha h1
      cases x with
      | normal =>
        simp only [h1] at h
        obtain ⟨M, hM⟩ := ihb h
        have a1 := evAll_le (cx := cx) (show N ≤ max N M by omega)
        have a2 := evAll_le (cx := cx) (show M ≤ max N M by omega)
        refine ⟨max N M, ?_⟩
        rw [evCode_le a1.1 a1.2 (Nat.le_refl n) a hN]
        exact evCode_le a2.1 a2.2 (Nat.le_refl n) b hM
      | _ => simp only [h1] at h; exact ⟨N, by rw [hN]; exact h⟩
  | cond c a b iha ihb =>
    intro e m r h
    simp only [evCode] at h ⊢
    split at h
    · rename_i t hc
      cases t with
      | true => simp only [if_true] at h ⊢; exact iha h
      | false => simp only [Bool.false_eq_true, if_false] at h ⊢; exact ihb h
    · cases h
  | block id c ih =>
    intro e m r h
    simp only [evCode] at h ⊢
    cases h1 : evCode cx (Fi cx) (Yi cx) n top c e m with
    | none => simp [h1] at h
    | some p =>
      obtain ⟨x, e1, m1⟩ := p
      obtain ⟨N, hN⟩ := ih h1
      exact ⟨N, by rw [hN]; rw [h1] at h; exact h⟩
  | loop c ih =>
    intro e m r h
    simp only [evCode] at h ⊢
    exact evLoop_lim (bN := fun N e m => evCode cx (evFun cx N) (evYld cx N) n top c e m) (fun N M hNM e m r hr => evCode_le (evAll_le hNM).1 (evAll_le hNM).2 (Nat.le_refl n) c hr) (fun e m r hr => ih hr) h
  | rangeFunc g ps a b iha ihb =>
    intro e m r h
    simp only [evCode] at h ⊢
    split at h
    · rename_i htop
      simp only [if_pos htop]
      split at h
      · rename_i f first cap hg
        generalize hq : Fi cx f (first ++ [.yld m.length] ++ cap) (m ++ [.lp e ps.toList a b .ready none]) = q at h
        cases q with
        | none => cases h
        | some rm =>
          obtain ⟨N, hN⟩ := fi_iff.1 hq
          exact ⟨N, by rw [hN]; exact h⟩
      · cases h
    · cases h
  | _ => intro e m r h; exact ⟨0, h⟩

theorem evFunW_lim {n f : Nat} {as : List AV} {m : Mem} {r : AV × Mem} (h : evFunW cx (Fi cx) (Yi cx) n f as m = some r) : Fi cx f as m = some r := by
  have : ∃ N, evFunW cx (evFun cx N) (evYld cx N) n f as m = some r := by
    unfold evFunW at h ⊢
    cases hf : cx.P.funcs[f]? with
    | none => simp [hf] at h
    | some fn =>
      simp only [hf] at h ⊢
      split at h
      case isFalse => cases h
      rename_i hok
      simp only [if_pos hok]
      cases hb : fn.body with
      | none => simp [hb] at h
      | some c =>
        simp only [hb] at h ⊢
        cases hev : evCode cx (Fi cx) (Yi cx) n true c (argEnv as) m with
        | none => simp [hev] at h
        | some p =>
          obtain ⟨N, hN⟩ := evCode_lim c hev
          exact ⟨N, by rw [hN]; rw [hev] at h; exact h⟩
  obtain ⟨N, hN⟩ := this
  have a1 := evAll_le (cx := cx) (show N ≤ max n N by omega)
  exact fi_iff.2 ⟨max n N + 1, evFunW_le a1.1 a1.2 (by omega) _ _ _ _ hN⟩
theorem evYldW_lim {n f : Nat} {as : List AV} {m : Mem} {r : AV × Mem} (h : evYldW cx (Fi cx) (Yi cx) n f as m = some r) : Yi cx f as m = some r := by
  have : ∃ N, evYldW cx (evFun cx N) (evYld cx N) n f as m = some r := by
    unfold evYldW at h ⊢
    split at h
    case h_2 => cases h
    rename_i e ps a b hm
    split at h
    case isFalse => cases h
    rename_i hl
    simp only [if_pos hl]
    split at h
    case h_2 => cases h
    rename_i e1 m1 h1
    obtain ⟨N1, g1⟩ := evCode_lim a h1
    split at h
    case h_2 => cases h
    rename_i h2
    split at h
    case h_2 => cases h
    rename_i m2 h3
    split at h
    case h_2 => cases h
    rename_i x e3 m3 h4
    obtain ⟨N2, g2⟩ := evCode_lim b h4
    have a1 := evAll_le (cx := cx) (show N1 ≤ max N1 N2 by omega)
    have a2 := evAll_le (cx := cx) (show N2 ≤ max N1 N2 by omega)
    refine ⟨max N1 N2, ?_⟩
    rw [evCode_le a1.1 a1.2 (Nat.le_refl n) a g1]
    simp only [h2, h3]
    rw [evCode_le a2.1 a2.2 (Nat.le_refl n) b g2]
    exact h
  obtain ⟨N, hN⟩ := this
  have a1 := evAll_le (cx := cx) (show N ≤ max n N by omega)
  exact yi_iff.2 ⟨max n N + 1, evYldW_le a1.1 a1.2 (by omega) _ _ _ _ hN⟩

/-! ### Calls with pure arguments -/
/-- The call of f with these arguments, in a memory of its own, gives r. -/
def Pw (cx : Cx) (f : Nat) (as : List AV) (r : AV) : Prop := pureL as = true ∧ r.pure = true ∧ ∃ r0 M, Fi cx f as [] = some (r0, M) ∧ fz M 6 r0 = some r
theorem Pw.ev {f : Nat} {as : List AV} {r : AV} (h : Pw cx f as r) : ∃ n, evPure cx n f as = some r := by
  obtain ⟨_, _, r0, M, h1, h2⟩ := h
  obtain ⟨n, hn⟩ := fi_iff.1 h1
  exact ⟨n, by simp only [evPure, hn, h2]⟩
theorem Pw.of_ev {n f : Nat} {as : List AV} {r : AV} (hp : pureL as = true) (h : evPure cx n f as = some r) : Pw cx f as r := by
  unfold evPure at h
  cases hf : evFun cx n f as [] with
  | none => simp [hf] at h
  | some rm => simp only [hf] at h; exact ⟨hp, (fz_form h).1, rm.1, rm.2, fi_iff.2 ⟨n, hf⟩, h⟩

/-! ### Runs -/
def Runs (cx : Cx) (top : Bool) (c : Code) (e : Env) (m : Mem) (x : Exit) (e' : Env) (m' : Mem) : Prop := ∃ n, evCode cx (Fi cx) (Yi cx) n top c e m = some (x, e', m')
def LRuns (cx : Cx) (top : Bool) (N : Nat) (c : Code) (e : Env) (m : Mem) (x : Exit) (e' : Env) (m' : Mem) : Prop := ∃ n, evLoop N c (fun e m => evCode cx (Fi cx) (Yi cx) n top c e m) n e m = some (x, e', m')
theorem cle_refl (F : CallT) : CLe F F := fun _ _ _ _ h => h
theorem evCode_up {n n' : Nat} (h : n ≤ n') {top : Bool} {c : Code} {e : Env} {m : Mem} {r : Exit × Env × Mem} (k : evCode cx (Fi cx) (Yi cx) n top c e m = some r) : evCode cx (Fi cx) (Yi cx) n' top c e m = some r := evCode_le (cle_refl _) (cle_refl _) h c k
theorem evLoop_up {N n n' : Nat} (h : n ≤ n') {top : Bool} {c : Code} {k k' : Nat} (hk : k ≤ k') {e : Env} {m : Mem} {r : Exit × Env × Mem} (q : evLoop N c (fun e m => evCode cx (Fi cx) (Yi cx) n top c e m) k e m = some r) :
    evLoop N c (fun e m => evCode cx (Fi cx) (Yi cx) n' top c e m) k' e m = some r := evLoop_le (fun e m r hr => evCode_up h hr) hk q
theorem LRuns.stop {top : Bool} {N : Nat} {c : Code} {e e' : Env} {m m' : Mem} {x : Exit} (h : Runs cx top c e m x e' m') (hx : x ≠ .normal) : LRuns cx top N c e m x e' m' := by
  obtain ⟨n, hn⟩ := h
  refine ⟨n + 1, ?_⟩
  simp only [evLoop, evCode_up (Nat.le_succ n) hn]
  cases x with
  | normal => exact absurd rfl hx
  | _ => rfl
theorem LRuns.next {top : Bool} {N : Nat} {c : Code} {e e1 e' : Env} {m m1 m' : Mem} {x : Exit} (h : Runs cx top c e m .normal e1 m1) (k : LRuns cx top N c (trimL N c e1 m1).1 (trimL N c e1 m1).2 x e' m') : LRuns cx top N c e m x e' m' := by
  obtain ⟨n, hn⟩ := h
  obtain ⟨q, hq⟩ := k
  refine ⟨max n q + 1, ?_⟩
  simp only [evLoop, evCode_up (show n ≤ max n q + 1 by omega) hn]
  exact evLoop_up (by omega) (by omega) hq

/-- A loop, said by some temporaries: from these values vs of ts it ends by x with the values ws of us. N: how long the memory was before the loop. -/
def LoopAns (cx : Cx) (top : Bool) (N : Nat) (c : Code) (ts : List Nat) (vs : List AV) (m : Mem) (x : Exit) (us : List Nat) (ws : List AV) (m' : Mem) : Prop :=
  ∀ e, ts.map e = vs → ∃ e', LRuns cx top N c e m x e' m' ∧ us.map e' = ws
/-- What a loop leaves of the temporaries: D those that it writes. -/
def mixE (D : List Nat) (e0 e : Env) : Env := fun t => match D.contains t with | true => e0 t | false => e t
theorem mixE_self {D : List Nat} {e0 e : Env} (h : ∀ t, t ∉ D → e0 t = e t) : mixE D e0 e = e0 := by
  funext t
  unfold mixE
  split
  · rfl
  · rename_i hc
    exact (h t (by simpa using hc)).symm
end Go.Ab

/- What must be shown for a code to run: conditions that the kernel makes out of the code. Shapes of unknown results are said ahead. -/
set_option linter.unusedVariables false
namespace Go.Ab
open Go

inductive Sh where
  | int (k : IntKind)
  | bool
  | str
  | agg (l : List Sh)
  | tup (l : List Sh)
  | seq (sz : Nat)
  | own (id : Nat)
  | fn
  | any
  | is (v : AV)
  | clo (f : Nat) (l : List Sh)
mutual
/-- Some value of this shape. -/
def exS : Sh → (AV → Prop) → Prop
  | .int k, Q => ∃ n : Int, Q (.int k n)
  | .bool, Q => ∃ b : Bool, Q (.bool b)
  | .str, Q => ∃ s : ByteArray, Q (.str s)
  | .agg l, Q => exSs l fun xs => Q (.agg xs)
  | .tup l, Q => exSs l fun xs => Q (.tup xs)
  | .seq sz, Q => ∃ z : Bool, ∃ fl : Bool, ∃ xs : List AV, Q (.seq z fl sz xs)
  | .own id, Q => ∃ v : Nat, Q (.own id v)
  | .fn, Q => ∃ g : Nat, Q (.fn g [] [])
  | .any, Q => ∃ v : AV, Q v
  | .is v, Q => Q v
  | .clo f l, Q => exSs l fun xs => Q (.fn f [] [.rptr xs])
def exSs : List Sh → (List AV → Prop) → Prop
  | [], Q => Q []
  | s :: ss, Q => exS s fun x => exSs ss fun xs => Q (x :: xs)
end
/-- A branch. -/
def br (b : Bool) (T E : Prop) : Prop := match b with
  | true => T
  | false => E

inductive BSh where
  | keep
  | more
  | arr (e sz : Nat)
  | vec (e sz : Nat)
  | box (l : List Sh)
inductive Hint where
  | sh (s : Sh)
  | auto (s : Sh)
  | callv (s : Sh)
  | split
  | io (s : Sh) (bs : List BSh)
  | kp (l : List (Sh × List BSh))
  | alts (l : List Sh)
structure LAlt where
  x : Exit
  us : List (Nat × Sh)
  mem : List BSh
structure LHint where
  ts : List Nat
  alts : List LAlt
structure Hs where
  op : List (Nat × Hint)
  lp : List LHint
def hintAt : List (Nat × Hint) → Nat → Option Hint
  | [], _ => none
  | (d, h) :: l, t => match Nat.beq d t with
    | true => some h
    | false => hintAt l t
def hintOf (H : Hs) (o : Oper) : Option Hint := match o.dst with
  | some d => hintAt H.op d
  | none => match o.op with
    | .store _ (.tmp t) _ => hintAt H.op (1000 + t)
    | _ => none

/-- Handles, as far as memory is not followed through immutable values. -/
def hids : Nat → Mem → AV → List Nat
  | 0, _, _ => []
  | n + 1, m, x => match x with
    | .own id _ => [id]
    | .ptr id _ off => id :: (match m[id]? with
      | some (.box cs) => (cs.drop off).flatMap (hids n m)
      | _ => [])
    | .agg xs => xs.flatMap (hids n m)
    | .tup xs => xs.flatMap (hids n m)
    | .fn _ a b => a.flatMap (hids n m) ++ b.flatMap (hids n m)
    | .mp id => [id]
    | _ => []
def fzWs (f : AV → (AV → Prop) → Prop) : List AV → (List AV → Prop) → Prop
  | [], Q => Q []
  | x :: xs, Q => f x fun y => fzWs f xs fun ys => Q (y :: ys)
/-- The value frozen. -/
def fzW : Nat → Mem → AV → (AV → Prop) → Prop
  | 0, m, x, Q => br x.pure (Q x) False
  | n + 1, m, x, Q => match x with
    | .own id ver => match m[id]? with
      | some (.arr _ sz xs) => br (decide (xs.length = ver)) (br (pureL xs) (Q (.seq false false sz xs)) False) False
      | some (.vec _ sz xs) => br (decide (xs.length = ver)) (br (pureL xs) (Q (.seq xs.isEmpty xs.isEmpty sz xs)) False) False
      | _ => False
    | .ptr id ver off => match m[id]? with
      | some (.box cs) => br (decide (cs.length = ver ∧ off < cs.length)) (fzWs (fzW n m) (cs.drop off) fun ys => Q (.rptr ys)) False
      | _ => False
    | .agg xs => fzWs (fzW n m) xs fun ys => Q (.agg ys)
    | .tup xs => fzWs (fzW n m) xs fun ys => Q (.tup ys)
    | .fn f a b => fzWs (fzW n m) a fun a' => fzWs (fzW n m) b fun b' => Q (.fn f a' b')
    | .mp id => match m[id]? with
      | some (.mp ks vs) => br (pureL ks) (br (pureL vs) (Q (.smap ks vs)) False) False
      | _ => False
    | .seq z fl sz xs => br (pureL xs) (Q (.seq z fl sz xs)) False
    | .rptr xs => br (pureL xs) (Q (.rptr xs)) False
    | .smap ks vs => br (pureL ks) (br (pureL vs) (Q (.smap ks vs)) False) False
    | .int k n => Q (.int k n)
    | .bool b => Q (.bool b)
    | .str s => Q (.str s)
    | .nilptr => Q .nilptr
    | .nilfn => Q .nilfn
    | .nilmp => Q .nilmp
    | _ => False

def callW (cx : Cx) (ro : Bool) (e : Env) (m : Mem) (c : Call) (s : Sh) (Q : AV → Mem → Prop) : Prop :=
  match c.callee with
  | .value f => match evX cx e f, evXs cx e c.args.toList with
    | some (.fn g first cap), some as => match cx.X g, plainF cx.sh g with
      | none, true => match (first ++ as ++ cap).flatMap (hids 6 m) with
        | [] => exS s fun r => Pw cx g (first ++ as ++ cap) r ∧ Q r m
        | id :: ids => fzWs (fzW 6 m) (first ++ as ++ cap) fun L => exS s fun r => Pw cx g L r ∧ (match ro with
          | true => br r.flat (Q r m) False
          | false => br r.flat (Q r m) (Q r (kill m (id :: ids))))
      | _, _ => False
    | _, _ => False
  | _ => False
def exMem : List BSh → Mem → (Mem → Prop) → Prop
  | [], m, Q => Q m
  | .keep :: l, b :: m, Q => exMem l m fun m' => Q (b :: m')
  | .keep :: _, [], _ => False
  | .more :: _, _, Q => ∃ g : Mem, Q g
  | .arr e sz :: l, m, Q => ∃ xs : List AV, exMem l m.tail fun m' => Q (.arr e sz xs :: m')
  | .vec e sz :: l, m, Q => ∃ xs : List AV, exMem l m.tail fun m' => Q (.vec e sz xs :: m')
  | .box ss :: l, m, Q => exSs ss fun cs => exMem l m.tail fun m' => Q (.box cs :: m')
/-- A call's result of one of some shapes. -/
def callsW (cx : Cx) (ro : Bool) (e : Env) (m : Mem) (c : Call) (Q : AV → Mem → Prop) : List Sh → Prop
  | [] => False
  | [s] => callW cx ro e m c s Q
  | s :: s' :: l => callW cx ro e m c s Q ∨ callsW cx ro e m c Q (s' :: l)
/-- A value with its handles renamed. -/
def renW (g : Nat → Option Nat) : Nat → AV → (AV → Prop) → Prop
  | 0, _, _ => False
  | n + 1, x, Q => match x with
    | .own id v => (match g id with
      | some j => Q (.own j v)
      | none => False)
    | .ptr id v o => (match g id with
      | some j => Q (.ptr j v o)
      | none => False)
    | .mp id => (match g id with
      | some j => Q (.mp j)
      | none => False)
    | .agg xs => fzWs (renW g n) xs fun ys => Q (.agg ys)
    | .tup xs => fzWs (renW g n) xs fun ys => Q (.tup ys)
    | .fn f a b => fzWs (renW g n) a fun a' => fzWs (renW g n) b fun b' => Q (.fn f a' b')
    | .seq z fl sz xs => br (pureL xs) (Q (.seq z fl sz xs)) False
    | .rptr xs => br (pureL xs) (Q (.rptr xs)) False
    | .smap ks vs => br (pureL ks) (br (pureL vs) (Q (.smap ks vs)) False) False
    | .int k m => Q (.int k m)
    | .bool b => Q (.bool b)
    | .str s => Q (.str s)
    | .nilptr => Q .nilptr
    | .nilfn => Q .nilfn
    | .nilmp => Q .nilmp
    | _ => False
def renBW (g : Nat → Option Nat) (k : Blk) (Q : Blk → Prop) : Prop := match k with
  | .box cs => fzWs (renW g 6) cs fun ys => Q (.box ys)
  | .arr e sz xs => br (pureL xs) (Q (.arr e sz xs)) False
  | .vec e sz xs => br (pureL xs) (Q (.vec e sz xs)) False
  | .mp ks vs => br (pureL ks) (br (pureL vs) (Q (.mp ks vs)) False) False
  | .dead => Q .dead
  | _ => False
def memW (m : Mem) (g : Nat → Option Nat) : List Nat → (Mem → Prop) → Prop
  | [], Q => Q []
  | id :: ids, Q => match m[id]? with
    | some k => renBW g k fun k' => memW m g ids fun M => Q (k' :: M)
    | none => False
def putW (h : Nat → Option Nat) : Mem → List Nat → Mem → (Mem → Prop) → Prop
  | m, [], [], Q => Q m
  | m, id :: ids, k :: ks, Q => renBW h k fun k' => putW h (m.set id k') ids ks Q
  | _, _, _, _ => False
def lendW (m : Mem) : List AV → (List AV → List Nat → Prop) → Prop
  | [], Q => Q [] []
  | x :: xs, Q => match x with
    | .own id ver => fzW 6 m (.own id ver) fun y => lendW m xs fun ys is => Q (y :: ys) (id :: is)
    | x => lendW m xs fun ys is => Q (x :: ys) is
/-- A call in a small memory; a call whose result is kept. -/
def Pi (cx : Cx) (f : Nat) (as : List AV) (M : Mem) (r : AV) (M' : Mem) : Prop := ∃ rm, Fi cx f as M = some rm ∧ retrunc M.length rm = some (r, M')
def Pk (cx : Cx) (f : Nat) (as : List AV) (r : AV) (B : Mem) : Prop := ∃ rm, Fi cx f as [] = some rm ∧ thw rm = some (r, B)
def ioW2 (cx : Cx) (g : Nat) (m : Mem) (xs : List AV) (ids : List Nat) (s : Sh) (bs : List BSh) (Q : AV → Mem → Prop) : Prop :=
  match nodupB ids && ids.all (fun id => (verOf m id).isSome) with
  | true => fzWs (renW (fun id => idxA ids id 0) 6) xs fun ys => memW m (fun id => idxA ids id 0) ids fun M => exS s fun r => exMem bs M fun M' => Pi cx g ys M r M' ∧
      renW (fun j => ids[j]?) 6 r fun r' => putW (fun j => ids[j]?) m ids M' fun m' => Q r' m'
  | false => False
def ioW (cx : Cx) (e : Env) (m : Mem) (c : Call) (s : Sh) (bs : List BSh) (Q : AV → Mem → Prop) : Prop :=
  match c.callee with
  | .value f => match evX cx e f, evXs cx e c.args.toList with
    | some (.fn g first cap), some as => match cx.X g, cx.sh g, ioF g with
      | none, false, true => lendW m (first ++ as ++ cap) fun xs is => ioW2 cx g (kill m is) xs (ioIds (kill m is) 64 [] (xs.filter isRoot)) s bs Q
      | _, _, _ => False
    | _, _ => False
  | _ => False
def kpAlt (cx : Cx) (g : Nat) (m0 : Mem) (n : Nat) (L : List AV) (Q : AV → Mem → Prop) (a : Sh × List BSh) : Prop :=
  exS a.1 fun r => exMem a.2 [] fun B => Pk cx g L r B ∧ renW (fun j => some (n + j)) 6 r fun r' => Q r' (m0 ++ B)
def kpAlts (cx : Cx) (g : Nat) (m0 : Mem) (n : Nat) (L : List AV) (Q : AV → Mem → Prop) : List (Sh × List BSh) → Prop
  | [] => False
  | [a] => kpAlt cx g m0 n L Q a
  | a :: b :: l => kpAlt cx g m0 n L Q a ∨ kpAlts cx g m0 n L Q (b :: l)
def kpW (cx : Cx) (e : Env) (m : Mem) (c : Call) (l : List (Sh × List BSh)) (Q : AV → Mem → Prop) : Prop :=
  match c.callee with
  | .value f => match evX cx e f, evXs cx e c.args.toList with
    | some (.fn g first cap), some as => match cx.X g, cx.sh g, ioF g, kpF g with
      | none, false, false, true => (match (first ++ as ++ cap).flatMap (hids 6 m) with
        | [] => br (pureL (first ++ as ++ cap)) (kpAlts cx g m m.length (first ++ as ++ cap) Q l) False
        | id :: ids => fzWs (fzW 6 m) (first ++ as ++ cap) fun L => kpAlts cx g (kill m (id :: ids)) m.length L Q l)
      | _, _, _, _ => False
    | _, _ => False
  | _ => False
def capW (cx : Cx) (e : Env) (c : Call) : Bool := match c.callee with
  | .value f => (match evX cx e f with
    | some v => capOK v
    | none => false)
  | _ => true
def callvW (cx : Cx) (e : Env) (m : Mem) (c : Call) (s : Sh) (Q : AV → Mem → Prop) : Prop :=
  match c.callee with
  | .value f => match evX cx e f, evXs cx e c.args.toList with
    | some (.fn g first cap), some as => match cx.X g with
      | none => br (plainF cx.sh g) (exS s fun r => Pw cx g (first ++ as ++ cap) r ∧ Q r m) False
      | _ => False
    | _, _ => False
  | _ => False
def elemsW (m : Mem) (y : AV) (K : List AV → Prop) : Prop := match y with
  | .seq _ _ _ ys => K ys
  | .own id ver => match m[id]? with
    | some (.arr _ _ ys) => br (decide (ys.length = ver)) (K ys) False
    | some (.vec _ _ ys) => br (decide (ys.length = ver)) (K ys) False
    | _ => False
  | _ => False
def appW (P : Program) (m : Mem) (t t' : Nat) (x y : AV) (Q : AV → Mem → Prop) : Prop :=
  match elemT P t with
  | some e => match szT P e, byT P e with
    | some sz, some bytes => match decide (t = t') && decide (0 < sz) && (zeroT P e).any (fun z => z.cells.length == sz) with
      | true => elemsW m y fun ys => br (allCells sz ys) (match x with
        | .own id ver => match m[id]? with
          | some (.arr e' sz' xs) => br (decide (e' = e ∧ sz' = sz)) (br (decide (xs.length = ver ∧ (xs.length + ys.length) * bytes ≤ 140737488355328 ∧ xs.length + ys.length ≤ 140737488355328)) (Q (.own id (ver + ys.length)) (m.set id (.arr e sz (xs ++ ys)))) False) False
          | some (.vec e' sz' xs) => br (decide (e' = e ∧ sz' = sz)) (br (decide (xs.length = ver ∧ (xs.length + ys.length) * bytes ≤ 140737488355328 ∧ xs.length + ys.length ≤ 140737488355328)) (Q (.own id (ver + ys.length)) (m.set id (.vec e sz (xs ++ ys)))) False) False
          | _ => False
        | .seq z full sz' xs => br (decide ((xs.length + ys.length) * bytes ≤ 140737488355328 ∧ xs.length + ys.length ≤ 140737488355328)) (br ys.isEmpty
            (br z (Q (.seq true full sz []) m) (br (full && decide (sz' = sz)) (Q (.seq false true sz xs) m) False))
            (br z (Q (.own m.length ys.length) (m ++ [.arr e sz ys])) (br (full && decide (sz' = sz)) (br (allCells sz xs) (Q (.own m.length (xs.length + ys.length)) (m ++ [.arr e sz (xs ++ ys)])) False) False))) False
        | _ => False) False
      | false => False
    | _, _ => False
  | none => False
def boundW (x : Option AV) (d top : Nat) (K : Nat → Prop) : Prop := match x with
  | none => K d
  | some (.int _ i) => br (decide (0 ≤ i ∧ i ≤ top)) (K i.toNat) False
  | some _ => False
def cutW (P : Program) (m : Mem) (t : Nat) (x : AV) (lo hi mx : Option AV) (Q : AV → Mem → Prop) : Prop := match x with
  | .str s => br (decide (strT P t = true ∧ mx.isNone = true)) (boundW hi s.size s.size fun h => boundW lo 0 h fun l => Q (.str (s.extract l h)) m) False
  | .seq z full sz xs => match elemT P t with
    | some e => br (decide (szT P e = some sz)) (match mx with
      | none => (match hi with
        | none => boundW lo 0 xs.length fun l => Q (.seq z full sz (xs.drop l)) m
        | some hi => boundW (some hi) 0 xs.length fun h => boundW lo 0 h fun l => Q (.seq z (full && h == xs.length) sz ((xs.take h).drop l)) m)
      | some mx => boundW (some mx) 0 xs.length fun mm => (match hi with
        | none => False
        | some hi => boundW (some hi) 0 mm fun h => br (decide (h = mm)) (boundW lo 0 h fun l => Q (.seq z true sz ((xs.take h).drop l)) m) False)) False
    | none => False
  | _ => False
def ixW (P : Program) (m : Mem) (t : Nat) (x : AV) (i : Int) (s : Sh) (Q : AV → Mem → Prop) : Prop :=
  match elemT P t with
  | some et => match x with
    | .seq _ _ sz xs => br (decide (szT P et = some sz)) (br (decide (0 ≤ i)) (exS s fun y => xs[i.toNat]? = some y ∧ (match y.cells with
      | [] => False
      | c :: cs => Q (.rptr (c :: cs)) m)) False) False
    | .own id ver => match m[id]? with
      | some (.arr _ sz xs) => br (decide (szT P et = some sz ∧ 0 < sz)) (br (decide (xs.length = ver)) (br (decide (0 ≤ i ∧ i.toNat < ver)) (Q (.aptr id ver sz i.toNat 0) m) False) False) False
      | _ => False
    | _ => False
  | none => False
def arW (m : Mem) (o : BinOp) (x y : AV) (Q : AV → Mem → Prop) : Prop := match x, y with
  | .int k a, .int k' b => (match o with
    | .shl => br (decide (0 ≤ b)) (Q (.int k (k.wrap (a * 2 ^ (min b.toNat k.bits)))) m) False
    | .shr => br (decide (0 ≤ b)) (Q (.int k (a.fdiv (2 ^ (min b.toNat k.bits)))) m) False
    | o => br (decide (k = k')) (match o with
      | .add => br (decide (k.wrap (a + b) = a + b)) (Q (.int k (a + b)) m) False
      | .sub => br (decide (k.wrap (a - b) = a - b)) (Q (.int k (a - b)) m) False
      | .mul => br (decide (k.wrap (a * b) = a * b)) (Q (.int k (a * b)) m) False
      | .quo => br (decide (b ≠ 0)) (Q (.int k (k.wrap (a.tdiv b))) m) False
      | .rem => br (decide (b ≠ 0)) (Q (.int k (a.tmod b)) m) False
      | _ => False) False)
  | .str a, .str b => (match o with
    | .add => br (decide (((a.size + b.size : Nat) : Int) ≤ IntKind.i64.max)) (Q (.str (a ++ b)) m) False
    | _ => False)
  | _, _ => False
def storeW (P : Program) (m : Mem) (t : Nat) (a v : AV) (s : Sh) (Q : AV → Mem → Prop) : Prop :=
  match a with
  | .aptr id ver sz i f => br (decide (szT P t = some v.cells.length) && v.data) (match m[id]? with
    | some (.arr e sz' xs) => br (decide (xs.length = ver)) (br (decide (sz = sz')) (match decide (1 < sz) with
      | true => br (decide (f + v.cells.length ≤ sz)) (exS s fun y => xs[i]? = some y ∧ Q .undef (m.set id (.arr e sz (xs.set i (.agg (over y.cells f v.cells)))))) False
      | false => br (decide (sz = 1 ∧ f = 0)) (br (decide (i < xs.length)) (match v with
        | .agg _ => False
        | v => Q .undef (m.set id (.arr e sz (xs.set i v)))) False) False) False) False
    | _ => False) False
  | _ => False
def lookAt (P : Program) (t : Nat) (m : Mem) (x k : AV) (ok : Bool) : Option AV := lookA P m t x k ok
def autoW (cx : Cx) (md : Nat) (e : Env) (m : Mem) (op : Op) (s : Sh) (Q : AV → Mem → Prop) : Prop :=
  match op with
  | .call c => (match c.callee with
    | .value _ => br (!(md == 1) || capW cx e c) (callW cx (md != 0) e m c s Q) False
    | .builtin b => (match evXs cx e c.args.toList, b, c.argTypes.toList with
      | some [.own id ver], .len, [t] => (match m[id]? with
        | some (.arr _ _ xs) => br (sliceT cx.P t) (br (decide (xs.length = ver)) (Q (.int .i64 ver) m) False) False
        | some (.vec _ _ xs) => br (sliceT cx.P t) (br (decide (xs.length = ver)) (Q (.int .i64 ver) m) False) False
        | _ => False)
      | some [x, y], .append, [t, t'] => br (decide (md = 0 ∨ (md = 2 ∧ isSeq x = true))) (appW cx.P m t t' x y Q) False
      | _, _, _ => False)
    | _ => False)
  | .binOp o _ x y _ => (match evX cx e x, evX cx e y with
    | some a, some b => arW m o a b Q
    | _, _ => False)
  | .indexAddr t x ix => (match evX cx e x, evX cx e ix with
    | some x, some (.int _ i) => ixW cx.P m t x i s Q
    | _, _ => False)
  | .index t x ix => (match evX cx e x, evX cx e ix with
    | some (.str a), some (.int _ i) => br (strT cx.P t) (br (decide (0 ≤ i)) (∃ b : UInt8, a.data.toList[i.toNat]? = some b ∧ Q (.int .u8 (b.toNat : Nat)) m) False) False
    | _, _ => False)
  | .load t a => (match evX cx e a with
    | some (.aptr id ver sz i f) => (match m[id]? with
      | some (.arr _ sz' xs) => br (decide (xs.length = ver)) (br (decide (sz = sz')) (exS s fun y => xs[i]? = some y ∧ (match takeT cx.P t (y.cells.drop f) with
        | some v => Q v m
        | none => False)) False) False
      | _ => False)
    | _ => False)
  | .store t a x => (match evX cx e a, evX cx e x with
    | some a, some v => br (decide (md = 0)) (storeW cx.P m t a v s Q) False
    | _, _ => False)
  | .slice t x lo hi mx => (match evX cx e x, lo.mapM (evX cx e), hi.mapM (evX cx e), mx.mapM (evX cx e) with
    | some x, some lo, some hi, some mx => cutW cx.P m t x lo hi mx Q
    | _, _, _, _ => False)
  | .lookup t x k ok => (match evX cx e x, evX cx e k with
    | some x, some k => exS s fun r => lookA cx.P m t x k ok = some r ∧ Q r m
    | _, _ => False)
  | _ => False
def opW (cx : Cx) (md : Nat) (e : Env) (m : Mem) (op : Op) (h : Option Hint) (Q : AV → Mem → Prop) : Prop :=
  match h with
  | none => match evOp cx md (Fi cx) (Yi cx) e m op with
    | some (r, m') => Q r m'
    | none => False
  | some (.sh s) => exS s fun r => evOp cx md (Fi cx) (Yi cx) e m op = some (r, m) ∧ Q r m
  | some .split => match evOp cx md (Fi cx) (Yi cx) e m op with
    | some (.bool b, m') => br b (Q (.bool true) m') (Q (.bool false) m')
    | _ => False
  | some (.callv s) => match op with
    | .call c => br (!(md == 1) || capW cx e c) (callvW cx e m c s Q) False
    | _ => False
  | some (.auto s) => autoW cx md e m op s Q
  | some (.io s bs) => (match op, md with
    | .call c, 0 => ioW cx e m c s bs Q
    | _, _ => False)
  | some (.kp l) => (match op, md with
    | .call c, 0 => kpW cx e m c l Q
    | _, _ => False)
  | some (.alts l) => (match op with
    | .call c => br (!(md == 1) || capW cx e c) (callsW cx (md != 0) e m c Q l) False
    | _ => False)

def modeOf (ro : Bool) (ops : Array Oper) (o : Oper) : Nat := if ro then (if cls ops o < 3 then 1 else if cls ops o == 3 then 2 else 0) else 0
def oneW (cx : Cx) (ro : Bool) (H : Hs) (ops : Array Oper) (o : Oper) (e : Env) (m : Mem) (K : Env → Mem → Prop) : Prop :=
  match o.guard with
  | none => opW cx (modeOf ro ops o) e m o.op (hintOf H o) fun r m' => K (put e o.dst r) m'
  | some (j, want) => match (ops[j]?).bind (·.dst) with
    | none => K (put e o.dst .undef) m
    | some d => match e d with
      | .bool g => br g
        (match want with
          | true => opW cx (modeOf ro ops o) (upd e d (.bool true)) m o.op (hintOf H o) fun r m' => K (put (upd e d (.bool true)) o.dst r) m'
          | false => K (put (upd e d (.bool true)) o.dst .undef) m)
        (match want with
          | true => K (put (upd e d (.bool false)) o.dst .undef) m
          | false => opW cx (modeOf ro ops o) (upd e d (.bool false)) m o.op (hintOf H o) fun r m' => K (put (upd e d (.bool false)) o.dst r) m')
      | .tup [] => K (put e o.dst .undef) m
      | _ => False
def listW (cx : Cx) (ro : Bool) (H : Hs) (ops : Array Oper) : List Oper → Env → Mem → (Env → Mem → Prop) → Prop
  | [], e, m, K => K e m
  | o :: os, e, m, K => oneW cx ro H ops o e m fun e' m' => listW cx ro H ops os e' m' K
def nl : Code → Nat
  | .seq a b => nl a + nl b
  | .cond _ a b => nl a + nl b
  | .block _ c => nl c
  | .loop _ => 1
  | _ => 0
def exUs : List (Nat × Sh) → (List AV → Prop) → Prop
  | [], Q => Q []
  | (_, s) :: us, Q => exS s fun x => exUs us fun xs => Q (x :: xs)
def altW (cx : Cx) (top : Bool) (c : Code) (ts : List Nat) (e : Env) (m : Mem) (K : Exit → Env → Mem → Prop) (a : LAlt) : Prop :=
  exUs a.us fun ws => exMem a.mem m fun m' => LoopAns cx top m.length c ts (ts.map e) m a.x (a.us.map (·.1)) ws m' ∧ ∀ e0 : Env, K a.x (envL (a.us.map (·.1)) ws (mixE (dsts c) e0 e)) m'
def altsW (cx : Cx) (top : Bool) (c : Code) (ts : List Nat) (e : Env) (m : Mem) (K : Exit → Env → Mem → Prop) : List LAlt → Prop
  | [] => False
  | [a] => altW cx top c ts e m K a
  | a :: b :: as => altW cx top c ts e m K a ∨ altsW cx top c ts e m K (b :: as)
def setX (e : Env) (x : Operand) (b : Bool) : Env := match x with
  | .tmp t => upd e t (.bool b)
  | _ => e
def codeW (cx : Cx) (top : Bool) (H : Hs) : Code → Nat → Env → Mem → (Exit → Env → Mem → Prop) → Prop
  | .skip, _, e, m, Q => Q .normal e m
  | .region _ ops draw, _, e, m, Q => listW cx draw H ops (if draw then drawn ops else ops.toList) e m fun e' m' => Q .normal e' m'
  | .seq a b, j, e, m, Q => codeW cx top H a j e m fun x e' m' => match x with
    | .normal => codeW cx top H b (j + nl a) e' m' Q
    | x => Q x e' m'
  | .cond c a b, j, e, m, Q => match evX cx e c with
    | some (.bool t) => br t (codeW cx top H a j (setX e c true) m Q) (codeW cx top H b (j + nl a) (setX e c false) m Q)
    | _ => False
  | .block id c, j, e, m, Q => codeW cx top H c j e m fun x e' m' => match x with
    | .exit id' => (match Nat.beq id' id with
      | true => Q .normal e' m'
      | false => Q (.exit id') e' m')
    | x => Q x e' m'
  | .loop c, j, e, m, Q => match H.lp[j]? with
    | some h => altsW cx top c h.ts e m Q h.alts
    | none => False
  | .exit id, _, e, m, Q => Q (.exit id) e m
  | .ret, _, e, m, Q => Q .ret e m
  | _, _, _, _, _ => False
/-- The j-th loop of a code. -/
def loopIn (c : Code) (j : Nat) : Code := ((loopsOf c)[j]?).getD .skip
/-- A function's call, in the memory m. -/
def funW (cx : Cx) (H : Hs) (f : Nat) (as : List AV) (m : Mem) (Q : AV → Mem → Prop) : Prop :=
  match cx.P.funcs[f]? with
  | some fn => match okF fn with
    | true => match fn.body with
      | some c => codeW cx true H c 0 (argEnv as) m fun x e m' => (match x with
        | .normal => (match evRes cx fn e m' with
          | some r => Q r m'
          | none => False)
        | .ret => (match evRes cx fn e m' with
          | some r => Q r m'
          | none => False)
        | _ => False)
      | none => False
    | false => False
  | none => False
/-- A call with pure arguments. -/
def pureW (cx : Cx) (H : Hs) (f : Nat) (as : List AV) (Q : AV → Prop) : Prop := funW cx H f as [] fun r m => fzW 6 m r Q
def retrW (N : Nat) (r : AV) (m : Mem) (Q : AV → Mem → Prop) : Prop :=
  br ((m.take N).all (blkUnder N 0)) (br (r.under N) (Q r (m.take N)) (fzW 6 m r fun y => br ((hids 6 m r).all (N ≤ ·)) (Q y (m.take N)) False)) False
def blksW (m : Mem) : List Nat → (Mem → Prop) → Prop
  | [], Q => Q []
  | id :: ids, Q => match m[id]? with
    | some (.arr e sz xs) => br (pureL xs) (blksW m ids fun B => Q (.arr e sz xs :: B)) False
    | _ => False
def thwW (r : AV) (m : Mem) (Q : AV → Mem → Prop) : Prop := match nodupB (tops r) with
  | true => renW (fun id => idxA (tops r) id 0) 6 r fun r' => blksW m (tops r) fun B => Q r' B
  | false => False
/-- One round of a loop. -/
def roundW (cx : Cx) (top : Bool) (H : Hs) (c : Code) (ts : List Nat) (vs : List AV) (us : List Nat) (e : Env) (m : Mem) (Q : Exit → List AV → Mem → Prop) : Prop :=
  codeW cx top H c 0 (envL ts vs e) m fun x e' m' => Q x (us.map e') m'
end Go.Ab

/- The conditions are enough. -/
set_option linter.unusedVariables false
set_option linter.unusedSimpArgs false
namespace Go.Ab
open Go

variable {cx : Cx}
theorem br_out {b : Bool} {T E : Prop} (h : br b T E) : (b = true ∧ T) ∨ (b = false ∧ E) := by cases b with | true => exact .inl ⟨rfl, h⟩ | false => exact .inr ⟨rfl, h⟩
theorem br_ff {b : Bool} {T : Prop} (h : br b T False) : b = true ∧ T := by cases b with | true => exact ⟨rfl, h⟩ | false => exact h.elim
theorem br_dd {p : Prop} [Decidable p] {T : Prop} (h : br (decide p) T False) : p ∧ T := by
  obtain ⟨h1, h2⟩ := br_ff h
  exact ⟨of_decide_eq_true h1, h2⟩
theorem br_iff {b : Bool} {T E : Prop} : br b T E ↔ (b = true → T) ∧ (b = false → E) := by cases b <;> simp [br]
theorem br_mk {b : Bool} {T E : Prop} (h : b = true → T) (k : b = false → E) : br b T E := br_iff.2 ⟨h, k⟩
theorem br_yes {p : Prop} [Decidable p] {T E : Prop} (h : p) (k : T) : br (decide p) T E := by rw [decide_eq_true h]; exact k
theorem br_no {p : Prop} [Decidable p] {T E : Prop} (h : ¬p) (k : E) : br (decide p) T E := by rw [decide_eq_false h]; exact k
theorem br_t {b : Bool} {T E : Prop} (h : b = true) (k : T) : br b T E := by rw [h]; exact k
theorem br_f {b : Bool} {T E : Prop} (h : b = false) (k : E) : br b T E := by rw [h]; exact k
mutual
theorem exS_out : ∀ (s : Sh) {Q : AV → Prop}, exS s Q → ∃ v, Q v
  | .int k, Q, ⟨n, h⟩ => ⟨_, h⟩
  | .bool, Q, ⟨n, h⟩ => ⟨_, h⟩
  | .str, Q, ⟨n, h⟩ => ⟨_, h⟩
  | .agg l, Q, h => by obtain ⟨xs, h⟩ := exSs_out l h; exact ⟨_, h⟩
  | .tup l, Q, h => by obtain ⟨xs, h⟩ := exSs_out l h; exact ⟨_, h⟩
  | .seq sz, Q, ⟨z, fl, xs, h⟩ => ⟨_, h⟩
  | .own id, Q, ⟨v, h⟩ => ⟨_, h⟩
  | .fn, Q, ⟨v, h⟩ => ⟨_, h⟩
  | .any, Q, ⟨v, h⟩ => ⟨v, h⟩
  | .is v, Q, h => ⟨v, h⟩
  | .clo f l, Q, h => by obtain ⟨xs, h⟩ := exSs_out l h; exact ⟨_, h⟩
theorem exSs_out : ∀ (l : List Sh) {Q : List AV → Prop}, exSs l Q → ∃ v, Q v
  | [], Q, h => ⟨[], h⟩
  | s :: ss, Q, h => by
    obtain ⟨x, h⟩ := exS_out s h
    obtain ⟨xs, h⟩ := exSs_out ss h
    exact ⟨_, h⟩
end

/-! ### Freezing -/
theorem fzWs_pure {f : AV → (AV → Prop) → Prop} {i : AV → List Nat} (hf : ∀ x Q, x.pure = true → f x Q → i x = [] ∧ Q x) : ∀ (xs : List AV) {Q : List AV → Prop}, pureL xs = true → fzWs f xs Q → xs.flatMap i = [] ∧ Q xs
  | [], Q, _, h => ⟨rfl, h⟩
  | x :: xs, Q, hp, h => by
    simp only [pureL, Bool.and_eq_true] at hp
    obtain ⟨h1, h2⟩ := hf x _ hp.1 h
    obtain ⟨h3, h4⟩ := fzWs_pure hf xs hp.2 h2
    exact ⟨by simp only [List.flatMap_cons, h1, h3, List.nil_append], h4⟩
theorem fzW_pure {m : Mem} : ∀ (n : Nat) (x : AV) (Q : AV → Prop), x.pure = true → fzW n m x Q → hids n m x = [] ∧ Q x
  | 0, x, Q, hp, h => ⟨rfl, (br_ff h).2⟩
  | n + 1, x, Q, hp, h => by
    cases x with
    | agg xs =>
      obtain ⟨h1, h2⟩ := fzWs_pure (i := hids n m) (fzW_pure n) xs (by simpa [AV.pure] using hp) h
      exact ⟨h1, h2⟩
    | tup xs =>
      obtain ⟨h1, h2⟩ := fzWs_pure (i := hids n m) (fzW_pure n) xs (by simpa [AV.pure] using hp) h
      exact ⟨h1, h2⟩
    | fn f a b =>
      simp only [AV.pure, Bool.and_eq_true] at hp
      obtain ⟨h1, h2⟩ := fzWs_pure (i := hids n m) (fzW_pure n) a hp.1 h
      obtain ⟨h3, h4⟩ := fzWs_pure (i := hids n m) (fzW_pure n) b hp.2 h2
      exact ⟨by simp only [hids, h1, h3, List.nil_append], h4⟩
    | seq z fl sz xs => exact ⟨rfl, (br_ff h).2⟩
    | rptr xs => exact ⟨rfl, (br_ff h).2⟩
    | smap ks vs => exact ⟨rfl, (br_ff (br_ff h).2).2⟩
    | own id ver => simp [AV.pure] at hp
    | ptr id ver off => simp [AV.pure] at hp
    | aptr id ver sz i f => simp [AV.pure] at hp
    | yld id => simp [AV.pure] at hp
    | mp id => simp [AV.pure] at hp
    | junk => simp [AV.pure] at hp
    | _ => exact ⟨rfl, h⟩
theorem fzWs_out {f : AV → (AV → Prop) → Prop} {g : AV → Option AV} {i j : AV → List Nat} (hf : ∀ x Q, f x Q → ∃ y, g x = some y ∧ i x = j x ∧ Q y) : ∀ (xs : List AV) {Q : List AV → Prop}, fzWs f xs Q → ∃ ys, xs.mapM g = some ys ∧ xs.flatMap i = xs.flatMap j ∧ Q ys
  | [], Q, h => ⟨[], rfl, rfl, h⟩
  | x :: xs, Q, h => by
    obtain ⟨y, h1, h2, h⟩ := hf x _ h
    obtain ⟨ys, h3, h4, h⟩ := fzWs_out hf xs h
    exact ⟨y :: ys, by simp only [List.mapM_cons, Option.bind_eq_bind, Option.pure_def, h1, h3, Option.bind_some], by simp only [List.flatMap_cons, h2, h4], h⟩
theorem mapM_pure {m : Mem} {n : Nat} : ∀ {xs : List AV}, pureL xs = true → xs.mapM (fz m n) = some xs ∧ xs.flatMap (idsD m n) = []
  | [], _ => ⟨rfl, rfl⟩
  | x :: xs, h => by
    simp only [pureL, Bool.and_eq_true] at h
    obtain ⟨h1, h2⟩ := mapM_pure (m := m) (n := n) h.2
    exact ⟨by simp only [List.mapM_cons, Option.bind_eq_bind, Option.pure_def, fz_pure h.1, h1, Option.bind_some], by simp only [List.flatMap_cons, idsD_pure h.1, h2, List.nil_append]⟩
theorem fzW_out {m : Mem} : ∀ (n : Nat) (x : AV) (Q : AV → Prop), fzW n m x Q → ∃ y, fz m n x = some y ∧ idsD m n x = hids n m x ∧ Q y
  | 0, x, Q, h => by
    obtain ⟨h1, h2⟩ := br_ff h
    exact ⟨x, by simp [fz, h1], rfl, h2⟩
  | n + 1, x, Q, h => by
    by_cases hp : x.pure = true
    · obtain ⟨h1, h2⟩ := fzW_pure (n + 1) x Q hp h
      exact ⟨x, fz_pure hp _, by rw [idsD_pure hp, h1], h2⟩
    cases x with
    | own id ver =>
      simp only [fzW] at h
      split at h
      · rename_i e sz xs hm
        obtain ⟨h1, h⟩ := br_dd h
        obtain ⟨h2, h⟩ := br_ff h
        obtain ⟨h3, h4⟩ := mapM_pure (m := m) (n := n) h2
        exact ⟨_, by simp [fz, hp, hm, h1, h3], by simp [idsD, hids, hp, hm, h4], h⟩
      · rename_i e sz xs hm
        obtain ⟨h1, h⟩ := br_dd h
        obtain ⟨h2, h⟩ := br_ff h
        obtain ⟨h3, h4⟩ := mapM_pure (m := m) (n := n) h2
        exact ⟨_, by simp [fz, hp, hm, h1, h3], by simp [idsD, hids, hp, hm, h4], h⟩
      · cases h
    | ptr id ver off =>
      simp only [fzW] at h
      split at h
      · rename_i cs hm
        obtain ⟨h1, h⟩ := br_dd h
        obtain ⟨ys, h3, h4, h⟩ := fzWs_out (g := fz m n) (i := idsD m n) (j := hids n m) (fzW_out n) _ h
        exact ⟨_, by rw [fz, if_neg hp]; simp only [hm]; rw [if_pos h1, h3]; rfl, by simp only [idsD, hids, hp, hm, h4]; rfl, h⟩
      · cases h
    | agg xs =>
      obtain ⟨ys, h3, h4, h⟩ := fzWs_out (g := fz m n) (i := idsD m n) (j := hids n m) (fzW_out n) _ h
      exact ⟨_, by simp [fz, hp, h3], by simp only [idsD, hids, hp, h4]; rfl, h⟩
    | tup xs =>
      obtain ⟨ys, h3, h4, h⟩ := fzWs_out (g := fz m n) (i := idsD m n) (j := hids n m) (fzW_out n) _ h
      exact ⟨_, by simp [fz, hp, h3], by simp only [idsD, hids, hp, h4]; rfl, h⟩
    | fn f a b =>
      obtain ⟨a', h3, h4, h⟩ := fzWs_out (g := fz m n) (i := idsD m n) (j := hids n m) (fzW_out n) _ h
      obtain ⟨b', h5, h6, h⟩ := fzWs_out (g := fz m n) (i := idsD m n) (j := hids n m) (fzW_out n) _ h
      exact ⟨_, by simp [fz, hp, h3, h5], by simp only [idsD, hids, hp, h4, h6]; rfl, h⟩
    | mp id =>
      simp only [fzW] at h
      split at h
      · rename_i ks vs hm
        obtain ⟨h1, h⟩ := br_ff h
        obtain ⟨h2, h⟩ := br_ff h
        obtain ⟨a1, a2⟩ := mapM_pure (m := m) (n := n) h1
        obtain ⟨b1, b2⟩ := mapM_pure (m := m) (n := n) h2
        exact ⟨_, by simp [fz, hp, hm, a1, b1], by simp [idsD, hids, hp, hm, a2, b2], h⟩
      · cases h
    | seq z fl sz xs => exact absurd (by simpa [AV.pure] using (br_ff h).1) hp
    | rptr xs => exact absurd (by simpa [AV.pure] using (br_ff h).1) hp
    | smap ks vs => exact absurd (by simp [AV.pure, (br_ff h).1, (br_ff (br_ff h).2).1]) hp
    | int k n => exact absurd rfl hp
    | bool b => exact absurd rfl hp
    | str s => exact absurd rfl hp
    | nilptr => exact absurd rfl hp
    | nilfn => exact absurd rfl hp
    | nilmp => exact absurd rfl hp
    | aptr id ver sz i f => exact h.elim
    | yld id => exact h.elim
    | junk => exact h.elim

/-! ### Calls -/
theorem pw_call {g : Nat} {r : AV} {ro : Bool} {m : Mem} {first cap args : List AV} (h : Pw cx g (first ++ args ++ cap) r) (hx : cx.X g = none) (hs : plainF cx.sh g = true) :
    callV cx ro (Fi cx) (Yi cx) m (.fn g first cap) args = some (r, m) := by
  obtain ⟨hL, hr, r0, M, h1, h2⟩ := h
  obtain ⟨g1, g2⟩ := fzs_pure (m := m) hL
  obtain ⟨hs1, hs2, hs3⟩ := plainF_iff hs
  simp only [callV, hx, hs1, hs2, hs3, Bool.false_and, Bool.false_eq_true, if_false, g1, h1, h2, settle, hr, if_true, g2, List.isEmpty_nil, Bool.or_true]
theorem callW_ok {ro : Bool} {e : Env} {m : Mem} {c : Call} {s : Sh} {Q : AV → Mem → Prop} (h : callW cx ro e m c s Q) :
    ∃ f fv as r m', c.callee = .value f ∧ evX cx e f = some fv ∧ evXs cx e c.args.toList = some as ∧ callV cx ro (Fi cx) (Yi cx) m fv as = some (r, m') ∧ Q r m' := by
  unfold callW at h
  split at h
  case h_2 => cases h
  rename_i f hc
  split at h
  case h_2 => cases h
  rename_i g first cap as hf has
  split at h
  case h_2 => cases h
  rename_i hx hs
  split at h
  · obtain ⟨r, h1, h2⟩ := exS_out _ h
    exact ⟨f, _, as, r, m, hc, hf, has, pw_call h1 hx hs, h2⟩
  · rename_i id ids hids'
    obtain ⟨L, h3, h4, h⟩ := fzWs_out (g := fz m 6) (i := idsD m 6) (j := hids 6 m) (fzW_out 6) _ h
    obtain ⟨r, ⟨hL, hr, r0, M, g1, g2⟩, h⟩ := exS_out _ h
    have hz : fzs m (first ++ as ++ cap) = some L := h3
    have hi : idsDL m (first ++ as ++ cap) = id :: ids := by unfold idsDL; rw [h4, hids']
    have hcall : callV cx ro (Fi cx) (Yi cx) m (.fn g first cap) as = settle ro m (first ++ as ++ cap) r := by
      obtain ⟨hs1, hs2, hs3⟩ := plainF_iff hs
      simp only [callV, hx, hs1, hs2, hs3, Bool.false_and, Bool.false_eq_true, if_false, hz, g1, g2]
    have hst : settle ro m (first ++ as ++ cap) r = if r.flat then some (r, m) else if ro then none else some (r, kill m (id :: ids)) := by
      simp only [settle, hr, if_true, hi, List.isEmpty_cons, Bool.or_false]
    rw [hst] at hcall
    cases ro with
    | true =>
      obtain ⟨hfl, h⟩ := br_ff h
      exact ⟨f, _, as, r, m, hc, hf, has, by rw [hcall, hfl]; rfl, h⟩
    | false =>
      rcases br_out h with ⟨hfl, h⟩ | ⟨hfl, h⟩
      · exact ⟨f, _, as, r, m, hc, hf, has, by rw [hcall, hfl]; rfl, h⟩
      · exact ⟨f, _, as, r, _, hc, hf, has, by rw [hcall, hfl]; rfl, h⟩
theorem cap_no {md : Nat} {e : Env} {c : Call} {f : Operand} {fv : AV} (h : (!(md == 1) || capW cx e c) = true) (h1 : c.callee = .value f) (h2 : evX cx e f = some fv) : ¬ (md == 1 && !capOK fv) = true := by
  unfold capW at h
  simp only [h1, h2] at h
  cases hm : (md == 1) <;> cases hc : capOK fv <;> simp [hm, hc] at h ⊢
theorem callsW_ok {ro : Bool} {e : Env} {m : Mem} {c : Call} {Q : AV → Mem → Prop} : ∀ (l : List Sh), callsW cx ro e m c Q l →
    ∃ f fv as r m', c.callee = .value f ∧ evX cx e f = some fv ∧ evXs cx e c.args.toList = some as ∧ callV cx ro (Fi cx) (Yi cx) m fv as = some (r, m') ∧ Q r m' := by
  intro l
  induction l with
  | nil => intro h; exact h.elim
  | cons s l ih =>
    intro h
    cases l with
    | nil => exact callW_ok h
    | cons s' l =>
      rcases h with h | h
      · exact callW_ok h
      · exact ih h
theorem callvW_ok {ro : Bool} {e : Env} {m : Mem} {c : Call} {s : Sh} {Q : AV → Mem → Prop} (h : callvW cx e m c s Q) :
    ∃ f fv as r m', c.callee = .value f ∧ evX cx e f = some fv ∧ evXs cx e c.args.toList = some as ∧ callV cx ro (Fi cx) (Yi cx) m fv as = some (r, m') ∧ Q r m' := by
  unfold callvW at h
  split at h
  case h_2 => cases h
  rename_i f hc
  split at h
  case h_2 => cases h
  rename_i g first cap as hf has
  split at h
  case h_2 => cases h
  rename_i hx
  obtain ⟨hs, h⟩ := br_ff h
  obtain ⟨r, h1, h2⟩ := exS_out _ h
  exact ⟨f, _, as, r, m, hc, hf, has, pw_call h1 hx (by simpa using hs), h2⟩

mutual
theorem ren_pure {g : Nat → Option Nat} : ∀ {x : AV}, x.pure = true → ren g x = some x
  | .agg xs, h => by simp [ren, renL_pure (xs := xs) (by simpa [AV.pure] using h)]
  | .tup xs, h => by simp [ren, renL_pure (xs := xs) (by simpa [AV.pure] using h)]
  | .rptr xs, h => by simp [ren, renL_pure (xs := xs) (by simpa [AV.pure] using h)]
  | .seq z0 fl sz xs, h => by simp [ren, renL_pure (xs := xs) (by simpa [AV.pure] using h)]
  | .fn f a b, h => by
    simp only [AV.pure, Bool.and_eq_true] at h
    simp [ren, renL_pure h.1, renL_pure h.2]
  | .smap a b, h => by
    simp only [AV.pure, Bool.and_eq_true] at h
    simp [ren, renL_pure h.1, renL_pure h.2]
  | .own id v, h => by simp [AV.pure] at h
  | .ptr id v o, h => by simp [AV.pure] at h
  | .aptr id v sz i f, h => by simp [AV.pure] at h
  | .yld id, h => by simp [AV.pure] at h
  | .mp id, h => by simp [AV.pure] at h
  | .junk, h => by simp [AV.pure] at h
  | .int k0 n, _ => rfl
  | .bool b, _ => rfl
  | .str s, _ => rfl
  | .nilptr, _ => rfl
  | .nilfn, _ => rfl
  | .nilmp, _ => rfl
theorem renL_pure {g : Nat → Option Nat} : ∀ {xs : List AV}, pureL xs = true → renL g xs = some xs
  | [], _ => rfl
  | x :: xs, h => by
    simp only [pureL, Bool.and_eq_true] at h
    simp [renL, ren_pure h.1, renL_pure h.2]
end
theorem renWs_out {g : Nat → Option Nat} {f : AV → (AV → Prop) → Prop} (hf : ∀ x Q, f x Q → ∃ y, ren g x = some y ∧ Q y) : ∀ (xs : List AV) {Q : List AV → Prop}, fzWs f xs Q → ∃ ys, renL g xs = some ys ∧ Q ys
  | [], Q, h => ⟨[], rfl, h⟩
  | x :: xs, Q, h => by
    obtain ⟨y, h1, h⟩ := hf x _ h
    obtain ⟨ys, h2, h⟩ := renWs_out hf xs h
    exact ⟨y :: ys, by simp [renL, h1, h2], h⟩
theorem renW_out {g : Nat → Option Nat} : ∀ (n : Nat) (x : AV) (Q : AV → Prop), renW g n x Q → ∃ y, ren g x = some y ∧ Q y
  | 0, x, Q, h => h.elim
  | n + 1, x, Q, h => by
    have ih := renW_out (g := g) n
    unfold renW at h
    cases x with
    | own id v => simp only at h; split at h; (rename_i j hj; exact ⟨_, by simp [ren, hj], h⟩); exact h.elim
    | ptr id v o => simp only at h; split at h; (rename_i j hj; exact ⟨_, by simp [ren, hj], h⟩); exact h.elim
    | mp id => simp only at h; split at h; (rename_i j hj; exact ⟨_, by simp [ren, hj], h⟩); exact h.elim
    | agg xs => obtain ⟨ys, h1, h⟩ := renWs_out ih xs h; exact ⟨_, by simp [ren, h1], h⟩
    | tup xs => obtain ⟨ys, h1, h⟩ := renWs_out ih xs h; exact ⟨_, by simp [ren, h1], h⟩
    | fn f a b =>
      obtain ⟨a', h1, h⟩ := renWs_out ih a h
      obtain ⟨b', h2, h⟩ := renWs_out ih b h
      exact ⟨_, by simp [ren, h1, h2], h⟩
    | seq z fl sz xs => obtain ⟨hp, h⟩ := br_ff h; exact ⟨_, by simp [ren, renL_pure hp], h⟩
    | rptr xs => obtain ⟨hp, h⟩ := br_ff h; exact ⟨_, by simp [ren, renL_pure hp], h⟩
    | smap ks vs => obtain ⟨hp, h⟩ := br_ff h; obtain ⟨hq, h⟩ := br_ff h; exact ⟨_, by simp [ren, renL_pure hp, renL_pure hq], h⟩
    | int k m => exact ⟨_, rfl, h⟩
    | bool b => exact ⟨_, rfl, h⟩
    | str s => exact ⟨_, rfl, h⟩
    | nilptr => exact ⟨_, rfl, h⟩
    | nilfn => exact ⟨_, rfl, h⟩
    | nilmp => exact ⟨_, rfl, h⟩
    | _ => exact h.elim
theorem renBW_out {g : Nat → Option Nat} {k : Blk} {Q : Blk → Prop} (h : renBW g k Q) : ∃ k', renB g k = some k' ∧ Q k' := by
  unfold renBW at h
  cases k with
  | box cs => obtain ⟨ys, h1, h⟩ := renWs_out (renW_out 6) cs h; exact ⟨_, by simp [renB, h1], h⟩
  | arr e sz xs => obtain ⟨hp, h⟩ := br_ff h; exact ⟨_, by simp [renB, renL_pure hp], h⟩
  | vec e sz xs => obtain ⟨hp, h⟩ := br_ff h; exact ⟨_, by simp [renB, renL_pure hp], h⟩
  | mp ks vs => obtain ⟨hp, h⟩ := br_ff h; obtain ⟨hq, h⟩ := br_ff h; exact ⟨_, by simp [renB, renL_pure hp, renL_pure hq], h⟩
  | dead => exact ⟨_, rfl, h⟩
  | lp => exact h.elim
theorem memW_out {m : Mem} {g : Nat → Option Nat} : ∀ (ids : List Nat) {Q : Mem → Prop}, memW m g ids Q → ∃ M, memOf m g ids = some M ∧ Q M
  | [], Q, h => ⟨[], rfl, h⟩
  | id :: ids, Q, h => by
    unfold memW at h
    split at h
    · rename_i k hk
      obtain ⟨k', h1, h⟩ := renBW_out h
      obtain ⟨M, h2, h⟩ := memW_out ids h
      exact ⟨k' :: M, by simp [memOf, hk, h1, h2], h⟩
    · exact h.elim
theorem putW_out {g : Nat → Option Nat} : ∀ (ids : List Nat) {m ks : Mem} {Q : Mem → Prop}, putW g m ids ks Q → ∃ m', putM g m ids ks = some m' ∧ Q m'
  | [], m, [], Q, h => ⟨m, rfl, h⟩
  | [], m, _ :: _, Q, h => h.elim
  | _ :: _, m, [], Q, h => h.elim
  | id :: ids, m, k :: ks, Q, h => by
    unfold putW at h
    obtain ⟨k', h1, h⟩ := renBW_out h
    obtain ⟨m', h2, h⟩ := putW_out ids h
    exact ⟨m', by simp [putM, h1, h2], h⟩
theorem lendW_out {m : Mem} : ∀ (xs : List AV) {Q : List AV → List Nat → Prop}, lendW m xs Q → ∃ ys is, lendOwn m xs = some (ys, is) ∧ Q ys is
  | [], Q, h => ⟨[], [], rfl, h⟩
  | x :: xs, Q, h => by
    unfold lendW at h
    cases x with
    | own id ver =>
      obtain ⟨y, h1, h2, h⟩ := fzW_out _ _ _ h
      obtain ⟨ys, is, h3, h⟩ := lendW_out xs h
      exact ⟨y :: ys, id :: is, by simp [lendOwn, h1, h2, h3, hids], h⟩
    | _ =>
      obtain ⟨ys, is, h3, h⟩ := lendW_out xs h
      exact ⟨_ :: ys, is, by simp [lendOwn, h3], h⟩
theorem exMem_out : ∀ (l : List BSh) (m : Mem) {Q : Mem → Prop}, exMem l m Q → ∃ v, Q v
  | [], m, Q, h => ⟨m, h⟩
  | .keep :: l, b :: m, Q, h => by
    obtain ⟨m', h⟩ := exMem_out l m h
    exact ⟨_, h⟩
  | .keep :: _, [], _, h => by cases h
  | .more :: _, m, Q, h => by
    unfold exMem at h
    obtain ⟨g, h⟩ := h
    exact ⟨g, h⟩
  | .arr e sz :: l, m, Q, h => by
    unfold exMem at h
    obtain ⟨xs, h⟩ := h
    obtain ⟨m', h⟩ := exMem_out l _ h
    exact ⟨_, h⟩
  | .vec e sz :: l, m, Q, h => by
    unfold exMem at h
    obtain ⟨xs, h⟩ := h
    obtain ⟨m', h⟩ := exMem_out l _ h
    exact ⟨_, h⟩
  | .box ss :: l, m, Q, h => by
    unfold exMem at h
    obtain ⟨xs, h⟩ := exSs_out ss h
    obtain ⟨m', h⟩ := exMem_out l _ h
    exact ⟨_, h⟩
theorem ioW_ok {e : Env} {m : Mem} {c : Call} {s : Sh} {bs : List BSh} {Q : AV → Mem → Prop} (h : ioW cx e m c s bs Q) :
    ∃ f fv as r m', c.callee = .value f ∧ evX cx e f = some fv ∧ evXs cx e c.args.toList = some as ∧ callV cx false (Fi cx) (Yi cx) m fv as = some (r, m') ∧ Q r m' := by
  unfold ioW at h
  split at h
  case h_2 => cases h
  rename_i f hc
  split at h
  case h_2 => cases h
  rename_i g first cap as hf has
  split at h
  case h_2 => cases h
  rename_i hx hs hio
  obtain ⟨xs, is, hl, h⟩ := lendW_out _ h
  unfold ioW2 at h
  split at h
  case h_2 => cases h
  rename_i hn
  obtain ⟨ys, h1, h⟩ := renWs_out (renW_out 6) _ h
  obtain ⟨M, h2, h⟩ := memW_out _ h
  obtain ⟨r, h⟩ := exS_out _ h
  obtain ⟨M', ⟨rm, h3, h4⟩, h⟩ := exMem_out _ _ h
  obtain ⟨r', h5, h⟩ := renW_out _ _ _ h
  obtain ⟨m', h6, h⟩ := putW_out _ h
  refine ⟨f, _, as, r', m', hc, hf, has, ?_, h⟩
  simp only [callV, hx, hs, hio, Bool.false_eq_true, if_false, if_true, hl, ioGo, hn, h1, h2, h3, h4, ioBack, h5, h6]
theorem kpAlts_out {g : Nat} {m0 : Mem} {n : Nat} {L : List AV} {Q : AV → Mem → Prop} : ∀ (l : List (Sh × List BSh)), kpAlts cx g m0 n L Q l → ∃ r B r', Pk cx g L r B ∧ ren (fun j => some (n + j)) r = some r' ∧ Q r' (m0 ++ B) := by
  have one : ∀ a, kpAlt cx g m0 n L Q a → ∃ r B r', Pk cx g L r B ∧ ren (fun j => some (n + j)) r = some r' ∧ Q r' (m0 ++ B) := by
    intro a h
    obtain ⟨r, h⟩ := exS_out _ h
    obtain ⟨B, h1, h⟩ := exMem_out _ _ h
    obtain ⟨r', h2, h⟩ := renW_out _ _ _ h
    exact ⟨r, B, r', h1, h2, h⟩
  intro l
  induction l with
  | nil => intro h; exact h.elim
  | cons a l ih =>
    intro h
    cases l with
    | nil => exact one a h
    | cons b l =>
      rcases h with h | h
      · exact one a h
      · exact ih h
theorem kpW_ok {e : Env} {m : Mem} {c : Call} {l : List (Sh × List BSh)} {Q : AV → Mem → Prop} (h : kpW cx e m c l Q) :
    ∃ f fv as r m', c.callee = .value f ∧ evX cx e f = some fv ∧ evXs cx e c.args.toList = some as ∧ callV cx false (Fi cx) (Yi cx) m fv as = some (r, m') ∧ Q r m' := by
  unfold kpW at h
  split at h
  case h_2 => cases h
  rename_i f hc
  split at h
  case h_2 => cases h
  rename_i g first cap as hf has
  split at h
  case h_2 => cases h
  rename_i hx hs hio hkp
  split at h
  · obtain ⟨hp, h⟩ := br_ff h
    obtain ⟨r, B, r', ⟨rm, h1, h2⟩, h3, h⟩ := kpAlts_out l h
    obtain ⟨g1, g2⟩ := fzs_pure (m := m) hp
    refine ⟨f, _, as, r', _, hc, hf, has, ?_, h⟩
    simp only [callV, hx, hs, hio, hkp, Bool.not_false, Bool.and_self, Bool.false_eq_true, if_false, if_true, g1, h1, h2, keepB, h3, g2, List.isEmpty_nil]
  · rename_i id ids hids'
    obtain ⟨L, h3, h4, h⟩ := fzWs_out (g := fz m 6) (i := idsD m 6) (j := hids 6 m) (fzW_out 6) _ h
    have hz : fzs m (first ++ as ++ cap) = some L := h3
    have hi : idsDL m (first ++ as ++ cap) = id :: ids := by unfold idsDL; rw [h4, hids']
    obtain ⟨r, B, r', ⟨rm, h1, h2⟩, h5, h⟩ := kpAlts_out l h
    refine ⟨f, _, as, r', _, hc, hf, has, ?_, h⟩
    simp only [callV, hx, hs, hio, hkp, Bool.not_false, Bool.and_self, Bool.false_eq_true, if_false, if_true, hz, h1, h2, keepB, h5, hi, List.isEmpty_cons]

/-! ### Single operations -/
theorem elemsW_ok {m : Mem} {y : AV} {K : List AV → Prop} (h : elemsW m y K) : ∃ sz ys, elemsA m y = some (sz, ys) ∧ K ys := by
  unfold elemsW at h
  split at h
  · exact ⟨_, _, rfl, h⟩
  · split at h
    · rename_i hm
      obtain ⟨h1, h⟩ := br_dd h
      exact ⟨_, _, by simp only [elemsA, hm, if_pos h1]; rfl, h⟩
    · rename_i hm
      obtain ⟨h1, h⟩ := br_dd h
      exact ⟨_, _, by simp only [elemsA, hm, if_pos h1]; rfl, h⟩
    · cases h
  · cases h
theorem set_self {m : Mem} {id : Nat} {b : Blk} (h : m[id]? = some b) : m.set id b = m := by
  obtain ⟨hl, he⟩ := List.getElem?_eq_some_iff.1 h
  rw [← he]
  exact List.set_getElem_self hl
theorem appW_ok {P : Program} {m : Mem} {t t' : Nat} {x y : AV} {Q : AV → Mem → Prop} (h : appW P m t t' x y Q) : ∃ r m', appendA P m t t' x y = some (r, m') ∧ Q r m' := by
  unfold appW at h
  split at h
  case h_2 => cases h
  rename_i e he
  split at h
  case h_2 => cases h
  rename_i sz bytes hsz hby
  split at h
  case h_2 => cases h
  rename_i hc
  simp only [Bool.and_eq_true, decide_eq_true_eq] at hc
  obtain ⟨⟨rfl, h0⟩, hz⟩ := hc
  obtain ⟨sy, ys, hy, h⟩ := elemsW_ok h
  obtain ⟨hall, h⟩ := br_ff h
  simp only [appendA, if_true, he, hy, hsz, hby, h0, hall, hz, and_self]
  cases x with
  | own id ver =>
    simp only at h
    split at h
    · rename_i e' sz' xs hm
      obtain ⟨⟨e1, e2⟩, h⟩ := br_dd h
      subst e1
      subst e2
      obtain ⟨⟨h1, h2, h3⟩, h⟩ := br_dd h
      subst h1
      simp only [hm, h2, h3, and_self, if_true]
      by_cases hys : ys = []
      · subst hys
        refine ⟨.own id xs.length, m, by simp, ?_⟩
        rw [List.append_nil, set_self hm] at h
        exact h
      · exact ⟨_, _, by simp [hys], h⟩
    · rename_i e' sz' xs hm
      obtain ⟨⟨e1, e2⟩, h⟩ := br_dd h
      subst e1
      subst e2
      obtain ⟨⟨h1, h2, h3⟩, h⟩ := br_dd h
      subst h1
      simp only [hm, h2, h3, and_self, if_true]
      by_cases hys : ys = []
      · subst hys
        refine ⟨.own id xs.length, m, by simp, ?_⟩
        rw [List.append_nil, set_self hm] at h
        exact h
      · exact ⟨_, _, by simp [hys], h⟩
    · cases h
  | seq z full sz' xs =>
    simp only at h
    obtain ⟨⟨h2, h3⟩, h⟩ := br_dd h
    simp only [h2, h3, and_self, if_true]
    rcases br_out h with ⟨hys, k⟩ | ⟨hys, k⟩
    · have hy0 : ys = [] := List.isEmpty_iff.1 hys
      rw [hy0] at hy ⊢
      rcases br_out k with ⟨hzz, q⟩ | ⟨hzz, q⟩
      · exact ⟨_, _, by simp [hzz], q⟩
      · obtain ⟨hf, q⟩ := br_ff q
        simp only [Bool.and_eq_true, decide_eq_true_eq] at hf
        exact ⟨_, _, by simp [hzz, hf], q⟩
    · have hy0 : ys ≠ [] := fun e => by simp [e] at hys
      rcases br_out k with ⟨hzz, q⟩ | ⟨hzz, q⟩
      · exact ⟨_, _, by simp [hy0, hzz], q⟩
      · obtain ⟨hf, q⟩ := br_ff q
        obtain ⟨ha, q⟩ := br_ff q
        simp only [Bool.and_eq_true, decide_eq_true_eq] at hf
        exact ⟨_, _, by simp [hy0, hzz, hf, ha], q⟩
  | _ => cases h
theorem boundW_ok {x : Option AV} {d top : Nat} {K : Nat → Prop} (h : boundW x d top K) : ∃ n, boundA x d top = some n ∧ K n := by
  unfold boundW at h
  split at h
  · exact ⟨_, rfl, h⟩
  · obtain ⟨h1, h⟩ := br_dd h
    exact ⟨_, by simp [boundA, h1], h⟩
  · cases h
theorem boundA_d {v : AV} {d d' top : Nat} : boundA (some v) d top = boundA (some v) d' top := by cases v <;> rfl
theorem boundA_le {x : Option AV} {d top n : Nat} (hd : d ≤ top) (h : boundA x d top = some n) : n ≤ top := by
  unfold boundA at h
  split at h
  · cases h; exact hd
  · split at h
    · cases h; omega
    · cases h
  · cases h
theorem cutW_ok {P : Program} {m : Mem} {t : Nat} {x : AV} {lo hi mx : Option AV} {Q : AV → Mem → Prop} (h : cutW P m t x lo hi mx Q) : ∃ r, sliceA P t x lo hi mx = some r ∧ Q r m := by
  unfold cutW at h
  split at h
  · obtain ⟨⟨h1, h2⟩, h⟩ := br_dd h
    obtain ⟨hh, h3, h⟩ := boundW_ok h
    obtain ⟨l, h4, h⟩ := boundW_ok h
    exact ⟨_, by simp [sliceA, h1, h2, h3, h4], h⟩
  · rename_i z full sz xs
    split at h
    case h_2 => cases h
    rename_i e he
    obtain ⟨h1, h⟩ := br_dd h
    have hb : boundA none xs.length xs.length = some xs.length := rfl
    cases mx with
    | none =>
      cases hi with
      | none =>
        obtain ⟨l, h4, h⟩ := boundW_ok h
        exact ⟨_, by simp [sliceA, he, h1, hb, h4] <;> rfl, by simpa using h⟩
      | some hi =>
        obtain ⟨hh, h3, h⟩ := boundW_ok h
        obtain ⟨l, h4, h⟩ := boundW_ok h
        have h3' : boundA (some hi) xs.length xs.length = some hh := boundA_d.trans h3
        exact ⟨_, by simp [sliceA, he, h1, h3', h4] <;> rfl, h⟩
    | some mx =>
      obtain ⟨mm, h2, h⟩ := boundW_ok h
      cases hi with
      | none => cases h
      | some hi =>
        obtain ⟨hh, h3, h⟩ := boundW_ok h
        obtain ⟨h5, k⟩ := br_dd h
        obtain ⟨l, h4, q⟩ := boundW_ok k
        have h3' : boundA (some hi) xs.length mm = some hh := boundA_d.trans h3
        subst h5
        exact ⟨_, by simp [sliceA, he, h1, h2, h3', h4] <;> rfl, q⟩
  · cases h
theorem ixW_ok {P : Program} {m : Mem} {t : Nat} {x : AV} {k : IntKind} {i : Int} {s : Sh} {Q : AV → Mem → Prop} (h : ixW P m t x i s Q) : ∃ r, indexAddrA P m t x (.int k i) = some r ∧ Q r m := by
  unfold ixW at h
  split at h
  case h_2 => cases h
  rename_i et he
  split at h
  · obtain ⟨h1, h⟩ := br_dd h
    obtain ⟨h2, h⟩ := br_dd h
    obtain ⟨y, hy, h⟩ := exS_out _ h
    split at h
    · cases h
    · rename_i c cs hc
      exact ⟨_, by simp [indexAddrA, he, h1, h2, hy, hc], h⟩
  · split at h
    · rename_i hm
      obtain ⟨⟨h1, h0⟩, h⟩ := br_dd h
      obtain ⟨h2, h⟩ := br_dd h
      obtain ⟨⟨h3, h4⟩, h⟩ := br_dd h
      exact ⟨_, by simp [indexAddrA, he, shp, hm, shpB, h1, h2, h0, h3, h4], h⟩
    · cases h
  · cases h
theorem arW_ok {P : Program} {m : Mem} {o : BinOp} {x y : AV} {Q : AV → Mem → Prop} (h : arW m o x y Q) : ∃ r, (∀ t, binA P m o t x y = some r) ∧ Q r m := by
  unfold arW at h
  split at h
  · split at h
    · obtain ⟨h1, h⟩ := br_dd h
      exact ⟨_, fun t => by simp [binA, intA, Int.not_lt.2 h1], h⟩
    · obtain ⟨h1, h⟩ := br_dd h
      exact ⟨_, fun t => by simp [binA, intA, Int.not_lt.2 h1], h⟩
    · obtain ⟨hk, k⟩ := br_dd h
      subst hk
      split at k
      · obtain ⟨h1, q⟩ := br_dd k
        exact ⟨_, fun t => by simp [binA, intA, h1], q⟩
      · obtain ⟨h1, q⟩ := br_dd k
        exact ⟨_, fun t => by simp [binA, intA, h1], q⟩
      · obtain ⟨h1, q⟩ := br_dd k
        exact ⟨_, fun t => by simp [binA, intA, h1], q⟩
      · obtain ⟨h1, q⟩ := br_dd k
        exact ⟨_, fun t => by simp [binA, intA, h1], q⟩
      · obtain ⟨h1, q⟩ := br_dd k
        exact ⟨_, fun t => by simp [binA, intA, h1], q⟩
      · cases k
  · split at h
    · obtain ⟨h1, h⟩ := br_dd h
      exact ⟨_, fun t => by simp only [binA, strA, if_neg (Int.not_lt.2 h1)], h⟩
    · cases h
  · cases h
theorem storeW_ok {P : Program} {m : Mem} {t : Nat} {a v : AV} {s : Sh} {Q : AV → Mem → Prop} (h : storeW P m t a v s Q) : ∃ m', storeA P m t a v = some m' ∧ Q .undef m' := by
  unfold storeW at h
  split at h
  case h_2 => cases h
  rename_i id ver sz i f
  obtain ⟨h1, h⟩ := br_ff h
  simp only [Bool.and_eq_true, decide_eq_true_eq] at h1
  split at h
  case h_2 => cases h
  rename_i e sz' xs hm
  obtain ⟨h2, h⟩ := br_dd h
  obtain ⟨hz, k⟩ := br_dd h
  subst hz
  split at k
  · rename_i hs
    have hs : 1 < sz := by simpa using hs
    obtain ⟨h3, k⟩ := br_dd k
    obtain ⟨y, hy, k⟩ := exS_out _ k
    exact ⟨_, by simp [storeA, h1, hm, h2, h3, hs, hy], k⟩
  · rename_i hs
    obtain ⟨⟨h5, h6⟩, k⟩ := br_dd k
    obtain ⟨h4, k⟩ := br_dd k
    have hns : ¬ (1 < sz) := by omega
    cases v with
    | agg xs => cases k
    | _ =>
      refine ⟨_, ?_, k⟩
      simp only [storeA, h1, and_self, if_true, hm, h2]
      rw [if_neg (fun q => hns q.2.2.2), if_pos ⟨trivial, trivial, h6, h5, by omega⟩]
theorem str_get {a : ByteArray} {i : Nat} {b : UInt8} (h : a.data.toList[i]? = some b) : a[i]? = some b := by
  have hlt : i < a.size := by have := (List.getElem?_eq_some_iff.1 h).1; simpa using this
  have h2 := (List.getElem?_eq_some_iff.1 h).2
  rw [getElem?_pos a i hlt]
  congr 1
theorem autoW_ok {md : Nat} {e : Env} {m : Mem} {op : Op} {s : Sh} {Q : AV → Mem → Prop} (h : autoW cx md e m op s Q) : ∃ r m', evOp cx md (Fi cx) (Yi cx) e m op = some (r, m') ∧ Q r m' := by
  unfold autoW at h
  split at h
  · rename_i c
    split at h
    · rename_i f hc
      obtain ⟨hcp, h⟩ := br_ff h
      obtain ⟨f', fv, as, r, m', h1, h2, h3, h4, h5⟩ := callW_ok h
      exact ⟨r, m', by simp only [evOp, h1, h2, h3]; rw [if_neg (cap_no hcp h1 h2)]; exact h4, h5⟩
    · rename_i b hc
      split at h
      · rename_i id ver t has hts
        split at h
        · rename_i hm
          obtain ⟨h1, h⟩ := br_ff h
          obtain ⟨h2, h⟩ := br_dd h
          exact ⟨_, _, by simp [evOp, hc, has, hts, noMem, lenA, h1, verOf, shp, hm, shpB, h2], h⟩
        · rename_i hm
          obtain ⟨h1, h⟩ := br_ff h
          obtain ⟨h2, h⟩ := br_dd h
          exact ⟨_, _, by simp [evOp, hc, has, hts, noMem, lenA, h1, verOf, shp, hm, shpB, h2], h⟩
        · cases h
      · rename_i x y t t' has hts
        obtain ⟨h1, h⟩ := br_dd h
        obtain ⟨r, m', h2, h3⟩ := appW_ok h
        exact ⟨r, m', by simp only [evOp, hc, has, hts, if_pos h1, h2], h3⟩
      · cases h
    · cases h
  · split at h
    · rename_i hx hy
      obtain ⟨r, h1, h2⟩ := arW_ok (P := cx.P) h
      exact ⟨r, m, by simp only [evOp, hx, hy, noMem]; rw [h1]; rfl, h2⟩
    · cases h
  · split at h
    · rename_i hx hy
      obtain ⟨r, h1, h2⟩ := ixW_ok (k := ‹IntKind›) h
      exact ⟨r, m, by simp only [evOp, hx, hy, noMem]; rw [h1]; rfl, h2⟩
    · cases h
  · split at h
    · rename_i hx hy
      obtain ⟨h1, h⟩ := br_ff h
      obtain ⟨h2, h⟩ := br_dd h
      obtain ⟨b, h3, h⟩ := h
      exact ⟨_, m, by simp [evOp, hx, hy, noMem, indexA, h1, h2, str_get h3], h⟩
    · cases h
  · split at h
    · rename_i hx
      split at h
      · rename_i hm
        obtain ⟨h1, h⟩ := br_dd h
        obtain ⟨h2, h⟩ := br_dd h
        obtain ⟨y, h3, h⟩ := exS_out _ h
        split at h
        · rename_i v h4
          exact ⟨_, m, by simp [evOp, hx, noMem, loadA, hm, h1, h2, h3, h4], h⟩
        · cases h
      · cases h
    · cases h
  · split at h
    · rename_i hx hy
      obtain ⟨h1, h⟩ := br_dd h
      obtain ⟨m', h2, h3⟩ := storeW_ok h
      exact ⟨_, m', by simp [evOp, hx, hy, h1, h2], h3⟩
    · cases h
  · split at h
    · rename_i h1 h2 h3 h4
      obtain ⟨r, h5, h6⟩ := cutW_ok h
      exact ⟨r, m, by simp only [evOp, h1, h2, h3, h4, h5, noMem]; rfl, h6⟩
    · cases h
  · split at h
    · rename_i hx hy
      obtain ⟨r, h1, h2⟩ := exS_out _ h
      exact ⟨r, m, by simp only [evOp, hx, hy, h1, noMem]; rfl, h2⟩
    · cases h
  · cases h
theorem opW_ok {md : Nat} {e : Env} {m : Mem} {op : Op} {hn : Option Hint} {Q : AV → Mem → Prop} (h : opW cx md e m op hn Q) : ∃ r m', evOp cx md (Fi cx) (Yi cx) e m op = some (r, m') ∧ Q r m' := by
  unfold opW at h
  split at h
  · split at h
    · rename_i r m' h1; exact ⟨r, m', h1, h⟩
    · cases h
  · obtain ⟨r, h1, h2⟩ := exS_out _ h
    exact ⟨r, m, h1, h2⟩
  · split at h
    · rename_i b m' h1
      rcases br_out h with ⟨rfl, h⟩ | ⟨rfl, h⟩
      · exact ⟨_, _, h1, h⟩
      · exact ⟨_, _, h1, h⟩
    · cases h
  · split at h
    · rename_i c
      obtain ⟨hcp, h⟩ := br_ff h
      obtain ⟨f', fv, as, r, m', h1, h2, h3, h4, h5⟩ := callvW_ok (ro := md != 0) h
      exact ⟨r, m', by simp only [evOp, h1, h2, h3]; rw [if_neg (cap_no hcp h1 h2)]; exact h4, h5⟩
    · cases h
  · exact autoW_ok h
  · split at h
    · rename_i c
      obtain ⟨f', fv, as, r, m', h1, h2, h3, h4, h5⟩ := ioW_ok h
      exact ⟨r, m', by simp only [evOp, h1, h2, h3]; exact h4, h5⟩
    · cases h
  · split at h
    · rename_i c
      obtain ⟨f', fv, as, r, m', h1, h2, h3, h4, h5⟩ := kpW_ok h
      exact ⟨r, m', by simp only [evOp, h1, h2, h3]; exact h4, h5⟩
    · cases h
  · split at h
    · rename_i c
      obtain ⟨hcp, h⟩ := br_ff h
      obtain ⟨f', fv, as, r, m', h1, h2, h3, h4, h5⟩ := callsW_ok _ h
      exact ⟨r, m', by simp only [evOp, h1, h2, h3]; rw [if_neg (cap_no hcp h1 h2)]; exact h4, h5⟩
    · cases h

/-! ### Code -/
theorem upd_self {e : Env} {d : Nat} {v : AV} (h : e d = v) : upd e d v = e := by
  funext u
  unfold upd
  split
  · rename_i hu; rw [hu, h]
  · rfl
theorem oneW_ok {ro : Bool} {H : Hs} {ops : Array Oper} {o : Oper} {e : Env} {m : Mem} {K : Env → Mem → Prop} (h : oneW cx ro H ops o e m K) : ∃ e' m', evOne cx ro (Fi cx) (Yi cx) ops o e m = some (e', m') ∧ K e' m' := by
  unfold oneW at h
  split at h
  · rename_i hg
    obtain ⟨r, m', h1, h2⟩ := opW_ok h
    unfold modeOf at h1
    exact ⟨_, _, by simp only [evOne, wantA, hg, h1], h2⟩
  · rename_i j want hg
    split at h
    · rename_i hd
      exact ⟨_, _, by simp only [evOne, wantA, hg, hd], h⟩
    · rename_i d hd
      split at h
      · rename_i g he
        rcases br_out h with ⟨rfl, h⟩ | ⟨rfl, h⟩
        · rw [upd_self he] at h
          cases want with
          | true =>
            obtain ⟨r, m', h1, h2⟩ := opW_ok h
            unfold modeOf at h1
            exact ⟨_, _, by simp only [evOne, wantA, hg, hd, he, beq_self_eq_true, h1], h2⟩
          | false => exact ⟨_, _, by simp [evOne, wantA, hg, hd, he], h⟩
        · rw [upd_self he] at h
          cases want with
          | false =>
            obtain ⟨r, m', h1, h2⟩ := opW_ok h
            unfold modeOf at h1
            exact ⟨_, _, by simp only [evOne, wantA, hg, hd, he, beq_self_eq_true, h1], h2⟩
          | true => exact ⟨_, _, by simp [evOne, wantA, hg, hd, he], h⟩
      · rename_i he
        exact ⟨_, _, by simp only [evOne, wantA, hg, hd, he], h⟩
      · cases h
theorem listW_ok {ro : Bool} {H : Hs} {ops : Array Oper} : ∀ {os : List Oper} {e : Env} {m : Mem} {K : Env → Mem → Prop}, listW cx ro H ops os e m K → ∃ e' m', evList cx ro (Fi cx) (Yi cx) ops os e m = some (e', m') ∧ K e' m'
  | [], e, m, K, h => ⟨e, m, rfl, h⟩
  | o :: os, e, m, K, h => by
    obtain ⟨e1, m1, h1, h⟩ := oneW_ok h
    obtain ⟨e2, m2, h2, h⟩ := listW_ok h
    exact ⟨e2, m2, by simp only [evList, h1, h2], h⟩
theorem exUs_out : ∀ (l : List (Nat × Sh)) {Q : List AV → Prop}, exUs l Q → ∃ v, Q v
  | [], Q, h => ⟨[], h⟩
  | (_, s) :: ss, Q, h => by
    obtain ⟨x, h⟩ := exS_out s h
    obtain ⟨xs, h⟩ := exUs_out ss h
    exact ⟨_, h⟩
theorem lruns_keep {top : Bool} {N : Nat} {c : Code} {e e' : Env} {m m' : Mem} {x : Exit} (h : LRuns cx top N c e m x e' m') {t : Nat} (ht : t ∉ dsts c) : e' t = e t := by
  obtain ⟨n, h⟩ := h
  exact evLoop_keep ht (fun h => evCode_keep c ht h) h
theorem altW_ok {top : Bool} {c : Code} {ts : List Nat} {e : Env} {m : Mem} {K : Exit → Env → Mem → Prop} {a : LAlt} (h : altW cx top c ts e m K a) : ∃ x e' m', LRuns cx top m.length c e m x e' m' ∧ K x e' m' := by
  obtain ⟨ws, h⟩ := exUs_out _ h
  obtain ⟨m', h1, h2⟩ := exMem_out _ _ h
  obtain ⟨e', h3, h4⟩ := h1 e rfl
  have := h2 e'
  rw [mixE_self (fun t ht => lruns_keep h3 ht), envL_self h4] at this
  exact ⟨_, e', m', h3, this⟩
theorem altsW_ok {top : Bool} {c : Code} {ts : List Nat} {e : Env} {m : Mem} {K : Exit → Env → Mem → Prop} : ∀ {l : List LAlt}, altsW cx top c ts e m K l → ∃ x e' m', LRuns cx top m.length c e m x e' m' ∧ K x e' m'
  | [], h => h.elim
  | [a], h => altW_ok h
  | a :: b :: l, h => by
    rcases h with h | h
    · exact altW_ok h
    · exact altsW_ok h
theorem evX_setX {e : Env} {x : Operand} {b : Bool} (h : evX cx e x = some (.bool b)) : setX e x b = e := by
  cases x with
  | tmp t =>
    have ht : e t = .bool b := by simpa [evX] using h
    funext u
    unfold setX upd
    simp only
    split
    · rename_i hu; rw [hu, ht]
    · rfl
  | _ => rfl
theorem Runs.region {top : Bool} {id : Nat} {ops : Array Oper} {draw : Bool} {e e' : Env} {m m' : Mem} (h : evList cx draw (Fi cx) (Yi cx) ops (if draw then drawn ops else ops.toList) e m = some (e', m')) : Runs cx top (.region id ops draw) e m .normal e' m' := ⟨0, by simp only [evCode, h]⟩
theorem codeW_ok {top : Bool} {H : Hs} (c : Code) : ∀ {j : Nat} {e : Env} {m : Mem} {Q : Exit → Env → Mem → Prop}, codeW cx top H c j e m Q → ∃ x e' m', Runs cx top c e m x e' m' ∧ Q x e' m' := by
  induction c with
  | skip => intro j e m Q h; exact ⟨_, e, m, ⟨0, rfl⟩, h⟩
  | exit id => intro j e m Q h; exact ⟨_, e, m, ⟨0, rfl⟩, h⟩
  | ret => intro j e m Q h; exact ⟨_, e, m, ⟨0, rfl⟩, h⟩
  | region id ops draw =>
    intro j e m Q h
    obtain ⟨e', m', h1, h2⟩ := listW_ok h
    exact ⟨_, e', m', Runs.region h1, h2⟩
  | seq a b iha ihb =>
    intro j e m Q h
    simp only [codeW] at h
    obtain ⟨x, e1, m1, ⟨n, h1⟩, h2⟩ := iha h
    cases x with
    | normal =>
      obtain ⟨x, e2, m2, ⟨k, h3⟩, h4⟩ := ihb h2
      exact ⟨x, e2, m2, ⟨max n k, by simp only [evCode, evCode_up (show n ≤ max n k by omega) h1, evCode_up (show k ≤ max n k by omega) h3]⟩, h4⟩
    | _ => exact ⟨_, e1, m1, ⟨n, by simp only [evCode, h1]⟩, h2⟩
  | cond c a b iha ihb =>
    intro j e m Q h
    simp only [codeW] at h
    split at h
    · rename_i t hc
      rcases br_out h with ⟨rfl, h⟩ | ⟨rfl, h⟩
      · rw [evX_setX hc] at h
        obtain ⟨x, e1, m1, ⟨n, h1⟩, h2⟩ := iha h
        exact ⟨x, e1, m1, ⟨n, by simp only [evCode, hc, if_true, h1]⟩, h2⟩
      · rw [evX_setX hc] at h
        obtain ⟨x, e1, m1, ⟨n, h1⟩, h2⟩ := ihb h
        exact ⟨x, e1, m1, ⟨n, by simp only [evCode, hc, Bool.false_eq_true, if_false, h1]⟩, h2⟩
    · cases h
  | block id c ih =>
    intro j e m Q h
    simp only [codeW] at h
    obtain ⟨x, e1, m1, ⟨n, h1⟩, h2⟩ := ih h
    cases x with
    | exit id' =>
      simp only at h2
      split at h2
      · rename_i hb
        have : id' = id := Nat.eq_of_beq_eq_true hb
        exact ⟨_, e1, m1, ⟨n, by simp only [evCode, h1, if_pos this]⟩, h2⟩
      · rename_i hb
        have : id' ≠ id := fun e => by subst e; simp at hb
        exact ⟨_, e1, m1, ⟨n, by simp only [evCode, h1, if_neg this]⟩, h2⟩
    | _ => exact ⟨_, e1, m1, ⟨n, by simp only [evCode, h1]⟩, h2⟩
  | loop c ih =>
    intro j e m Q h
    simp only [codeW] at h
    split at h
    · obtain ⟨x, e1, m1, ⟨n, h1⟩, h2⟩ := altsW_ok h
      exact ⟨x, e1, m1, ⟨n, by simp only [evCode, h1]⟩, h2⟩
    · cases h
  | _ => intro j e m Q h; exact h.elim
theorem funW_ok {H : Hs} {f : Nat} {as : List AV} {m : Mem} {Q : AV → Mem → Prop} (h : funW cx H f as m Q) : ∃ r m', Fi cx f as m = some (r, m') ∧ Q r m' := by
  unfold funW at h
  split at h
  case h_2 => cases h
  rename_i fn hf
  split at h
  case h_2 => cases h
  rename_i hok
  split at h
  case h_2 => cases h
  rename_i c hb
  obtain ⟨x, e', m', ⟨n, h1⟩, h2⟩ := codeW_ok c h
  have key : ∀ r, (x = .normal ∨ x = .ret) → evRes cx fn e' m' = some r → Fi cx f as m = some (r, m') := by
    intro r hx hr
    refine evFunW_lim (n := n) ?_
    unfold evFunW
    rcases hx with rfl | rfl <;> simp [hf, hok, hb, h1, hr]
  split at h2
  · split at h2
    · rename_i r hr; exact ⟨r, m', key r (.inl rfl) hr, h2⟩
    · cases h2
  · split at h2
    · rename_i r hr; exact ⟨r, m', key r (.inr rfl) hr, h2⟩
    · cases h2
  · cases h2
theorem pureW_ok {H : Hs} {f : Nat} {as : List AV} {Q : AV → Prop} (hp : pureL as = true) (h : pureW cx H f as Q) : ∃ r, Pw cx f as r ∧ Q r := by
  obtain ⟨r, m', h1, h2⟩ := funW_ok h
  obtain ⟨y, h3, _, h4⟩ := fzW_out _ _ _ h2
  exact ⟨y, ⟨hp, (fz_form h3).1, r, m', h1, h3⟩, h4⟩
theorem roundW_ok {top : Bool} {H : Hs} {c : Code} {ts : List Nat} {vs : List AV} {us : List Nat} {e : Env} {m : Mem} {Q : Exit → List AV → Mem → Prop} (h : roundW cx top H c ts vs us e m Q) :
    ∃ x e' m', Runs cx top c (envL ts vs e) m x e' m' ∧ Q x (us.map e') m' := codeW_ok c h
theorem pw_mk {H : Hs} {f : Nat} {as : List AV} {res : AV} (hp : pureL as = true) (h : pureW cx H f as (· = res)) : Pw cx f as res := by
  obtain ⟨r, h1, rfl⟩ := pureW_ok hp h
  exact h1
theorem retrW_ok {N : Nat} {r : AV} {m : Mem} {Q : AV → Mem → Prop} (h : retrW N r m Q) : ∃ r' m', retrunc N (r, m) = some (r', m') ∧ Q r' m' := by
  obtain ⟨h1, h⟩ := br_ff h
  rcases br_out h with ⟨h2, h⟩ | ⟨h2, h⟩
  · exact ⟨r, m.take N, by unfold retrunc; rw [if_pos h1, if_pos h2], h⟩
  · obtain ⟨y, h3, h4, h⟩ := fzW_out _ _ _ h
    obtain ⟨h5, h⟩ := br_ff h
    exact ⟨y, m.take N, by unfold retrunc; rw [if_pos h1, if_neg (by rw [h2]; simp), if_pos (by rw [h4]; exact h5), h3]; rfl, h⟩
theorem blksW_ok {m : Mem} : ∀ (ids : List Nat) {Q : Mem → Prop}, blksW m ids Q → ∃ B, ids.mapM (fun id => m[id]?) = some B ∧ B.all arrB = true ∧ Q B
  | [], Q, h => ⟨[], rfl, rfl, h⟩
  | id :: ids, Q, h => by
    unfold blksW at h
    split at h
    · rename_i e sz xs hm
      obtain ⟨hp, h⟩ := br_ff h
      obtain ⟨B, h1, h2, h⟩ := blksW_ok ids h
      exact ⟨_ :: B, by rw [List.mapM_cons, hm, h1]; rfl, by rw [List.all_cons, h2, Bool.and_true]; exact hp, h⟩
    · exact h.elim
theorem thwW_ok {r : AV} {m : Mem} {Q : AV → Mem → Prop} (h : thwW r m Q) : ∃ r' B, thw (r, m) = some (r', B) ∧ Q r' B := by
  unfold thwW at h
  split at h
  · rename_i hn
    obtain ⟨r', h1, h⟩ := renW_out _ _ _ h
    obtain ⟨B, h2, h3, h⟩ := blksW_ok _ h
    exact ⟨r', B, by unfold thw; simp only [hn, h1, h2, h3, if_true], h⟩
  · exact h.elim
theorem pi_k {T : Prop} {H : Hs} {f : Nat} {as : List AV} {M M' : Mem} {res : AV} (heq : T = funW cx H f as M fun r m => retrW M.length r m fun r' m' => r' = res ∧ m' = M') (h : T) : Pi cx f as M res M' := by
  rw [heq] at h
  obtain ⟨r, m, h1, h⟩ := funW_ok h
  obtain ⟨r', m', h2, rfl, rfl⟩ := retrW_ok h
  exact ⟨_, h1, h2⟩
theorem pk_k {T : Prop} {H : Hs} {f : Nat} {as : List AV} {B' : Mem} {res : AV} (heq : T = funW cx H f as [] fun r m => thwW r m fun r' B => r' = res ∧ B = B') (h : T) : Pk cx f as res B' := by
  rw [heq] at h
  obtain ⟨r, m, h1, h⟩ := funW_ok h
  obtain ⟨r', m', h2, rfl, rfl⟩ := thwW_ok h
  exact ⟨_, h1, h2⟩
theorem pw_k {T : Prop} {H : Hs} {f : Nat} {as : List AV} {res : AV} (heq : T = pureW cx H f as (· = res)) (hp : pureL as = true) (h : T) : Pw cx f as res := pw_mk hp (heq ▸ h)
/-- How a round ends: on with the loop (N: how long the memory was before it), or out. -/
def RQ (cx : Cx) (top : Bool) (N : Nat) (c : Code) (ts us : List Nat) (x' : Exit) (ws : List AV) (m' : Mem) : Exit → Env → Mem → Prop := fun x e m => match x with
  | .normal => br (decide (m.length ≤ N)) (LoopAns cx top N c ts (ts.map e) m x' us ws m')
    (br ((m.take N).all (blkUnder N 0)) (br (underL N ((live c).map e)) (br (underL N (ts.map e)) (LoopAns cx top N c ts (ts.map e) (m.take N) x' us ws m') False) (LoopAns cx top N c ts (ts.map e) m x' us ws m')) (LoopAns cx top N c ts (ts.map e) m x' us ws m'))
  | x => x = x' ∧ us.map e = ws ∧ m = m'
theorem san_map {N : Nat} {D : List Nat} {e : Env} : ∀ {ts : List Nat}, underL N (ts.map e) = true → ts.map (sanE N D e) = ts.map e
  | [], _ => rfl
  | t :: ts, h => by
    simp only [List.map_cons, underL, Bool.and_eq_true] at h
    simp only [List.map_cons, san_map h.2, List.cons.injEq, and_true]
    unfold sanE
    simp [h.1]
theorem loop_round {top : Bool} {H : Hs} {N : Nat} {c : Code} {ts us : List Nat} {vs ws : List AV} {m m' : Mem} {x' : Exit} (h : ∀ e, codeW cx top H c 0 (envL ts vs e) m (RQ cx top N c ts us x' ws m')) : LoopAns cx top N c ts vs m x' us ws m' := by
  intro e he
  obtain ⟨x, e1, m1, h1, h2⟩ := codeW_ok c (h e)
  rw [envL_self he] at h1
  cases x with
  | normal =>
    have go : ∀ {e2 : Env} {m2 : Mem}, trimL N c e1 m1 = (e2, m2) → LoopAns cx top N c ts (ts.map e2) m2 x' us ws m' → ∃ e', LRuns cx top N c e m x' e' m' ∧ us.map e' = ws := by
      intro e2 m2 ht hl
      obtain ⟨e3, h3, h4⟩ := hl e2 rfl
      exact ⟨e3, LRuns.next h1 (by rw [ht]; exact h3), h4⟩
    rcases br_out h2 with ⟨a1, k⟩ | ⟨a1, k⟩
    · exact go (by unfold trimL; rw [if_pos (of_decide_eq_true a1)]) k
    · have a1 : ¬ m1.length ≤ N := of_decide_eq_false a1
      rcases br_out k with ⟨a2, k⟩ | ⟨a2, k⟩
      · rcases br_out k with ⟨a3, k⟩ | ⟨a3, k⟩
        · obtain ⟨a4, k⟩ := br_ff k
          refine go (e2 := sanE N (dsts c) e1) (m2 := m1.take N) (by unfold trimL; rw [if_neg a1, if_pos (by rw [a2, a3]; rfl)]) ?_
          rw [san_map a4]
          exact k
        · exact go (by unfold trimL; rw [if_neg a1, if_neg (by rw [a3]; simp)]) k
      · exact go (by unfold trimL; rw [if_neg a1, if_neg (by rw [a2]; simp)]) k
  | _ =>
    obtain ⟨h3, h4, h5⟩ := h2
    subst h3
    subst h5
    exact ⟨e1, LRuns.stop h1 (by simp), h4⟩
theorem loop_k {top : Bool} {H : Hs} {N : Nat} {c : Code} {ts us : List Nat} {vs ws : List AV} {m m' : Mem} {x' : Exit} {T : Env → Prop} (heq : T = fun e => codeW cx top H c 0 (envL ts vs e) m (RQ cx top N c ts us x' ws m')) (h : ∀ e, T e) : LoopAns cx top N c ts vs m x' us ws m' := by
  subst heq
  exact loop_round h
end Go.Ab
