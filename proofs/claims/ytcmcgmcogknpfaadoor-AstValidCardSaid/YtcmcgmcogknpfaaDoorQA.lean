/- The evaluator without fuel: its limit, and runs of code over it. -/
import Derived.Test.YtcmcgmcogknpfaaDoorFB
import Derived.Test.YtcmcgmcogknpfaaDoorPC
set_option linter.unusedVariables false
set_option linter.unusedSimpArgs false
namespace Go.Ab
open Go

variable {cx : Cx}
open Classical in
noncomputable def limC (G : Nat → CallT) : CallT := fun f as m => if h : ∃ r n, G n f as m = some r then some h.choose else none
theorem limC_iff {G : Nat → CallT} (mono : ∀ n n', n ≤ n' → CLe (G n) (G n')) {f : Nat} {as : List AV} {m : Mem} {r : AV × Mem} : limC G f as m = some r ↔ ∃ n, G n f as m = some r := by
  unfold limC
  constructor
  · intro h
    split at h
    · rename_i hx
      cases h
      exact hx.choose_spec
    · cases h
  · rintro ⟨n, hn⟩
    have hx : ∃ r n, G n f as m = some r := ⟨r, n, hn⟩
    rw [dif_pos hx]
    obtain ⟨n', hn'⟩ := hx.choose_spec
    have h1 := mono n (max n n') (by omega) _ _ _ _ hn
    have h2 := mono n' (max n n') (by omega) _ _ _ _ hn'
    rw [h1] at h2
    exact h2.symm
/-- A function's calls, and a round's, with enough fuel. -/
noncomputable def Fi (cx : Cx) : CallT := limC (evFun cx)
noncomputable def Yi (cx : Cx) : CallT := limC (evYld cx)
theorem fi_iff {f : Nat} {as : List AV} {m : Mem} {r : AV × Mem} : Fi cx f as m = some r ↔ ∃ n, evFun cx n f as m = some r := limC_iff fun _ _ h => (evAll_le h).1
theorem yi_iff {f : Nat} {as : List AV} {m : Mem} {r : AV × Mem} : Yi cx f as m = some r ↔ ∃ n, evYld cx n f as m = some r := limC_iff fun _ _ h => (evAll_le h).2

theorem callV_lim {ro : Bool} {m : Mem} {c : AV} {as : List AV} {r : AV × Mem} (h : callV cx ro (Fi cx) (Yi cx) m c as = some r) : ∃ N, callV cx ro (evFun cx N) (evYld cx N) m c as = some r := by
  cases c with
  | fn f first cap =>
    simp only [callV] at h ⊢
    generalize first ++ as ++ cap = L at h ⊢
    cases hx : cx.X f with
    | some g => simp only [hx] at h ⊢; exact ⟨0, h⟩
    | none =>
      simp only [hx] at h ⊢
      split at h
      · rename_i hsh
        simp only [if_pos hsh]
        split at h
        · cases h
        · rename_i hro
          simp only [if_neg hro]
          cases hl : lendOwn m L with
          | none => simp [hl] at h
          | some p =>
            simp only [hl] at h ⊢
            cases hf : Fi cx f p.1 (kill m p.2) with
            | none => simp [hf] at h
            | some rm =>
              simp only [hf] at h
              obtain ⟨N, hN⟩ := fi_iff.1 hf
              exact ⟨N, by rw [hN]; exact h⟩
      · rename_i hsh
        simp only [if_neg hsh]
        cases hz : fzs m L with
        | none => simp [hz] at h
        | some as' =>
          simp only [hz] at h ⊢
          cases hf : Fi cx f as' [] with
          | none => simp [hf] at h
          | some rm =>
            simp only [hf] at h
            obtain ⟨N, hN⟩ := fi_iff.1 hf
            exact ⟨N, by rw [hN]; exact h⟩
  | yld id =>
    simp only [callV] at h ⊢
    split at h
    · cases h
    · rename_i hro
      simp only [if_neg hro]
      cases hl : lendOwn m as with
      | none => simp [hl] at h
      | some p =>
        simp only [hl] at h ⊢
        cases hf : Yi cx id p.1 (kill m p.2) with
        | none => simp [hf] at h
        | some rm =>
          simp only [hf] at h
          obtain ⟨N, hN⟩ := yi_iff.1 hf
          exact ⟨N, by rw [hN]; exact h⟩
  | _ => cases h

theorem evOp_lim {md : Nat} {e : Env} {m : Mem} {op : Op} {r : AV × Mem} (h : evOp cx md (Fi cx) (Yi cx) e m op = some r) : ∃ N, evOp cx md (evFun cx N) (evYld cx N) e m op = some r := by
  cases op with
  | call c =>
    obtain ⟨callee, args, ats⟩ := c
    cases callee with
    | value f =>
      simp only [evOp] at h ⊢
      split at h
      · rename_i fv as hf has
        obtain ⟨N, hN⟩ := callV_lim h
        exact ⟨N, hN⟩
      · cases h
    | invoke _ _ => exact ⟨0, h⟩
    | builtin b => exact ⟨0, h⟩
  | _ => exact ⟨0, h⟩

theorem evList_lim {ro : Bool} {ops : Array Oper} : ∀ {os : List Oper} {e : Env} {m : Mem} {r : Env × Mem}, evList cx ro (Fi cx) (Yi cx) ops os e m = some r → ∃ N, evList cx ro (evFun cx N) (evYld cx N) ops os e m = some r
  | [], e, m, r, h => ⟨0, h⟩
  | o :: os, e, m, r, h => by
    simp only [evList] at h ⊢
    unfold evOne at h ⊢
    cases hw : wantA ops e o with
    | none => simp [hw] at h
    | some b =>
      cases b with
      | false => simp only [hw] at h ⊢; exact evList_lim h
      | true =>
        simp only [hw] at h ⊢
        split at h
        · rename_i e1 m1 h1
          split at h1
          · rename_i r1 m2 h2
            cases h1
            obtain ⟨N, hN⟩ := evOp_lim h2
            obtain ⟨M, hM⟩ := evList_lim h
            have a1 := evAll_le (cx := cx) (show N ≤ max N M by omega)
            have a2 := evAll_le (cx := cx) (show M ≤ max N M by omega)
            refine ⟨max N M, ?_⟩
            rw [evOp_le a1.1 a1.2 hN]
            exact evList_le a2.1 a2.2 hM
          · cases h1
        · cases h

theorem evLoop_lim {N0 : Nat} {c : Code} {b : Env → Mem → Run} {bN : Nat → Env → Mem → Run} (mono : ∀ n n', n ≤ n' → ∀ e m r, bN n e m = some r → bN n' e m = some r) (hb : ∀ e m r, b e m = some r → ∃ N, bN N e m = some r) :
    ∀ {k : Nat} {e : Env} {m : Mem} {r : Exit × Env × Mem}, evLoop N0 c b k e m = some r → ∃ N, evLoop N0 c (bN N) k e m = some r
  | 0, e, m, r, h => by cases h
  | k + 1, e, m, r, h => by
    simp only [evLoop] at h ⊢
    cases h1 : b e m with
    | none => simp [h1] at h
    | some p =>
      obtain ⟨x, e1, m1⟩ := p
      obtain ⟨N, hN⟩ := hb _ _ _ h1
      cases x with
      | normal =>
        simp only [h1] at h
        obtain ⟨M, hM⟩ := evLoop_lim mono hb h
        refine ⟨max N M, ?_⟩
        rw [mono N (max N M) (by omega) _ _ _ hN]
        exact evLoop_le (mono M (max N M) (by omega)) (Nat.le_refl _) hM
      | _ => simp only [h1] at h; exact ⟨N, by rw [hN]; exact h⟩

theorem evCode_lim {n : Nat} {top : Bool} (c : Code) : ∀ {e : Env} {m : Mem} {r : Exit × Env × Mem}, evCode cx (Fi cx) (Yi cx) n top c e m = some r → ∃ N, evCode cx (evFun cx N) (evYld cx N) n top c e m = some r := by
  induction c with
  | region id ops draw =>
    intro e m r h
    simp only [evCode] at h ⊢
    split at h
    · rename_i e1 m1 h1
      obtain ⟨N, hN⟩ := evList_lim h1
      exact ⟨N, by rw [hN]; exact h⟩
    · cases h
  | seq a b iha ihb =>
    intro e m r h
    simp only [evCode] at h ⊢
    cases h1 : evCode cx (Fi cx) (Yi cx) n top a e m with
    | none => simp [h1] at h
    | some p =>
      obtain ⟨x, e1, m1⟩ := p
      obtain ⟨N, hN⟩ := iha h1
      cases x with
      | normal =>
        simp only [h1] at h
        obtain ⟨M, hM⟩ := ihb h
        have a1 := evAll_le (cx := cx) (show N ≤ max N M by omega)
        have a2 := evAll_le (cx := cx) (show M ≤ max N M by omega)
        refine ⟨max N M, ?_⟩
        rw [evCode_le a1.1 a1.2 (Nat.le_refl n) a hN]
        exact evCode_le a2.1 a2.2 (Nat.le_refl n) b hM
      | _ => simp only [h1] at h; exact ⟨N, by rw [hN]; exact h⟩
  | cond c a b iha ihb =>
    intro e m r h
    simp only [evCode] at h ⊢
    split at h
    · rename_i t hc
      cases t with
      | true => simp only [if_true] at h ⊢; exact iha h
      | false => simp only [Bool.false_eq_true, if_false] at h ⊢; exact ihb h
    · cases h
  | block id c ih =>
    intro e m r h
    simp only [evCode] at h ⊢
    cases h1 : evCode cx (Fi cx) (Yi cx) n top c e m with
    | none => simp [h1] at h
    | some p =>
      obtain ⟨x, e1, m1⟩ := p
      obtain ⟨N, hN⟩ := ih h1
      exact ⟨N, by rw [hN]; rw [h1] at h; exact h⟩
  | loop c ih =>
    intro e m r h
    simp only [evCode] at h ⊢
    exact evLoop_lim (bN := fun N e m => evCode cx (evFun cx N) (evYld cx N) n top c e m) (fun N M hNM e m r hr => evCode_le (evAll_le hNM).1 (evAll_le hNM).2 (Nat.le_refl n) c hr) (fun e m r hr => ih hr) h
  | rangeFunc g ps a b iha ihb =>
    intro e m r h
    simp only [evCode] at h ⊢
    split at h
    · rename_i htop
      simp only [if_pos htop]
      split at h
      · rename_i f first cap hg
        generalize hq : Fi cx f (first ++ [.yld m.length] ++ cap) (m ++ [.lp e ps.toList a b .ready none]) = q at h
        cases q with
        | none => cases h
        | some rm =>
          obtain ⟨N, hN⟩ := fi_iff.1 hq
          exact ⟨N, by rw [hN]; exact h⟩
      · cases h
    · cases h
  | _ => intro e m r h; exact ⟨0, h⟩

theorem evFunW_lim {n f : Nat} {as : List AV} {m : Mem} {r : AV × Mem} (h : evFunW cx (Fi cx) (Yi cx) n f as m = some r) : Fi cx f as m = some r := by
  have : ∃ N, evFunW cx (evFun cx N) (evYld cx N) n f as m = some r := by
    unfold evFunW at h ⊢
    cases hf : cx.P.funcs[f]? with
    | none => simp [hf] at h
    | some fn =>
      simp only [hf] at h ⊢
      split at h
      case isFalse => cases h
      rename_i hok
      simp only [if_pos hok]
      cases hb : fn.body with
      | none => simp [hb] at h
      | some c =>
        simp only [hb] at h ⊢
        cases hev : evCode cx (Fi cx) (Yi cx) n true c (argEnv as) m with
        | none => simp [hev] at h
        | some p =>
          obtain ⟨N, hN⟩ := evCode_lim c hev
          exact ⟨N, by rw [hN]; rw [hev] at h; exact h⟩
  obtain ⟨N, hN⟩ := this
  have a1 := evAll_le (cx := cx) (show N ≤ max n N by omega)
  exact fi_iff.2 ⟨max n N + 1, evFunW_le a1.1 a1.2 (by omega) _ _ _ _ hN⟩
theorem evYldW_lim {n f : Nat} {as : List AV} {m : Mem} {r : AV × Mem} (h : evYldW cx (Fi cx) (Yi cx) n f as m = some r) : Yi cx f as m = some r := by
  have : ∃ N, evYldW cx (evFun cx N) (evYld cx N) n f as m = some r := by
    unfold evYldW at h ⊢
    split at h
    case h_2 => cases h
    rename_i e ps a b hm
    split at h
    case isFalse => cases h
    rename_i hl
    simp only [if_pos hl]
    split at h
    case h_2 => cases h
    rename_i e1 m1 h1
    obtain ⟨N1, g1⟩ := evCode_lim a h1
    split at h
    case h_2 => cases h
    rename_i h2
    split at h
    case h_2 => cases h
    rename_i m2 h3
    split at h
    case h_2 => cases h
    rename_i x e3 m3 h4
    obtain ⟨N2, g2⟩ := evCode_lim b h4
    have a1 := evAll_le (cx := cx) (show N1 ≤ max N1 N2 by omega)
    have a2 := evAll_le (cx := cx) (show N2 ≤ max N1 N2 by omega)
    refine ⟨max N1 N2, ?_⟩
    rw [evCode_le a1.1 a1.2 (Nat.le_refl n) a g1]
    simp only [h2, h3]
    rw [evCode_le a2.1 a2.2 (Nat.le_refl n) b g2]
    exact h
  obtain ⟨N, hN⟩ := this
  have a1 := evAll_le (cx := cx) (show N ≤ max n N by omega)
  exact yi_iff.2 ⟨max n N + 1, evYldW_le a1.1 a1.2 (by omega) _ _ _ _ hN⟩

/-! ### Calls with pure arguments -/
/-- The call of f with these arguments, in a memory of its own, gives r. -/
def Pw (cx : Cx) (f : Nat) (as : List AV) (r : AV) : Prop := pureL as = true ∧ r.pure = true ∧ ∃ r0 M, Fi cx f as [] = some (r0, M) ∧ fz M 6 r0 = some r
theorem Pw.ev {f : Nat} {as : List AV} {r : AV} (h : Pw cx f as r) : ∃ n, evPure cx n f as = some r := by
  obtain ⟨_, _, r0, M, h1, h2⟩ := h
  obtain ⟨n, hn⟩ := fi_iff.1 h1
  exact ⟨n, by simp only [evPure, hn, h2]⟩
theorem Pw.of_ev {n f : Nat} {as : List AV} {r : AV} (hp : pureL as = true) (h : evPure cx n f as = some r) : Pw cx f as r := by
  unfold evPure at h
  cases hf : evFun cx n f as [] with
  | none => simp [hf] at h
  | some rm => simp only [hf] at h; exact ⟨hp, (fz_form h).1, rm.1, rm.2, fi_iff.2 ⟨n, hf⟩, h⟩

/-! ### Runs -/
def Runs (cx : Cx) (top : Bool) (c : Code) (e : Env) (m : Mem) (x : Exit) (e' : Env) (m' : Mem) : Prop := ∃ n, evCode cx (Fi cx) (Yi cx) n top c e m = some (x, e', m')
def LRuns (cx : Cx) (top : Bool) (N : Nat) (c : Code) (e : Env) (m : Mem) (x : Exit) (e' : Env) (m' : Mem) : Prop := ∃ n, evLoop N c (fun e m => evCode cx (Fi cx) (Yi cx) n top c e m) n e m = some (x, e', m')
theorem cle_refl (F : CallT) : CLe F F := fun _ _ _ _ h => h
theorem evCode_up {n n' : Nat} (h : n ≤ n') {top : Bool} {c : Code} {e : Env} {m : Mem} {r : Exit × Env × Mem} (k : evCode cx (Fi cx) (Yi cx) n top c e m = some r) : evCode cx (Fi cx) (Yi cx) n' top c e m = some r := evCode_le (cle_refl _) (cle_refl _) h c k
theorem evLoop_up {N n n' : Nat} (h : n ≤ n') {top : Bool} {c : Code} {k k' : Nat} (hk : k ≤ k') {e : Env} {m : Mem} {r : Exit × Env × Mem} (q : evLoop N c (fun e m => evCode cx (Fi cx) (Yi cx) n top c e m) k e m = some r) :
    evLoop N c (fun e m => evCode cx (Fi cx) (Yi cx) n' top c e m) k' e m = some r := evLoop_le (fun e m r hr => evCode_up h hr) hk q
theorem LRuns.stop {top : Bool} {N : Nat} {c : Code} {e e' : Env} {m m' : Mem} {x : Exit} (h : Runs cx top c e m x e' m') (hx : x ≠ .normal) : LRuns cx top N c e m x e' m' := by
  obtain ⟨n, hn⟩ := h
  refine ⟨n + 1, ?_⟩
  simp only [evLoop, evCode_up (Nat.le_succ n) hn]
  cases x with
  | normal => exact absurd rfl hx
  | _ => rfl
theorem LRuns.next {top : Bool} {N : Nat} {c : Code} {e e1 e' : Env} {m m1 m' : Mem} {x : Exit} (h : Runs cx top c e m .normal e1 m1) (k : LRuns cx top N c (trimL N c e1 m1).1 (trimL N c e1 m1).2 x e' m') : LRuns cx top N c e m x e' m' := by
  obtain ⟨n, hn⟩ := h
  obtain ⟨q, hq⟩ := k
  refine ⟨max n q + 1, ?_⟩
  simp only [evLoop, evCode_up (show n ≤ max n q + 1 by omega) hn]
  exact evLoop_up (by omega) (by omega) hq

/-- A loop, said by some temporaries: from these values vs of ts it ends by x with the values ws of us. N: how long the memory was before the loop. -/
def LoopAns (cx : Cx) (top : Bool) (N : Nat) (c : Code) (ts : List Nat) (vs : List AV) (m : Mem) (x : Exit) (us : List Nat) (ws : List AV) (m' : Mem) : Prop :=
  ∀ e, ts.map e = vs → ∃ e', LRuns cx top N c e m x e' m' ∧ us.map e' = ws
/-- What a loop leaves of the temporaries: D those that it writes. -/
def mixE (D : List Nat) (e0 e : Env) : Env := fun t => match D.contains t with | true => e0 t | false => e t
theorem mixE_self {D : List Nat} {e0 e : Env} (h : ∀ t, t ∉ D → e0 t = e t) : mixE D e0 e = e0 := by
  funext t
  unfold mixE
  split
  · rfl
  · rename_i hc
    exact (h t (by simpa using hc)).symm
end Go.Ab
