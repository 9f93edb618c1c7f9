/- More fuel gives the same answer. -/
import Derived.Test.YtcmcgmcogknpfaaDoorEB
set_option linter.unusedVariables false
set_option linter.unusedSimpArgs false
namespace Go.Ab
open Go

variable {cx : Cx} {F F' Y Y' : CallT}
def CLe (F F' : CallT) : Prop := ∀ f as m r, F f as m = some r → F' f as m = some r

theorem callV_le (hF : CLe F F') (hY : CLe Y Y') {ro : Bool} {m : Mem} {c : AV} {as : List AV} {r : AV × Mem} (h : callV cx ro F Y m c as = some r) : callV cx ro F' Y' m c as = some r := by
  cases c with
  | fn f first cap =>
    simp only [callV] at h ⊢
    generalize first ++ as ++ cap = L at h ⊢
    cases hx : cx.X f with
    | some g => simp only [hx] at h ⊢; exact h
    | none =>
      simp only [hx] at h ⊢
      split at h
      · rename_i hsh
        rw [if_pos hsh]
        split at h
        · cases h
        · rename_i hro
          rw [if_neg hro]
          cases hl : lendOwn m L with
          | none => simp [hl] at h
          | some p =>
            simp only [hl] at h ⊢
            cases hf : F f p.1 (kill m p.2) with
            | none => simp [hf] at h
            | some rm => simp only [hf] at h; rw [hF _ _ _ _ hf]; exact h
      · rename_i hsh
        rw [if_neg hsh]
        cases hz : fzs m L with
        | none => simp [hz] at h
        | some as' =>
          simp only [hz] at h ⊢
          cases hf : F f as' [] with
          | none => simp [hf] at h
          | some rm => simp only [hf] at h; rw [hF _ _ _ _ hf]; exact h
  | yld id =>
    simp only [callV] at h ⊢
    split at h
    · cases h
    · rename_i hro
      rw [if_neg hro]
      cases hl : lendOwn m as with
      | none => simp [hl] at h
      | some p =>
        simp only [hl] at h ⊢
        cases hf : Y id p.1 (kill m p.2) with
        | none => simp [hf] at h
        | some rm => simp only [hf] at h; rw [hY _ _ _ _ hf]; exact h
  | _ => cases h

theorem evOp_le (hF : CLe F F') (hY : CLe Y Y') {md : Nat} {e : Env} {m : Mem} {op : Op} {r : AV × Mem} (h : evOp cx md F Y e m op = some r) : evOp cx md F' Y' e m op = some r := by
  cases op with
  | call c =>
    obtain ⟨callee, args, ats⟩ := c
    cases callee with
    | value f =>
      simp only [evOp] at h ⊢
      split at h
      · exact callV_le hF hY h
      · cases h
    | invoke _ _ => exact h
    | builtin b => exact h
  | _ => exact h

theorem evList_le (hF : CLe F F') (hY : CLe Y Y') {ro : Bool} {ops : Array Oper} : ∀ {os : List Oper} {e : Env} {m : Mem} {r : Env × Mem}, evList cx ro F Y ops os e m = some r → evList cx ro F' Y' ops os e m = some r
  | [], e, m, r, h => h
  | o :: os, e, m, r, h => by
    simp only [evList] at h ⊢
    unfold evOne at h ⊢
    cases hw : wantA ops e o with
    | none => simp [hw] at h
    | some b =>
      cases b with
      | false => simp only [hw] at h ⊢; exact evList_le hF hY h
      | true =>
        simp only [hw] at h ⊢
        split at h
        · rename_i e1 m1 h1
          split at h1
          · rename_i r1 m2 h2
            cases h1
            rw [evOp_le hF hY h2]
            exact evList_le hF hY h
          · cases h1
        · cases h

theorem evLoop_le {N : Nat} {c : Code} {b b' : Env → Mem → Run} (hb : ∀ e m r, b e m = some r → b' e m = some r) : ∀ {k k' : Nat}, k ≤ k' → ∀ {e : Env} {m : Mem} {r : Exit × Env × Mem}, evLoop N c b k e m = some r → evLoop N c b' k' e m = some r
  | 0, _, _, e, m, r, h => by cases h
  | k + 1, 0, hk, e, m, r, h => by omega
  | k + 1, k' + 1, hk, e, m, r, h => by
    simp only [evLoop] at h ⊢
    cases h1 : b e m with
    | none => simp [h1] at h
    | some p =>
      obtain ⟨x, e1, m1⟩ := p
      rw [hb _ _ _ h1]
      cases x with
      | normal => simp only [h1] at h ⊢; exact evLoop_le hb (by omega) h
      | _ => simp only [h1] at h ⊢; exact h

theorem evCode_le (hF : CLe F F') (hY : CLe Y Y') {n n' : Nat} (hn : n ≤ n') {top : Bool} (c : Code) : ∀ {e : Env} {m : Mem} {r : Exit × Env × Mem}, evCode cx F Y n top c e m = some r → evCode cx F' Y' n' top c e m = some r := by
  induction c with
  | region id ops draw =>
    intro e m r h
    simp only [evCode] at h ⊢
    split at h
    · rename_i e1 m1 h1; rw [evList_le hF hY h1]; exact h
    · cases h
  | seq a b iha ihb =>
    intro e m r h
    simp only [evCode] at h ⊢
    cases h1 : evCode cx F Y n top a e m with
    | none => simp [h1] at h
    | some p =>
      obtain ⟨x, e1, m1⟩ := p
      rw [iha h1]
      cases x with
      | normal => simp only [h1] at h ⊢; exact ihb h
      | _ => simp only [h1] at h ⊢; exact h
  | cond c a b iha ihb =>
    intro e m r h
    simp only [evCode] at h ⊢
    split at h
    · rename_i t hc
      cases t with
      | true => simp only [if_true] at h ⊢; exact iha h
      | false => simp only [Bool.false_eq_true, if_false] at h ⊢; exact ihb h
    · cases h
  | block id c ih =>
    intro e m r h
    simp only [evCode] at h ⊢
    cases h1 : evCode cx F Y n top c e m with
    | none => simp [h1] at h
    | some p =>
      obtain ⟨x, e1, m1⟩ := p
      rw [ih h1]
      cases x <;> simp only [h1] at h ⊢ <;> exact h
  | loop c ih =>
    intro e m r h
    simp only [evCode] at h ⊢
    exact evLoop_le (fun e m r h => ih h) hn h
  | rangeFunc g ps a b iha ihb =>
    intro e m r h
    simp only [evCode] at h ⊢
    split at h
    · rename_i htop
      rw [if_pos htop]
      split at h
      · rename_i f first cap hg
        generalize hq : F f (first ++ [.yld m.length] ++ cap) (m ++ [.lp e ps.toList a b .ready none]) = q at h
        cases q with
        | none => cases h
        | some rm => rw [hF _ _ _ _ hq]; exact h
      · cases h
    · cases h
  | _ => intro e m r h; exact h

theorem evFunW_le (hF : CLe F F') (hY : CLe Y Y') {n n' : Nat} (hn : n ≤ n') : CLe (evFunW cx F Y n) (evFunW cx F' Y' n') := by
  intro f as m r h
  unfold evFunW at h ⊢
  cases hf : cx.P.funcs[f]? with
  | none => simp [hf] at h
  | some fn =>
    simp only [hf] at h ⊢
    split at h
    case isFalse => cases h
    rename_i hok
    rw [if_pos hok]
    cases hb : fn.body with
    | none => simp [hb] at h
    | some c =>
      simp only [hb] at h ⊢
      cases hev : evCode cx F Y n true c (argEnv as) m with
      | none => simp [hev] at h
      | some p =>
        rw [evCode_le hF hY hn c hev]
        rw [hev] at h
        exact h
theorem evYldW_le (hF : CLe F F') (hY : CLe Y Y') {n n' : Nat} (hn : n ≤ n') : CLe (evYldW cx F Y n) (evYldW cx F' Y' n') := by
  intro id as m r h
  unfold evYldW at h ⊢
  split at h
  case h_2 => cases h
  rename_i e ps a b hm
  split at h
  case isFalse => cases h
  rename_i hl
  rw [if_pos hl]
  split at h
  case h_2 => cases h
  rename_i e1 m1 h1
  rw [evCode_le hF hY hn a h1]
  simp only
  split at h
  case h_2 => cases h
  rename_i h2
  split at h
  case h_2 => cases h
  rename_i m2 h3
  split at h
  case h_2 => cases h
  rename_i x e3 m3 h4
  rw [evCode_le hF hY hn b h4]
  exact h
theorem evAll_le : ∀ {n n' : Nat}, n ≤ n' → CLe (evFun cx n) (evFun cx n') ∧ CLe (evYld cx n) (evYld cx n')
  | 0, n', _ => ⟨fun f as m r h => (nomatch h), fun f as m r h => (nomatch h)⟩
  | n + 1, 0, h => by omega
  | n + 1, n' + 1, h => by
    obtain ⟨h1, h2⟩ := evAll_le (n := n) (n' := n') (by omega)
    exact ⟨evFunW_le h1 h2 (by omega), evYldW_le h1 h2 (by omega)⟩

/-- A function answers, with enough fuel. -/
def Ans (cx : Cx) (f : Nat) (as : List AV) (m : Mem) (r : AV × Mem) : Prop := ∃ n, evFun cx n f as m = some r
theorem Ans.at {f : Nat} {as : List AV} {m : Mem} {r : AV × Mem} (h : Ans cx f as m r) : ∃ n, ∀ n', n ≤ n' → evFun cx n' f as m = some r := by
  obtain ⟨n, h⟩ := h
  exact ⟨n, fun n' hn => (evAll_le hn).1 _ _ _ _ h⟩
theorem Ans.of {f n : Nat} {as : List AV} {m : Mem} {r : AV × Mem} (h : evFunW cx (evFun cx n) (evYld cx n) n f as m = some r) : Ans cx f as m r := ⟨n + 1, h⟩
end Go.Ab
