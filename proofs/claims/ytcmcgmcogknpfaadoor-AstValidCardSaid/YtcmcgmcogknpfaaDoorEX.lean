/- Code, whole. -/
import Derived.Test.YtcmcgmcogknpfaaDoorEV
set_option linter.unusedVariables false
set_option linter.unusedSimpArgs false
namespace Go.Ab
open Go

variable {cx : Cx} {F Y : CallT}

theorem dstO_mem {o : Oper} {d : Nat} (hd : o.dst = some d) : ∀ {os : List Oper}, o ∈ os → d ∈ dstO os
  | [], h => by simp at h
  | p :: os, h => by
    rcases List.mem_cons.1 h with rfl | h
    · simp [dstO, hd]
    · have := dstO_mem hd h
      simp only [dstO]
      split
      · exact List.mem_cons_of_mem _ this
      · exact this
theorem evList_keep {ro : Bool} {F Y : CallT} {ops : Array Oper} {t : Nat} : ∀ {os : List Oper} {e e' : Env} {m m' : Mem}, (∀ o ∈ os, o.dst ≠ some t) → evList cx ro F Y ops os e m = some (e', m') → e' t = e t
  | [], e, e', m, m', _, h => by cases h; rfl
  | o :: os, e, e', m, m', ht, h => by
    simp only [evList] at h
    split at h
    · rename_i e1 m1 h1
      have h2 : e1 t = e t := by
        have hp : ∀ r, put e o.dst r t = e t := fun r => by
          cases hd : o.dst with
          | none => rfl
          | some d =>
            show upd e d r t = e t
            unfold upd
            rw [if_neg]
            rintro rfl
            exact ht o (by simp) hd
        unfold evOne at h1
        split at h1
        · split at h1
          · cases h1; exact hp _
          · cases h1
        · cases h1; exact hp _
        · cases h1
      exact (evList_keep (fun o ho => ht o (List.mem_cons_of_mem _ ho)) h).trans h2
    · cases h
theorem trimL_keep {N : Nat} {c : Code} {e : Env} {m : Mem} {t : Nat} (ht : t ∉ dsts c) : (trimL N c e m).1 t = e t := by
  unfold trimL
  split
  · rfl
  · split
    · show sanE N (dsts c) e t = e t
      unfold sanE
      rw [if_neg]
      simp [ht]
    · rfl
theorem evLoop_keep {N : Nat} {c : Code} {b : Env → Mem → Run} {t : Nat} (ht : t ∉ dsts c) (hb : ∀ {e e' m m' x}, b e m = some (x, e', m') → e' t = e t) : ∀ {k : Nat} {e e' : Env} {m m' : Mem} {x : Exit}, evLoop N c b k e m = some (x, e', m') → e' t = e t
  | 0, e, e', m, m', x, h => by cases h
  | k + 1, e, e', m, m', x, h => by
    simp only [evLoop] at h
    split at h
    · rename_i e1 m1 h1
      exact ((evLoop_keep ht hb h).trans (trimL_keep ht)).trans (hb h1)
    · exact hb h
theorem evCode_keep {F Y : CallT} {n : Nat} {top : Bool} {t : Nat} (c : Code) : ∀ {e e' : Env} {m m' : Mem} {x : Exit}, t ∉ dsts c → evCode cx F Y n top c e m = some (x, e', m') → e' t = e t := by
  induction c with
  | skip => intro e e' m m' x _ h; cases h; rfl
  | exit id => intro e e' m m' x _ h; cases h; rfl
  | ret => intro e e' m m' x _ h; cases h; rfl
  | region id ops draw =>
    intro e e' m m' x ht h
    simp only [evCode] at h
    split at h
    · rename_i e1 m1 h1
      cases h
      refine evList_keep (fun o ho hd => ht ?_) h1
      refine dstO_mem hd ?_
      cases draw with
      | false => simpa using ho
      | true =>
        simp only [if_true, drawn] at ho
        rcases List.mem_append.1 ho with h | h
        · exact (List.mem_filter.1 h).1
        · exact (List.mem_filter.1 h).1
    · cases h
  | seq a b iha ihb =>
    intro e e' m m' x ht h
    simp only [dsts, List.mem_append, not_or] at ht
    simp only [evCode] at h
    split at h
    · rename_i e1 m1 h1
      exact (ihb ht.2 h).trans (iha ht.1 h1)
    · exact iha ht.1 h
  | cond c a b iha ihb =>
    intro e e' m m' x ht h
    simp only [dsts, List.mem_append, not_or] at ht
    simp only [evCode] at h
    split at h
    · split at h
      · exact iha ht.1 h
      · exact ihb ht.2 h
    · cases h
  | block id c ih =>
    intro e e' m m' x ht h
    simp only [evCode] at h
    split at h
    · rename_i id' e1 m1 h1
      have := ih ht h1
      split at h
      · cases h; exact this
      · cases h; exact this
    · exact ih ht h
  | loop c ih =>
    intro e e' m m' x ht h
    simp only [evCode] at h
    exact evLoop_keep (c := c) (show t ∉ dsts c from ht) (fun h => ih ht h) h
  | rangeFunc g ps a b iha ihb =>
    intro e e' m m' x ht h
    simp only [evCode] at h
    split at h
    · split at h
      · split at h
        · split at h
          · split at h
            · split at h <;> first | (cases h; rfl) | cases h
            · cases h
          · cases h
        · cases h
      · cases h
    · cases h
  | _ => intro e e' m m' x ht h; cases h


/-- What holds behind code that is left by x. -/
def Aft (top : Bool) (N : Nat) (V : Vw) (a : Act) (x : Exit) (e' : Env) (m' : Mem) (Q : Exit → Act → World → Prop) : Prop :=
  ∀ V' a', Ok V' → Ext V V' → V'.mem = m' → EnvRep V' e' a' → a'.tmps.size = a.tmps.size → Dfs top N V' a'.defers → Q x a' V'.w

/-- The loop's states. -/
def LoopAt (cx : Cx) (F Y : CallT) (n : Nat) (top : Bool) (N : Nat) (c : Code) (V0 : Vw) (e0 : Env) (sz : Nat) (r : Exit × Env × Mem) (k : Nat) (a : Act) (w : World) : Prop :=
  ∃ V e, V.w = w ∧ Ok V ∧ Ext V0 V ∧ EnvRep V e a ∧ a.tmps.size = sz ∧ Dfs top N V a.defers ∧ (∀ t, t ∉ dsts c → e t = e0 t) ∧ evLoop V0.mem.length c (fun e m => evCode cx F Y n top c e m) k e V.mem = some r
theorem Dfs.trunc {top : Bool} {N k : Nat} {V : Vw} {ds : List Deferred} (h : Dfs top N V ds) : Dfs top N (V.trunc k) ds := by
  unfold Dfs at h ⊢
  split
  · rename_i ht; rw [if_pos ht] at h; exact h.map (fun _ => MarkAt.trunc)
  · rename_i ht; rw [if_neg ht] at h; exact h
/-- Behind a round. -/
theorem trim_ok {top : Bool} {N : Nat} {c : Code} {V0 V : Vw} {e0 e : Env} {a0 a : Act} (he0 : EnvRep V0 e0 a0) (ok : Ok V) (ext : Ext V0 V) (he : EnvRep V e a) (hd : Dfs top N V a.defers) (hk : ∀ t, t ∉ dsts c → e t = e0 t) :
    ∃ V', V'.w = V.w ∧ Ok V' ∧ Ext V0 V' ∧ EnvRep V' (trimL V0.mem.length c e V.mem).1 a ∧ Dfs top N V' a.defers ∧ V'.mem = (trimL V0.mem.length c e V.mem).2 := by
  unfold trimL
  split
  · exact ⟨V, rfl, ok, ext, he, hd, rfl⟩
  · rename_i hlt
    split
    · rename_i hc
      rw [Bool.and_eq_true] at hc
      obtain ⟨h1, h2⟩ := trunc_ok ok ext rfl hc.1
      refine ⟨V.trunc V0.mem.length, rfl, h1, h2, fun t => ?_, hd.trunc, rfl⟩
      show Rep _ (sanE V0.mem.length (dsts c) e t) _
      unfold sanE
      split
      · exact .junk _
      · rename_i hs
        refine under_rep ext.len (he t) ?_
        by_cases ht : t ∈ dsts c
        · simpa [ht] using hs
        · rw [hk t ht]
          exact rep_under (he0 t)
    · exact ⟨V, rfl, ok, ext, he, hd, rfl⟩

theorem code_ok (hF : FunOK cx F) (hY : YldOK cx Y) (hX : CxOK cx) {n nt N : Nat} {top : Bool} {fr : Option Nat} (hfr : top = true → fr = none) (c : Code) : ∀ {e e' : Env} {m m' : Mem} {x : Exit}, okCode nt c = true →
    evCode cx F Y n top c e m = some (x, e', m') → ∀ {V : Vw} {a : Act} {Q : Exit → Act → World → Prop}, Ok V → Gl cx V → V.mem = m → EnvRep V e a → nt ≤ a.tmps.size → Dfs top N V a.defers → N ≤ V.w.heap.size →
    Aft top N V a x e' m' Q → c.wpIn (W fr) 0 cx.P Q a V.w := by
  induction c with
  | skip =>
    intro e e' m m' x hok h V a Q ok gl hm he hsz hd hN hn
    simp only [evCode, Option.some.injEq, Prod.mk.injEq] at h
    obtain ⟨rfl, rfl, rfl⟩ := h
    exact wpIn_skip (hn V a ok (Ext.refl V) hm he rfl hd)
  | exit id =>
    intro e e' m m' x hok h V a Q ok gl hm he hsz hd hN hn
    simp only [evCode, Option.some.injEq, Prod.mk.injEq] at h
    obtain ⟨rfl, rfl, rfl⟩ := h
    exact wpIn_exit (hn V a ok (Ext.refl V) hm he rfl hd)
  | ret =>
    intro e e' m m' x hok h V a Q ok gl hm he hsz hd hN hn
    simp only [evCode, Option.some.injEq, Prod.mk.injEq] at h
    obtain ⟨rfl, rfl, rfl⟩ := h
    exact wpIn_ret (hn V a ok (Ext.refl V) hm he rfl hd)
  | region id ops draw =>
    intro e e' m m' x hok h V a Q ok gl hm he hsz hd hN hn
    subst hm
    simp only [okCode, Bool.and_eq_true, Bool.or_eq_true, Bool.not_eq_true'] at hok
    simp only [evCode] at h
    cases draw with
    | true =>
      simp only [if_true] at h
      cases hev : evList cx true F Y ops (drawn ops) e V.mem with
      | none => simp [hev] at h
      | some p =>
        simp only [hev, Option.some.injEq, Prod.mk.injEq] at h
        obtain ⟨rfl, rfl, rfl⟩ := h
        exact region_draw_ok hF hY hX (by simpa using hok.2) hok.1 ok gl he hsz hev (fun V' a' ok' ext' hm' he' hs' hd' => hn V' a' ok' ext' hm' he' hs' (by rw [hd']; exact hd.mono ext'))
    | false =>
      simp only [Bool.false_eq_true, if_false] at h
      cases hev : evList cx false F Y ops ops.toList e V.mem with
      | none => simp [hev] at h
      | some p =>
        simp only [hev, Option.some.injEq, Prod.mk.injEq] at h
        obtain ⟨rfl, rfl, rfl⟩ := h
        exact region_text_ok hF hY hX hok.1 ok gl he hsz hev (fun V' a' ok' ext' hm' he' hs' hd' => hn V' a' ok' ext' hm' he' hs' (by rw [hd']; exact hd.mono ext'))
  | seq x y ihx ihy =>
    intro e e' m m' xx hok h V a Q ok gl hm he hsz hd hN hn
    simp only [okCode, Bool.and_eq_true] at hok
    simp only [evCode] at h
    refine wpIn_seq ?_
    cases hx : evCode cx F Y n top x e m with
    | none => simp [hx] at h
    | some p =>
      obtain ⟨x1, e1, m1⟩ := p
      refine ihx hok.1 hx ok gl hm he hsz hd hN (fun V' a' ok' ext' hm' he' hs' hd' => ?_)
      cases x1 with
      | normal =>
        simp only [hx] at h
        exact ihy hok.2 h ok' (gl.mono ext') hm' he' (by omega) hd' (Nat.le_trans hN ext'.size) (fun V2 a2 ok2 ext2 hm2 he2 hs2 hd2 => hn V2 a2 ok2 (ext'.trans ext2) hm2 he2 (by omega) hd2)
      | _ =>
        simp only [hx, Option.some.injEq, Prod.mk.injEq] at h
        obtain ⟨rfl, rfl, rfl⟩ := h
        exact hn V' a' ok' ext' hm' he' hs' hd'
  | cond c x y ihx ihy =>
    intro e e' m m' xx hok h V a Q ok gl hm he hsz hd hN hn
    simp only [okCode, Bool.and_eq_true] at hok
    simp only [evCode] at h
    split at h
    case h_2 => cases h
    rename_i t hc
    have hcv := evX_ok gl he hc
    have hb : a.eval c = .bool t := by generalize hq : a.eval c = q at hcv; cases hcv; rfl
    refine wpIn_cond hb ?_
    cases t with
    | true => simp only [if_true] at h ⊢; exact ihx hok.1 h ok gl hm he hsz hd hN hn
    | false => simp only [Bool.false_eq_true, if_false] at h ⊢; exact ihy hok.2 h ok gl hm he hsz hd hN hn
  | block id c ih =>
    intro e e' m m' xx hok h V a Q ok gl hm he hsz hd hN hn
    simp only [okCode] at hok
    simp only [evCode] at h
    refine wpIn_block ?_
    cases hx : evCode cx F Y n top c e m with
    | none => simp [hx] at h
    | some p =>
      obtain ⟨x1, e1, m1⟩ := p
      refine ih hok hx ok gl hm he hsz hd hN (fun V' a' ok' ext' hm' he' hs' hd' => ?_)
      cases x1 with
      | exit id' =>
        simp only [hx] at h
        unfold Exit.inBlock
        simp only
        split
        · rename_i heq
          rw [if_pos heq] at h
          simp only [Option.some.injEq, Prod.mk.injEq] at h
          obtain ⟨rfl, rfl, rfl⟩ := h
          exact hn V' a' ok' ext' hm' he' hs' hd'
        · rename_i hne
          rw [if_neg hne] at h
          simp only [Option.some.injEq, Prod.mk.injEq] at h
          obtain ⟨rfl, rfl, rfl⟩ := h
          exact hn V' a' ok' ext' hm' he' hs' hd'
      | _ =>
        simp only [hx, Option.some.injEq, Prod.mk.injEq] at h
        obtain ⟨rfl, rfl, rfl⟩ := h
        exact hn V' a' ok' ext' hm' he' hs' hd'
  | loop c ih =>
    intro e e' m m' xx hok h V a Q ok gl hm he hsz hd hN hn
    subst hm
    simp only [okCode] at hok
    simp only [evCode] at h
    refine loop_fuel (LoopAt cx F Y n top N c V e a.tmps.size (xx, e', m')) ⟨n, V, e, rfl, ok, Ext.refl V, he, rfl, hd, fun _ _ => rfl, h⟩ ?_
    rintro k a1 w1 ⟨V1, e1, rfl, ok1, ext1, he1, hs1, hd1, hk1, hev⟩
    cases k with
    | zero => simp [evLoop] at hev
    | succ k =>
      simp only [evLoop] at hev
      cases hx : evCode cx F Y n top c e1 V1.mem with
      | none => simp [hx] at hev
      | some p =>
        obtain ⟨x2, e2, m2⟩ := p
        refine ih hok hx ok1 (gl.mono ext1) rfl he1 (by omega) hd1 (Nat.le_trans hN ext1.size) (fun V' a' ok' ext' hm' he' hs' hd' => ?_)
        cases x2 with
        | normal =>
          simp only [hx] at hev
          have hk2 : ∀ t, t ∉ dsts c → e2 t = e t := fun t ht => (evCode_keep c ht hx).trans (hk1 t ht)
          obtain ⟨V2, hw2, ok2, ext2, he2, hd2, hm2⟩ := trim_ok (c := c) he ok' (ext1.trans ext') he' hd' hk2
          rw [← hw2]
          subst hm'
          exact ⟨k, Nat.lt_succ_self k, V2, _, rfl, ok2, ext2, he2, by omega, hd2, fun t ht => (trimL_keep ht).trans (hk2 t ht), by rw [hm2]; exact hev⟩
        | _ =>
          simp only [hx, Option.some.injEq, Prod.mk.injEq] at hev
          obtain ⟨rfl, rfl, rfl⟩ := hev
          exact hn V' a' ok' (ext1.trans ext') hm' he' (by omega) hd'
  | rangeFunc g ps ac bc iha ihb =>
    intro e e' m m' xx hok h V a Q ok gl hm he hsz hd hN hn
    cases top with
    | false => simp [evCode] at h
    | true =>
      have : fr = none := hfr rfl
      subst this
      exact range_ok hF hok h ok gl hm he hsz hd hN hn
  | _ =>
    intro e e' m m' x hok h
    simp [evCode] at h
end Go.Ab
