/- In a region that draws its order: an operation may be taken before those that it does not hang on. -/
import Derived.Test.YtcmcgmcogknpfaaDoorEP
set_option linter.unusedVariables false
set_option linter.unusedSimpArgs false
namespace Go.Ab
open Go

variable {cx : Cx} {F Y : CallT} {ops : Array Oper}

def mdOf (ops : Array Oper) (o : Oper) : Nat := if cls ops o < 3 then 1 else if cls ops o == 3 then 2 else 0
/-- What an operation yields, if it is wanted. -/
def evV (cx : Cx) (F Y : CallT) (ops : Array Oper) (o : Oper) (e : Env) (m : Mem) : Option (AV × Mem) :=
  match wantA ops e o with
  | some true => evOp cx (mdOf ops o) F Y e m o.op
  | some false => some (.undef, m)
  | none => none
theorem evOne_eq {o : Oper} {e : Env} {m : Mem} : evOne cx true F Y ops o e m = (evV cx F Y ops o e m).map fun rm => (put e o.dst rm.1, rm.2) := by
  unfold evOne evV mdOf
  cases wantA ops e o with
  | none => rfl
  | some b =>
    cases b with
    | false => rfl
    | true =>
      simp only [if_true]
      cases evOp cx (if cls ops o < 3 then 1 else if (cls ops o == 3) = true then 2 else 0) F Y e m o.op <;> rfl
theorem evList_nil {e : Env} {m : Mem} : evList cx true F Y ops [] e m = some (e, m) := rfl
theorem evList_cons {o : Oper} {R : List Oper} {e : Env} {m : Mem} {p : Env × Mem} :
    evList cx true F Y ops (o :: R) e m = some p ↔ ∃ r m1, evV cx F Y ops o e m = some (r, m1) ∧ evList cx true F Y ops R (put e o.dst r) m1 = some p := by
  show (match evOne cx true F Y ops o e m with | some (e', m') => evList cx true F Y ops R e' m' | none => none) = some p ↔ _
  rw [evOne_eq]
  cases evV cx F Y ops o e m with
  | none => simp
  | some rm =>
    obtain ⟨r0, m0⟩ := rm
    simp only [Option.map_some, Option.some.injEq, Prod.mk.injEq]
    constructor
    · intro h; exact ⟨r0, m0, ⟨rfl, rfl⟩, h⟩
    · rintro ⟨r, m1, ⟨rfl, rfl⟩, h⟩; exact h
theorem evList_append {R S : List Oper} : ∀ {e : Env} {m : Mem} {p : Env × Mem},
    evList cx true F Y ops (R ++ S) e m = some p ↔ ∃ e1 m1, evList cx true F Y ops R e m = some (e1, m1) ∧ evList cx true F Y ops S e1 m1 = some p := by
  induction R with
  | nil =>
    intro e m p
    rw [List.nil_append, evList_nil]
    constructor
    · intro h; exact ⟨e, m, rfl, h⟩
    · rintro ⟨e1, m1, he, h⟩; cases he; exact h
  | cons o R ih =>
    intro e m p
    rw [List.cons_append, evList_cons]
    constructor
    · rintro ⟨r, m1, h1, h2⟩
      obtain ⟨e2, m2, h3, h4⟩ := ih.1 h2
      exact ⟨e2, m2, evList_cons.2 ⟨r, m1, h1, h3⟩, h4⟩
    · rintro ⟨e2, m2, h3, h4⟩
      obtain ⟨r, m1, h1, h2⟩ := evList_cons.1 h3
      exact ⟨r, m1, h1, ih.2 ⟨e2, m2, h2, h4⟩⟩

theorem put_ne {e : Env} {d : Option Nat} {s : AV} {t : Nat} (h : d ≠ some t) : put e d s t = e t := by
  cases d with
  | none => rfl
  | some d =>
    show (if t = d then s else e t) = e t
    rw [if_neg (fun he => h (by rw [he]))]
theorem put_comm {e : Env} {d d2 : Option Nat} {s r : AV} (h : ∀ t, d = some t → d2 ≠ some t) : put (put e d s) d2 r = put (put e d2 r) d s := by
  cases d with
  | none => rfl
  | some d =>
    cases d2 with
    | none => rfl
    | some d2 =>
      have hne : d2 ≠ d := fun he => h d rfl (by rw [he])
      funext t
      show (if t = d2 then r else if t = d then s else e t) = (if t = d then s else if t = d2 then r else e t)
      by_cases h1 : t = d2
      · subst h1; simp [hne]
      · simp [h1]

theorem wantA_congr {o : Oper} {e e' : Env} (h : ∀ t ∈ o.looksAt ops, e t = e' t) : wantA ops e o = wantA ops e' o := by
  unfold wantA
  cases hg : o.guard with
  | none => rfl
  | some jw =>
    obtain ⟨j, w⟩ := jw
    simp only
    cases hd : (ops[j]?).bind (·.dst) with
    | none => rfl
    | some d => simp only; rw [h d (by unfold Oper.looksAt; refine List.mem_append_right _ ?_; simp [hg, hd])]
theorem evV_congr {o : Oper} {e e' : Env} {m : Mem} (h : ∀ t ∈ o.looksAt ops, e t = e' t) : evV cx F Y ops o e m = evV cx F Y ops o e' m := by
  unfold evV
  rw [wantA_congr h, evOp_congr (e' := e') (fun t ht => h t (List.mem_append_left _ ht))]
theorem evList_env : ∀ {R : List Oper} {e e1 : Env} {m m1 : Mem} {t : Nat}, evList cx true F Y ops R e m = some (e1, m1) → (∀ x ∈ R, x.dst ≠ some t) → e1 t = e t
  | [], e, e1, m, m1, t, h, _ => by rw [evList_nil] at h; cases h; rfl
  | o :: R, e, e1, m, m1, t, h, hd => by
    obtain ⟨r, m2, h1, h2⟩ := evList_cons.1 h
    rw [evList_env h2 (fun x hx => hd x (List.mem_cons_of_mem _ hx)), put_ne (hd o (by simp))]

/-- They run as before when something that they do not look at is put beside them. -/
theorem rerunA {d : Option Nat} {s : AV} : ∀ {R : List Oper} {e e1 : Env} {m m1 : Mem}, evList cx true F Y ops R e m = some (e1, m1) → (∀ x ∈ R, ∀ t, d = some t → t ∉ x.looksAt ops ∧ x.dst ≠ some t) →
    evList cx true F Y ops R (put e d s) m = some (put e1 d s, m1)
  | [], e, e1, m, m1, h, _ => by rw [evList_nil] at h; cases h; rfl
  | o :: R, e, e1, m, m1, h, hd => by
    obtain ⟨r, m2, h1, h2⟩ := evList_cons.1 h
    refine evList_cons.2 ⟨r, m2, ?_, ?_⟩
    · rw [evV_congr (e' := e) (fun t ht => put_ne (fun hdt => (hd o (by simp) t hdt).1 ht))]; exact h1
    · rw [put_comm (fun t ht => (hd o (by simp) t ht).2)]
      exact rerunA h2 (fun x hx => hd x (List.mem_cons_of_mem _ hx))
theorem evV_fwd {o : Oper} (hc : cls ops o ≤ 2) {e : Env} {m m' : Mem} (hk : Kept (cls ops o) m m') {r : AV} {m1 : Mem} (h : evV cx F Y ops o e m = some (r, m1)) :
    m1 = m ∧ evV cx F Y ops o e m' = some (r, m') := by
  unfold evV mdOf at h ⊢
  rw [if_pos (by omega)] at h ⊢
  cases hw : wantA ops e o with
  | none => simp [hw] at h
  | some b =>
    cases b with
    | true => simp only [hw] at h ⊢; exact tr_fwd hc hk h
    | false => simp only [hw] at h ⊢; cases h; exact ⟨rfl, rfl⟩
theorem rerunB {d : Option Nat} {s : AV} {m m' : Mem} : ∀ {R : List Oper} {e e1 : Env} {m1 : Mem}, evList cx true F Y ops R e m = some (e1, m1) → (∀ x ∈ R, ∀ t, d = some t → t ∉ x.looksAt ops ∧ x.dst ≠ some t) →
    (∀ x ∈ R, cls ops x ≤ 2 ∧ Kept (cls ops x) m m') → m1 = m ∧ evList cx true F Y ops R (put e d s) m' = some (put e1 d s, m')
  | [], e, e1, m1, h, _, _ => by rw [evList_nil] at h; cases h; exact ⟨rfl, rfl⟩
  | o :: R, e, e1, m1, h, hd, hk => by
    obtain ⟨r, m2, h1, h2⟩ := evList_cons.1 h
    obtain ⟨hm, hv⟩ := evV_fwd (hk o (by simp)).1 (hk o (by simp)).2 h1
    subst hm
    obtain ⟨h3, h4⟩ := rerunB (d := d) (s := s) h2 (fun x hx => hd x (List.mem_cons_of_mem _ hx)) (fun x hx => hk x (List.mem_cons_of_mem _ hx))
    refine ⟨h3, evList_cons.2 ⟨r, m', ?_, ?_⟩⟩
    · rw [evV_congr (e' := e) (fun t ht => put_ne (fun hdt => (hd o (by simp) t hdt).1 ht))]; exact hv
    · rw [put_comm (fun t ht => (hd o (by simp) t ht).2)]
      exact h4

theorem cls_le (o : Oper) : cls ops o ≤ 6 := by
  unfold cls
  split <;> try decide
  · split <;> decide
  · split
    · split <;> decide
    all_goals decide
theorem kept_one {c : Nat} {x : Oper} {e : Env} {m m1 : Mem} {r : AV} (h : evV cx F Y ops x e m = some (r, m1)) (h6 : cls ops x ≠ 6) (h1 : c = 1 → cls ops x ≠ 5) (h2 : c = 2 → cls ops x < 4) : Kept c m m1 := by
  unfold evV mdOf at h
  cases hw : wantA ops e x with
  | none => simp [hw] at h
  | some b =>
    cases b with
    | false => simp only [hw] at h; cases h; exact Kept.refl c m
    | true =>
      simp only [hw] at h
      by_cases hl : cls ops x < 3
      · rw [if_pos hl] at h
        rw [(tr_fwd (ops := ops) (by omega) (Kept.refl _ m) h).1]; exact Kept.refl c m
      · rw [if_neg hl] at h
        by_cases hl3 : cls ops x = 3
        · rw [if_pos (by simp [hl3])] at h
          obtain ⟨l, rfl⟩ := eff3 hl3 h
          exact Kept.app c m l
        · rw [if_neg (by simpa using hl3)] at h
          by_cases hl4 : cls ops x = 4
          · obtain ⟨g1, g2⟩ := eff4 hl4 h
            exact ⟨fun _ => ⟨by omega, fun id _ => g2 id⟩, fun hc => by have := h2 hc; omega⟩
          · have hle := cls_le (ops := ops) x
            have h5 : cls ops x = 5 := by omega
            exact ⟨fun hc => absurd h5 (h1 hc), fun hc => by have := h2 hc; omega⟩
theorem kept_run {c : Nat} : ∀ {R : List Oper} {e e1 : Env} {m m1 : Mem}, evList cx true F Y ops R e m = some (e1, m1) → (∀ x ∈ R, cls ops x ≠ 6 ∧ (c = 1 → cls ops x ≠ 5) ∧ (c = 2 → cls ops x < 4)) → Kept c m m1
  | [], e, e1, m, m1, h, _ => by rw [evList_nil] at h; cases h; exact Kept.refl c m
  | o :: R, e, e1, m, m1, h, hx => by
    obtain ⟨r, m2, h1, h2⟩ := evList_cons.1 h
    obtain ⟨a, b, d⟩ := hx o (by simp)
    exact (kept_one h1 a b d).trans (kept_run h2 (fun x hx' => hx x (List.mem_cons_of_mem _ hx')))

/-- Nothing between two operations. -/
structure Free (ops : Array Oper) (x i : Oper) : Prop where
  dst : ∀ d, x.dst = some d → i.dst ≠ some d ∧ d ∉ i.looksAt ops
  sees : ∀ d, i.dst = some d → d ∉ x.looksAt ops
  mem : confl (cls ops x) (cls ops i) = false
  na : cls ops x ≠ 6
  na' : cls ops i ≠ 6

theorem swap {V : Vw} (ok : Ok V) (gl : Gl cx V) {R : List Oper} {i : Oper} {e e' e1 : Env} {a : Act} {m1 m2 : Mem} {s : AV} (he : EnvRep V e' a) (hee : ∀ t ∈ i.looksAt ops, e t = e' t)
    (h1 : evList cx true F Y ops R e V.mem = some (e1, m1)) (h2 : evV cx F Y ops i e1 m1 = some (s, m2)) (hp : ∀ x ∈ R, Free ops x i) :
    ∃ m', evV cx F Y ops i e V.mem = some (s, m') ∧ evList cx true F Y ops R (put e i.dst s) m' = some (put e1 i.dst s, m2) := by
  have hd : ∀ x ∈ R, ∀ t, i.dst = some t → t ∉ x.looksAt ops ∧ x.dst ≠ some t := fun x hx t ht => ⟨(hp x hx).sees t ht, fun hxt => ((hp x hx).dst t hxt).1 ht⟩
  have hi : ∀ t ∈ i.looksAt ops, e1 t = e t := fun t ht => evList_env h1 (fun x hx hxt => ((hp x hx).dst t hxt).2 ht)
  rw [evV_congr hi] at h2
  by_cases hc : cls ops i ≤ 2
  · -- it leaves the memory alone
    have hk : Kept (cls ops i) V.mem m1 := kept_run h1 (fun x hx => by
      have hm := (hp x hx).mem
      have h6 := (hp x hx).na
      refine ⟨h6, fun hc1 h5 => ?_, fun hc2 => ?_⟩
      · rw [hc1, h5] at hm; simp [confl] at hm
      · rw [hc2] at hm
        simp [confl] at hm
        have := cls_le (ops := ops) x
        omega)
    have key : m2 = m1 ∧ evV cx F Y ops i e V.mem = some (s, V.mem) := by
      rw [evV_congr hee] at h2 ⊢
      unfold evV mdOf at h2 ⊢
      rw [if_pos (by omega)] at h2 ⊢
      cases hw : wantA ops e' i with
      | none => simp [hw] at h2
      | some b =>
        cases b with
        | true => simp only [hw] at h2 ⊢; exact tr_back ok gl hc he hk h2
        | false => simp only [hw] at h2 ⊢; cases h2; exact ⟨rfl, rfl⟩
    obtain ⟨rfl, hv⟩ := key
    exact ⟨V.mem, hv, rerunA h1 hd⟩
  · -- what stands before it leaves the memory alone
    have hx2 : ∀ x ∈ R, cls ops x ≤ 2 ∧ (cls ops i = 4 → cls ops x ≠ 2) ∧ (cls ops i = 5 → cls ops x = 0) := fun x hx => by
      have hm := (hp x hx).mem
      have h6 := (hp x hx).na
      have h6' := (hp x hx).na'
      have hl := cls_le (ops := ops) x
      have hl' := cls_le (ops := ops) i
      generalize cls ops x = p at *
      generalize cls ops i = q at *
      unfold confl at hm
      have hp : p = 0 ∨ p = 1 ∨ p = 2 ∨ p = 3 ∨ p = 4 ∨ p = 5 := by omega
      have hq : q = 3 ∨ q = 4 ∨ q = 5 := by omega
      rcases hp with rfl | rfl | rfl | rfl | rfl | rfl <;> rcases hq with rfl | rfl | rfl <;> revert hm <;> decide
    have hm1 : m1 = V.mem := (rerunB (d := none) (s := .undef) (m' := V.mem) h1 (fun x hx t ht => by cases ht) (fun x hx => ⟨(hx2 x hx).1, Kept.refl _ _⟩)).1
    subst hm1
    refine ⟨m2, h2, (rerunB h1 hd (fun x hx => ⟨(hx2 x hx).1, ?_⟩)).2⟩
    by_cases h0 : cls ops x = 0
    · rw [h0]; exact ⟨fun h => absurd h (by decide), fun h => absurd h (by decide)⟩
    · have hi4 : cls ops i = 3 ∨ cls ops i = 4 := by
        rcases Nat.lt_or_ge (cls ops i) 5 with h | h
        · omega
        · have := cls_le (ops := ops) i
          have := (hp x hx).na'
          exact absurd ((hx2 x hx).2.2 (by omega)) h0
      rcases hi4 with h3 | h4
      · exact kept_one h2 (by omega) (fun _ => by omega) (fun _ => by omega)
      · exact kept_one h2 (by omega) (fun _ => by omega) (fun hc2 => absurd hc2 ((hx2 x hx).2.1 h4))
end Go.Ab
