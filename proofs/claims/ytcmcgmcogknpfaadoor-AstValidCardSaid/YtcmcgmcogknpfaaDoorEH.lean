/- The operations on memory, fourth part: slices, append, literals. -/
import Derived.Test.YtcmcgmcogknpfaaDoorEG
import Derived.Great.BuildSlice
set_option linter.unusedVariables false
set_option linter.unusedSimpArgs false
namespace Go.Ab
open Go

variable {P : Program}

theorem app_take (A F : List AV) (k : Nat) : (A ++ F).take (A.length + k) = A ++ F.take k := by
  rw [List.take_append, List.take_of_length_le (by omega), Nat.add_sub_cancel_left]
theorem app_drop (A F : List AV) (k : Nat) : (A ++ F).drop (A.length + k) = F.drop k := by
  rw [List.drop_append, List.drop_eq_nil_of_le (by omega), Nat.add_sub_cancel_left, List.nil_append]
theorem flatC_set {xs : List AV} {sz : Nat} (h : ∀ x ∈ xs, wide x sz) {j : Nat} {y : AV} (hj : j < xs.length) (hy : wide y sz) : flatC (xs.set j y) = over (flatC xs) (j * sz) y.cells := by
  induction xs generalizing j with
  | nil => simp at hj
  | cons x xs ih =>
    have h1 := (h x (by simp)).1
    cases j with
    | zero =>
      simp only [List.set_cons_zero, flatC, List.flatMap_cons, over, Nat.zero_mul, List.take_zero, List.nil_append, Nat.zero_add]
      rw [hy.1, ← h1, List.drop_left' rfl]
    | succ j =>
      have := ih (fun z hz => h z (by simp [hz])) (j := j) (by simpa using hj)
      simp only [List.set_cons_succ, flatC, List.flatMap_cons, over] at this ⊢
      rw [this, show (j + 1) * sz = x.cells.length + j * sz from by rw [h1, Nat.succ_mul]; omega]
      rw [app_take, show x.cells.length + j * sz + y.cells.length = x.cells.length + (j * sz + y.cells.length) from by omega, app_drop]
      simp only [List.append_assoc]

theorem seq_of_lies {V : Vw} {ad : Addr} {xs : List AV} {sz c : Nat} {full : Bool} (hl : Lies V ad (flatC xs)) (hw : ∀ x ∈ xs, wide x sz) (hS : xs ≠ [] → V.S ad.block) (h0 : xs ≠ [] → 0 < sz)
    (hc : xs.length ≤ c) (hf : full = true → c = xs.length) : Rep V (.seq false full sz xs) (.slice (some ad) xs.length c) := by
  obtain ⟨us, hr, hcell⟩ := hl
  have hget : ∀ (j : Nat) (x : AV) (m : Nat) (y : AV), xs[j]? = some x → x.cells[m]? = some y → us[j * sz + m]? = some (us.getD (j * sz + m) (.tuple #[])) ∧ (flatC xs)[j * sz + m]? = some y := by
    intro j x m y hx hy
    have hm : m < sz := by have := (List.getElem?_eq_some_iff.1 hy).1; have := (hw x (List.mem_of_getElem? hx)).1; omega
    have h1 := flatC_get hw hx hm
    rw [hy] at h1
    obtain ⟨u, hu, _⟩ := hr.get h1
    exact ⟨by rw [hu]; simp [List.getD_eq_getElem?_getD, hu], h1⟩
  exact .seq full sz xs ad c (fun j m => us.getD (j * sz + m) (.tuple #[])) hc hf hS h0 (fun x hx => hw x hx) (fun j x m y hx hy => hcell _ _ (hget j x m y hx hy).1)
    (fun j x m y hx hy => hr.2 _ y _ (hget j x m y hx hy).2 (hget j x m y hx hy).1)

theorem lies_of_seq {V : Vw} {full : Bool} {xs : List AV} {sz : Nat} {v : Value} (h : Rep V (.seq false full sz xs) v) :
    ∃ ad c, v = .slice (some ad) xs.length c ∧ xs.length ≤ c ∧ (full = true → c = xs.length) ∧ (xs ≠ [] → V.S ad.block) ∧ (xs ≠ [] → 0 < sz) ∧ (∀ x ∈ xs, wide x sz) ∧ Lies V ad (flatC xs) := by
  cases h with
  | seq full sz xs ad c us hc hf hS h0 hsz hu hr =>
    refine ⟨ad, c, rfl, hc, hf, hS, h0, fun x hx => hsz x hx, (List.range (xs.length * sz)).map (fun k => us (k / sz) (k % sz)), ⟨by rw [flatC_length (fun x hx => hsz x hx)]; simp, ?_⟩, ?_⟩
    · intro k y c' hy hc'
      have hk : k < xs.length * sz := by rw [← flatC_length (fun x hx => hsz x hx)]; exact (List.getElem?_eq_some_iff.1 hy).1
      simp [List.getElem?_map, List.getElem?_range hk] at hc'
      subst hc'
      have hs : 0 < sz := Nat.pos_of_ne_zero (fun e => by subst e; omega)
      have hq : k / sz < xs.length := (Nat.div_lt_iff_lt_mul hs).2 hk
      have hx := List.getElem?_eq_getElem hq
      have hm := Nat.mod_lt k hs
      have := flatC_get (fun x hx => hsz x hx) hx hm
      rw [show k / sz * sz + k % sz = k from by rw [Nat.mul_comm]; exact Nat.div_add_mod k sz, hy] at this
      exact hr _ _ _ y hx this.symm
    · intro k u hu'
      by_cases hk : k < xs.length * sz
      · simp [List.getElem?_map, List.getElem?_range hk] at hu'
        subst hu'
        have hs : 0 < sz := Nat.pos_of_ne_zero (fun e => by subst e; omega)
        have hq : k / sz < xs.length := (Nat.div_lt_iff_lt_mul hs).2 hk
        have hx := List.getElem?_eq_getElem hq
        have hm := Nat.mod_lt k hs
        have hw := (hsz _ (List.getElem_mem hq)).1
        have := hu (k / sz) _ (k % sz) _ hx (List.getElem?_eq_getElem (by omega))
        rwa [show k / sz * sz + k % sz = k from by rw [Nat.mul_comm]; exact Nat.div_add_mod k sz] at this
      · rw [List.getElem?_map, List.getElem?_eq_none (by simp; omega)] at hu'; simp at hu'

theorem seq_form {V : Vw} {z full : Bool} {sz : Nat} {xs : List AV} {v : Value} (h : Rep V (.seq z full sz xs) v) : ∃ a c, v = .slice a xs.length c ∧ xs.length ≤ c ∧ (z = true → v = .slice none 0 0 ∧ xs = []) ∧ (z = false → a.isSome = true) := by
  cases h with
  | seqNil => exact ⟨none, 0, rfl, Nat.le_refl _, fun _ => ⟨rfl, rfl⟩, fun h => by cases h⟩
  | seq full sz xs ad c us hc => exact ⟨some ad, c, rfl, hc, fun h => (by cases h), fun _ => rfl⟩

theorem bound_ok {V : Vw} {x : Option AV} {v : Option Value} {d top n : Nat} (code : BoundsCode) (hv : match x, v with | some x, some v => Rep V x v | none, none => True | _, _ => False) (h : boundA x d top = some n) :
    (match v with | some v => Instr.sliceBound v top code | none => Pure.pure d).run P V.w = .ok n V.w ∧ (v.isSome = true → n ≤ top) ∧ (v = none → n = d) := by
  unfold boundA at h
  cases x with
  | none =>
    cases v with
    | none => cases h; exact ⟨rfl, (fun h => by cases h), fun _ => rfl⟩
    | some v => exact hv.elim
  | some x =>
    cases v with
    | none => exact hv.elim
    | some v =>
      cases x with
      | int k i =>
        simp only at h
        split at h
        · rename_i hc
          cases h
          have hv' : Rep V (.int k i) v := hv
          cases hv'
          refine ⟨by simp [Instr.sliceBound, asIntOf, hc.1, hc.2], fun _ => by omega, fun e => by cases e⟩
        · cases h
      | _ => simp at h

def RepO (V : Vw) (x : Option AV) (v : Option Value) : Prop := match x, v with | some x, some v => Rep V x v | none, none => True | _, _ => False

theorem run_sliceAt {t : Nat} {x : Value} {lo hi mx : Option Value} {w : World} (h : ∀ n e, P.underlying t ≠ some (.array n e)) (h' : (P.underlying t).isSome = true) :
    (Instr.sliceAt t x lo hi mx).run P w = (Instr.slice t x lo hi mx).run P w := by
  obtain ⟨d, hd⟩ := Option.isSome_iff_exists.1 h'
  simp only [Instr.sliceAt, Sem.run_bind, run_und hd, Result.andThen_ok]
  split
  · rename_i n e; exact absurd hd (h n e)
  · rfl

theorem seq_cut {V : Vw} {z full f' : Bool} {sz : Nat} {xs : List AV} {a : Option Addr} {n c : Nat} (hv : Rep V (.seq z full sz xs) (.slice a n c)) {l h m : Nat} (h1 : l ≤ h) (h2 : h ≤ m) (h3 : m ≤ c) (h4 : h ≤ xs.length)
    (hf : f' = true → m = h) (hz : z = true → m = 0) : Rep V (.seq z f' sz ((xs.take h).drop l)) (.slice (if m = l then a else a.map (·.add (l * sz))) (h - l) (m - l)) := by
  cases z with
  | true =>
    cases hv
    have := hz rfl
    subst this
    have e1 : h = 0 := by omega
    have e2 : l = 0 := by omega
    subst e1; subst e2
    exact .seqNil _ _
  | false =>
    obtain ⟨ad, c', he, hc, hfull, hS, h0, hw, hl⟩ := lies_of_seq hv
    simp only [Value.slice.injEq] at he
    obtain ⟨rfl, rfl, rfl⟩ := he
    have hlen : ((xs.take h).drop l).length = h - l := by simp; omega
    have key : ∀ ad', ((xs.take h).drop l ≠ [] → ad' = ad.add (l * sz)) → Rep V (.seq false f' sz ((xs.take h).drop l)) (.slice (some ad') (h - l) (m - l)) := by
      intro ad' hne
      rw [← hlen]
      have hw' : ∀ x ∈ (xs.take h).drop l, wide x sz := fun x hx => hw x (List.mem_of_mem_take (List.mem_of_mem_drop hx))
      by_cases hnil : (xs.take h).drop l = []
      · rw [hnil]
        exact seq_of_lies (xs := []) ⟨[], Reps.nil V, fun m u hu => by simp at hu⟩ (fun x hx => by simp at hx) (fun h => absurd rfl h) (fun h => absurd rfl h) (by simp) (fun hf' => by have := hf hf'; rw [hnil] at hlen; simp at hlen; simp; omega)
      · have hx0 : xs ≠ [] := fun e => hnil (by simp [e])
        rw [hne hnil]
        refine seq_of_lies ?_ hw' (fun _ => by rw [add_block]; exact hS hx0) (fun _ => h0 hx0) (by omega) (fun hf' => by have := hf hf'; omega)
        have hfl : flatC xs = flatC (xs.take l) ++ (flatC ((xs.take h).drop l) ++ flatC (xs.drop h)) := by
          unfold flatC
          rw [← List.flatMap_append, ← List.flatMap_append]
          congr 1
          rw [show xs.take l = (xs.take h).take l from by rw [List.take_take, Nat.min_eq_left h1], ← List.append_assoc, List.take_append_drop, List.take_append_drop]
        have hd := hl.drop (l * sz)
        have hlw : (flatC (xs.take l)).length = l * sz := by rw [flatC_length (fun x hx => hw x (List.mem_of_mem_take hx)), List.length_take, Nat.min_eq_left (by omega)]
        rw [hfl, List.drop_left' hlw] at hd
        exact hd.app
    by_cases hm : m = l
    · rw [if_pos hm]
      exact key ad (fun hne => by exfalso; apply hne; apply List.eq_nil_of_length_eq_zero; omega)
    · rw [if_neg hm]
      exact key _ (fun _ => rfl)

theorem slice_ok {V : Vw} {t : Nat} {x r : AV} {lo hi mx : Option AV} {v : Value} {vlo vhi vmx : Option Value} (hv : Rep V x v) (hlo : RepO V lo vlo) (hhi : RepO V hi vhi) (hmx : RepO V mx vmx) (h : sliceA P t x lo hi mx = some r) :
    ∃ u, (Instr.sliceAt t v vlo vhi vmx).run P V.w = .ok u V.w ∧ Rep V r u := by
  unfold sliceA at h
  cases x with
  | str s =>
    simp only at h
    split at h
    case isFalse => cases h
    rename_i hc
    obtain ⟨ht, hm⟩ := hc
    cases mx with
    | some _ => simp at hm
    | none =>
    cases vmx with
    | some _ => exact hmx.elim
    | none =>
    unfold strT at ht
    split at ht
    case h_2 => cases ht
    rename_i hu
    cases hv
    obtain ⟨hh, hbh, h⟩ := Option.bind_eq_some_iff.1 h
    obtain ⟨ll, hbl, h⟩ := Option.bind_eq_some_iff.1 h
    cases h
    obtain ⟨e1, b1, c1⟩ := bound_ok (P := P) .sliceAlen hhi hbh
    obtain ⟨e2, b2, c2⟩ := bound_ok (P := P) .sliceB hlo hbl
    refine ⟨.string (s.extract ll hh), ?_, .str _⟩
    rw [run_sliceAt (by intro n e; rw [hu]; simp) (by rw [hu]; rfl)]
    simp only [Instr.slice, Instr.sliceBounds, Sem.run_bind, run_und hu, Result.andThen_ok, Option.isSome_none, Bool.false_eq_true, if_false, Sem.run_pure]
    cases vhi with
    | some vh =>
      simp only at e1
      cases vlo with
      | some vl => simp only at e2; simp [e1, e2]
      | none => simp only at e2; have := c2 rfl; subst this; simp [e1]
    | none =>
      have := c1 rfl; subst this
      cases vlo with
      | some vl => simp only at e2; simp [e2]
      | none => have := c2 rfl; subst this; simp
  | seq z full sz xs =>
    simp only at h
    cases he : elemT P t with
    | none => simp [he] at h
    | some e =>
      simp only [he] at h
      unfold elemT at he
      split at he
      case h_2 => cases he
      rename_i e' hu
      cases he
      split at h
      case isFalse => cases h
      rename_i hsz
      obtain ⟨a, c, rfl, hlc, hz, hz'⟩ := seq_form hv
      have hrs := run_sliceAt (P := P) (t := t) (x := .slice a xs.length c) (lo := vlo) (hi := vhi) (mx := vmx) (w := V.w) (by intro n e; rw [hu]; simp) (by rw [hu]; rfl)
      have hcz : z = true → c = 0 := fun hzz => by have := (hz hzz).1; simp at this; omega
      cases mx with
      | none =>
        cases vmx with
        | some _ => exact hmx.elim
        | none =>
        simp only at h
        obtain ⟨hh, hbh, h⟩ := Option.bind_eq_some_iff.1 h
        obtain ⟨ll, hbl, h⟩ := Option.bind_eq_some_iff.1 h
        cases h
        -- the bound in the code is the capacity
        have hbh' : boundA hi xs.length c = some hh ∧ hh ≤ xs.length := by
          unfold boundA at hbh ⊢
          cases hi with
          | none => simp at hbh ⊢; omega
          | some hx =>
            cases hx with
            | int k i =>
              simp only at hbh ⊢
              split at hbh
              · rename_i hc; cases hbh; rw [if_pos ⟨hc.1, by omega⟩]; exact ⟨rfl, by omega⟩
              · cases hbh
            | _ => simp at hbh
        obtain ⟨e1, b1, c1⟩ := bound_ok (P := P) .sliceAcap hhi hbh'.1
        obtain ⟨e2, b2, c2⟩ := bound_ok (P := P) .sliceB hlo hbl
        have hll : ll ≤ hh := by cases vlo with | some _ => exact b2 rfl | none => have := c2 rfl; omega
        refine ⟨.slice (if c = ll then a else a.map (·.add (ll * sz))) (hh - ll) (c - ll), ?_, ?_⟩
        · rw [hrs]
          simp only [Instr.slice, Instr.sliceBounds, Sem.run_bind, run_und hu, Result.andThen_ok, Option.isSome_none, Bool.false_eq_true, if_false, Sem.run_pure, if_true]
          cases vhi with
          | some vh =>
            simp only at e1
            cases vlo with
            | some vl => simp only at e2; simp [e1, e2, run_szOf hsz]
            | none => simp only at e2; have := c2 rfl; subst this; simp [e1, run_szOf hsz]
          | none =>
            have := c1 rfl; subst this
            cases vlo with
            | some vl => simp only at e2; simp [e2, run_szOf hsz]
            | none => have := c2 rfl; subst this; simp [run_szOf hsz]
        · refine seq_cut hv hll (by omega) (Nat.le_refl _) hbh'.2 (fun hf' => ?_) hcz
          simp only [Bool.and_eq_true, beq_iff_eq] at hf'
          cases z with
          | true => have := hcz rfl; omega
          | false =>
            obtain ⟨ad, c', he', _, hfull, _⟩ := lies_of_seq hv
            simp only [Value.slice.injEq] at he'
            have := hfull hf'.1; omega
      | some mx =>
        cases vmx with
        | none => exact hmx.elim
        | some vm =>
        simp only at h
        obtain ⟨mm, hbm, h⟩ := Option.bind_eq_some_iff.1 h
        obtain ⟨hh, hbh, h⟩ := Option.bind_eq_some_iff.1 h
        split at h
        case isFalse => cases h
        rename_i hc
        obtain ⟨his, hhm⟩ := hc
        obtain ⟨ll, hbl, h⟩ := Option.bind_eq_some_iff.1 h
        cases h
        have hbm' : boundA (some mx) 0 c = some mm ∧ mm ≤ xs.length := by
          unfold boundA at hbm ⊢
          cases mx with
          | int k i =>
            simp only at hbm ⊢
            split at hbm
            · rename_i hc; cases hbm; rw [if_pos ⟨hc.1, by omega⟩]; exact ⟨rfl, by omega⟩
            · cases hbm
          | _ => simp at hbm
        cases hi with
        | none => simp at his
        | some hx =>
        cases vhi with
        | none => exact hhi.elim
        | some vh =>
        obtain ⟨e0, b0, c0⟩ := bound_ok (P := P) (x := some mx) (v := some vm) .slice3Acap hmx hbm'.1
        obtain ⟨e1, b1, c1⟩ := bound_ok (P := P) (x := some hx) (v := some vh) .slice3B hhi hbh
        obtain ⟨e2, b2, c2⟩ := bound_ok (P := P) .slice3C hlo hbl
        have hll : ll ≤ hh := by cases vlo with | some _ => exact b2 rfl | none => have := c2 rfl; omega
        simp only at e0 e1
        refine ⟨.slice (if mm = ll then a else a.map (·.add (ll * sz))) (hh - ll) (mm - ll), ?_, ?_⟩
        · rw [hrs]
          simp only [Instr.slice, Instr.sliceBounds, Sem.run_bind, run_und hu, Result.andThen_ok, Option.isSome_some, if_true, Sem.run_pure, e0, e1]
          cases vlo with
          | some vl => simp only at e2; simp [e2, run_szOf hsz]
          | none => have := c2 rfl; subst this; simp [run_szOf hsz]
        · exact seq_cut hv hll (by omega) (by omega) (by omega) (fun _ => by omega) (fun hzz => by have := (hz hzz).2; subst this; simp at hbm'; omega)
  | _ => cases h
end Go.Ab
