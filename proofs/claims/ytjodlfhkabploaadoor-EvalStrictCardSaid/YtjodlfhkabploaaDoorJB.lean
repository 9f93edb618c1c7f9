/- Joined: XEH XEI XEJ XEK XEL XEM XMA. -/
import Derived.Test.YtjodlfhkabploaaDoorJA
import Derived.Great.BuildSlice
import Derived.Laws.Strings
import Derived.Laws.StructEq
import Derived.MapKept
import Derived.Laws.MakeOwn
/- The operations on memory, fourth part: slices, append, literals. -/
set_option linter.unusedVariables false
set_option linter.unusedSimpArgs false
namespace Go.Ab
open Go

variable {P : Program}

theorem app_take (A F : List AV) (k : Nat) : (A ++ F).take (A.length + k) = A ++ F.take k := by
  rw [List.take_append, List.take_of_length_le (by omega), Nat.add_sub_cancel_left]
theorem app_drop (A F : List AV) (k : Nat) : (A ++ F).drop (A.length + k) = F.drop k := by
  rw [List.drop_append, List.drop_eq_nil_of_le (by omega), Nat.add_sub_cancel_left, List.nil_append]
theorem flatC_set {xs : List AV} {sz : Nat} (h : ∀ x ∈ xs, wide x sz) {j : Nat} {y : AV} (hj : j < xs.length) (hy : wide y sz) : flatC (xs.set j y) = over (flatC xs) (j * sz) y.cells := by
  induction xs generalizing j with
  | nil => simp at hj
  | cons x xs ih =>
    have h1 := (h x (by simp)).1
    cases j with
    | zero =>
      simp only [List.set_cons_zero, flatC, List.flatMap_cons, over, Nat.zero_mul, List.take_zero, List.nil_append, Nat.zero_add]
      rw [hy.1, ← h1, List.drop_left' rfl]
    | succ j =>
      have := ih (fun z hz => h z (by simp [hz])) (j := j) (by simpa using hj)
      simp only [List.set_cons_succ, flatC, List.flatMap_cons, over] at this ⊢
      rw [this, show (j + 1) * sz = x.cells.length + j * sz from by rw [h1, Nat.succ_mul]; omega]
      rw [app_take, show x.cells.length + j * sz + y.cells.length = x.cells.length + (j * sz + y.cells.length) from by omega, app_drop]
      simp only [List.append_assoc]

theorem seq_of_lies {V : Vw} {ad : Addr} {xs : List AV} {sz c : Nat} {full : Bool} (hl : Lies V ad (flatC xs)) (hw : ∀ x ∈ xs, wide x sz) (hS : xs ≠ [] → V.S ad.block) (h0 : xs ≠ [] → 0 < sz)
    (hc : xs.length ≤ c) (hf : full = true → c = xs.length) : Rep V (.seq false full sz xs) (.slice (some ad) xs.length c) := by
  obtain ⟨us, hr, hcell⟩ := hl
  have hget : ∀ (j : Nat) (x : AV) (m : Nat) (y : AV), xs[j]? = some x → x.cells[m]? = some y → us[j * sz + m]? = some (us.getD (j * sz + m) (.tuple #[])) ∧ (flatC xs)[j * sz + m]? = some y := by
    intro j x m y hx hy
    have hm : m < sz := by have := (List.getElem?_eq_some_iff.1 hy).1; have := (hw x (List.mem_of_getElem? hx)).1; omega
    have h1 := flatC_get hw hx hm
    rw [hy] at h1
    obtain ⟨u, hu, _⟩ := hr.get h1
    exact ⟨by rw [hu]; simp [List.getD_eq_getElem?_getD, hu], h1⟩
  exact .seq full sz xs ad c (fun j m => us.getD (j * sz + m) (.tuple #[])) hc hf hS h0 (fun x hx => hw x hx) (fun j x m y hx hy => hcell _ _ (hget j x m y hx hy).1)
    (fun j x m y hx hy => hr.2 _ y _ (hget j x m y hx hy).2 (hget j x m y hx hy).1)

theorem lies_of_seq {V : Vw} {full : Bool} {xs : List AV} {sz : Nat} {v : Value} (h : Rep V (.seq false full sz xs) v) :
    ∃ ad c, v = .slice (some ad) xs.length c ∧ xs.length ≤ c ∧ (full = true → c = xs.length) ∧ (xs ≠ [] → V.S ad.block) ∧ (xs ≠ [] → 0 < sz) ∧ (∀ x ∈ xs, wide x sz) ∧ Lies V ad (flatC xs) := by
  cases h with
  | seq full sz xs ad c us hc hf hS h0 hsz hu hr =>
    refine ⟨ad, c, rfl, hc, hf, hS, h0, fun x hx => hsz x hx, (List.range (xs.length * sz)).map (fun k => us (k / sz) (k % sz)), ⟨by rw [flatC_length (fun x hx => hsz x hx)]; simp, ?_⟩, ?_⟩
    · intro k y c' hy hc'
      have hk : k < xs.length * sz := by rw [← flatC_length (fun x hx => hsz x hx)]; exact (List.getElem?_eq_some_iff.1 hy).1
      simp [List.getElem?_map, List.getElem?_range hk] at hc'
      subst hc'
      have hs : 0 < sz := Nat.pos_of_ne_zero (fun e => by subst e; omega)
      have hq : k / sz < xs.length := (Nat.div_lt_iff_lt_mul hs).2 hk
      have hx := List.getElem?_eq_getElem hq
      have hm := Nat.mod_lt k hs
      have := flatC_get (fun x hx => hsz x hx) hx hm
      rw [show k / sz * sz + k % sz = k from by rw [Nat.mul_comm]; exact Nat.div_add_mod k sz, hy] at this
      exact hr _ _ _ y hx this.symm
    · intro k u hu'
      by_cases hk : k < xs.length * sz
      · simp [List.getElem?_map, List.getElem?_range hk] at hu'
        subst hu'
        have hs : 0 < sz := Nat.pos_of_ne_zero (fun e => by subst e; omega)
        have hq : k / sz < xs.length := (Nat.div_lt_iff_lt_mul hs).2 hk
        have hx := List.getElem?_eq_getElem hq
        have hm := Nat.mod_lt k hs
        have hw := (hsz _ (List.getElem_mem hq)).1
        have := hu (k / sz) _ (k % sz) _ hx (List.getElem?_eq_getElem (by omega))
        rwa [show k / sz * sz + k % sz = k from by rw [Nat.mul_comm]; exact Nat.div_add_mod k sz] at this
      · rw [List.getElem?_map, List.getElem?_eq_none (by simp; omega)] at hu'; simp at hu'

theorem seq_form {V : Vw} {z full : Bool} {sz : Nat} {xs : List AV} {v : Value} (h : Rep V (.seq z full sz xs) v) : ∃ a c, v = .slice a xs.length c ∧ xs.length ≤ c ∧ (z = true → v = .slice none 0 0 ∧ xs = []) ∧ (z = false → a.isSome = true) := by
  cases h with
  | seqNil => exact ⟨none, 0, rfl, Nat.le_refl _, fun _ => ⟨rfl, rfl⟩, fun h => by cases h⟩
  | seq full sz xs ad c us hc => exact ⟨some ad, c, rfl, hc, fun h => (by cases h), fun _ => rfl⟩

theorem bound_ok {V : Vw} {x : Option AV} {v : Option Value} {d top n : Nat} (code : BoundsCode) (hv : match x, v with | some x, some v => Rep V x v | none, none => True | _, _ => False) (h : boundA x d top = some n) :
    (match v with | some v => Instr.sliceBound v top code | none => Pure.pure d).run P V.w = .ok n V.w ∧ (v.isSome = true → n ≤ top) ∧ (v = none → n = d) := by
  unfold boundA at h
  cases x with
  | none =>
    cases v with
    | none => cases h; exact ⟨rfl, (fun h => by cases h), fun _ => rfl⟩
    | some v => exact hv.elim
  | some x =>
    cases v with
    | none => exact hv.elim
    | some v =>
      cases x with
      | int k i =>
        simp only at h
        split at h
        · rename_i hc
          cases h
          have hv' : Rep V (.int k i) v := hv
          cases hv'
          refine ⟨by simp [Instr.sliceBound, asIntOf, hc.1, hc.2], fun _ => by omega, fun e => by cases e⟩
        · cases h
      | _ => simp at h

def RepO (V : Vw) (x : Option AV) (v : Option Value) : Prop := match x, v with | some x, some v => Rep V x v | none, none => True | _, _ => False

theorem run_sliceAt {t : Nat} {x : Value} {lo hi mx : Option Value} {w : World} (h : ∀ n e, P.underlying t ≠ some (.array n e)) (h' : (P.underlying t).isSome = true) :
    (Instr.sliceAt t x lo hi mx).run P w = (Instr.slice t x lo hi mx).run P w := by
  obtain ⟨d, hd⟩ := Option.isSome_iff_exists.1 h'
  simp only [Instr.sliceAt, Sem.run_bind, run_und hd, Result.andThen_ok]
  split
  · rename_i n e; exact absurd hd (h n e)
  · rfl

theorem seq_cut {V : Vw} {z full f' : Bool} {sz : Nat} {xs : List AV} {a : Option Addr} {n c : Nat} (hv : Rep V (.seq z full sz xs) (.slice a n c)) {l h m : Nat} (h1 : l ≤ h) (h2 : h ≤ m) (h3 : m ≤ c) (h4 : h ≤ xs.length)
    (hf : f' = true → m = h) (hz : z = true → m = 0) : Rep V (.seq z f' sz ((xs.take h).drop l)) (.slice (if m = l then a else a.map (·.add (l * sz))) (h - l) (m - l)) := by
  cases z with
  | true =>
    cases hv
    have := hz rfl
    subst this
    have e1 : h = 0 := by omega
    have e2 : l = 0 := by omega
    subst e1; subst e2
    exact .seqNil _ _
  | false =>
    obtain ⟨ad, c', he, hc, hfull, hS, h0, hw, hl⟩ := lies_of_seq hv
    simp only [Value.slice.injEq] at he
    obtain ⟨rfl, rfl, rfl⟩ := he
    have hlen : ((xs.take h).drop l).length = h - l := by simp; omega
    have key : ∀ ad', ((xs.take h).drop l ≠ [] → ad' = ad.add (l * sz)) → Rep V (.seq false f' sz ((xs.take h).drop l)) (.slice (some ad') (h - l) (m - l)) := by
      intro ad' hne
      rw [← hlen]
      have hw' : ∀ x ∈ (xs.take h).drop l, wide x sz := fun x hx => hw x (List.mem_of_mem_take (List.mem_of_mem_drop hx))
      by_cases hnil : (xs.take h).drop l = []
      · rw [hnil]
        exact seq_of_lies (xs := []) ⟨[], Reps.nil V, fun m u hu => by simp at hu⟩ (fun x hx => by simp at hx) (fun h => absurd rfl h) (fun h => absurd rfl h) (by simp) (fun hf' => by have := hf hf'; rw [hnil] at hlen; simp at hlen; simp; omega)
      · have hx0 : xs ≠ [] := fun e => hnil (by simp [e])
        rw [hne hnil]
        refine seq_of_lies ?_ hw' (fun _ => by rw [add_block]; exact hS hx0) (fun _ => h0 hx0) (by omega) (fun hf' => by have := hf hf'; omega)
        have hfl : flatC xs = flatC (xs.take l) ++ (flatC ((xs.take h).drop l) ++ flatC (xs.drop h)) := by
          unfold flatC
          rw [← List.flatMap_append, ← List.flatMap_append]
          congr 1
          rw [show xs.take l = (xs.take h).take l from by rw [List.take_take, Nat.min_eq_left h1], ← List.append_assoc, List.take_append_drop, List.take_append_drop]
        have hd := hl.drop (l * sz)
        have hlw : (flatC (xs.take l)).length = l * sz := by rw [flatC_length (fun x hx => hw x (List.mem_of_mem_take hx)), List.length_take, Nat.min_eq_left (by omega)]
        rw [hfl, List.drop_left' hlw] at hd
        exact hd.app
    by_cases hm : m = l
    · rw [if_pos hm]
      exact key ad (fun hne => by exfalso; apply hne; apply List.eq_nil_of_length_eq_zero; omega)
    · rw [if_neg hm]
      exact key _ (fun _ => rfl)

theorem slice_ok {V : Vw} {t : Nat} {x r : AV} {lo hi mx : Option AV} {v : Value} {vlo vhi vmx : Option Value} (hv : Rep V x v) (hlo : RepO V lo vlo) (hhi : RepO V hi vhi) (hmx : RepO V mx vmx) (h : sliceA P t x lo hi mx = some r) :
    ∃ u, (Instr.sliceAt t v vlo vhi vmx).run P V.w = .ok u V.w ∧ Rep V r u := by
  unfold sliceA at h
  cases x with
  | str s =>
    simp only at h
    split at h
    case isFalse => cases h
    rename_i hc
    obtain ⟨ht, hm⟩ := hc
    cases mx with
    | some _ => simp at hm
    | none =>
    cases vmx with
    | some _ => exact hmx.elim
    | none =>
    unfold strT at ht
    split at ht
    case h_2 => cases ht
    rename_i hu
    cases hv
    obtain ⟨hh, hbh, h⟩ := Option.bind_eq_some_iff.1 h
    obtain ⟨ll, hbl, h⟩ := Option.bind_eq_some_iff.1 h
    cases h
    obtain ⟨e1, b1, c1⟩ := bound_ok (P := P) .sliceAlen hhi hbh
    obtain ⟨e2, b2, c2⟩ := bound_ok (P := P) .sliceB hlo hbl
    refine ⟨.string (s.extract ll hh), ?_, .str _⟩
    rw [run_sliceAt (by intro n e; rw [hu]; simp) (by rw [hu]; rfl)]
    simp only [Instr.slice, Instr.sliceBounds, Sem.run_bind, run_und hu, Result.andThen_ok, Option.isSome_none, Bool.false_eq_true, if_false, Sem.run_pure]
    cases vhi with
    | some vh =>
      simp only at e1
      cases vlo with
      | some vl => simp only at e2; simp [e1, e2]
      | none => simp only at e2; have := c2 rfl; subst this; simp [e1]
    | none =>
      have := c1 rfl; subst this
      cases vlo with
      | some vl => simp only at e2; simp [e2]
      | none => have := c2 rfl; subst this; simp
  | seq z full sz xs =>
    simp only at h
    cases he : elemT P t with
    | none => simp [he] at h
    | some e =>
      simp only [he] at h
      unfold elemT at he
      split at he
      case h_2 => cases he
      rename_i e' hu
      cases he
      split at h
      case isFalse => cases h
      rename_i hsz
      obtain ⟨a, c, rfl, hlc, hz, hz'⟩ := seq_form hv
      have hrs := run_sliceAt (P := P) (t := t) (x := .slice a xs.length c) (lo := vlo) (hi := vhi) (mx := vmx) (w := V.w) (by intro n e; rw [hu]; simp) (by rw [hu]; rfl)
      have hcz : z = true → c = 0 := fun hzz => by have := (hz hzz).1; simp at this; omega
      cases mx with
      | none =>
        cases vmx with
        | some _ => exact hmx.elim
        | none =>
        simp only at h
        obtain ⟨hh, hbh, h⟩ := Option.bind_eq_some_iff.1 h
        obtain ⟨ll, hbl, h⟩ := Option.bind_eq_some_iff.1 h
        cases h
        -- the bound in the code is the capacity
        have hbh' : boundA hi xs.length c = some hh ∧ hh ≤ xs.length := by
          unfold boundA at hbh ⊢
          cases hi with
          | none => simp at hbh ⊢; omega
          | some hx =>
            cases hx with
            | int k i =>
              simp only at hbh ⊢
              split at hbh
              · rename_i hc; cases hbh; rw [if_pos ⟨hc.1, by omega⟩]; exact ⟨rfl, by omega⟩
              · cases hbh
            | _ => simp at hbh
        obtain ⟨e1, b1, c1⟩ := bound_ok (P := P) .sliceAcap hhi hbh'.1
        obtain ⟨e2, b2, c2⟩ := bound_ok (P := P) .sliceB hlo hbl
        have hll : ll ≤ hh := by cases vlo with | some _ => exact b2 rfl | none => have := c2 rfl; omega
        refine ⟨.slice (if c = ll then a else a.map (·.add (ll * sz))) (hh - ll) (c - ll), ?_, ?_⟩
        · rw [hrs]
          simp only [Instr.slice, Instr.sliceBounds, Sem.run_bind, run_und hu, Result.andThen_ok, Option.isSome_none, Bool.false_eq_true, if_false, Sem.run_pure, if_true]
          cases vhi with
          | some vh =>
            simp only at e1
            cases vlo with
            | some vl => simp only at e2; simp [e1, e2, run_szOf hsz]
            | none => simp only at e2; have := c2 rfl; subst this; simp [e1, run_szOf hsz]
          | none =>
            have := c1 rfl; subst this
            cases vlo with
            | some vl => simp only at e2; simp [e2, run_szOf hsz]
            | none => have := c2 rfl; subst this; simp [run_szOf hsz]
        · refine seq_cut hv hll (by omega) (Nat.le_refl _) hbh'.2 (fun hf' => ?_) hcz
          simp only [Bool.and_eq_true, beq_iff_eq] at hf'
          cases z with
          | true => have := hcz rfl; omega
          | false =>
            obtain ⟨ad, c', he', _, hfull, _⟩ := lies_of_seq hv
            simp only [Value.slice.injEq] at he'
            have := hfull hf'.1; omega
      | some mx =>
        cases vmx with
        | none => exact hmx.elim
        | some vm =>
        simp only at h
        obtain ⟨mm, hbm, h⟩ := Option.bind_eq_some_iff.1 h
        obtain ⟨hh, hbh, h⟩ := Option.bind_eq_some_iff.1 h
        split at h
        case isFalse => cases h
        rename_i hc
        obtain ⟨his, hhm⟩ := hc
        obtain ⟨ll, hbl, h⟩ := Option.bind_eq_some_iff.1 h
        cases h
        have hbm' : boundA (some mx) 0 c = some mm ∧ mm ≤ xs.length := by
          unfold boundA at hbm ⊢
          cases mx with
          | int k i =>
            simp only at hbm ⊢
            split at hbm
            · rename_i hc; cases hbm; rw [if_pos ⟨hc.1, by omega⟩]; exact ⟨rfl, by omega⟩
            · cases hbm
          | _ => simp at hbm
        cases hi with
        | none => simp at his
        | some hx =>
        cases vhi with
        | none => exact hhi.elim
        | some vh =>
        obtain ⟨e0, b0, c0⟩ := bound_ok (P := P) (x := some mx) (v := some vm) .slice3Acap hmx hbm'.1
        obtain ⟨e1, b1, c1⟩ := bound_ok (P := P) (x := some hx) (v := some vh) .slice3B hhi hbh
        obtain ⟨e2, b2, c2⟩ := bound_ok (P := P) .slice3C hlo hbl
        have hll : ll ≤ hh := by cases vlo with | some _ => exact b2 rfl | none => have := c2 rfl; omega
        simp only at e0 e1
        refine ⟨.slice (if mm = ll then a else a.map (·.add (ll * sz))) (hh - ll) (mm - ll), ?_, ?_⟩
        · rw [hrs]
          simp only [Instr.slice, Instr.sliceBounds, Sem.run_bind, run_und hu, Result.andThen_ok, Option.isSome_some, if_true, Sem.run_pure, e0, e1]
          cases vlo with
          | some vl => simp only at e2; simp [e2, run_szOf hsz]
          | none => have := c2 rfl; subst this; simp [run_szOf hsz]
        · exact seq_cut hv hll (by omega) (by omega) (by omega) (fun _ => by omega) (fun hzz => by have := (hz hzz).2; subst this; simp at hbm'; omega)
  | _ => cases h
end Go.Ab

/- The operations on memory, fifth part: append, slice literals; arithmetic. -/
set_option linter.unusedVariables false
set_option linter.unusedSimpArgs false
namespace Go.Ab
open Go

variable {P : Program}

theorem len_ok {V : Vw} {t ty : Nat} {x r : AV} {v : Value} (hv : Rep V x v) (h : lenA P V.mem t x = some r) : ∃ u, (Builtin.len_ #[t] ty #[v]).run P V.w = .ok u V.w ∧ Rep V r u := by
  unfold lenA at h
  cases x with
  | str s =>
    simp only at h
    split at h
    · rename_i ht
      unfold strT at ht
      split at ht
      case h_2 => cases ht
      rename_i hu
      cases h
      cases hv
      exact ⟨_, by simp [Builtin.len_, run_und hu, goInt], .int _ _⟩
    · cases h
  | seq z full sz xs =>
    simp only at h
    split at h
    · rename_i ht
      unfold sliceT elemT at ht
      split at ht
      case h_2 => cases ht
      rename_i e hu
      cases h
      obtain ⟨a, c, rfl, _⟩ := seq_form hv
      exact ⟨_, by simp [Builtin.len_, run_und hu, goInt], .int _ _⟩
    · cases h
  | own id ver =>
    simp only at h
    split at h
    · rename_i ht
      obtain ⟨ht, hver⟩ := ht
      unfold sliceT elemT at ht
      split at ht
      case h_2 => cases ht
      rename_i e hu
      cases h
      rcases own_any hv hver with ⟨b, hb, rfl⟩ | ⟨_, rfl, rfl, _⟩
      · exact ⟨_, by simp [Builtin.len_, run_und hu, goInt], .int _ _⟩
      · exact ⟨_, by simp [Builtin.len_, run_und hu, goInt], .int _ _⟩
    · cases h
  | agg cs =>
    simp only at h
    obtain ⟨p, hp, rfl⟩ := Option.map_eq_some_iff.1 h
    obtain ⟨n, e⟩ := p
    unfold arrT at hp
    split at hp
    case h_2 => cases hp
    rename_i n' e' hu
    simp only [Option.some.injEq, Prod.mk.injEq] at hp
    obtain ⟨rfl, rfl⟩ := hp
    exact ⟨_, by simp [Builtin.len_, run_und hu, goInt], .int _ _⟩
  | _ => cases h

/-- A slice's elements, as append reads them. -/
theorem elems_ok {V : Vw} (o : Ok V) {y : AV} {v : Value} {sz0 sz : Nat} {ys : List AV} (hv : Rep V y v) (h : elemsA V.mem y = some (sz0, ys)) (hw : ∀ x ∈ ys, x.cells.length = sz) :
    (∃ a c, v = .slice a ys.length c) ∧ (ys ≠ [] → ∃ ad c, v = .slice (some ad) ys.length c ∧ Lies V ad (flatC ys)) ∧ ∀ x ∈ ys, wide x sz := by
  cases y with
  | seq z full sz1 xs =>
    simp only [elemsA, Option.some.injEq, Prod.mk.injEq] at h
    obtain ⟨rfl, rfl⟩ := h
    cases z with
    | true =>
      cases hv
      exact ⟨⟨_, _, rfl⟩, fun h => absurd rfl h, fun x hx => by simp at hx⟩
    | false =>
      obtain ⟨ad, c, rfl, _, _, _, _, hww, hl⟩ := lies_of_seq hv
      exact ⟨⟨_, _, rfl⟩, fun _ => ⟨ad, c, rfl, hl⟩, fun x hx => ⟨hw x hx, (hww x hx).2⟩⟩
  | own id ver =>
    simp only [elemsA] at h
    cases hm : V.mem[id]? with
    | none => simp [hm] at h
    | some k =>
      cases k with
      | arr e sz1 xs =>
        simp only [hm] at h
        split at h
        · rename_i hlen
          simp only [Option.some.injEq, Prod.mk.injEq] at h
          obtain ⟨rfl, rfl⟩ := h
          obtain ⟨b, hb, rfl⟩ := own_valid hv (by rw [verOf_arr hm, hlen]) (.inr (by rw [isVec_some hm]; rfl))
          obtain ⟨h2, h3, h4, h5, vs, h6, h7, h8⟩ := o.blk id b _ hm hb
          refine ⟨⟨_, _, by rw [hlen]⟩, fun _ => ⟨⟨b, 0, none⟩, V.cp id, by rw [hlen], ⟨_, h8, fun m u hu => ?_⟩⟩, fun x hx => ⟨hw x hx, (h5 x hx).2⟩⟩
          rw [add_lit, cell_block h6]
          rw [List.getElem?_take] at hu
          split at hu
          · simpa using hu
          · cases hu
        · cases h
      | vec e sz1 xs =>
        simp only [hm] at h
        split at h
        · rename_i hlen
          simp only [Option.some.injEq, Prod.mk.injEq] at h
          obtain ⟨rfl, rfl⟩ := h
          rcases own_any hv (by rw [verOf_vec hm, hlen]) with ⟨b, hb, rfl⟩ | ⟨_, h0, rfl, _⟩
          · obtain ⟨_, h2, h3, h4, h5, vs, h6, h7, h8⟩ := o.blk id b _ hm hb
            refine ⟨⟨_, _, by rw [hlen]⟩, fun _ => ⟨⟨b, 0, none⟩, V.cp id, by rw [hlen], ⟨_, h8, fun m u hu => ?_⟩⟩, fun x hx => ⟨hw x hx, (h5 x hx).2⟩⟩
            rw [add_lit, cell_block h6]
            rw [List.getElem?_take] at hu
            split at hu
            · simpa using hu
            · cases hu
          · have : xs = [] := List.eq_nil_of_length_eq_zero (by omega)
            subst this
            exact ⟨⟨_, _, rfl⟩, fun h => absurd rfl h, fun x hx => by simp at hx⟩
        · cases h
      | _ => simp [hm] at h
  | _ => simp [elemsA] at h

theorem run_append_empty (w : World) (t ty e : TypeId) (i : TypeInfo) (ht : P.underlying t = some (.slice e)) (hi : P.info? e = some i) (a b : Option Addr) (n c d : Nat) (h : n ≤ c) :
    (Builtin.append_ #[t, t] ty #[.slice a n c, .slice b 0 d]).run P w = .ok (.slice a n c) w := by
  cases b with
  | none => cases a <;> simp [Builtin.append_, run_und ht, sizeOf, run_tinfo hi, Builtin.lenOf, h, Builtin.firstCells, storeCells]
  | some b => cases a <;> simp [Builtin.append_, run_und ht, sizeOf, run_tinfo hi, Builtin.lenOf, h, Builtin.firstCells, storeCells, loadCells, loadCellsFrom]

def Vw.app (V : Vw) (id b c : Nat) (w : World) (k : Blk) : Vw :=
  { w := w, S := V.S, rs := fun j => if j = id then some b else V.rs j, cp := fun j => if j = id then c else V.cp j, mem := V.mem.set id k }
/-- The view behind an append that lengthens block id: it lies in b now. -/
theorem app_step {V : Vw} (o : Ok V) {id b c e sz v0 v1 : Nat} {b0 : Option Nat} {w : World} {k k0 : Blk} (hm : V.mem[id]? = some k0) (hv : verOf V.mem id = some v0) (hk : (shpB k).map (·.1) = some v1) (hlt : v0 < v1)
    (hr : V.rs id = b0) (hvn : b0 = none → isVec V.mem id = true) (hg : V.w.grownBy w b0) (hb : b0 = some b ∨ (V.w.heap.size ≤ b ∧ b < w.heap.size)) (hblk : Ext V (V.app id b c w k) → BlkOk (V.app id b c w k) id b k) :
    Ext V (V.app id b c w k) ∧ Ok (V.app id b c w k) := by
  have hid : id < V.mem.length := verOf_lt hv
  have hb0 : ∀ q, b0 = some q → q < V.w.heap.size := fun q hq => (o.rb id q (hr.trans hq)).1
  have e : Ext V (V.app id b c w k) := {
    os := hg.os
    tape := hg.tape
    output := hg.output
    size := hg.size
    frame := fun j hj hn => hg.block j hj (fun e => hn id (hr.trans e.symm))
    stab := fun j hj => hg.block j (o.sb j hj) (fun e => o.sep id j v0 hv (hr.trans e.symm) hj)
    sm := fun _ h => h
    sn := fun _ h => .inl h
    len := by simp [Vw.app]
    ver := fun j hj v' h => by
      have h' : verOf (V.mem.set id k) j = some v' := h
      by_cases e : j = id
      · subst e
        rw [verOf_set_self hj, hk] at h'
        cases h'
        exact ⟨v0, hv, by omega, fun e => by omega⟩
      · rw [verOf_set_ne e] at h'
        exact ⟨v', h', Nat.le_refl _, fun _ => ⟨by simp only [Vw.app, if_neg e], by simp only [Vw.app, if_neg e], isVec_set_ne e⟩⟩
    rn := fun j b' h => by
      simp only [Vw.app] at h
      split at h
      · cases h
        rcases hb with hb | hb
        · exact .inr ⟨id, hr.trans hb⟩
        · exact .inl hb.1
      · exact .inr ⟨j, h⟩
    nn := fun j hj h hvc => by
      have hne : j ≠ id := fun e => by subst e; rw [hvn (hr.symm.trans h)] at hvc; cases hvc
      exact ⟨by simp only [Vw.app, if_neg hne]; exact h, .inl (List.getElem?_set_ne (fun h => hne h.symm))⟩ }
  refine ⟨e, o.step e (fun j hj => Nat.lt_of_lt_of_le (o.sb j hj) hg.size) (fun j b' h => ?_) (fun j b' v' hv' hr' => ?_) (fun j j' b' va vb ha hb' hra hrb => ?_) (fun j b' k' hm' hr' hd => ?_)⟩
  · simp only [Vw.app] at h ⊢
    split at h
    · rename_i e; cases h; subst e
      refine ⟨?_, by simpa using hid⟩
      have := hg.size
      rcases hb with hb | hb
      · have := hb0 _ hb; omega
      · omega
    · have h1 := o.rb j b' h; have h2 := hg.size; exact ⟨by omega, by simpa using h1.2⟩
  · simp only [Vw.app] at hr'
    split at hr'
    · cases hr'
      intro hS
      rcases hb with hb | hb
      · exact o.sep id b v0 hv (hr.trans hb) hS
      · have := o.sb b hS; omega
    · rename_i e
      have h' : verOf (V.mem.set id k) j = some v' := hv'
      rw [verOf_set_ne e] at h'
      exact o.sep j b' v' h' hr'
  · have ha' : verOf (V.mem.set id k) j = some va := ha
    have hb'' : verOf (V.mem.set id k) j' = some vb := hb'
    simp only [Vw.app] at hra hrb
    split at hra <;> split at hrb
    · rename_i e1 e2; exact e1.trans e2.symm
    · rename_i e1 e2
      cases hra
      rw [verOf_set_ne e2] at hb''
      exfalso
      rcases hb with hb | hb
      · exact e2 (o.inj j' id b vb v0 hb'' hv hrb (hr.trans hb))
      · have := (o.rb j' b hrb).1; omega
    · rename_i e1 e2
      cases hrb
      rw [verOf_set_ne e1] at ha'
      exfalso
      rcases hb with hb | hb
      · exact e1 (o.inj j id b va v0 ha' hv hra (hr.trans hb))
      · have := (o.rb j b hra).1; omega
    · rename_i e1 e2
      rw [verOf_set_ne e1] at ha'
      rw [verOf_set_ne e2] at hb''
      exact o.inj j j' b' va vb ha' hb'' hra hrb
  · have hm2 : (V.mem.set id k)[j]? = some k' := hm'
    simp only [Vw.app] at hr'
    split at hr'
    · rename_i e1
      cases hr'
      subst e1
      rw [List.getElem?_set_self hid] at hm2
      cases hm2
      exact .inr (hblk e)
    · rename_i e1
      rw [List.getElem?_set_ne (fun h => e1 h.symm)] at hm2
      refine .inl ⟨hm2, hr', by simp only [Vw.app, if_neg e1], hg.block b' (o.rb j b' hr').1 (fun e => ?_)⟩
      have h1 : verOf V.mem j = (shpB k').map (·.1) := verOf_some hm2
      cases hsk : shpB k' with
      | none => cases k' <;> simp [shpB] at hsk; exact hd rfl
      | some s => exact e1 (o.inj j id b' s.1 v0 (by rw [h1, hsk]; rfl) hv hr' (hr.trans e.symm))

theorem allCells_spec {sz : Nat} {xs : List AV} (h : allCells sz xs = true) : ∀ x ∈ xs, x.cells.length = sz := by
  intro x hx
  have := List.all_eq_true.1 h x hx
  simpa using this

theorem ofVs_length : ∀ (vs : List Value) (xs : List AV), ofVs vs = some xs → xs.length = vs.length := fun vs xs h => by
  have := (ofVs_reps ⟨default, fun _ => False, fun _ => none, fun _ => 0, []⟩ vs xs h).1
  exact this.symm
theorem ofV_junk (v : Value) : ofV v ≠ some .junk := by
  unfold ofV
  split <;> (try split) <;> (try split) <;> simp
theorem zero_cells {t : Nat} {z : AV} {sz : Nat} (h : (zeroT P t).any (fun z => z.cells.length == sz) = true) : ∃ (i : TypeInfo) (v : Value), P.info? t = some i ∧ i.zero = some v ∧ v.cells.size = sz := by
  obtain ⟨z, hz, hl⟩ := (Option.any_eq_true _ _).1 h
  obtain ⟨i, v, h1, h2, h3, h4⟩ := zero_rep hz
  refine ⟨i, v, h1, h2, ?_⟩
  have hr := h4 ⟨default, fun _ => False, fun _ => none, fun _ => 0, []⟩
  simp at hl
  by_cases ht : z.data = true
  · have := (hr.cells ht).1.1
    rw [← hl, ← this]; simp
  · have ht' : ∃ xs, z = .tup xs := by
      cases z <;> first | exact ⟨_, rfl⟩ | (exfalso; exact ht rfl) | exact absurd h3 (ofV_junk _)
    obtain ⟨xs, rfl⟩ := ht'
    cases hr
    simpa [AV.cells, Value.cells] using hl

theorem ownsRow_inv {w : World} {base e size n : Nat} {v : Value} {xs : List Value} (h : w.ownsRow base e size v n xs) (hn : 0 < n) :
    ∃ g cap cur, v = .slice (some ⟨g, 0, none⟩) n cap ∧ base ≤ g ∧ w.heap[g]? = some (.cells cur e (0, 0)) ∧ n ≤ cap ∧ cap ≤ maxLen ∧ cur.size = cap * size ∧ cur.toList.take (n * size) = xs := by
  rcases h.2 with ⟨_, h0⟩ | h
  · omega
  · exact h

theorem append_ok {V : Vw} (o : Ok V) {t t' ty : Nat} {s y r : AV} {m' : Mem} {vs vy : Value} (hs : Rep V s vs) (hy : Rep V y vy) (h : appendA P V.mem t t' s y = some (r, m')) :
    ∃ u V', (Builtin.append_ #[t, t'] ty #[vs, vy]).run P V.w = .ok u V'.w ∧ V'.mem = m' ∧ Ok V' ∧ Ext V V' ∧ Rep V' r u := by
  unfold appendA at h
  split at h
  case isFalse => cases h
  rename_i htt
  subst htt
  split at h
  case h_2 => cases h
  rename_i e sz0 ys he hel
  split at h
  case h_2 => cases h
  rename_i sz bytes hsz hby
  split at h
  case isFalse => cases h
  rename_i hc
  obtain ⟨hsz0, hall, hzero⟩ := hc
  unfold elemT at he
  split at he
  case h_2 => cases he
  rename_i e' hu
  cases he
  obtain ⟨i, z, hi, hz, hzs⟩ := zero_cells (z := .undef) hzero
  have hisz : i.size = sz := by unfold szT at hsz; rw [hi] at hsz; simpa using hsz
  have hiby : i.bytes = bytes := by unfold byT at hby; rw [hi] at hby; simpa using hby
  obtain ⟨⟨ya, yc, hyf⟩, hyl, hyw⟩ := elems_ok o hy hel (allCells_spec hall)
  cases s with
  | own id ver =>
    simp only at h
    have key : ∀ (K : List AV → Blk) (xs : List AV) (e1 sz1 : Nat), (∀ l, shpB (K l) = some (l.length, sz1)) → (∀ U id b l, l ≠ [] → BlkOk U id b (.arr e1 sz1 l) → BlkOk U id b (K l)) → e1 = e → sz1 = sz → V.mem[id]? = some (K xs) → xs.length = ver →
        (xs.length + ys.length) * bytes ≤ 140737488355328 → xs.length + ys.length ≤ 140737488355328 → ys ≠ [] → (∃ b, V.rs id = some b ∧ vs = .slice (some ⟨b, 0, none⟩) ver (V.cp id) ∧ BlkOk V id b (.arr e1 sz1 xs)) →
        ∃ u V', (Builtin.append_ #[t, t] ty #[vs, vy]).run P V.w = .ok u V'.w ∧ V'.mem = V.mem.set id (K (xs ++ ys)) ∧ Ok V' ∧ Ext V V' ∧ Rep V' (.own id (ver + ys.length)) u := by
      intro K xs e1 sz1 hK hKb he1 hs1 hm hlen hb1 hb2 hne ⟨b, hb, hvs, h2, h3, h4, h5, cur, h6, h7, h8⟩
      subst he1
      subst hs1
      subst hvs
      have verOf_K : ∀ {m : Mem} {l : List AV}, m[id]? = some (K l) → verOf m id = some l.length := fun h => by rw [verOf_some h, hK]; rfl
      have hver := verOf_K hm
      obtain ⟨ad, c, rfl, us, hus, hcell⟩ := hyl hne
      have hfl := flatC_length hyw
      have hown : V.w.ownsRow 0 e1 sz1 (.slice (some ⟨b, 0, none⟩) ver (V.cp id)) ver (cur.toList.take (ver * sz1)) := by
        refine ⟨?_, .inr ⟨b, V.cp id, cur, rfl, Nat.zero_le _, h6, by omega, h4, h7, rfl⟩⟩
        have : ver * sz1 ≤ V.cp id * sz1 := Nat.mul_le_mul_right _ (by omega)
        simp; omega
      have h1 : ∀ u ∈ us, u.oneCell' = true := by
        intro u hu'
        obtain ⟨j, hj, rfl⟩ := List.getElem_of_mem hu'
        have hj' : j < (flatC ys).length := by rw [← hus.1]; exact hj
        have hrep := hus.2 j _ _ (List.getElem?_eq_getElem hj') (List.getElem?_eq_getElem hj)
        refine hrep.one ?_
        have hmem := List.getElem_mem hj'
        obtain ⟨x, hx, hxc⟩ := List.mem_flatMap.1 hmem
        exact (hyw x hx).2 _ hxc
      obtain ⟨v', w', hrun, hown', hgrow, _⟩ := run_append_own (P := P) V.w 0 t ty e1 i z sz1 bytes hu hi hz hisz hiby hzs hsz0 _ ver _ hown ad ys.length c us (by rw [hus.1, hfl]) hcell h1
        (by simp only [maxLen]; omega) (by rw [← hlen]; exact hb1) (Nat.zero_le _)
      have hyp : 0 < ys.length := List.length_pos_iff.2 hne
      have hrow' := hgrow
      obtain ⟨g, cap, cur', rfl, _, hg1, hg2, hg3, hg4, hg5⟩ := ownsRow_inv hown' (by omega)
      have hxy : ∀ x ∈ xs ++ ys, wide x sz1 := by
        intro x hx
        rcases List.mem_append.1 hx with hx | hx
        · exact h5 x hx
        · exact hyw x hx
      have hgb : g = b ∨ (V.w.heap.size ≤ g ∧ g < w'.heap.size) := by
        by_cases hgs : g < V.w.heap.size
        · left
          -- an old block with cells of this row: the law says only that all but b stay; g is where the row lies
          by_cases hgb : g = b
          · exact hgb
          · exact absurd hrun (by
              intro hrun
              have hroom : ver + ys.length ≤ V.cp id ∨ ¬ (ver + ys.length ≤ V.cp id) := Decidable.em _
              rcases hroom with hroom | hroom
              · have hr2 := run_append_room (P := P) V.w t ty e1 i hu hi b ver (V.cp id) cur h6 ad ys.length c us (by rw [hus.1, hfl, hisz]) hcell h1 hroom (by
                  rw [hus.1, hfl, hisz, ← Nat.add_mul, h7]; exact Nat.mul_le_mul_right _ hroom)
                rw [hr2] at hrun
                simp only [Result.ok.injEq, Value.slice.injEq, Option.some.injEq, Addr.mk.injEq] at hrun
                exact hgb hrun.1.1.1.symm
              · have hr2 := run_append_grow (P := P) V.w t ty e1 i z hu hi hz ⟨b, 0, none⟩ ver (V.cp id) (cur.toList.take (ver * sz1)) (by
                    have : ver * sz1 ≤ V.cp id * sz1 := Nat.mul_le_mul_right _ (by omega)
                    simp [hisz]; omega) (fun j v hv => by
                    rw [add_lit, cell_block h6]
                    rw [List.getElem?_take] at hv
                    split at hv
                    · simpa using hv
                    · cases hv) ad ys.length c us (by rw [hus.1, hfl, hisz]) hcell (by omega) (by omega) (by rw [hiby]; exact growslice_fits (by omega) (by rw [← hlen]; exact hb1))
                rw [hr2] at hrun
                simp only [Result.ok.injEq, Value.slice.injEq, Option.some.injEq, Addr.mk.injEq] at hrun
                have := hrun.1.1.1
                omega)
        · right
          exact ⟨by omega, (Array.getElem?_eq_some_iff.1 hg1).1⟩
      obtain ⟨ee, oo⟩ := app_step (e := e1) (sz := sz1) (c := cap) (b := g) (v1 := xs.length + ys.length) (k := K (xs ++ ys)) (w := w') o hm hver (by rw [hK]; simp) (by omega) hb (fun h => by cases h) (by simpa [Value.ownBlock] using hgrow) (hgb.imp (fun h => by rw [h]) (fun h => h)) (fun ext => by
        refine hKb _ _ _ _ (by simp [hne]) ⟨hsz0, by simp [Vw.app]; omega, by simp [Vw.app]; exact hg3, hxy, cur', hg1, by simp [Vw.app]; exact hg4, ?_⟩
        have hrx : Reps V (flatC xs) (cur.toList.take (ver * sz1)) := by rw [← hlen]; exact h8
        have hall : Reps V (flatC xs ++ flatC ys) (cur.toList.take (ver * sz1) ++ us) := hrx.append hus
        have hfx : flatC (xs ++ ys) = flatC xs ++ flatC ys := by simp [flatC]
        rw [hfx, show (xs ++ ys).length * sz1 = (ver + ys.length) * sz1 from by rw [List.length_append, hlen], hg5]
        exact hall.mono ext)
      refine ⟨_, V.app id g cap w' (K (xs ++ ys)), hrun, rfl, oo, ee, ?_⟩
      have hmm : (V.app id g cap w' (K (xs ++ ys))).mem[id]? = some (K (xs ++ ys)) := by
        show (V.mem.set id _)[id]? = _
        rw [List.getElem?_set_self (verOf_lt hver)]
      refine .own _ _ _ rfl ⟨verOf_lt (verOf_K hmm), fun v0 hv0 => ?_⟩ (fun _ => .inl ⟨g, by simp [Vw.app], ?_⟩)
      · rw [verOf_K hmm] at hv0; cases hv0; simp; omega
      · simp [Vw.app]
    cases hm : V.mem[id]? with
    | none => simp [hm] at h
    | some k =>
      cases k with
      | arr e1 sz1 xs =>
        simp only [hm] at h
        split at h
        case isFalse => cases h
        rename_i hc
        obtain ⟨hlen, he1, hs1, hb1, hb2⟩ := hc
        obtain ⟨b, hb, hvs⟩ := own_valid hs (by rw [verOf_arr hm, hlen]) (.inr (by rw [isVec_some hm]; rfl))
        have hbk := o.blk id b _ hm hb
        split at h
        · rename_i hnil
          cases h
          subst hnil
          subst hvs
          rw [hyf]
          exact ⟨_, V, run_append_empty V.w t ty e i hu hi _ _ _ _ _ (by rw [← hlen]; exact hbk.2.1), rfl, o, Ext.refl V, hs⟩
        · rename_i hne
          cases h
          rw [← he1, ← hs1]
          exact key (.arr e1 sz1) xs e1 sz1 (fun _ => rfl) (fun _ _ _ _ _ h => h) he1 hs1 hm hlen hb1 hb2 hne ⟨b, hb, hvs, hbk⟩
      | vec e1 sz1 xs =>
        simp only [hm] at h
        split at h
        case isFalse => cases h
        rename_i hc
        obtain ⟨hlen, he1, hs1, hb1, hb2⟩ := hc
        rcases own_any hs (by rw [verOf_vec hm, hlen]) with ⟨b, hb, hvs⟩ | ⟨hrn, h0, hvs, hiv⟩
        · obtain ⟨hx0, hbk⟩ := o.blk id b _ hm hb
          split at h
          · rename_i hnil
            cases h
            subst hnil
            subst hvs
            rw [hyf]
            exact ⟨_, V, run_append_empty V.w t ty e i hu hi _ _ _ _ _ (by rw [← hlen]; exact hbk.2.1), rfl, o, Ext.refl V, hs⟩
          · rename_i hne
            cases h
            rw [← he1, ← hs1]
            exact key (.vec e1 sz1) xs e1 sz1 (fun _ => rfl) (fun _ _ _ _ hl h => ⟨hl, h⟩) he1 hs1 hm hlen hb1 hb2 hne ⟨b, hb, hvs, hbk⟩
        · have hx0 : xs = [] := List.eq_nil_of_length_eq_zero (by omega)
          subst hx0
          split at h
          · rename_i hnil
            cases h
            subst hnil
            subst hvs
            rw [hyf]
            exact ⟨_, V, run_append_empty V.w t ty e i hu hi _ _ _ _ _ (Nat.le_refl _), rfl, o, Ext.refl V, hs⟩
          · rename_i hne
            cases h
            subst hvs
            subst he1
            subst hs1
            obtain ⟨ad, yc', rfl, us, hus, hcell⟩ := hyl hne
            have hfl := flatC_length hyw
            have hyp : 0 < ys.length := List.length_pos_iff.2 hne
            have hrun := run_append_nil (P := P) (w := V.w) t ty e1 i z hu hi hz ad ys.length yc' us (by rw [hus.1, hfl, hisz]) hcell hyp (by simp at hb2; omega) (by rw [hiby]; simp at hb1; omega)
            have hcap := grownCap_ge V.w ys.length 0 e1
            have hcm := grownCap_le_maxLen V.w ys.length 0 e1 (by simp only [maxLen]; simp at hb2; omega)
            have hul : us.length = ys.length * sz1 := by rw [hus.1, hfl]
            obtain ⟨ee, oo⟩ := app_step (e := e1) (sz := sz1) (c := grownCap V.w ys.length 0 e1) (b := V.w.heap.size) (v1 := ys.length) (k := .vec e1 sz1 ([] ++ ys)) (w := V.w.drew.alloc (.cells (us.toArray ++ Builtin.zeroCells z.cells (grownCap V.w ys.length 0 e1 - ys.length)) e1)) o hm (verOf_vec hm) (by simp [shpB]) (by simpa using hyp) hrn (fun _ => hiv)
              ⟨rfl, rfl, rfl, by rw [World.size_alloc]; exact Nat.le_succ _, fun k hk _ => heap_alloc_lt (w := V.w.drew) hk⟩ (.inr ⟨Nat.le_refl _, by rw [World.size_alloc]; exact Nat.lt_succ_self _⟩) (fun ext => by
                refine ⟨by simpa using hne, hsz0, by simp [Vw.app]; omega, by simp [Vw.app]; exact hcm, by simpa using hyw, _, by show ((V.w.drew.heap.push _)[V.w.heap.size]?) = _; exact Array.getElem?_push_size, ?_, ?_⟩
                · simp only [Vw.app, if_true, Array.size_append, List.size_toArray, size_zeroCells, hzs, hul, ← Nat.add_mul]
                  congr 1; omega
                · have hfx : flatC ([] ++ ys) = flatC ys := rfl
                  rw [hfx]
                  have : ((us.toArray ++ Builtin.zeroCells z.cells (grownCap V.w ys.length 0 e1 - ys.length)).toList.take (([] ++ ys).length * sz1)) = us := by
                    rw [Array.toList_append]
                    simp only [List.toList_toArray, List.nil_append]
                    rw [← hul]
                    exact List.take_left
                  rw [this]
                  exact hus.mono ext)
            refine ⟨_, _, hrun, rfl, oo, ee, ?_⟩
            have hmm : (V.mem.set id (.vec e1 sz1 ([] ++ ys)))[id]? = some (.vec e1 sz1 ([] ++ ys)) := by rw [List.getElem?_set_self (verOf_lt (verOf_vec hm))]
            have hvm : verOf (V.mem.set id (.vec e1 sz1 ([] ++ ys))) id = some ys.length := by rw [verOf_vec hmm]; simp
            rw [h0, Nat.zero_add]
            refine .own _ _ _ rfl ⟨verOf_lt hvm, fun v0 hv0 => ?_⟩ (fun _ => .inl ⟨V.w.heap.size, by simp [Vw.app], by simp [Vw.app]⟩)
            have hv0 : verOf (V.mem.set id (.vec e1 sz1 ([] ++ ys))) id = some v0 := hv0
            rw [hvm] at hv0; cases hv0; exact Nat.le_refl _
      | _ => simp [hm] at h
  | seq z' full sz1 xs =>
    simp only at h
    split at h
    case isFalse => cases h
    rename_i hc
    obtain ⟨hb1, hb2⟩ := hc
    obtain ⟨a, c, rfl, hlc, hzz, hzn⟩ := seq_form hs
    split at h
    · rename_i hnil
      subst hnil
      rw [hyf]
      split at h
      · rename_i hzt
        cases h
        obtain ⟨he, hx⟩ := hzz hzt
        subst hx
        refine ⟨_, V, run_append_empty V.w t ty e i hu hi _ _ _ _ _ hlc, rfl, o, Ext.refl V, ?_⟩
        rw [he]
        exact .seqNil _ _
      · rename_i hzt
        split at h
        · rename_i hfs
          cases h
          refine ⟨_, V, run_append_empty V.w t ty e i hu hi _ _ _ _ _ hlc, rfl, o, Ext.refl V, ?_⟩
          have hz0 : z' = false := by simpa using hzt
          have hf1 : full = true := hfs.1
          rw [← hfs.2]
          rw [hz0, hf1] at hs
          exact hs
        · cases h
    · rename_i hne
      obtain ⟨ad, yc', rfl, us, hus, hcell⟩ := hyl hne
      have hfl := flatC_length hyw
      have hyp : 0 < ys.length := List.length_pos_iff.2 hne
      have fin : ∀ (xs : List AV) (olds : List Value) (hwx : ∀ x ∈ xs, wide x sz) (hro : Reps V (flatC xs) olds) (old : Nat) (hlt : old < xs.length + ys.length) (vs : Value)
          (hrun : (Builtin.append_ #[t, t] ty #[vs, .slice (some ad) ys.length yc']).run P V.w = .ok (.slice (some ⟨V.w.heap.size, 0, none⟩) (xs.length + ys.length) (grownCap V.w (xs.length + ys.length) old e))
            (V.w.drew.alloc (.cells (olds.toArray ++ us.toArray ++ Builtin.zeroCells z.cells (grownCap V.w (xs.length + ys.length) old e - (xs.length + ys.length))) e))) (hb2 : xs.length + ys.length ≤ 140737488355328),
          ∃ u V', (Builtin.append_ #[t, t] ty #[vs, .slice (some ad) ys.length yc']).run P V.w = .ok u V'.w ∧ V'.mem = V.mem ++ [.arr e sz (xs ++ ys)] ∧ Ok V' ∧ Ext V V' ∧ Rep V' (.own V.mem.length (xs.length + ys.length)) u := by
        intro xs olds hwx hro old hlt vs hrun hb2
        have o1 : Ok (V.at V.w.drew) := ok_sameHeap o rfl rfl rfl rfl
        have e1 : Ext V (V.at V.w.drew) := ext_sameHeap rfl rfl rfl rfl
        have hcap := grownCap_ge V.w (xs.length + ys.length) old e
        have hcm := grownCap_le_maxLen V.w (xs.length + ys.length) old e (by simp only [maxLen]; omega)
        have hxy : ∀ x ∈ xs ++ ys, wide x sz := by
          intro x hx
          rcases List.mem_append.1 hx with hx | hx
          · exact hwx x hx
          · exact hyw x hx
        have hol : olds.length = xs.length * sz := by rw [hro.1, flatC_length hwx]
        have hul : us.length = ys.length * sz := by rw [hus.1, hfl]
        have e2 := ext_new o1 (.arr e sz (xs ++ ys)) (.cells (olds.toArray ++ us.toArray ++ Builtin.zeroCells z.cells (grownCap V.w (xs.length + ys.length) old e - (xs.length + ys.length))) e) (grownCap V.w (xs.length + ys.length) old e)
        refine ⟨_, (V.at V.w.drew).new (.arr e sz (xs ++ ys)) (.cells (olds.toArray ++ us.toArray ++ Builtin.zeroCells z.cells (grownCap V.w (xs.length + ys.length) old e - (xs.length + ys.length))) e) (grownCap V.w (xs.length + ys.length) old e), hrun, rfl,
          ok_new o1 _ _ _ ⟨hsz0, by rw [show (V.at V.w.drew).mem.length = V.mem.length from rfl]; rw [show V.mem.length = (V.at V.w.drew).mem.length from rfl, new_cp]; simp; omega, by rw [new_cp]; exact hcm, hxy, _, new_heap _ _ _ _, ?_, ?_⟩, e1.trans e2, ?_⟩
        · rw [new_cp]
          simp only [Array.size_append, List.size_toArray, size_zeroCells, hzs, hol, hul, ← Nat.add_mul]
          congr 1; omega
        · have hfx : flatC (xs ++ ys) = flatC xs ++ flatC ys := by simp [flatC]
          rw [hfx]
          have : ((olds.toArray ++ us.toArray ++ Builtin.zeroCells z.cells (grownCap V.w (xs.length + ys.length) old e - (xs.length + ys.length))).toList.take ((xs ++ ys).length * sz)) = olds ++ us := by
            rw [Array.toList_append, Array.toList_append]
            simp only [List.toList_toArray]
            rw [show (xs ++ ys).length * sz = (olds ++ us).length from by rw [List.length_append, List.length_append, hol, hul, Nat.add_mul]]
            exact List.take_left
          rw [this]
          exact (hro.append hus).mono (e1.trans e2)
        · exact .own _ _ _ rfl (new_hd _ _ _ _ (by simp [shpB])) (fun _ => .inl ⟨_, new_rs _ _ _ _, by rw [show V.mem.length = (V.at V.w.drew).mem.length from rfl, new_cp]; rfl⟩)
      split at h
      · rename_i hzt
        cases h
        obtain ⟨he, hx⟩ := hzz hzt
        subst hx
        simp only [Value.slice.injEq] at he
        obtain ⟨rfl, _, rfl⟩ := he
        have hrun := run_append_nil (P := P) (w := V.w) t ty e i z hu hi hz ad ys.length yc' us (by rw [hus.1, hfl, hisz]) hcell hyp (by omega) (by rw [hiby]; simp at hb1; omega)
        have := fin [] [] (fun x hx => by simp at hx) (Reps.nil V) 0 (by simpa using hyp) (.slice none 0 0) (by simpa using hrun) (by simpa using hb2)
        simpa using this
      · rename_i hzt
        split at h
        · rename_i hfs
          cases h
          obtain ⟨hf1, rfl, hax⟩ := hfs
          have hz0 : z' = false := by simpa using hzt
          subst hz0
          subst hf1
          obtain ⟨ax, cx, he, _, hfull, _, _, hwx, us', hus', hcell'⟩ := lies_of_seq hs
          simp only [Value.slice.injEq] at he
          obtain ⟨rfl, _, rfl⟩ := he
          have hcx := hfull rfl
          subst hcx
          have hrun := run_append_grow (P := P) (w := V.w) t ty e i z hu hi hz ax xs.length xs.length us' (by rw [hus'.1, flatC_length hwx, hisz]) hcell' ad ys.length yc' us (by rw [hus.1, hfl, hisz]) hcell (by omega) (by omega)
            (by rw [hiby]; exact growslice_fits (by omega) hb1)
          exact fin xs us' hwx hus' xs.length (by omega) _ hrun hb2
        · cases h
  | _ => cases h
end Go.Ab

/- Literals; arithmetic; comparisons. -/
set_option linter.unusedVariables false
set_option linter.unusedSimpArgs false
namespace Go.Ab
open Go

variable {P : Program}

theorem foldl_set : ∀ (vs : List Value) (k off : Nat) (cs : Array Value), off + k + vs.length ≤ cs.size →
    ((vs.zipIdx k).foldl (fun (cs : Array Value) (p : Value × Nat) => cs.setIfInBounds (off + p.2) p.1) cs).toList = cs.toList.take (off + k) ++ vs ++ cs.toList.drop (off + k + vs.length)
  | [], k, off, cs, h => by simp
  | v :: vs, k, off, cs, h => by
    simp only [List.length_cons] at h
    simp only [List.zipIdx_cons, List.foldl_cons]
    rw [foldl_set vs (k + 1) off _ (by simp; omega)]
    simp only [Array.toList_setIfInBounds, List.length_cons]
    have hlt : off + k < cs.toList.length := by simp; omega
    rw [show off + (k + 1) = off + k + 1 from by omega, List.take_set, List.take_succ_eq_append_getElem hlt, List.set_append_right _ _ (by simp; omega)]
    simp only [List.length_take]
    rw [show off + k - min (off + k) cs.toList.length = 0 from by omega]
    simp only [List.set_cons_zero, List.append_assoc, List.singleton_append]
    rw [List.drop_set_of_lt (by omega)]
    rw [show off + k + 1 + vs.length = off + k + (vs.length + 1) from by omega]

theorem fill_one {v : Value} {cells : Array Value} {off size : Nat} (hs : v.cells.size = size) (hle : off + size ≤ cells.size) :
    (v.cells.zipIdx.foldl (fun (cs : Array Value) (p : Value × Nat) => cs.setIfInBounds (off + p.2) p.1) cells).toList = cells.toList.take off ++ v.cells.toList ++ cells.toList.drop (off + size) := by
  rw [← Array.foldl_toList, Array.toList_zipIdx]
  have := foldl_set v.cells.toList 0 off cells (by simp; omega)
  rw [this]
  simp [hs]

/-- Parts, one by one. -/
def RepsP (V : Vw) : List (Nat × AV) → List (Nat × Value) → Prop
  | [], [] => True
  | (j, x) :: ps, (k, v) :: vs => j = k ∧ Rep V x v ∧ RepsP V ps vs
  | _, _ => False

theorem fillS_ok {V : Vw} {sz : Nat} (h0 : 0 < sz) : ∀ (ps : List (Nat × AV)) (vs : List (Nat × Value)) (xs r : List AV) (cells : Array Value), RepsP V ps vs → (∀ x ∈ xs, wide x sz) → Reps V (flatC xs) cells.toList → fillS sz xs ps = some r →
    ∃ cells', Instr.fill (fun i => some (i * sz, sz)) cells vs = some cells' ∧ Reps V (flatC r) cells'.toList ∧ (∀ x ∈ r, wide x sz) ∧ r.length = xs.length
  | [], [], xs, r, cells, _, hw, hr, h => by simp [fillS] at h; subst h; exact ⟨cells, rfl, hr, hw, rfl⟩
  | [], _ :: _, _, _, _, hp, _, _, _ => hp.elim
  | _ :: _, [], _, _, _, hp, _, _, _ => hp.elim
  | (j, x) :: ps, (k, v) :: vs, xs, r, cells, hp, hw, hr, h => by
    obtain ⟨rfl, hx, hp⟩ := hp
    simp only [fillS] at h
    split at h
    case isFalse => cases h
    rename_i hc
    obtain ⟨hl, hd, hj⟩ := hc
    obtain ⟨hrx, hlf, h1⟩ := hx.cells (not_tup hd)
    have hvs : v.cells.size = sz := by have := hrx.1; simp at this; omega
    have hcl : cells.size = xs.length * sz := by have := hr.1; rw [flatC_length hw] at this; simpa using this
    have hle : j * sz + sz ≤ cells.size := by
      have : (j + 1) * sz ≤ xs.length * sz := Nat.mul_le_mul_right _ hj
      rw [Nat.succ_mul] at this; omega
    have hwx : wide x sz := ⟨hl, hlf⟩
    have hw' : ∀ z ∈ xs.set j x, wide z sz := by
      intro z hz
      rcases List.mem_or_eq_of_mem_set hz with hz | rfl
      · exact hw z hz
      · exact hwx
    have hf := fill_one (v := v) (cells := cells) (off := j * sz) hvs hle
    have hr' : Reps V (flatC (xs.set j x)) (v.cells.zipIdx.foldl (fun (cs : Array Value) (p : Value × Nat) => cs.setIfInBounds (j * sz + p.2) p.1) cells).toList := by
      rw [hf, flatC_set hw hj hwx]
      have := reps_over (off := j * sz) hr hrx
      simpa [hvs] using this
    obtain ⟨cells', hc1, hc2, hc3, hc4⟩ := fillS_ok h0 ps vs _ r _ hp hw' hr' h
    refine ⟨cells', ?_, hc2, hc3, by simpa using hc4⟩
    simp only [Instr.fill]
    rw [if_neg (by simp [hvs]; omega)]
    exact hc1

theorem buildSlice_ok {V : Vw} (o : Ok V) {t et len sz : Nat} {z : AV} {ps : List (Nat × AV)} {vs : Array (Nat × Value)} {xs : List AV} (he : elemT P t = some et) (hsz : szT P et = some sz) (hz : zeroT P et = some z)
    (hzl : z.cells.length = sz) (hzd : z.data = true) (h0 : 0 < sz) (hbig : len * sz ≤ 16777216) (hp : RepsP V ps vs.toList) (h : fillS sz (List.replicate len z) ps = some xs) :
    ∃ u V', (Instr.buildSlice t len vs).run P V.w = .ok u V'.w ∧ V'.mem = V.mem ∧ Ok V' ∧ Ext V V' ∧ Rep V' (.seq false true sz xs) u := by
  unfold elemT at he
  split at he
  case h_2 => cases he
  rename_i e' hu
  cases he
  obtain ⟨i, zv, hi, hiz, _, hzr⟩ := zero_rep hz
  have hisz : i.size = sz := by unfold szT at hsz; rw [hi] at hsz; simpa using hsz
  obtain ⟨hrz, hlz, h1z⟩ := (hzr V).cells (not_tup hzd)
  have hzs : zv.cells.size = sz := by have := hrz.1; simp at this; omega
  by_cases hlen : len = 0
  · subst hlen
    have hx : xs = [] := by
      cases ps with
      | nil => simp [fillS] at h; exact h
      | cons p ps => obtain ⟨j, x⟩ := p; simp [fillS] at h
    have hps : vs.toList = [] := by
      cases ps with
      | nil => cases hvv : vs.toList with
        | nil => rfl
        | cons a b => rw [hvv] at hp; exact hp.elim
      | cons p ps => obtain ⟨j, x⟩ := p; simp [fillS] at h
    subst hx
    have hvs : vs = #[] := by rw [← Array.toList_inj]; simpa using hps
    subst hvs
    refine ⟨.slice (some ⟨V.w.heap.size, 0, none⟩) 0 0, V.lit (.cells #[] et), ?_, rfl, ok_lit o _, ext_lit o _, ?_⟩
    · simp [Instr.buildSlice, run_und hu, sizeOf, run_tinfo hi, Instr.fill, newRow, Vw.lit]
      rw [show Array.map (fun _ : Nat => (default : Value)) (Array.range 0) = #[] from Array.eq_empty_of_size_eq_zero (by simp)]
    · exact seq_of_lies (xs := []) ⟨[], Reps.nil _, fun m u hu => by simp at hu⟩ (fun x hx => by simp at hx) (fun h => absurd rfl h) (fun h => absurd rfl h) (by simp) (fun _ => by simp)
  · have hwz : ∀ x ∈ List.replicate len z, wide x sz := fun x hx => by
      have := List.eq_of_mem_replicate hx
      subst this
      exact ⟨hzl, hlz⟩
    have hr0 : Reps V (flatC (List.replicate len z)) ((Array.range (len * i.size)).map (zv.cells[· % zv.cells.size]!)).toList := by
      refine ⟨by rw [flatC_length hwz]; simp [hisz], fun k y c hy hc => ?_⟩
      have hk : k < len * sz := by
        have := (List.getElem?_eq_some_iff.1 hy).1
        rwa [flatC_length hwz, List.length_replicate] at this
      have hq : k / sz < len := (Nat.div_lt_iff_lt_mul h0).2 hk
      have hg := flatC_get hwz (j := k / sz) (m := k % sz) (x := z) (by rw [List.getElem?_replicate, if_pos hq]) (Nat.mod_lt _ h0)
      rw [show k / sz * sz + k % sz = k from by rw [Nat.mul_comm]; exact Nat.div_add_mod k sz, hy] at hg
      have hm := Nat.mod_lt k h0
      obtain ⟨c', hc', hrep⟩ := hrz.get hg.symm
      have hcc : c = c' := by
        rw [Array.getElem?_toList, Array.getElem?_map, Array.getElem?_range, hisz, if_pos hk] at hc
        simp only [Option.map_some, Option.some.injEq] at hc
        rw [Array.getElem?_toList] at hc'
        rw [← hc, hzs, getElem!_def, hc']
      rw [hcc]; exact hrep
    obtain ⟨cells', hf, hr, hw, hl⟩ := fillS_ok h0 ps vs.toList _ xs _ hp hwz hr0 h
    have hrun := run_buildSlice (P := P) V.w t et len vs cells' i zv hu hi hiz (by rw [hisz]; omega) (by
        rw [hisz]
        intro e
        rcases Nat.mul_eq_zero.1 e with h | h <;> omega) (by rw [hisz] at hf ⊢; exact hf)
    have hlx : xs.length = len := by simpa using hl
    have e := ext_lit o (.cells cells' et)
    refine ⟨_, V.lit (.cells cells' et), hrun, rfl, ok_lit o _, e, ?_⟩
    rw [← hlx]
    refine seq_of_lies ⟨cells'.toList, hr.mono e, fun m u hu => ?_⟩ hw (fun _ => .inr rfl) (fun _ => h0) (Nat.le_refl _) (fun _ => rfl)
    rw [add_lit, cell_block (lit_new V _)]
    simpa using hu

theorem fillA_ok {V : Vw} {t : Nat} {fs : Array Field} (hu : P.underlying t = some (.struct fs)) : ∀ (ps : List (Nat × AV)) (vs : List (Nat × Value)) (cs r : List AV) (cells : Array Value) (pl : Array (Nat × Nat)), RepsP V ps vs →
    (∀ j o ft, fldT P t j = some (ft, o) → ∀ n, szT P ft = some n → pl[j]? = some (o, n)) → (∀ y ∈ cs, y.leaf = true) → Reps V cs cells.toList → fillA P t cs ps = some r →
    ∃ cells', Instr.fill (pl[·]?) cells vs = some cells' ∧ Reps V r cells'.toList ∧ (∀ y ∈ r, y.leaf = true)
  | [], [], cs, r, cells, pl, _, _, hl, hr, h => by simp [fillA] at h; subst h; exact ⟨cells, rfl, hr, hl⟩
  | [], _ :: _, _, _, _, _, hp, _, _, _, _ => hp.elim
  | _ :: _, [], _, _, _, _, hp, _, _, _, _ => hp.elim
  | (j, x) :: ps, (k, v) :: vs, cs, r, cells, pl, hp, hpl, hl, hr, h => by
    obtain ⟨rfl, hx, hp⟩ := hp
    simp only [fillA] at h
    cases hf : fldT P t j with
    | none => simp [hf] at h
    | some p =>
      obtain ⟨ft, o⟩ := p
      simp only [hf] at h
      split at h
      case isFalse => cases h
      rename_i hc
      obtain ⟨hs, hd, hle⟩ := hc
      obtain ⟨hrx, hlf, h1⟩ := hx.cells (not_tup hd)
      have hvs : v.cells.size = x.cells.length := by have := hrx.1; simpa using this
      have hcl : cells.size = cs.length := by have := hr.1; simpa using this
      have hp1 := hpl j o ft hf _ hs
      have hf1 := fill_one (v := v) (cells := cells) (off := o) hvs (by omega)
      have hr' : Reps V (over cs o x.cells) (v.cells.zipIdx.foldl (fun (cs : Array Value) (p : Value × Nat) => cs.setIfInBounds (o + p.2) p.1) cells).toList := by
        rw [hf1]
        have := reps_over (off := o) hr hrx
        rw [hrx.1] at this
        exact this
      obtain ⟨cells', hc1, hc2, hc3⟩ := fillA_ok hu ps vs _ r _ pl hp hpl (leaf_over hl hlf) hr' h
      refine ⟨cells', ?_, hc2, hc3⟩
      simp only [Instr.fill, hp1]
      rw [if_neg (by simp [hvs]; omega)]
      exact hc1

theorem mapM_get : ∀ (fs : List Field) (pl : List (Nat × Nat)), fs.mapM (fun f => (P.info? f.type).map fun i => (f.offset, i.size)) = some pl → ∀ (j : Nat) (f : Field), fs[j]? = some f → ∀ (n : Nat), szT P f.type = some n → pl[j]? = some (f.offset, n)
  | [], pl, h, j, f, hf, n, hn => by simp at hf
  | g :: fs, pl, h, j, f, hf, n, hn => by
    simp only [List.mapM_cons, Option.bind_eq_bind, Option.pure_def] at h
    cases hi : P.info? g.type with
    | none => simp [hi] at h
    | some i =>
      cases hr : fs.mapM (fun f => (P.info? f.type).map fun i => (f.offset, i.size)) with
      | none => simp [hi, hr] at h
      | some rest =>
        simp [hi, hr] at h
        subst h
        cases j with
        | zero =>
          simp at hf
          subst hf
          unfold szT at hn
          rw [hi] at hn
          simp at hn
          simp [hn]
        | succ j =>
          simp at hf
          simpa using mapM_get fs rest hr j f hf n hn

theorem build_ok {V : Vw} {t : Nat} {z r : List AV} {ps : List (Nat × AV)} {vs : Array (Nat × Value)} (hz : zeroT P t = some (.agg z)) (hpl : plT P t = true) (hp : RepsP V ps vs.toList) (h : fillA P t z ps = some r) :
    ∃ u, (Instr.build t vs).run P V.w = .ok u V.w ∧ Rep V (.agg r) u := by
  obtain ⟨i, zv, hi, hiz, _, hzr⟩ := zero_rep hz
  unfold plT at hpl
  split at hpl
  case h_2 => cases hpl
  rename_i fs hu
  obtain ⟨pl, hpl⟩ := Option.isSome_iff_exists.1 hpl
  obtain ⟨cs, rfl, hr, hl⟩ := agg_inv (hzr V)
  obtain ⟨cells', h1, h2, h3⟩ := fillA_ok hu ps vs.toList z r cs pl.toArray hp (fun j o ft hf n hn => by
    unfold fldT at hf
    rw [hu] at hf
    obtain ⟨f, hfj, hfe⟩ := Option.map_eq_some_iff.1 hf
    simp only [Prod.mk.injEq] at hfe
    obtain ⟨rfl, rfl⟩ := hfe
    simpa using mapM_get _ _ hpl j f (by simpa using hfj) n hn) hl hr h
  refine ⟨.agg cells', run_build V.w t vs cells' ?_, .agg _ _ (by simpa using h2.1) h3 (fun j x c hx hc => h2.2 j x c hx (by simpa using hc))⟩
  unfold Program.built
  simp only [hi, hu, hiz, hpl]
  exact h1

/-! ### Arithmetic and comparisons -/
theorem int_ok {V : Vw} {op : BinOp} {k k' : IntKind} {a b : Int} {r : AV} (t : Nat) (h : (match op with
    | .shl => intA .shl k a b
    | .shr => intA .shr k a b
    | op => if k = k' then intA op k a b else none) = some r) : ∃ u, (binOp op t (.int k a) (.int k' b)).run P V.w = .ok u V.w ∧ Rep V r u := by
  have e : ∀ x y : Int, (x == y) = decide (x = y) := fun x y => by rw [Bool.eq_iff_iff]; simp
  cases op
  case shl =>
    simp only [intA] at h
    split at h
    · cases h
    · rename_i hb
      cases h
      exact ⟨_, by simp [binOp, Op.shift, hb], .int _ _⟩
  case shr =>
    simp only [intA] at h
    split at h
    · cases h
    · rename_i hb
      cases h
      exact ⟨_, by simp [binOp, Op.shift, hb], .int _ _⟩
  all_goals
    simp only at h
    split at h
    case isFalse => cases h
    rename_i hk
    subst hk
    simp only [intA] at h
  case add => cases h; exact ⟨_, by simp [binOp, Op.intArith], .int _ _⟩
  case sub => cases h; exact ⟨_, by simp [binOp, Op.intArith], .int _ _⟩
  case mul => cases h; exact ⟨_, by simp [binOp, Op.intArith], .int _ _⟩
  case quo =>
    split at h
    · cases h
    · rename_i hb; cases h; exact ⟨_, by simp [binOp, Op.intDiv, hb], .int _ _⟩
  case rem =>
    split at h
    · cases h
    · rename_i hb; cases h; exact ⟨_, by simp [binOp, Op.intDiv, hb], .int _ _⟩
  case and => cases h; exact ⟨.int k _, by simp [binOp, Op.intBits], .int _ _⟩
  case or => cases h; exact ⟨.int k _, by simp [binOp, Op.intBits], .int _ _⟩
  case xor => cases h; exact ⟨.int k _, by simp [binOp, Op.intBits], .int _ _⟩
  case andNot => cases h; exact ⟨.int k _, by simp [binOp, Op.intBits], .int _ _⟩
  case eql => cases h; exact ⟨.bool (decide (a = b)), by simp [binOp, Op.intCmp, e], .bool _⟩
  case neq => cases h; exact ⟨.bool (!decide (a = b)), by simp [binOp, Op.intCmp, bne, e], .bool _⟩
  case lss => cases h; exact ⟨_, by simp [binOp, Op.intCmp], .bool _⟩
  case leq => cases h; exact ⟨_, by simp [binOp, Op.intCmp], .bool _⟩
  case gtr => cases h; exact ⟨_, by simp [binOp, Op.intCmp], .bool _⟩
  case geq => cases h; exact ⟨_, by simp [binOp, Op.intCmp], .bool _⟩

theorem str_ok {V : Vw} {op : BinOp} {a b : ByteArray} {r : AV} (t : Nat) (h : strA op a b = some r) : ∃ u, (binOp op t (.string a) (.string b)).run P V.w = .ok u V.w ∧ Rep V r u := by
  cases op <;> simp only [strA] at h <;> (try simp only [← ByteArray.toList_eq] at h)
  case add =>
    split at h
    · cases h
    · rename_i hb; cases h; exact ⟨_, by simp only [binOp, Op.stringOp]; rw [if_neg hb]; rfl, .str _⟩
  all_goals first | (cases h; done) | (cases h; exact ⟨_, rfl, .bool _⟩)

theorem eqIn_bool {w : World} {d t : Nat} (hu : P.underlying t = some .bool) (a b : Bool) : (Op.equalIn (d + 1) t (.bool a) (.bool b)).run P w = .ok (a == b) w := by
  simp only [Op.equalIn, Sem.run_bind, run_und hu, Result.andThen_ok, Sem.run_pure]
theorem eqIn_nil {w : World} {d t e : Nat} (hu : P.underlying t = some (.slice e)) (n c m k : Nat) (b : Option Addr) : (Op.equalIn (d + 1) t (.slice none n c) (.slice b m k)).run P w = .ok b.isNone w := by
  simp only [Op.equalIn, Sem.run_bind, run_und hu, Result.andThen_ok, Sem.run_pure]
theorem eqIn_slice {w : World} {d t e : Nat} (hu : P.underlying t = some (.slice e)) (n c m k : Nat) (b : Addr) : (Op.equalIn (d + 1) t (.slice (some b) n c) (.slice none m k)).run P w = .ok false w := by
  simp only [Op.equalIn, Sem.run_bind, run_und hu, Result.andThen_ok, Sem.run_pure]
theorem eqIn_fn1 {w : World} {d t : Nat} {a b : Array TypeId} {c : Bool} (hu : P.underlying t = some (.func a b c)) : (Op.equalIn (d + 1) t .nilFunc .nilFunc).run P w = .ok true w := by
  simp only [Op.equalIn, Sem.run_bind, run_und hu, Result.andThen_ok, Sem.run_pure]
theorem eqIn_fn2 {w : World} {d t : Nat} {a b : Array TypeId} {c : Bool} (hu : P.underlying t = some (.func a b c)) (f : Fn) (x y : Array Value) : (Op.equalIn (d + 1) t (.func f x y) .nilFunc).run P w = .ok false w := by
  simp only [Op.equalIn, Sem.run_bind, run_und hu, Result.andThen_ok, Sem.run_pure]
theorem eqIn_fn3 {w : World} {d t : Nat} {a b : Array TypeId} {c : Bool} (hu : P.underlying t = some (.func a b c)) (f : Fn) (x y : Array Value) : (Op.equalIn (d + 1) t .nilFunc (.func f x y)).run P w = .ok false w := by
  simp only [Op.equalIn, Sem.run_bind, run_und hu, Result.andThen_ok, Sem.run_pure]
theorem eq_depth (t : Nat) (x y : Value) : Op.equal t x y = Op.equalIn (9999 + 1) t x y := rfl

theorem cell_eq {V : Vw} {d t : Nat} {x y : AV} {vx vy : Value} {b : Bool} (hx : Rep V x vx) (hy : Rep V y vy) (h : cellA P t x y = some b) : (Op.equalIn (d + 1) t vx vy).run P V.w = .ok b V.w := by
  unfold cellA at h
  split at h
  · rename_i hu
    split at h
    · rename_i hk
      subst hk
      cases h
      cases hx; cases hy
      rw [run_equalIn_int V.w d t _ _ _ _ hu]
      congr 1
    · cases h
  · rename_i hu
    cases h
    cases hx; cases hy
    rw [run_equalIn_string V.w d t _ _ hu, ByteArray.toList_eq, ByteArray.toList_eq]
  · rename_i hu
    cases h
    cases hx; cases hy
    exact run_equalIn_bool' V.w d t _ _ hu
  · cases h
theorem eqFs_ok {V : Vw} {d : Nat} {xs ys : List AV} {cs ds : Array Value} (hx : Reps V xs cs.toList) (hy : Reps V ys ds.toList) (lx : ∀ y ∈ xs, y.leaf = true) (ly : ∀ y ∈ ys, y.leaf = true) : ∀ {fs : List Field} {b : Bool}, eqFs P xs ys fs = some b → (Op.eqFields (d + 1) cs ds fs).run P V.w = .ok b V.w
  | [], b, h => by cases h; rfl
  | f :: fs, b, h => by
    simp only [eqFs] at h
    split at h
    · cases h
    · rename_i hn
      split at h
      · rename_i a c ha hc
        split at h
        · rename_i p q hp hq
          cases h
          obtain ⟨u, hu, ru⟩ := part_ok hx lx ha
          obtain ⟨v, hv, rv⟩ := part_ok hy ly hc
          have he := cell_eq (d := d) ru rv hp
          have ih := eqFs_ok (d := d) hx hy lx ly hq
          simp only [Op.eqFields, ne_eq, hn, not_false_eq_true, if_true, Sem.run_bind, hu, hv, he, Result.andThen_ok]
          cases p with
          | false => rfl
          | true => simpa using ih
        · cases h
      · cases h
theorem eq_ok {V : Vw} {t : Nat} {x y : AV} {vx vy : Value} {b : Bool} (hx : Rep V x vx) (hy : Rep V y vy) (h : eqA P V.mem t x y = some b) : (Op.equal t vx vy).run P V.w = .ok b V.w := by
  have hsl : ∀ {t : Nat}, sliceT P t = true → ∃ e, P.underlying t = some (.slice e) := by
    intro t ht
    unfold sliceT elemT at ht
    split at ht
    · rename_i e hu; exact ⟨e, hu⟩
    · cases ht
  have hfn : ∀ {t : Nat}, funcT P t = true → ∃ a b c, P.underlying t = some (.func a b c) := by
    intro t ht
    unfold funcT at ht
    split at ht
    · rename_i a b c hu; exact ⟨a, b, c, hu⟩
    · cases ht
  rw [eq_depth]
  unfold eqA at h
  split at h
  · split at h
    · rename_i ht
      unfold boolT at ht
      split at ht
      case h_2 => cases ht
      rename_i hu
      cases h
      cases hx; cases hy
      exact eqIn_bool hu _ _
    · cases h
  · split at h
    · rename_i ht
      obtain ⟨e, hu⟩ := hsl ht
      cases h
      cases hy
      cases hx
      · exact eqIn_nil hu _ _ _ _ _
      · exact eqIn_slice hu _ _ _ _ _
    · cases h
  · split at h
    · rename_i ht
      obtain ⟨e, hu⟩ := hsl ht
      cases h
      cases hx
      cases hy
      · exact eqIn_nil hu _ _ _ _ _
      · exact eqIn_nil hu _ _ _ _ _
    · cases h
  · split at h
    · rename_i ht
      obtain ⟨e, hu⟩ := hsl ht.1
      cases h
      obtain ⟨b, hb, rfl⟩ := own_valid hx ht.2.1 (.inl ht.2.2)
      cases hy
      exact eqIn_slice hu _ _ _ _ _
    · cases h
  · split at h
    · rename_i ht
      obtain ⟨e, hu⟩ := hsl ht.1
      cases h
      obtain ⟨b, hb, rfl⟩ := own_valid hy ht.2.1 (.inl ht.2.2)
      cases hx
      exact eqIn_nil hu _ _ _ _ _
    · cases h
  · split at h
    · rename_i ht
      obtain ⟨a, b, c, hu⟩ := hfn ht
      cases h
      cases hx; cases hy
      exact eqIn_fn1 hu
    · cases h
  · split at h
    · rename_i ht
      obtain ⟨a, b, c, hu⟩ := hfn ht
      cases h
      cases hx; cases hy
      exact eqIn_fn2 hu _ _ _
    · cases h
  · split at h
    · rename_i ht
      obtain ⟨a, b, c, hu⟩ := hfn ht
      cases h
      cases hx; cases hy
      exact eqIn_fn3 hu _ _ _
    · cases h
  · split at h
    · rename_i fs hu
      split at h
      · rename_i hc
        cases hx with
        | agg _ cs h1 l1 r1 =>
          cases hy with
          | agg _ ds h2 l2 r2 =>
            have hf : P.fieldsOf t = fs := by simp [Program.fieldsOf, hu]
            rw [run_equalIn_struct V.w 9999 t cs ds (by rw [hf]; exact hu) hc.1, hf]
            exact eqFs_ok (d := 9998) ⟨by simpa using h1, fun j x c hx hc => r1 j x c hx (by simpa using hc)⟩ ⟨by simpa using h2, fun j x c hx hc => r2 j x c hx (by simpa using hc)⟩ l1 l2 h
      · cases h
    · cases h
  · cases h

theorem bin_ok {V : Vw} {op : BinOp} {t : Nat} {x y r : AV} {vx vy : Value} (ox oy : Operand) (hx : Rep V x vx) (hy : Rep V y vy) (h : binA P V.mem op t x y = some r) :
    ∃ u, (do eqGuard op t ox oy vx vy; binOp op t vx vy : Sem Value).run P V.w = .ok u V.w ∧ Rep V r u := by
  unfold binA at h
  split at h
  · rename_i k a k' b
    cases hx; cases hy
    obtain ⟨u, h1, h2⟩ := int_ok (P := P) t h
    refine ⟨u, ?_, h2⟩
    have hg : (eqGuard op t ox oy (.int k a) (.int k' b)).run P V.w = .ok () V.w := by unfold eqGuard; split <;> rfl
    simp only [Sem.run_bind, hg, Result.andThen_ok, h1]
  · rename_i a b
    cases hx; cases hy
    obtain ⟨u, h1, h2⟩ := str_ok (P := P) t h
    refine ⟨u, ?_, h2⟩
    have hg : (eqGuard op t ox oy (.string a) (.string b)).run P V.w = .ok () V.w := by unfold eqGuard; split <;> rfl
    simp only [Sem.run_bind, hg, Result.andThen_ok, h1]
  · have hnon : ∀ b, eqA P V.mem t x y = some b → (eqGuard op t ox oy vx vy).run P V.w = .ok () V.w ∧ binOp .eql t vx vy = (do pure (.bool (← Op.equal t vx vy))) ∧ binOp .neq t vx vy = (do pure (.bool (!(← Op.equal t vx vy)))) := by
      intro b hb
      unfold eqA at hb
      split at hb
      · cases hx; cases hy; exact ⟨by unfold eqGuard; split <;> rfl, rfl, rfl⟩
      · cases hy; cases hx <;> exact ⟨by unfold eqGuard; split <;> rfl, rfl, rfl⟩
      · cases hx; cases hy <;> exact ⟨by unfold eqGuard; split <;> rfl, rfl, rfl⟩
      · split at hb
        · rename_i ht; obtain ⟨b, _, rfl⟩ := own_valid hx ht.2.1 (.inl ht.2.2); cases hy; exact ⟨by unfold eqGuard; split <;> rfl, rfl, rfl⟩
        · cases hb
      · split at hb
        · rename_i ht; obtain ⟨b, _, rfl⟩ := own_valid hy ht.2.1 (.inl ht.2.2); cases hx; exact ⟨by unfold eqGuard; split <;> rfl, rfl, rfl⟩
        · cases hb
      · cases hx; cases hy; exact ⟨by unfold eqGuard; split <;> rfl, rfl, rfl⟩
      · cases hx; cases hy; exact ⟨by unfold eqGuard; split <;> rfl, rfl, rfl⟩
      · cases hx; cases hy; exact ⟨by unfold eqGuard; split <;> rfl, rfl, rfl⟩
      · split at hb
        · split at hb
          · rename_i hc
            cases hx; cases hy
            exact ⟨run_eqGuard_agg V.w op t ox oy _ _ hc.2, rfl, rfl⟩
          · cases hb
        · cases hb
      · cases hb
    cases op <;> simp only at h
    case eql =>
      obtain ⟨b, hb, rfl⟩ := Option.map_eq_some_iff.1 h
      obtain ⟨h1, h2, _⟩ := hnon b hb
      exact ⟨.bool b, by simp only [Sem.run_bind, h1, Result.andThen_ok, h2, eq_ok hx hy hb, Sem.run_pure], .bool _⟩
    case neq =>
      obtain ⟨b, hb, rfl⟩ := Option.map_eq_some_iff.1 h
      obtain ⟨h1, _, h2⟩ := hnon b hb
      exact ⟨.bool (!b), by simp only [Sem.run_bind, h1, Result.andThen_ok, h2, eq_ok hx hy hb, Sem.run_pure], .bool _⟩
    all_goals cases h

theorem un_ok {V : Vw} {op : UnOp} {x r : AV} {v : Value} (hx : Rep V x v) (h : unA op x = some r) : ∃ u, (Op.unary op v).run P V.w = .ok u V.w ∧ Rep V r u := by
  unfold unA at h
  cases x with
  | int k n =>
    cases hx
    cases op <;> simp only at h
    case neg => cases h; exact ⟨_, by simp [Op.unary, Op.intArith], .int _ _⟩
    case xor => cases h; exact ⟨.int k _, rfl, .int _ _⟩
    all_goals cases h
  | bool b =>
    cases hx
    cases op <;> simp only at h
    case not => cases h; exact ⟨_, rfl, .bool _⟩
    all_goals cases h
  | _ => cases h

theorem conv_ok {V : Vw} {src dst : Nat} {x r : AV} {v : Value} (hx : Rep V x v) (h : convA P src dst x = some r) : ∃ u, (convert src dst v).run P V.w = .ok u V.w ∧ Rep V r u := by
  unfold convA at h
  split at h
  · rename_i d k k' n hs hd
    cases h
    cases hx
    refine ⟨.int k (k.wrap n), ?_, .int _ _⟩
    simp only [convert, Sem.run_bind, run_und hs, run_und hd, Result.andThen_ok]
    rfl
  · rename_i d s hs hd
    cases h
    cases hx
    refine ⟨.string s, ?_, .str _⟩
    simp only [convert, Sem.run_bind, run_und hs, run_und hd, Result.andThen_ok]
    rfl
  · cases h

theorem max_ok {V : Vw} (ats : Array Nat) (ty : Nat) {op : Bool} {xs : List AV} {r : AV} {vs : Array Value} (hx : Reps V xs vs.toList) (h : maxA op xs = some r) :
    ∃ u, (if op then Builtin.max_ ats ty vs else Builtin.min_ ats ty vs).run P V.w = .ok u V.w ∧ Rep V r u := by
  have key : ∀ (l : List AV) (ws : List Value) (x : AV) (v : Value) (r : AV), Rep V x v → Reps V l ws →
      l.foldlM (fun a b => match a, b with
        | .int k x, .int _ y => some (.int k (if op then (if y > x then y else x) else (if y < x then y else x)))
        | _, _ => none) x = some r → ∃ u, (ws.foldlM (if op then Builtin.max2 else Builtin.min2) v).run P V.w = .ok u V.w ∧ Rep V r u := by
    intro l
    induction l with
    | nil =>
      intro ws x v r hx hr h
      have : ws = [] := List.eq_nil_of_length_eq_zero hr.1
      subst this
      simp at h
      subst h
      exact ⟨v, rfl, hx⟩
    | cons y l ih =>
      intro ws x v r hx hr h
      obtain ⟨w, ws', rfl, hy, hr'⟩ := hr.inv
      simp only [List.foldlM_cons] at h
      obtain ⟨z, hz, h⟩ := Option.bind_eq_some_iff.1 h
      split at hz
      · rename_i k a k' b
        cases hz
        cases hx; cases hy
        obtain ⟨u, h1, h2⟩ := ih ws' _ _ r (.int k _) hr' h
        refine ⟨u, ?_, h2⟩
        simp only [List.foldlM_cons, Sem.run_bind]
        cases op with
        | true => simpa [Builtin.max2] using h1
        | false => simpa [Builtin.min2] using h1
      · cases hz
  cases xs with
  | nil => simp [maxA] at h
  | cons x l =>
    obtain ⟨v, ws, hvs, h1, h2⟩ := hx.inv
    simp only [maxA] at h
    obtain ⟨u, h3, h4⟩ := key l ws x v r h1 h2 h
    refine ⟨u, ?_, h4⟩
    cases op with
    | true => simpa [Builtin.max_, hvs] using h3
    | false => simpa [Builtin.min_, hvs] using h3
end Go.Ab

/- Freezing, and what a call leaves behind. -/
set_option linter.unusedVariables false
set_option linter.unusedSimpArgs false
namespace Go.Ab
open Go

theorem pureL_mem : ∀ {xs : List AV}, pureL xs = true → ∀ x ∈ xs, x.pure = true
  | [], _, x, hx => by simp at hx
  | y :: ys, h, x, hx => by
    simp only [pureL, Bool.and_eq_true] at h
    rcases List.mem_cons.1 hx with rfl | hx
    · exact h.1
    · exact pureL_mem h.2 x hx
theorem flatL_mem : ∀ {xs : List AV}, flatL xs = true → ∀ x ∈ xs, x.flat = true
  | [], _, x, hx => by simp at hx
  | y :: ys, h, x, hx => by
    simp only [flatL, Bool.and_eq_true] at h
    rcases List.mem_cons.1 hx with rfl | hx
    · exact h.1
    · exact flatL_mem h.2 x hx
theorem underL_mem {N : Nat} : ∀ {xs : List AV}, underL N xs = true → ∀ x ∈ xs, x.under N = true
  | [], _, x, hx => by simp at hx
  | y :: ys, h, x, hx => by
    simp only [underL, Bool.and_eq_true] at h
    rcases List.mem_cons.1 hx with rfl | hx
    · exact h.1
    · exact underL_mem h.2 x hx
theorem mem_of_get {xs : List AV} {j : Nat} {x : AV} (h : xs[j]? = some x) : x ∈ xs := List.mem_of_getElem? h
theorem pure_cells {x y : AV} {m : Nat} (h : x.pure = true) (hy : x.cells[m]? = some y) : y.pure = true := by
  cases x with
  | agg xs => exact pureL_mem h y (mem_of_get hy)
  | _ => (simp only [AV.cells] at hy; have := List.mem_of_getElem? hy; simp at this; subst this; exact h)
theorem under_cells {N : Nat} {x y : AV} {m : Nat} (h : x.under N = true) (hy : x.cells[m]? = some y) : y.under N = true := by
  cases x with
  | agg xs => exact underL_mem h y (mem_of_get hy)
  | _ => (simp only [AV.cells] at hy; have := List.mem_of_getElem? hy; simp at this; subst this; exact h)

/-- What is pure does not hang on the abstract memory. -/
theorem pure_rep {V U : Vw} (hw : ∀ b, V.S b → U.w.heap[b]? = V.w.heap[b]?) (hS : ∀ b, V.S b → U.S b) {x : AV} {v : Value} (h : Rep V x v) (hp : x.pure = true) : Rep U x v := by
  induction h with
  | int k n => exact .int k n
  | bool b => exact .bool b
  | str s => exact .str s
  | agg xs cs h hl _ ih => exact .agg xs cs h hl (fun j x c hx hc => ih j x c hx hc (pureL_mem hp x (mem_of_get hx)))
  | tup xs cs h _ ih => exact .tup xs cs h (fun j x c hx hc => ih j x c hx hc (pureL_mem hp x (mem_of_get hx)))
  | seqNil full sz => exact .seqNil full sz
  | seq full sz xs ad c us hc hf hS' h0 hsz hu _ ih =>
    exact .seq full sz xs ad c us hc hf (fun hx => hS _ (hS' hx)) h0 hsz (fun j x m y hj hm => by
      have hx : xs ≠ [] := fun hx => by subst hx; simp at hj
      rw [cell_same (w := V.w) (by rw [add_block]; exact hw _ (hS' hx))]
      exact hu j x m y hj hm) (fun j x m y hj hm => ih j x m y hj hm (pure_cells (pureL_mem hp x (mem_of_get hj)) hm))
  | own id ver v h1 h hv => cases hp
  | ptr id ver off v h1 h hv => cases hp
  | aptr id ver sz i f v h1 h hv => cases hp
  | rptr xs ad us h0 hl hS' hu _ ih =>
    exact .rptr xs ad us h0 hl (hS _ hS') (fun m y hm => by
      rw [cell_same (w := V.w) (by rw [add_block]; exact hw _ hS')]
      exact hu m y hm) (fun m y hm => ih m y hm (pureL_mem hp y (mem_of_get hm)))
  | nilptr => exact .nilptr
  | fn f xs ys fs cs h h' _ _ ih ih' =>
    simp only [AV.pure, Bool.and_eq_true] at hp
    exact .fn f xs ys fs cs h h' (fun j x c hx hc => ih j x c hx hc (pureL_mem hp.1 x (mem_of_get hx))) (fun j x c hx hc => ih' j x c hx hc (pureL_mem hp.2 x (mem_of_get hx)))
  | nilfn => exact .nilfn
  | yld id v h1 h hv => cases hp
  | mp id v h1 h hv => cases hp
  | junk v => cases hp
  | nilmp => exact .nilmp
  | smap ks vs b es cl hS' hb h1 h2 _ _ ih ih' =>
    simp only [AV.pure, Bool.and_eq_true] at hp
    exact .smap ks vs b es cl (hS _ hS') ((hw _ hS').trans hb) h1 h2 (fun j x c hx hc => ih j x c hx hc (pureL_mem hp.1 x (mem_of_get hx))) (fun j x c hx hc => ih' j x c hx hc (pureL_mem hp.2 x (mem_of_get hx)))

/-- What is flat hangs on nothing. -/
theorem flat_rep {V U : Vw} {x : AV} {v : Value} (h : Rep V x v) (hp : x.flat = true) : Rep U x v := by
  induction h with
  | int k n => exact .int k n
  | bool b => exact .bool b
  | str s => exact .str s
  | agg xs cs h hl _ ih => exact .agg xs cs h hl (fun j x c hx hc => ih j x c hx hc (flatL_mem hp x (mem_of_get hx)))
  | tup xs cs h _ ih => exact .tup xs cs h (fun j x c hx hc => ih j x c hx hc (flatL_mem hp x (mem_of_get hx)))
  | seqNil full sz => exact .seqNil full sz
  | seq full sz xs ad c us hc hf hS' h0 hsz hu _ ih =>
    simp only [AV.flat, Bool.false_or, List.isEmpty_iff] at hp
    subst hp
    exact .seq full sz [] ad c us hc hf (fun hx => absurd rfl hx) (fun hx => absurd rfl hx) hsz (fun j x m y hj hm => by simp at hj) (fun j x m y hj hm => by simp at hj)
  | nilptr => exact .nilptr
  | nilfn => exact .nilfn
  | nilmp => exact .nilmp
  | _ => cases hp

theorem mapM_some {f : AV → Option AV} : ∀ {xs ys : List AV}, xs.mapM f = some ys → ys.length = xs.length ∧ ∀ (j : Nat) (x : AV), xs[j]? = some x → ∃ y, ys[j]? = some y ∧ f x = some y
  | [], ys, h => by simp at h; subst h; exact ⟨rfl, fun j x hx => by simp at hx⟩
  | x :: xs, ys, h => by
    simp only [List.mapM_cons, Option.bind_eq_bind, Option.pure_def] at h
    obtain ⟨y, hy, h⟩ := Option.bind_eq_some_iff.1 h
    obtain ⟨zs, hz, h⟩ := Option.bind_eq_some_iff.1 h
    cases h
    obtain ⟨h1, h2⟩ := mapM_some hz
    refine ⟨by simp [h1], fun j w hw => ?_⟩
    cases j with
    | zero => simp at hw; subst hw; exact ⟨y, rfl, hy⟩
    | succ j => simp at hw; simpa using h2 j w hw

theorem pureL_of {ys : List AV} (h : ∀ y ∈ ys, y.pure = true) : pureL ys = true := by
  induction ys with
  | nil => rfl
  | cons y ys ih => simp only [pureL, Bool.and_eq_true]; exact ⟨h y (by simp), ih (fun z hz => h z (by simp [hz]))⟩

/-- Freezing keeps the form. -/
theorem fz_form {m : Mem} : ∀ {n : Nat} {x y : AV}, fz m n x = some y → y.pure = true ∧ y.leaf = x.leaf ∧ (x.data = true → y.cells.length = x.cells.length ∧ ∀ (j : Nat) (c : AV), x.cells[j]? = some c → ∃ k d, y.cells[j]? = some d ∧ (c.pure = true ∧ d = c ∨ k ≤ n ∧ fz m k c = some d ∧ ∀ id ∈ idsD m k c, id ∈ idsD m n x) ∧ d.leaf = c.leaf)
  | 0, x, y, h => by
    simp only [fz] at h
    split at h
    · rename_i hp; cases h; exact ⟨hp, rfl, fun _ => ⟨rfl, fun j c hc => ⟨0, c, hc, .inl ⟨pure_cells hp hc, rfl⟩, rfl⟩⟩⟩
    · cases h
  | n + 1, x, y, h => by
    have h00 := h
    simp only [fz] at h
    split at h
    · rename_i hp; cases h; exact ⟨hp, rfl, fun _ => ⟨rfl, fun j c hc => ⟨0, c, hc, .inl ⟨pure_cells hp hc, rfl⟩, rfl⟩⟩⟩
    · rename_i hp
      have one : ∀ (hl : x.leaf = true) (hl' : y.leaf = true) (hpy : y.pure = true), y.pure = true ∧ y.leaf = x.leaf ∧ (x.data = true → y.cells.length = x.cells.length ∧ ∀ (j : Nat) (c : AV), x.cells[j]? = some c → ∃ k d, y.cells[j]? = some d ∧ (c.pure = true ∧ d = c ∨ k ≤ (n + 1) ∧ fz m k c = some d ∧ ∀ id ∈ idsD m k c, id ∈ idsD m (n + 1) x) ∧ d.leaf = c.leaf) := by
        intro hl hl' hpy
        refine ⟨hpy, hl'.trans hl.symm, fun _ => ?_⟩
        rw [cells_leaf hl, cells_leaf hl']
        refine ⟨rfl, fun j c hc => ?_⟩
        cases j with
        | zero => simp at hc; subst hc; exact ⟨n + 1, y, rfl, .inr ⟨Nat.le_refl _, h00, fun _ h => h⟩, hl'.trans hl.symm⟩
        | succ j => simp at hc
      have all : ∀ {xs ys : List AV}, xs.mapM (fz m n) = some ys → ∀ y ∈ ys, y.pure = true := by
        intro xs ys hm y hy
        obtain ⟨j, hj, rfl⟩ := List.getElem_of_mem hy
        obtain ⟨h1, h2⟩ := mapM_some hm
        obtain ⟨z, hz, hfz⟩ := h2 j xs[j] (List.getElem?_eq_getElem (by omega))
        rw [List.getElem?_eq_getElem hj] at hz
        cases hz
        exact (fz_form hfz).1
      cases x with
      | own id ver =>
        simp only at h
        split at h
        · split at h
          · obtain ⟨ys, hy, rfl⟩ := Option.map_eq_some_iff.1 h
            exact one rfl rfl (pureL_of (all hy))
          · cases h
        · split at h
          · obtain ⟨ys, hy, rfl⟩ := Option.map_eq_some_iff.1 h
            exact one rfl rfl (pureL_of (all hy))
          · cases h
        · cases h
      | ptr id ver off =>
        simp only at h
        split at h
        · split at h
          · obtain ⟨ys, hy, rfl⟩ := Option.map_eq_some_iff.1 h
            exact one rfl rfl (pureL_of (all hy))
          · cases h
        · cases h
      | agg xs =>
        simp only at h
        obtain ⟨ys, hy, rfl⟩ := Option.map_eq_some_iff.1 h
        obtain ⟨h1, h2⟩ := mapM_some hy
        refine ⟨pureL_of (all hy), rfl, fun _ => ⟨h1, fun j c hc => ?_⟩⟩
        obtain ⟨d, hd, hf⟩ := h2 j c hc
        exact ⟨n, d, hd, .inr ⟨by omega, hf, fun id hid => by simp only [idsD, if_neg hp]; exact List.mem_flatMap.2 ⟨c, mem_of_get hc, hid⟩⟩, (fz_form hf).2.1⟩
      | tup xs =>
        simp only at h
        obtain ⟨ys, hy, rfl⟩ := Option.map_eq_some_iff.1 h
        exact ⟨pureL_of (all hy), rfl, fun hd => by simp [AV.data] at hd⟩
      | seq z full sz xs =>
        simp only at h
        obtain ⟨ys, hy, rfl⟩ := Option.map_eq_some_iff.1 h
        exact one rfl rfl (pureL_of (all hy))
      | rptr xs =>
        simp only at h
        obtain ⟨ys, hy, rfl⟩ := Option.map_eq_some_iff.1 h
        exact one rfl rfl (pureL_of (all hy))
      | fn f a b =>
        simp only at h
        split at h
        · rename_i a' b' ha hb
          cases h
          exact one rfl rfl (by simp only [AV.pure, Bool.and_eq_true]; exact ⟨pureL_of (all ha), pureL_of (all hb)⟩)
        · cases h
      | mp id =>
        simp only at h
        split at h
        · split at h
          · rename_i a' b' ha hb
            cases h
            exact one rfl rfl (by simp only [AV.pure, Bool.and_eq_true]; exact ⟨pureL_of (all ha), pureL_of (all hb)⟩)
          · cases h
        · cases h
      | smap ks vs =>
        simp only at h
        split at h
        · rename_i a' b' ha hb
          cases h
          exact one rfl rfl (by simp only [AV.pure, Bool.and_eq_true]; exact ⟨pureL_of (all ha), pureL_of (all hb)⟩)
        · cases h
      | _ => first | cases h | (simp [AV.pure] at hp)

theorem fz_live {m : Mem} : ∀ {n : Nat} {x y : AV}, fz m n x = some y → ∀ id ∈ idsD m n x, ∃ v, verOf m id = some v
  | 0, x, y, h, id, hid => by simp [idsD] at hid
  | n + 1, x, y, h, id, hid => by
    have all : ∀ {xs ys : List AV}, xs.mapM (fz m n) = some ys → id ∈ xs.flatMap (idsD m n) → ∃ v, verOf m id = some v := by
      intro xs ys hm hin
      obtain ⟨c, hc, hid⟩ := List.mem_flatMap.1 hin
      obtain ⟨j, hj, rfl⟩ := List.getElem_of_mem hc
      obtain ⟨d, hd, hf⟩ := (mapM_some hm).2 j _ (List.getElem?_eq_getElem hj)
      exact fz_live hf id hid
    simp only [fz] at h
    simp only [idsD] at hid
    split at h
    · rename_i hp; rw [if_pos hp] at hid; simp at hid
    · rename_i hp
      rw [if_neg hp] at hid
      cases x with
      | own id' ver =>
        simp only at h hid
        split at h
        · rename_i e sz xs hm
          split at h
          · obtain ⟨ys, hy, rfl⟩ := Option.map_eq_some_iff.1 h
            rw [hm] at hid
            rcases List.mem_cons.1 hid with rfl | hid
            · exact ⟨_, verOf_arr hm⟩
            · exact all hy hid
          · cases h
        · rename_i e sz xs hm
          split at h
          · obtain ⟨ys, hy, rfl⟩ := Option.map_eq_some_iff.1 h
            rw [hm] at hid
            rcases List.mem_cons.1 hid with rfl | hid
            · exact ⟨_, verOf_vec hm⟩
            · exact all hy hid
          · cases h
        · cases h
      | ptr id' ver off =>
        simp only at h hid
        split at h
        · rename_i cs hm
          split at h
          · obtain ⟨ys, hy, rfl⟩ := Option.map_eq_some_iff.1 h
            rw [hm] at hid
            rcases List.mem_cons.1 hid with rfl | hid
            · exact ⟨_, verOf_box hm⟩
            · exact all hy hid
          · cases h
        · cases h
      | agg xs => simp only at h hid; obtain ⟨ys, hy, rfl⟩ := Option.map_eq_some_iff.1 h; exact all hy hid
      | tup xs => simp only at h hid; obtain ⟨ys, hy, rfl⟩ := Option.map_eq_some_iff.1 h; exact all hy hid
      | seq z full sz xs => simp only at h hid; obtain ⟨ys, hy, rfl⟩ := Option.map_eq_some_iff.1 h; exact all hy hid
      | rptr xs => simp only at h hid; obtain ⟨ys, hy, rfl⟩ := Option.map_eq_some_iff.1 h; exact all hy hid
      | fn f a b =>
        simp only at h hid
        split at h
        · rename_i a' b' ha hb
          rcases List.mem_append.1 hid with hid | hid
          · exact all ha hid
          · exact all hb hid
        · cases h
      | smap a b =>
        simp only at h hid
        split at h
        · rename_i a' b' ha hb
          rcases List.mem_append.1 hid with hid | hid
          · exact all ha hid
          · exact all hb hid
        · cases h
      | mp id' =>
        simp only at h hid
        split at h
        · rename_i ks vs hm
          split at h
          · rename_i a' b' ha hb
            rw [hm] at hid
            rcases List.mem_cons.1 hid with rfl | hid
            · exact ⟨0, by simp [verOf, shp, hm, shpB]⟩
            · rcases List.mem_append.1 hid with hid | hid
              · exact all ha hid
              · exact all hb hid
          · cases h
        · cases h
      | _ => first | cases h | (simp at hid)

theorem reps_entries {V : Vw} {xs : List AV} {es : Array MapEntry} {g : MapEntry → Value} (h1 : es.size = xs.length) (h : ∀ (j : Nat) (x : AV) (e : MapEntry), xs[j]? = some x → es[j]? = some e → Rep V x (g e)) : Reps V xs (es.toList.map g) :=
  ⟨by simpa using h1, fun j x c hx hc => by
    rw [List.getElem?_map] at hc
    obtain ⟨e, he, rfl⟩ := Option.map_eq_some_iff.1 hc
    exact h j x e hx (by simpa using he)⟩
theorem smap_mk {U : Vw} {ks vs : List AV} {b cl : Nat} {es : Array MapEntry} (hS : U.S b) (hb : U.w.heap[b]? = some (.map es cl)) (h1 : Reps U ks (es.toList.map (·.key))) (h2 : Reps U vs (es.toList.map (·.val))) : Rep U (.smap ks vs) (.map (some b)) :=
  .smap ks vs b es cl hS hb (by have := h1.1; simpa using this) (by have := h2.1; simpa using this)
    (fun j x e hx he => h1.2 j x _ hx (by rw [List.getElem?_map]; simp [he])) (fun j x e hx he => h2.2 j x _ hx (by rw [List.getElem?_map]; simp [he]))

theorem fz_rep {V U : Vw} (o : Ok V) (hw : U.w = V.w) (hS : ∀ b, V.S b → U.S b) : ∀ (n : Nat) {x y : AV} {v : Value}, Rep V x v → fz V.mem n x = some y → (∀ id ∈ idsD V.mem n x, ∀ b, V.rs id = some b → U.S b) → Rep U y v := by
  intro n
  induction n using Nat.strongRecOn with
  | _ n ih =>
  intro x y v hv h hid
  have hpure : ∀ {x : AV} {v : Value}, Rep V x v → x.pure = true → Rep U x v := fun hr hp => pure_rep (fun b _ => by rw [hw]) hS hr hp
  cases n with
  | zero =>
    simp only [fz] at h
    split at h
    · rename_i hp; cases h; exact hpure hv hp
    · cases h
  | succ n =>
    have h00 := h
    simp only [fz] at h
    split at h
    · rename_i hp; cases h; exact hpure hv hp
    rename_i hp
    have hidx : ∀ {k : Nat} {c : AV}, (∀ id ∈ idsD V.mem k c, id ∈ idsD V.mem (n + 1) x) → ∀ id ∈ idsD V.mem k c, ∀ b, V.rs id = some b → U.S b := fun hs id hi b hb => hid id (hs id hi) b hb
    -- a list of values, each frozen
    have lst : ∀ {xs ys : List AV} {us : List Value}, xs.mapM (fz V.mem n) = some ys → (∀ id ∈ xs.flatMap (idsD V.mem n), ∀ b, V.rs id = some b → U.S b) → Reps V xs us → Reps U ys us := by
      intro xs ys us hm hi hr
      obtain ⟨h1, h2⟩ := mapM_some hm
      refine ⟨by rw [h1]; exact hr.1, fun j d u hd hu => ?_⟩
      have hj : j < xs.length := by rw [← h1]; exact (List.getElem?_eq_some_iff.1 hd).1
      obtain ⟨d', hd', hf⟩ := h2 j _ (List.getElem?_eq_getElem hj)
      rw [hd] at hd'
      cases hd'
      exact ih n (Nat.lt_succ_self n) (hr.2 j _ u (List.getElem?_eq_getElem hj) hu) hf (fun id hi' b hb => hi id (List.mem_flatMap.2 ⟨_, List.getElem_mem hj, hi'⟩) b hb)
    -- elements of a slice, each frozen, cell by cell
    have cel : ∀ {xs ys : List AV}, xs.mapM (fz V.mem n) = some ys → (∀ id ∈ xs.flatMap (idsD V.mem n), ∀ b, V.rs id = some b → U.S b) → (∀ z ∈ xs, z.data = true) →
        ys.length = xs.length ∧ ∀ (j : Nat) (d : AV), ys[j]? = some d → ∃ c, xs[j]? = some c ∧ d.cells.length = c.cells.length ∧ ∀ (m : Nat) (q : AV), d.cells[m]? = some q → ∃ p, c.cells[m]? = some p ∧ q.leaf = p.leaf ∧ ∀ u, Rep V p u → Rep U q u := by
      intro xs ys hm hi hd
      obtain ⟨h1, h2⟩ := mapM_some hm
      refine ⟨h1, fun j d hdj => ?_⟩
      have hj : j < xs.length := by rw [← h1]; exact (List.getElem?_eq_some_iff.1 hdj).1
      obtain ⟨d', hd', hf⟩ := h2 j _ (List.getElem?_eq_getElem hj)
      rw [hdj] at hd'
      cases hd'
      obtain ⟨_, _, hc⟩ := fz_form hf
      obtain ⟨hlen, hcell⟩ := hc (hd _ (List.getElem_mem hj))
      refine ⟨_, List.getElem?_eq_getElem hj, hlen, fun m q hq => ?_⟩
      have hm' : m < (xs[j]).cells.length := by rw [← hlen]; exact (List.getElem?_eq_some_iff.1 hq).1
      obtain ⟨k, q', hq', hor, hl⟩ := hcell m _ (List.getElem?_eq_getElem hm')
      rw [hq] at hq'
      cases hq'
      refine ⟨_, List.getElem?_eq_getElem hm', hl, fun u hu => ?_⟩
      rcases hor with ⟨hpc, rfl⟩ | ⟨hk, hfk, hids⟩
      · exact hpure hu hpc
      · exact ih k (by omega) hu hfk (fun id hi' b hb => hi id (List.mem_flatMap.2 ⟨_, List.getElem_mem hj, hids id hi'⟩) b hb)
    cases x with
    | own id ver =>
      simp only at h
      have hidx' : ∀ id' ∈ idsD V.mem (n + 1) (.own id ver), ∀ b, V.rs id' = some b → U.S b := hid
      have key : ∀ (e sz : Nat) (xs ys : List AV) (b : Nat), BlkOk V id b (.arr e sz xs) → xs.length = ver → xs.mapM (fz V.mem n) = some ys → U.S b → (∀ id' ∈ xs.flatMap (idsD V.mem n), ∀ b, V.rs id' = some b → U.S b) →
          Rep U (.seq false false sz ys) (.slice (some ⟨b, 0, none⟩) ver (V.cp id)) := by
        intro e sz xs ys b ⟨h2, h3, h4, h5, vs, h6, h7, h8⟩ hlen hy hSb hin
        have hdat : ∀ z ∈ xs, z.data = true := by
          intro z hz
          cases z with
          | tup ws => have := (h5 _ hz).2 (.tup ws) (by simp [AV.cells]); simp [AV.leaf] at this
          | junk => have := (h5 _ hz).2 .junk (by simp [AV.cells]); simp [AV.leaf] at this
          | _ => rfl
        obtain ⟨hyl, hyc⟩ := cel hy (fun id' hi' b' hb' => hin id' hi' b' hb') hdat
        have hwy : ∀ d ∈ ys, wide d sz := by
          intro d hd
          obtain ⟨j, hj, rfl⟩ := List.getElem_of_mem hd
          obtain ⟨c, hc, hl, hq⟩ := hyc j _ (List.getElem?_eq_getElem hj)
          have hwc := h5 c (mem_of_get hc)
          refine ⟨hl.trans hwc.1, fun q hqm => ?_⟩
          obtain ⟨m, hm', rfl⟩ := List.getElem_of_mem hqm
          obtain ⟨p, hp', hlf, _⟩ := hq m _ (List.getElem?_eq_getElem hm')
          rw [hlf]; exact hwc.2 p (mem_of_get hp')
        rw [show ver = ys.length from by rw [hyl, hlen]]
        refine seq_of_lies ⟨vs.toList.take (xs.length * sz), ⟨?_, fun k q u hq hu => ?_⟩, fun k u hu => ?_⟩ hwy (fun _ => hSb) (fun _ => h2) (by rw [hyl]; exact h3) (fun hf => by cases hf)
        · have h81 := h8.1
          rw [flatC_length h5] at h81
          rw [flatC_length hwy, hyl]; exact h81
        · have hk : k < xs.length * sz := by
            have := (List.getElem?_eq_some_iff.1 hq).1
            rwa [flatC_length hwy, hyl] at this
          have hqd : k / sz < ys.length := by rw [hyl]; exact (Nat.div_lt_iff_lt_mul h2).2 hk
          have hkk : k / sz * sz + k % sz = k := by rw [Nat.mul_comm]; exact Nat.div_add_mod k sz
          have hgy := flatC_get hwy (List.getElem?_eq_getElem hqd) (Nat.mod_lt k h2)
          rw [hkk, hq] at hgy
          obtain ⟨c, hc, hl, hcq⟩ := hyc _ _ (List.getElem?_eq_getElem hqd)
          obtain ⟨p, hp', _, hrp⟩ := hcq _ q hgy.symm
          have hgx := flatC_get h5 hc (Nat.mod_lt k h2)
          rw [hkk, hp'] at hgx
          exact hrp u (h8.2 k p u hgx hu)
        · rw [hw, add_lit, cell_block h6]
          rw [List.getElem?_take] at hu
          split at hu
          · simpa using hu
          · cases hu
      split at h
      · rename_i e sz xs hm
        split at h
        case isFalse => cases h
        rename_i hlen
        obtain ⟨ys, hy, rfl⟩ := Option.map_eq_some_iff.1 h
        obtain ⟨b, hb, rfl⟩ := own_valid hv (by rw [verOf_arr hm, hlen]) (.inr (by rw [isVec_some hm]; rfl))
        simp only [idsD, if_neg hp, hm] at hidx'
        exact key e sz xs ys b (o.blk id b _ hm hb) hlen hy (hidx' id (by simp) b hb) (fun id' hi' b' hb' => hidx' id' (List.mem_cons_of_mem _ hi') b' hb')
      · rename_i e sz xs hm
        split at h
        case isFalse => cases h
        rename_i hlen
        obtain ⟨ys, hy, rfl⟩ := Option.map_eq_some_iff.1 h
        simp only [idsD, if_neg hp, hm] at hidx'
        have hyl := (mapM_some hy).1
        rcases own_any hv (by rw [verOf_vec hm, hlen]) with ⟨b, hb, rfl⟩ | ⟨_, h0, rfl, _⟩
        · obtain ⟨hx0, hbk⟩ := o.blk id b _ hm hb
          have hye : ys.isEmpty = false := by
            cases ys with
            | nil => exact absurd (List.eq_nil_of_length_eq_zero (by simpa using hyl.symm)) hx0
            | cons _ _ => rfl
          rw [hye]
          exact key e sz xs ys b hbk hlen hy (hidx' id (by simp) b hb) (fun id' hi' b' hb' => hidx' id' (List.mem_cons_of_mem _ hi') b' hb')
        · have hye : ys = [] := List.eq_nil_of_length_eq_zero (by omega)
          subst hye
          exact .seqNil _ _
      · cases h
    | ptr id ver off =>
      simp only at h
      split at h
      case h_2 => cases h
      rename_i cs hm
      split at h
      case isFalse => cases h
      rename_i hc
      obtain ⟨hlen, hoff⟩ := hc
      obtain ⟨ys, hy, rfl⟩ := Option.map_eq_some_iff.1 h
      obtain ⟨b, hb, rfl⟩ := ptr_valid hv (by rw [verOf_box hm, hlen])
      obtain ⟨vs, ty, h2, h3, h4⟩ := o.blk id b _ hm hb
      have hidx' : ∀ id' ∈ idsD V.mem (n + 1) (.ptr id ver off), ∀ b, V.rs id' = some b → U.S b := hid
      simp only [idsD, if_neg hp, hm] at hidx'
      have hSb : U.S b := hidx' id (by simp) b hb
      have hr := lst (us := vs.toList.drop off) hy (fun id' hi' b' hb' => hidx' id' (by
        simp only [List.mem_cons]
        exact .inr hi') b' hb') (h3.drop off)
      obtain ⟨hyl, hyf⟩ := mapM_some hy
      refine .rptr _ _ (fun k => (vs.toList.drop off).getD k (.tuple #[])) (fun e => ?_) (fun q hq => ?_) hSb (fun k q hq => ?_) (fun k q hq => ?_)
      · have := congrArg List.length e; simp [hyl] at this; omega
      · obtain ⟨j, hj, rfl⟩ := List.getElem_of_mem hq
        obtain ⟨d, hd, hf⟩ := hyf j _ (List.getElem?_eq_getElem (by omega))
        rw [List.getElem?_eq_getElem hj] at hd
        cases hd
        rw [(fz_form hf).2.1]
        exact h4 _ (List.mem_of_mem_drop (List.getElem_mem _))
      · obtain ⟨u, hu, _⟩ := hr.get hq
        rw [hw, add_lit, cell_block h2]
        have hu' := hu
        rw [List.getElem?_drop] at hu'
        simp only [List.getD_eq_getElem?_getD, hu, Option.getD_some]
        simpa using hu'
      · obtain ⟨u, hu, hrep⟩ := hr.get hq
        simp only [List.getD_eq_getElem?_getD, hu, Option.getD_some]
        exact hrep
    | agg xs =>
      simp only at h
      obtain ⟨ys, hy, rfl⟩ := Option.map_eq_some_iff.1 h
      obtain ⟨us, rfl, hr, hl⟩ := agg_inv hv
      have hidx' : ∀ id' ∈ idsD V.mem (n + 1) (.agg xs), ∀ b, V.rs id' = some b → U.S b := hid
      simp only [idsD, if_neg hp] at hidx'
      have hr' := lst hy hidx' hr
      refine .agg _ _ (by simpa using hr'.1) (fun q hq => ?_) (fun j c u hc hu => hr'.2 j c u hc (by simpa using hu))
      obtain ⟨hyl, hyf⟩ := mapM_some hy
      obtain ⟨j, hj, rfl⟩ := List.getElem_of_mem hq
      obtain ⟨d, hd, hf⟩ := hyf j _ (List.getElem?_eq_getElem (by omega))
      rw [List.getElem?_eq_getElem hj] at hd
      cases hd
      rw [(fz_form hf).2.1]
      exact hl _ (List.getElem_mem _)
    | tup xs =>
      simp only at h
      obtain ⟨ys, hy, rfl⟩ := Option.map_eq_some_iff.1 h
      have hidx' : ∀ id' ∈ idsD V.mem (n + 1) (.tup xs), ∀ b, V.rs id' = some b → U.S b := hid
      simp only [idsD, if_neg hp] at hidx'
      cases hv with
      | tup xs us hs hr =>
        have hr' := lst (us := us.toList) hy hidx' ⟨by simpa using hs, fun j c u hc hu => hr j c u hc (by simpa using hu)⟩
        exact .tup _ _ (by simpa using hr'.1) (fun j c u hc hu => hr'.2 j c u hc (by simpa using hu))
    | seq z full sz xs =>
      simp only at h
      obtain ⟨ys, hy, rfl⟩ := Option.map_eq_some_iff.1 h
      have hidx' : ∀ id' ∈ idsD V.mem (n + 1) (.seq z full sz xs), ∀ b, V.rs id' = some b → U.S b := hid
      simp only [idsD, if_neg hp] at hidx'
      cases hv with
      | seqNil => simp at hy; subst hy; exact .seqNil _ _
      | seq full sz xs ad c us hc hf hS' h0 hsz hu hr =>
        have hdat : ∀ z ∈ xs, z.data = true := by
          intro z hz
          cases z with
          | tup ws => have := (hsz _ hz).2 (.tup ws) (by simp [AV.cells]); simp [AV.leaf] at this
          | junk => have := (hsz _ hz).2 .junk (by simp [AV.cells]); simp [AV.leaf] at this
          | _ => rfl
        obtain ⟨hyl, hyc⟩ := cel hy hidx' hdat
        have hne : ys ≠ [] → xs ≠ [] := fun hy0 e => by subst e; simp at hyl; exact hy0 hyl
        rw [← hyl]
        refine .seq full sz ys ad c us (by omega) (fun h => by rw [hyl]; exact hf h) (fun h => hS _ (hS' (hne h))) (fun h => h0 (hne h)) (fun d hd => ?_) (fun j d m q hd hq => ?_) (fun j d m q hd hq => ?_)
        · obtain ⟨j, hj, rfl⟩ := List.getElem_of_mem hd
          obtain ⟨c', hc', hl, hq⟩ := hyc j _ (List.getElem?_eq_getElem hj)
          have hwc := hsz c' (mem_of_get hc')
          refine ⟨hl.trans hwc.1, fun q hqm => ?_⟩
          obtain ⟨m, hm', rfl⟩ := List.getElem_of_mem hqm
          obtain ⟨p, hp', hlf, _⟩ := hq m _ (List.getElem?_eq_getElem hm')
          rw [hlf]; exact hwc.2 p (mem_of_get hp')
        · obtain ⟨c', hc', hl, hcq⟩ := hyc j d hd
          obtain ⟨p, hp', _, _⟩ := hcq m q hq
          rw [hw]; exact hu j c' m p hc' hp'
        · obtain ⟨c', hc', hl, hcq⟩ := hyc j d hd
          obtain ⟨p, hp', _, hrp⟩ := hcq m q hq
          exact hrp _ (hr j c' m p hc' hp')
    | rptr xs =>
      simp only at h
      obtain ⟨ys, hy, rfl⟩ := Option.map_eq_some_iff.1 h
      have hidx' : ∀ id' ∈ idsD V.mem (n + 1) (.rptr xs), ∀ b, V.rs id' = some b → U.S b := hid
      simp only [idsD, if_neg hp] at hidx'
      cases hv with
      | rptr xs ad us h0 hl hS' hu hr =>
        obtain ⟨hyl, hyf⟩ := mapM_some hy
        have hbk : ∀ (m : Nat) (q : AV), ys[m]? = some q → ∃ p, xs[m]? = some p ∧ fz V.mem n p = some q := by
          intro m q hq
          have hm' : m < xs.length := by rw [← hyl]; exact (List.getElem?_eq_some_iff.1 hq).1
          obtain ⟨d, hd, hf⟩ := hyf m _ (List.getElem?_eq_getElem hm')
          rw [hq] at hd; cases hd
          exact ⟨_, List.getElem?_eq_getElem hm', hf⟩
        refine .rptr ys ad us (fun e => ?_) (fun q hq => ?_) (hS _ hS') (fun m q hq => ?_) (fun m q hq => ?_)
        · subst e; simp at hyl; exact h0 (List.eq_nil_of_length_eq_zero hyl.symm)
        · obtain ⟨j, hj, rfl⟩ := List.getElem_of_mem hq
          obtain ⟨p, hp', hf⟩ := hbk j _ (List.getElem?_eq_getElem hj)
          rw [(fz_form hf).2.1]; exact hl p (mem_of_get hp')
        · obtain ⟨p, hp', hf⟩ := hbk m q hq
          rw [hw]; exact hu m p hp'
        · obtain ⟨p, hp', hf⟩ := hbk m q hq
          exact ih n (Nat.lt_succ_self n) (hr m p hp') hf (fun id hi b hb => hidx' id (List.mem_flatMap.2 ⟨p, mem_of_get hp', hi⟩) b hb)
    | fn f a b =>
      simp only at h
      split at h
      case h_2 => cases h
      rename_i a' b' ha hb
      cases h
      have hidx' : ∀ id' ∈ idsD V.mem (n + 1) (.fn f a b), ∀ b, V.rs id' = some b → U.S b := hid
      simp only [idsD, if_neg hp] at hidx'
      cases hv with
      | fn f xs ys fs cs h1 h2 hr hr' =>
        have r1 := lst (us := fs.toList) ha (fun id hi => hidx' id (List.mem_append_left _ hi)) ⟨by simpa using h1, fun j c u hc hu => hr j c u hc (by simpa using hu)⟩
        have r2 := lst (us := cs.toList) hb (fun id hi => hidx' id (List.mem_append_right _ hi)) ⟨by simpa using h2, fun j c u hc hu => hr' j c u hc (by simpa using hu)⟩
        exact .fn f _ _ _ _ (by simpa using r1.1) (by simpa using r2.1) (fun j c u hc hu => r1.2 j c u hc (by simpa using hu)) (fun j c u hc hu => r2.2 j c u hc (by simpa using hu))
    | smap a b =>
      simp only at h
      split at h
      case h_2 => cases h
      rename_i a' b' ha hb
      cases h
      have hidx' : ∀ id' ∈ idsD V.mem (n + 1) (.smap a b), ∀ b, V.rs id' = some b → U.S b := hid
      simp only [idsD, if_neg hp] at hidx'
      cases hv with
      | smap _ _ bk es cl hS' hbk h1 h2 hk hvv =>
        have r1 := lst (us := es.toList.map (·.key)) ha (fun id hi => hidx' id (List.mem_append_left _ hi)) (reps_entries h1 hk)
        have r2 := lst (us := es.toList.map (·.val)) hb (fun id hi => hidx' id (List.mem_append_right _ hi)) (reps_entries h2 hvv)
        exact smap_mk (hS _ hS') (by rw [hw]; exact hbk) r1 r2
    | mp id =>
      simp only at h
      split at h
      case h_2 => cases h
      rename_i ks vs hm
      split at h
      case h_2 => cases h
      rename_i a' b' ha hb
      cases h
      have hidx' : ∀ id' ∈ idsD V.mem (n + 1) (.mp id), ∀ b, V.rs id' = some b → U.S b := hid
      simp only [idsD, if_neg hp, hm] at hidx'
      cases hv with
      | mp _ _ h1 hh hv =>
        obtain ⟨bk, hbk, rfl⟩ := hv (by simp [verOf, shp, hm, shpB])
        obtain ⟨es, cl, g1, g2, g3⟩ := o.blk id bk _ hm hbk
        have r1 := lst ha (fun id hi => hidx' id (List.mem_cons_of_mem _ (List.mem_append_left _ hi))) g2
        have r2 := lst hb (fun id hi => hidx' id (List.mem_cons_of_mem _ (List.mem_append_right _ hi))) g3
        exact smap_mk (hidx' id (by simp) bk hbk) (by rw [hw]; exact g1) r1 r2
    | _ => first | cases h | (simp [AV.pure] at hp)
end Go.Ab

/- Before and behind a call. -/
set_option linter.unusedVariables false
set_option linter.unusedSimpArgs false
namespace Go.Ab
open Go

def inRs (V : Vw) (ids : List Nat) (b : Nat) : Prop := ∃ id ∈ ids, V.rs id = some b
def Live (V : Vw) (ids : List Nat) : Prop := ∀ id ∈ ids, ∃ v, verOf V.mem id = some v

/-! ### Handles given up, what they lead to never written again -/
def Vw.frz (V : Vw) (ids : List Nat) : Vw := { V with S := fun b => V.S b ∨ inRs V ids b, mem := kill V.mem ids }
theorem frz_eq (V : Vw) (ids : List Nat) : V.frz ids = (V.kills ids).calm (inRs V ids) := rfl
theorem ok_frz {V : Vw} (o : Ok V) {ids : List Nat} (hl : Live V ids) : Ok (V.frz ids) ∧ Ext V (V.frz ids) := by
  obtain ⟨o1, e1⟩ := ok_kills ids o
  have hd : ∀ b, inRs V ids b → ∃ id, (V.kills ids).rs id = some b := fun b ⟨id, _, h⟩ => ⟨id, h⟩
  have hn : ∀ id b v, verOf (V.kills ids).mem id = some v → (V.kills ids).rs id = some b → ¬ inRs V ids b := by
    intro id b v hv hr ⟨id', hid', hr'⟩
    obtain ⟨h1, h2⟩ := verOf_kill ids hv
    obtain ⟨v', hv'⟩ := hl id' hid'
    have := o.inj id id' b v v' h2 hv' hr hr'
    subst this
    exact h1 hid'
  rw [frz_eq]
  exact ⟨ok_calm o1 hd hn, e1.trans (ext_calm hd)⟩

/-! ### A call with pure arguments: the callee's view -/
def Vw.callee (V : Vw) (ids : List Nat) : Vw := { w := V.w, S := fun b => V.S b ∨ inRs V ids b, rs := fun _ => none, cp := V.cp, mem := [] }
theorem ok_callee {V : Vw} (o : Ok V) (ids : List Nat) : Ok (V.callee ids) where
  sb := fun b h => by
    rcases h with h | ⟨id, _, h⟩
    · exact o.sb b h
    · exact (o.rb id b h).1
  rb := fun id b h => by cases h
  sep := fun id b v _ h => by cases h
  inj := fun id id' b v v' _ _ h => by cases h
  blk := fun id b k _ h => by cases h

/-- A view closed: all that lives in it becomes what is never written again. -/
def Vw.close (V : Vw) : Vw := { w := V.w, S := fun b => V.S b ∨ ∃ id v, verOf V.mem id = some v ∧ V.rs id = some b, rs := fun _ => none, cp := V.cp, mem := [] }
theorem ok_close {V : Vw} (o : Ok V) : Ok V.close where
  sb := fun b h => by
    rcases h with h | ⟨id, _, _, h⟩
    · exact o.sb b h
    · exact (o.rb id b h).1
  rb := fun id b h => by cases h
  sep := fun id b v _ h => by cases h
  inj := fun id id' b v v' _ _ h => by cases h
  blk := fun id b k _ h => by cases h
theorem ext_close {U V : Vw} (e : Ext U V) (hm : U.mem = []) : Ext U V.close where
  os := e.os
  tape := e.tape
  output := e.output
  size := e.size
  frame := e.frame
  stab := e.stab
  sm := fun b h => .inl (e.sm b h)
  sn := fun b h => by
    rcases h with h | ⟨id, _, _, h⟩
    · exact e.sn b h
    · rcases e.rn id b h with h | h
      · exact .inr (.inl h)
      · exact .inr (.inr h)
  len := by simp [hm, Vw.close]
  ver := fun id hid => by rw [hm] at hid; simp at hid
  rn := fun id b h => by cases h
  nn := fun id hid => by rw [hm] at hid; simp at hid
theorem rep_close {V : Vw} (o : Ok V) {n : Nat} {x y : AV} {v : Value} (h : Rep V x v) (hf : fz V.mem n x = some y) : Rep V.close y v :=
  fz_rep (U := V.close) o rfl (fun b hb => .inl hb) n h hf (fun id hid b hb => by
    obtain ⟨v', hv'⟩ := fz_live hf id hid
    exact .inr ⟨id, v', hv', hb⟩)

/-- Behind a call with pure arguments: the caller's view. -/
def Vw.back (V : Vw) (U : Vw) (ks : List Nat) : Vw :=
  { w := U.w, S := fun b => (V.S b ∨ inRs V ks b) ∨ (V.w.heap.size ≤ b ∧ U.S b), rs := V.rs, cp := V.cp, mem := kill V.mem ks }
theorem back_ok {V U : Vw} (o : Ok V) {ids ks : List Nat} (oU : Ok U) (e : Ext (V.callee ids) U) (hl : Live V ks) :
    Ok (V.back U ks) ∧ Ext V (V.back U ks) := by
  have hfr : ∀ b, b < V.w.heap.size → U.w.heap[b]? = V.w.heap[b]? := fun b hb => e.frame b hb (fun id h => by cases h)
  obtain ⟨o1, e1⟩ := ok_frz o hl
  have ext : Ext V (V.back U ks) := {
    os := e.os
    tape := e.tape
    output := e.output
    size := e.size
    frame := fun b hb _ => hfr b hb
    stab := fun b hb => hfr b (o.sb b hb)
    sm := fun b h => .inl (.inl h)
    sn := fun b h => by
      rcases h with (h | ⟨id, _, h⟩) | h
      · exact .inl h
      · exact .inr (.inr ⟨id, h⟩)
      · exact .inr (.inl h.1)
    len := e1.len
    ver := fun id hid v' h => by
      obtain ⟨v0, h0, h1, h2⟩ := e1.ver id hid v' h
      exact ⟨v0, h0, h1, h2⟩
    rn := fun id b h => .inr ⟨id, h⟩
    nn := fun id hid h hvc => e1.nn id hid h hvc }
  refine ⟨o.step ext (fun b h => ?_) (fun id b h => ?_) (fun id b v hv hr hS => ?_) (fun id id' b v v' hv hv' hr hr' => o1.inj id id' b v v' hv hv' hr hr') (fun id b k hm hr hd => ?_), ext⟩
  · rcases h with h | h
    · exact Nat.lt_of_lt_of_le (o1.sb b h) e.size
    · exact oU.sb b h.2
  · have := o.rb id b h
    exact ⟨Nat.lt_of_lt_of_le this.1 e.size, Nat.lt_of_lt_of_le this.2 e1.len⟩
  · rcases hS with h | h
    · exact o1.sep id b v hv hr h
    · have := (o.rb id b hr).1; omega
  · have hv : ∃ v, verOf (kill V.mem ks) id = some v := by
      have h1 : verOf (kill V.mem ks) id = (shpB k).map (·.1) := verOf_some hm
      cases hsk : shpB k with
      | none => cases k <;> simp [shpB] at hsk; exact absurd rfl hd
      | some s => exact ⟨s.1, by rw [h1, hsk]; rfl⟩
    obtain ⟨v, hv⟩ := hv
    obtain ⟨hnot, _⟩ := verOf_kill ks hv
    have hsame : ∀ (l : List Nat) (m : Mem), id ∉ l → (kill m l)[id]? = m[id]? := by
      intro l
      induction l with
      | nil => intro m _; rfl
      | cons a l ih =>
        intro m h
        simp only [List.mem_cons, not_or] at h
        show (kill (m.set a .dead) l)[id]? = _
        rw [ih _ h.2, List.getElem?_set_ne (fun e => h.1 e.symm)]
    have hm' : (kill V.mem ks)[id]? = some k := hm
    rw [hsame ks V.mem hnot] at hm'
    exact .inl ⟨hm', hr, rfl, hfr b (o.rb id b hr).1⟩
theorem back_rep {V U : Vw} {ids ks : List Nat} (e : Ext (V.callee ids) U) {r : AV} {v : Value} (h : Rep U r v) (hp : r.pure = true) (hk : r.flat = true ∨ ids = [] ∨ ks = ids) : Rep (V.back U ks) r v := by
  rcases hk with hf | hk
  · exact flat_rep h hf
  · refine pure_rep (V := U) (U := V.back U ks) (fun b _ => rfl) (fun b hb => ?_) h hp
    rcases e.sn b hb with h1 | h1 | ⟨id, h1⟩
    · rcases h1 with h1 | h1
      · exact .inl (.inl h1)
      · rcases hk with rfl | rfl
        · obtain ⟨id, hid, _⟩ := h1; simp at hid
        · exact .inl (.inr h1)
    · exact .inr ⟨h1, hb⟩
    · cases h1

/-! ### A call that shared the memory: what the callee made goes -/
def dropped (V : Vw) (N : Nat) (b : Nat) : Prop := ∃ id v, N ≤ id ∧ verOf V.mem id = some v ∧ V.rs id = some b
def Vw.trunc (V : Vw) (N : Nat) : Vw :=
  { w := V.w, S := fun b => V.S b ∨ dropped V N b, rs := fun id => if id < N then V.rs id else none, cp := V.cp, mem := V.mem.take N }
theorem verOf_take {m : Mem} {N id v : Nat} (h : verOf (m.take N) id = some v) : id < N ∧ verOf m id = some v := by
  have h1 := verOf_lt h
  simp at h1
  refine ⟨by omega, ?_⟩
  unfold verOf shp at h ⊢
  rwa [List.getElem?_take_of_lt (by omega)] at h
theorem take_get {m : Mem} {N id : Nat} {k : Blk} (h : (m.take N)[id]? = some k) : id < N ∧ m[id]? = some k := by
  rw [List.getElem?_take] at h
  split at h
  · exact ⟨by assumption, h⟩
  · cases h
theorem under_hd {V : Vw} {N id ver : Nat} (hN : N ≤ V.mem.length) (h : V.hd id ver) (hid : id < N) : (V.trunc N).hd id ver :=
  ⟨by simp [Vw.trunc]; omega, fun v0 h0 => h.2 v0 (verOf_take h0).2⟩
theorem under_rep {V : Vw} {N : Nat} (hN : N ≤ V.mem.length) {x : AV} {v : Value} (h : Rep V x v) (hu : x.under N = true) : Rep (V.trunc N) x v := by
  induction h with
  | int k n => exact .int k n
  | bool b => exact .bool b
  | str s => exact .str s
  | agg xs cs h hl _ ih => exact .agg xs cs h hl (fun j x c hx hc => ih j x c hx hc (underL_mem hu x (mem_of_get hx)))
  | tup xs cs h _ ih => exact .tup xs cs h (fun j x c hx hc => ih j x c hx hc (underL_mem hu x (mem_of_get hx)))
  | seqNil full sz => exact .seqNil full sz
  | seq full sz xs ad c us hc hf hS' h0 hsz hu' _ ih =>
    exact .seq full sz xs ad c us hc hf (fun hx => .inl (hS' hx)) h0 hsz (fun j x m y hj hm => hu' j x m y hj hm) (fun j x m y hj hm => ih j x m y hj hm (under_cells (underL_mem hu x (mem_of_get hj)) hm))
  | own id ver v h1 h hv =>
    have hid : id < N := by simpa [AV.under] using hu
    exact .own id ver v h1 (under_hd hN h hid) (fun hv' => by
      rcases hv (verOf_take hv').2 with ⟨b, hb, he⟩ | ⟨hb, k1, k2, k3⟩
      · exact .inl ⟨b, by simp only [Vw.trunc, if_pos hid]; exact hb, he⟩
      · exact .inr ⟨by simp only [Vw.trunc, if_pos hid]; exact hb, k1, k2, by rw [← k3]; exact isVec_take hid⟩)
  | ptr id ver off v h1 h hv =>
    have hid : id < N := by simpa [AV.under] using hu
    exact .ptr id ver off v h1 (under_hd hN h hid) (fun hv' => by
      obtain ⟨b, hb, he⟩ := hv (verOf_take hv').2
      exact ⟨b, by simp only [Vw.trunc, if_pos hid]; exact hb, he⟩)
  | aptr id ver sz i f v h1 h hv =>
    have hid : id < N := by simpa [AV.under] using hu
    exact .aptr id ver sz i f v h1 (under_hd hN h hid) (fun hv' => by
      obtain ⟨b, hb, he⟩ := hv (verOf_take hv').2
      exact ⟨b, by simp only [Vw.trunc, if_pos hid]; exact hb, he⟩)
  | rptr xs ad us h0 hl hS' hu' _ ih => exact .rptr xs ad us h0 hl (.inl hS') (fun m y hm => hu' m y hm) (fun m y hm => ih m y hm (underL_mem hu y (mem_of_get hm)))
  | nilptr => exact .nilptr
  | fn f xs ys fs cs h h' _ _ ih ih' =>
    simp only [AV.under, Bool.and_eq_true] at hu
    exact .fn f xs ys fs cs h h' (fun j x c hx hc => ih j x c hx hc (underL_mem hu.1 x (mem_of_get hx))) (fun j x c hx hc => ih' j x c hx hc (underL_mem hu.2 x (mem_of_get hx)))
  | nilfn => exact .nilfn
  | yld id v h1 h hv =>
    have hid : id < N := by simpa [AV.under] using hu
    exact .yld id v h1 (under_hd hN h hid) (fun hv' => by
      obtain ⟨b, hb, he⟩ := hv (verOf_take hv').2
      exact ⟨b, by simp only [Vw.trunc, if_pos hid]; exact hb, he⟩)
  | mp id v h1 h hv =>
    have hid : id < N := by simpa [AV.under] using hu
    exact .mp id v h1 (under_hd hN h hid) (fun hv' => by
      obtain ⟨b, hb, he⟩ := hv (verOf_take hv').2
      exact ⟨b, by simp only [Vw.trunc, if_pos hid]; exact hb, he⟩)
  | junk v => exact .junk v
  | nilmp => exact .nilmp
  | smap ks vs b es cl hS' hb h1 h2 _ _ ih ih' =>
    simp only [AV.under, Bool.and_eq_true] at hu
    exact .smap ks vs b es cl (.inl hS') hb h1 h2 (fun j x c hx hc => ih j x c hx hc (underL_mem hu.1 x (mem_of_get hx))) (fun j x c hx hc => ih' j x c hx hc (underL_mem hu.2 x (mem_of_get hx)))

theorem underL_of {N : Nat} {ys : List AV} (h : ∀ y ∈ ys, y.under N = true) : underL N ys = true := by
  induction ys with
  | nil => rfl
  | cons y ys ih => simp only [underL, Bool.and_eq_true]; exact ⟨h y (by simp), ih (fun z hz => h z (by simp [hz]))⟩
theorem under_of_cells {N : Nat} {x : AV} (h : ∀ y ∈ x.cells, y.under N = true) : x.under N = true := by
  cases x with
  | agg xs => exact underL_of h
  | _ => exact h _ (by simp [AV.cells])
/-- All handles of what stands for a value lie in the memory. -/
theorem rep_under {V : Vw} {x : AV} {v : Value} (h : Rep V x v) : x.under V.mem.length = true := by
  induction h with
  | agg xs cs h hl _ ih =>
    refine underL_of (fun y hy => ?_)
    obtain ⟨j, hj, rfl⟩ := List.getElem_of_mem hy
    exact ih j _ _ (List.getElem?_eq_getElem hj) (Array.getElem?_eq_getElem (by omega))
  | tup xs cs h _ ih =>
    refine underL_of (fun y hy => ?_)
    obtain ⟨j, hj, rfl⟩ := List.getElem_of_mem hy
    exact ih j _ _ (List.getElem?_eq_getElem hj) (Array.getElem?_eq_getElem (by omega))
  | seq full sz xs ad c us hc hf hS' h0 hsz hu' _ ih =>
    refine underL_of (fun y hy => under_of_cells (fun q hq => ?_))
    obtain ⟨j, hj, rfl⟩ := List.getElem_of_mem hy
    obtain ⟨m, hm, rfl⟩ := List.getElem_of_mem hq
    exact ih j _ m _ (List.getElem?_eq_getElem hj) (List.getElem?_eq_getElem hm)
  | rptr xs ad us h0 hl hS' hu' _ ih =>
    refine underL_of (fun y hy => ?_)
    obtain ⟨j, hj, rfl⟩ := List.getElem_of_mem hy
    exact ih j _ (List.getElem?_eq_getElem hj)
  | fn f xs ys fs cs h h' _ _ ih ih' =>
    simp only [AV.under, Bool.and_eq_true]
    refine ⟨underL_of (fun y hy => ?_), underL_of (fun y hy => ?_)⟩
    · obtain ⟨j, hj, rfl⟩ := List.getElem_of_mem hy
      exact ih j _ _ (List.getElem?_eq_getElem hj) (Array.getElem?_eq_getElem (by omega))
    · obtain ⟨j, hj, rfl⟩ := List.getElem_of_mem hy
      exact ih' j _ _ (List.getElem?_eq_getElem hj) (Array.getElem?_eq_getElem (by omega))
  | own id ver v h1 h hv => simpa [AV.under] using h.1
  | ptr id ver off v h1 h hv => simpa [AV.under] using h.1
  | aptr id ver sz i f v h1 h hv => simpa [AV.under] using h.1
  | yld id v h1 h hv => simpa [AV.under] using h.1
  | mp id v h1 h hv => simpa [AV.under] using h.1
  | smap ks vs b es cl hS' hb h h' _ _ ih ih' =>
    simp only [AV.under, Bool.and_eq_true]
    refine ⟨underL_of (fun y hy => ?_), underL_of (fun y hy => ?_)⟩
    · obtain ⟨j, hj, rfl⟩ := List.getElem_of_mem hy
      exact ih j _ _ (List.getElem?_eq_getElem hj) (Array.getElem?_eq_getElem (by omega))
    · obtain ⟨j, hj, rfl⟩ := List.getElem_of_mem hy
      exact ih' j _ _ (List.getElem?_eq_getElem hj) (Array.getElem?_eq_getElem (by omega))
  | _ => rfl
mutual
theorem under_mono {N M : Nat} (h : N ≤ M) : ∀ {x : AV}, x.under N = true → x.under M = true
  | .agg xs, hu => underL_mono h (xs := xs) hu
  | .tup xs, hu => underL_mono h (xs := xs) hu
  | .seq _ _ _ xs, hu => underL_mono h (xs := xs) hu
  | .rptr xs, hu => underL_mono h (xs := xs) hu
  | .fn _ a b, hu => by
    simp only [AV.under, Bool.and_eq_true] at hu ⊢
    exact ⟨underL_mono h (xs := a) hu.1, underL_mono h (xs := b) hu.2⟩
  | .own id _, hu => by simp only [AV.under, decide_eq_true_eq] at hu ⊢; omega
  | .ptr id _ _, hu => by simp only [AV.under, decide_eq_true_eq] at hu ⊢; omega
  | .aptr id .., hu => by simp only [AV.under, decide_eq_true_eq] at hu ⊢; omega
  | .yld id, hu => by simp only [AV.under, decide_eq_true_eq] at hu ⊢; omega
  | .mp id, hu => by simp only [AV.under, decide_eq_true_eq] at hu ⊢; omega
  | .smap a b, hu => by
    simp only [AV.under, Bool.and_eq_true] at hu ⊢
    exact ⟨underL_mono h (xs := a) hu.1, underL_mono h (xs := b) hu.2⟩
  | .nilmp, _ => rfl
  | .junk, _ => rfl
  | .int .., _ => rfl
  | .bool .., _ => rfl
  | .str .., _ => rfl
  | .nilptr, _ => rfl
  | .nilfn, _ => rfl
theorem underL_mono {N M : Nat} (h : N ≤ M) : ∀ {xs : List AV}, underL N xs = true → underL M xs = true
  | [], _ => rfl
  | x :: xs, hu => by
    simp only [underL, Bool.and_eq_true] at hu ⊢
    exact ⟨under_mono h (x := x) hu.1, underL_mono h (xs := xs) hu.2⟩
end

theorem reps_under {V : Vw} {N : Nat} (hN : N ≤ V.mem.length) {xs : List AV} {us : List Value} (h : Reps V xs us) (hu : underL N xs = true) : Reps (V.trunc N) xs us :=
  ⟨h.1, fun j x c hx hc => under_rep hN (h.2 j x c hx hc) (underL_mem hu x (mem_of_get hx))⟩
theorem trunc_ok {V0 V : Vw} (o : Ok V) (e : Ext V0 V) {N : Nat} (hN0 : N = V0.mem.length) (hu : (V.mem.take N).all (blkUnder N 0) = true) : Ok (V.trunc N) ∧ Ext V0 (V.trunc N) := by
  have hN : N ≤ V.mem.length := by rw [hN0]; exact e.len
  have hrs : ∀ id b, (V.trunc N).rs id = some b → id < N ∧ V.rs id = some b := by
    intro id b h
    simp only [Vw.trunc] at h
    split at h
    · exact ⟨by assumption, h⟩
    · cases h
  refine ⟨⟨fun b h => ?_, fun id b h => ?_, fun id b v hv hr hS => ?_, fun id id' b v v' hv hv' hr hr' => ?_, fun id b k hm hr => ?_⟩, ?_⟩
  · rcases h with h | ⟨id, v, _, _, h⟩
    · exact o.sb b h
    · exact (o.rb id b h).1
  · obtain ⟨h1, h2⟩ := hrs id b h
    exact ⟨(o.rb id b h2).1, by simp [Vw.trunc]; omega⟩
  · obtain ⟨h1, h2⟩ := hrs id b hr
    have hv1 := (verOf_take hv).2
    rcases hS with h | ⟨id', v', hn, hv', hr'⟩
    · exact o.sep id b v hv1 h2 h
    · have := o.inj id id' b v v' hv1 hv' h2 hr'; omega
  · exact o.inj id id' b v v' (verOf_take hv).2 (verOf_take hv').2 (hrs id b hr).2 (hrs id' b hr').2
  · obtain ⟨h1, h2⟩ := hrs id b hr
    obtain ⟨_, hm'⟩ := take_get hm
    have hbk := o.blk id b k hm' h2
    have hku : blkUnder N 0 k = true := List.all_eq_true.1 hu k (List.mem_of_getElem? hm)
    cases k with
    | box cs =>
      obtain ⟨vs, t, g1, g2, g3⟩ := hbk
      exact ⟨vs, t, g1, reps_under hN g2 hku, g3⟩
    | arr ty sz xs =>
      obtain ⟨g1, g2, g3, g4, vs, g5, g6, g7⟩ := hbk
      refine ⟨g1, g2, g3, g4, vs, g5, g6, reps_under hN g7 ?_⟩
      refine underL_of (fun y hy => ?_)
      obtain ⟨x, hx, hxy⟩ := List.mem_flatMap.1 hy
      obtain ⟨m, hm, rfl⟩ := List.getElem_of_mem hxy
      exact under_cells (underL_mem hku x hx) (List.getElem?_eq_getElem hm)
    | lp env ps a bd st pend =>
      obtain ⟨r, g1, g2, g3, g4, g5, g6, g7, g8⟩ := hbk
      exact ⟨r, g1, g2, g3, g4, g5, g6, g7, fun t => under_rep hN (g8 t) (under_mono (Nat.le_of_lt h1) (g7 t))⟩
    | mp ks vs =>
      simp only [blkUnder, Bool.and_eq_true] at hku
      obtain ⟨es, cl, g1, g2, g3⟩ := hbk
      exact ⟨es, cl, g1, reps_under hN g2 hku.1, reps_under hN g3 hku.2⟩
    | vec ty sz xs =>
      obtain ⟨g0, g1, g2, g3, g4, vs, g5, g6, g7⟩ := hbk
      refine ⟨g0, g1, g2, g3, g4, vs, g5, g6, reps_under hN g7 ?_⟩
      refine underL_of (fun y hy => ?_)
      obtain ⟨x, hx, hxy⟩ := List.mem_flatMap.1 hy
      obtain ⟨m, hm, rfl⟩ := List.getElem_of_mem hxy
      exact under_cells (underL_mem hku x hx) (List.getElem?_eq_getElem hm)
    | dead => trivial
  · exact {
      os := e.os
      tape := e.tape
      output := e.output
      size := e.size
      frame := e.frame
      stab := e.stab
      sm := fun b h => .inl (e.sm b h)
      sn := fun b h => by
        rcases h with h | ⟨id, v, _, _, h⟩
        · exact e.sn b h
        · rcases e.rn id b h with h | h
          · exact .inr (.inl h)
          · exact .inr (.inr h)
      len := by simp [Vw.trunc]; omega
      ver := fun id hid v' h => by
        obtain ⟨v0, g0, g1, g2⟩ := e.ver id hid v' (verOf_take h).2
        refine ⟨v0, g0, g1, fun he => ⟨?_, (g2 he).2.1, ?_⟩⟩
        · simp only [Vw.trunc, if_pos (show id < N by omega)]
          exact (g2 he).1
        · rw [← (g2 he).2.2]; exact isVec_take (by omega)
      rn := fun id b h => e.rn id b (hrs id b h).2
      nn := fun id hid h hvc => by
        obtain ⟨h1, h2⟩ := e.nn id hid h hvc
        have hlt : id < N := by omega
        refine ⟨by simp only [Vw.trunc, if_pos hlt]; exact h1, ?_⟩
        simp only [Vw.trunc, List.getElem?_take_of_lt hlt]
        exact h2 }
theorem retrunc_ok {V0 V : Vw} (o : Ok V) (e : Ext V0 V) {r r' : AV} {v : Value} {m' : Mem} (hr : Rep V r v) (h : retrunc V0.mem.length (r, V.mem) = some (r', m')) :
    ∃ V', V'.w = V.w ∧ V'.mem = m' ∧ Ok V' ∧ Ext V0 V' ∧ Rep V' r' v := by
  unfold retrunc at h
  split at h
  case isFalse => cases h
  rename_i hu
  obtain ⟨ot, et⟩ := trunc_ok o e rfl hu
  split at h
  · rename_i hru
    cases h
    exact ⟨V.trunc V0.mem.length, rfl, rfl, ot, et, under_rep e.len hr hru⟩
  · split at h
    · rename_i hids
      obtain ⟨x, hx, he⟩ := Option.map_eq_some_iff.1 h
      cases he
      refine ⟨V.trunc V0.mem.length, rfl, rfl, ot, et, fz_rep (U := V.trunc V0.mem.length) o rfl (fun b hb => .inl hb) 6 hr hx (fun id hid b hb => ?_)⟩
      obtain ⟨v', hv'⟩ := fz_live hx id hid
      have := List.all_eq_true.1 hids id hid
      exact .inr ⟨id, v', by simpa using this, hv', hb⟩
    · cases h
/-! ### Handles renamed -/
theorem renL_get {g : Nat → Option Nat} : ∀ {xs ys : List AV}, renL g xs = some ys → ys.length = xs.length ∧ ∀ (j : Nat) (y : AV), ys[j]? = some y → ∃ x, xs[j]? = some x ∧ ren g x = some y
  | [], ys, h => by simp [renL] at h; subst h; exact ⟨rfl, fun j y hy => by simp at hy⟩
  | x :: xs, ys, h => by
    simp only [renL] at h
    cases hx : ren g x with
    | none => simp [hx] at h
    | some y =>
      cases hl : renL g xs with
      | none => simp [hx, hl] at h
      | some zs =>
        simp [hx, hl] at h
        subst h
        obtain ⟨h1, h2⟩ := renL_get hl
        refine ⟨by simp [h1], fun j q hq => ?_⟩
        cases j with
        | zero => simp at hq; subst hq; exact ⟨x, rfl, hx⟩
        | succ j => simp at hq; obtain ⟨p, hp, hr⟩ := h2 j q hq; exact ⟨p, by simpa using hp, hr⟩
theorem renL_mk {g : Nat → Option Nat} : ∀ {xs ys : List AV}, ys.length = xs.length → (∀ (j : Nat) (x : AV), xs[j]? = some x → ∃ y, ys[j]? = some y ∧ ren g x = some y) → renL g xs = some ys
  | [], ys, hl, _ => by
    have : ys = [] := List.eq_nil_of_length_eq_zero hl
    subst this; rfl
  | x :: xs, [], hl, _ => by simp at hl
  | x :: xs, y :: ys, hl, h => by
    obtain ⟨y', hy, hr⟩ := h 0 x rfl
    simp at hy; subst hy
    have := renL_mk (g := g) (xs := xs) (ys := ys) (by simpa using hl) (fun j p hp => by
      obtain ⟨q, hq, hr⟩ := h (j + 1) p (by simpa using hp)
      exact ⟨q, by simpa using hq, hr⟩)
    simp [renL, hr, this]
theorem renL_app {g : Nat → Option Nat} {xs xs' ys ys' : List AV} (h : renL g xs = some ys) (h' : renL g xs' = some ys') : renL g (xs ++ xs') = some (ys ++ ys') := by
  obtain ⟨a1, a2⟩ := renL_get h
  obtain ⟨b1, b2⟩ := renL_get h'
  refine renL_mk (by simp [a1, b1]) (fun j x hx => ?_)
  by_cases hj : j < xs.length
  · rw [List.getElem?_append_left hj] at hx
    have hjy : j < ys.length := by omega
    obtain ⟨p, hp, hr⟩ := a2 j _ (List.getElem?_eq_getElem hjy)
    rw [hx] at hp; cases hp
    exact ⟨_, by rw [List.getElem?_append_left hjy, List.getElem?_eq_getElem hjy], hr⟩
  · rw [List.getElem?_append_right (by omega)] at hx
    have hlt := (List.getElem?_eq_some_iff.1 hx).1
    have hjy : j - ys.length < ys'.length := by omega
    obtain ⟨p, hp, hr⟩ := b2 (j - ys.length) _ (List.getElem?_eq_getElem hjy)
    rw [show j - ys.length = j - xs.length from by omega, hx] at hp; cases hp
    exact ⟨_, by rw [List.getElem?_append_right (by omega), List.getElem?_eq_getElem hjy], hr⟩
theorem ren_leaf {g : Nat → Option Nat} {x y : AV} (h : ren g x = some y) : y.leaf = x.leaf := by
  cases x <;> simp only [ren] at h <;> first
    | (obtain ⟨_, _, rfl⟩ := Option.map_eq_some_iff.1 h; rfl)
    | (cases h; rfl)
    | (split at h <;> first | (cases h; rfl) | cases h)
theorem ren_cells {g : Nat → Option Nat} {x y : AV} (h : ren g x = some y) : renL g x.cells = some y.cells := by
  by_cases hx : ∃ xs, x = .agg xs
  · obtain ⟨xs, rfl⟩ := hx
    simp only [ren] at h
    obtain ⟨ys, hy, rfl⟩ := Option.map_eq_some_iff.1 h
    exact hy
  · have h1 : x.cells = [x] := by cases x <;> first | rfl | exact absurd ⟨_, rfl⟩ hx
    have h2 : y.cells = [y] := by
      cases x <;> simp only [ren] at h <;> first
        | (exact absurd ⟨_, rfl⟩ hx)
        | (obtain ⟨_, _, rfl⟩ := Option.map_eq_some_iff.1 h; rfl)
        | (cases h; rfl)
        | (split at h <;> first | (cases h; rfl) | cases h)
    rw [h1, h2]
    simp [renL, h]
theorem ren_flatC {g : Nat → Option Nat} : ∀ {xs ys : List AV}, renL g xs = some ys → renL g (flatC xs) = some (flatC ys)
  | [], ys, h => by simp [renL] at h; subst h; rfl
  | x :: xs, ys, h => by
    simp only [renL] at h
    cases hx : ren g x with
    | none => simp [hx] at h
    | some y =>
      cases hl : renL g xs with
      | none => simp [hx, hl] at h
      | some zs =>
        simp [hx, hl] at h
        subst h
        exact renL_app (ren_cells hx) (ren_flatC hl)
theorem renB_shp {g : Nat → Option Nat} {k k' : Blk} (h : renB g k = some k') : shpB k' = shpB k ∧ isVecB k' = isVecB k := by
  cases k <;> simp only [renB] at h
  · obtain ⟨ys, hy, rfl⟩ := Option.map_eq_some_iff.1 h; simp [shpB, isVecB, (renL_get hy).1]
  · obtain ⟨ys, hy, rfl⟩ := Option.map_eq_some_iff.1 h; simp [shpB, isVecB, (renL_get hy).1]
  · split at h
    · cases h; exact ⟨rfl, rfl⟩
    · cases h
  · obtain ⟨ys, hy, rfl⟩ := Option.map_eq_some_iff.1 h; simp [shpB, isVecB, (renL_get hy).1]
  · cases h
  · cases h; exact ⟨rfl, rfl⟩

mutual
theorem ren_inv {g h : Nat → Option Nat} (H : ∀ i j, g i = some j → h j = some i) : ∀ {x y : AV}, ren g x = some y → ren h y = some x
  | .agg xs, y, e => by
    simp only [ren] at e
    obtain ⟨ys, hy, rfl⟩ := Option.map_eq_some_iff.1 e
    simp [ren, renL_inv H hy]
  | .tup xs, y, e => by
    simp only [ren] at e
    obtain ⟨ys, hy, rfl⟩ := Option.map_eq_some_iff.1 e
    simp [ren, renL_inv H hy]
  | .seq z fl sz xs, y, e => by
    simp only [ren] at e
    obtain ⟨ys, hy, rfl⟩ := Option.map_eq_some_iff.1 e
    simp [ren, renL_inv H hy]
  | .rptr xs, y, e => by
    simp only [ren] at e
    obtain ⟨ys, hy, rfl⟩ := Option.map_eq_some_iff.1 e
    simp [ren, renL_inv H hy]
  | .fn f a b, y, e => by
    simp only [ren] at e
    split at e
    · rename_i a' b' ha hb
      cases e
      simp [ren, renL_inv H ha, renL_inv H hb]
    · cases e
  | .smap a b, y, e => by
    simp only [ren] at e
    split at e
    · rename_i a' b' ha hb
      cases e
      simp [ren, renL_inv H ha, renL_inv H hb]
    · cases e
  | .own id v, y, e => by
    simp only [ren] at e
    obtain ⟨j, hj, rfl⟩ := Option.map_eq_some_iff.1 e
    simp [ren, H _ _ hj]
  | .ptr id v o, y, e => by
    simp only [ren] at e
    obtain ⟨j, hj, rfl⟩ := Option.map_eq_some_iff.1 e
    simp [ren, H _ _ hj]
  | .aptr id v sz i f, y, e => by
    simp only [ren] at e
    obtain ⟨j, hj, rfl⟩ := Option.map_eq_some_iff.1 e
    simp [ren, H _ _ hj]
  | .yld id, y, e => by
    simp only [ren] at e
    obtain ⟨j, hj, rfl⟩ := Option.map_eq_some_iff.1 e
    simp [ren, H _ _ hj]
  | .mp id, y, e => by
    simp only [ren] at e
    obtain ⟨j, hj, rfl⟩ := Option.map_eq_some_iff.1 e
    simp [ren, H _ _ hj]
  | .int k n, y, e => by cases e; rfl
  | .bool b, y, e => by cases e; rfl
  | .str s, y, e => by cases e; rfl
  | .nilptr, y, e => by cases e; rfl
  | .nilfn, y, e => by cases e; rfl
  | .nilmp, y, e => by cases e; rfl
  | .junk, y, e => by cases e; rfl
theorem renL_inv {g h : Nat → Option Nat} (H : ∀ i j, g i = some j → h j = some i) : ∀ {xs ys : List AV}, renL g xs = some ys → renL h ys = some xs
  | [], ys, e => by simp [renL] at e; subst e; rfl
  | x :: xs, ys, e => by
    simp only [renL] at e
    split at e
    · rename_i y zs hx hl
      cases e
      simp [renL, ren_inv H hx, renL_inv H hl]
    · cases e
end
theorem renB_inv {g h : Nat → Option Nat} (H : ∀ i j, g i = some j → h j = some i) {k k' : Blk} (e : renB g k = some k') : renB h k' = some k := by
  cases k <;> simp only [renB] at e
  · obtain ⟨ys, hy, rfl⟩ := Option.map_eq_some_iff.1 e; simp [renB, renL_inv H hy]
  · obtain ⟨ys, hy, rfl⟩ := Option.map_eq_some_iff.1 e; simp [renB, renL_inv H hy]
  · split at e
    · rename_i a b ha hb
      cases e; simp [renB, renL_inv H ha, renL_inv H hb]
    · cases e
  · obtain ⟨ys, hy, rfl⟩ := Option.map_eq_some_iff.1 e; simp [renB, renL_inv H hy]
  · cases e
  · cases e; rfl

/-- From one view to another by other names. -/
structure Rn (A B : Vw) (g : Nat → Option Nat) : Prop where
  w : B.w = A.w
  S : ∀ b, A.S b → B.S b
  pt : ∀ i j, g i = some j → j < B.mem.length ∧ verOf B.mem j = verOf A.mem i ∧ B.rs j = A.rs i ∧ B.cp j = A.cp i ∧ isVec B.mem j = isVec A.mem i
theorem Rn.hd {A B : Vw} {g : Nat → Option Nat} (r : Rn A B g) {i j v : Nat} (h : g i = some j) (hd : A.hd i v) : B.hd j v := by
  obtain ⟨h1, h2, _⟩ := r.pt i j h
  exact ⟨h1, fun v0 h0 => hd.2 v0 (by rw [← h2]; exact h0)⟩
theorem ren_rep {A B : Vw} {g : Nat → Option Nat} (r : Rn A B g) {x : AV} {v : Value} (h : Rep A x v) : ∀ {y : AV}, ren g x = some y → Rep B y v := by
  induction h with
  | int k n => intro y h; cases h; exact .int k n
  | bool b => intro y h; cases h; exact .bool b
  | str s => intro y h; cases h; exact .str s
  | agg xs cs h hl _ ih =>
    intro y hq0
    simp only [ren] at hq0
    obtain ⟨ys, hy, rfl⟩ := Option.map_eq_some_iff.1 hq0
    obtain ⟨h1, h2⟩ := renL_get hy
    refine .agg ys cs (by omega) (fun q hq => ?_) (fun j q c hq hc => ?_)
    · obtain ⟨j, hj, rfl⟩ := List.getElem_of_mem hq
      obtain ⟨p, hp, hr⟩ := h2 j _ (List.getElem?_eq_getElem hj)
      rw [ren_leaf hr]; exact hl p (mem_of_get hp)
    · obtain ⟨p, hp, hr⟩ := h2 j q hq
      exact ih j p c hp hc hr
  | tup xs cs h _ ih =>
    intro y hq0
    simp only [ren] at hq0
    obtain ⟨ys, hy, rfl⟩ := Option.map_eq_some_iff.1 hq0
    obtain ⟨h1, h2⟩ := renL_get hy
    refine .tup ys cs (by omega) (fun j q c hq hc => ?_)
    obtain ⟨p, hp, hr⟩ := h2 j q hq
    exact ih j p c hp hc hr
  | seqNil full sz =>
    intro y hy
    simp [ren, renL] at hy
    subst hy
    exact .seqNil _ _
  | seq full sz xs ad c us hc hf hS h0 hsz hu _ ih =>
    intro y hq0
    simp only [ren] at hq0
    obtain ⟨ys, hy, rfl⟩ := Option.map_eq_some_iff.1 hq0
    obtain ⟨h1, h2⟩ := renL_get hy
    have hne : ys ≠ [] → xs ≠ [] := fun h e => h (List.eq_nil_of_length_eq_zero (by rw [h1, e]; rfl))
    have cel : ∀ (j : Nat) (q : AV) (m : Nat) (z : AV), ys[j]? = some q → q.cells[m]? = some z → ∃ p z', xs[j]? = some p ∧ p.cells[m]? = some z' ∧ ren g z' = some z := by
      intro j q m z hq hz
      obtain ⟨p, hp, hr⟩ := h2 j q hq
      obtain ⟨z', hz', hrz⟩ := (renL_get (ren_cells hr)).2 m z hz
      exact ⟨p, z', hp, hz', hrz⟩
    rw [← h1] at hc hf ⊢
    refine .seq full sz ys ad c us hc hf (fun h => r.S _ (hS (hne h))) (fun h => h0 (hne h)) (fun q hq => ?_) (fun j q m z hq hz => ?_) (fun j q m z hq hz => ?_)
    · obtain ⟨j, hj, rfl⟩ := List.getElem_of_mem hq
      obtain ⟨p, hp, hr⟩ := h2 j _ (List.getElem?_eq_getElem hj)
      obtain ⟨e1, e2⟩ := hsz p (mem_of_get hp)
      obtain ⟨k1, k2⟩ := renL_get (ren_cells hr)
      refine ⟨k1.trans e1, fun z hz => ?_⟩
      obtain ⟨m, hm, rfl⟩ := List.getElem_of_mem hz
      obtain ⟨z', hz', hrz⟩ := k2 m _ (List.getElem?_eq_getElem hm)
      rw [ren_leaf hrz]; exact e2 z' (mem_of_get hz')
    · obtain ⟨p, z', hp, hz', _⟩ := cel j q m z hq hz
      rw [r.w]; exact hu j p m z' hp hz'
    · obtain ⟨p, z', hp, hz', hrz⟩ := cel j q m z hq hz
      exact ih j p m z' hp hz' hrz
  | own id ver v h1 h hv =>
    intro y hq0
    simp only [ren] at hq0
    obtain ⟨j, hj, rfl⟩ := Option.map_eq_some_iff.1 hq0
    obtain ⟨g1, g2, g3, g4, g5⟩ := r.pt id j hj
    refine .own j ver v h1 (r.hd hj h) (fun hv' => ?_)
    rw [g2] at hv'
    rcases hv hv' with ⟨b, hb, he⟩ | ⟨hb, k1, k2, k3⟩
    · exact .inl ⟨b, g3.trans hb, by rw [g4]; exact he⟩
    · exact .inr ⟨g3.trans hb, k1, k2, g5.trans k3⟩
  | ptr id ver off v h1 h hv =>
    intro y hq0
    simp only [ren] at hq0
    obtain ⟨j, hj, rfl⟩ := Option.map_eq_some_iff.1 hq0
    obtain ⟨g1, g2, g3, g4, g5⟩ := r.pt id j hj
    refine .ptr j ver off v h1 (r.hd hj h) (fun hv' => ?_)
    rw [g2] at hv'
    obtain ⟨b, hb, he⟩ := hv hv'
    exact ⟨b, g3.trans hb, he⟩
  | aptr id ver sz i f v h1 h hv =>
    intro y hq0
    simp only [ren] at hq0
    obtain ⟨j, hj, rfl⟩ := Option.map_eq_some_iff.1 hq0
    obtain ⟨g1, g2, g3, g4, g5⟩ := r.pt id j hj
    refine .aptr j ver sz i f v h1 (r.hd hj h) (fun hv' => ?_)
    rw [g2] at hv'
    obtain ⟨b, hb, he⟩ := hv hv'
    exact ⟨b, g3.trans hb, he⟩
  | rptr xs ad us h0 hl hS hu _ ih =>
    intro y hq0
    simp only [ren] at hq0
    obtain ⟨ys, hy, rfl⟩ := Option.map_eq_some_iff.1 hq0
    obtain ⟨h1, h2⟩ := renL_get hy
    refine .rptr ys ad us (fun e => h0 (List.eq_nil_of_length_eq_zero (by rw [← h1, e]; rfl))) (fun q hq => ?_) (r.S _ hS) (fun m q hq => ?_) (fun m q hq => ?_)
    · obtain ⟨j, hj, rfl⟩ := List.getElem_of_mem hq
      obtain ⟨p, hp, hr⟩ := h2 j _ (List.getElem?_eq_getElem hj)
      rw [ren_leaf hr]; exact hl p (mem_of_get hp)
    · obtain ⟨p, hp, _⟩ := h2 m q hq
      rw [r.w]; exact hu m p hp
    · obtain ⟨p, hp, hr⟩ := h2 m q hq
      exact ih m p hp hr
  | nilptr => intro y h; cases h; exact .nilptr
  | fn f xs ys fs cs h h' _ _ ih ih' =>
    intro y hq0
    simp only [ren] at hq0
    split at hq0
    · rename_i a b ha hb
      cases hq0
      obtain ⟨a1, a2⟩ := renL_get ha
      obtain ⟨b1, b2⟩ := renL_get hb
      refine .fn f a b fs cs (by omega) (by omega) (fun j q c hq hc => ?_) (fun j q c hq hc => ?_)
      · obtain ⟨p, hp, hr⟩ := a2 j q hq; exact ih j p c hp hc hr
      · obtain ⟨p, hp, hr⟩ := b2 j q hq; exact ih' j p c hp hc hr
    · cases hq0
  | nilfn => intro y h; cases h; exact .nilfn
  | yld id v h1 h hv =>
    intro y hq0
    simp only [ren] at hq0
    obtain ⟨j, hj, rfl⟩ := Option.map_eq_some_iff.1 hq0
    obtain ⟨g1, g2, g3, g4, g5⟩ := r.pt id j hj
    refine .yld j v h1 (r.hd hj h) (fun hv' => ?_)
    rw [g2] at hv'
    obtain ⟨b, hb, he⟩ := hv hv'
    exact ⟨b, g3.trans hb, he⟩
  | mp id v h1 h hv =>
    intro y hq0
    simp only [ren] at hq0
    obtain ⟨j, hj, rfl⟩ := Option.map_eq_some_iff.1 hq0
    obtain ⟨g1, g2, g3, g4, g5⟩ := r.pt id j hj
    refine .mp j v h1 (r.hd hj h) (fun hv' => ?_)
    rw [g2] at hv'
    obtain ⟨b, hb, he⟩ := hv hv'
    exact ⟨b, g3.trans hb, he⟩
  | nilmp => intro y h; cases h; exact .nilmp
  | smap ks vs b es cl hS hb h1 h2 _ _ ih ih' =>
    intro y hq0
    simp only [ren] at hq0
    split at hq0
    · rename_i a b' ha hb'
      cases hq0
      obtain ⟨a1, a2⟩ := renL_get ha
      obtain ⟨b1, b2⟩ := renL_get hb'
      refine .smap a b' b es cl (r.S _ hS) (by rw [r.w]; exact hb) (by omega) (by omega) (fun j q c hq hc => ?_) (fun j q c hq hc => ?_)
      · obtain ⟨p, hp, hr⟩ := a2 j q hq; exact ih j p c hp hc hr
      · obtain ⟨p, hp, hr⟩ := b2 j q hq; exact ih' j p c hp hc hr
    · cases hq0
  | junk v => intro y h; cases h; exact .junk v
theorem ren_reps {A B : Vw} {g : Nat → Option Nat} (r : Rn A B g) {xs ys : List AV} {us : List Value} (h : Reps A xs us) (hy : renL g xs = some ys) : Reps B ys us := by
  obtain ⟨h1, h2⟩ := renL_get hy
  refine ⟨by rw [h.1, h1], fun j q c hq hc => ?_⟩
  obtain ⟨p, hp, hr⟩ := h2 j q hq
  exact ren_rep r (h.2 j p c hp hc) hr
theorem ren_wide {g : Nat → Option Nat} {xs ys : List AV} {sz : Nat} (hy : renL g xs = some ys) (h : ∀ x ∈ xs, wide x sz) : ∀ y ∈ ys, wide y sz := by
  intro q hq
  obtain ⟨j, hj, rfl⟩ := List.getElem_of_mem hq
  obtain ⟨p, hp, hr⟩ := (renL_get hy).2 j _ (List.getElem?_eq_getElem hj)
  obtain ⟨e1, e2⟩ := h p (mem_of_get hp)
  obtain ⟨k1, k2⟩ := renL_get (ren_cells hr)
  refine ⟨k1.trans e1, fun z hz => ?_⟩
  obtain ⟨m, hm, rfl⟩ := List.getElem_of_mem hz
  obtain ⟨z', hz', hrz⟩ := k2 m _ (List.getElem?_eq_getElem hm)
  rw [ren_leaf hrz]; exact e2 z' (mem_of_get hz')
theorem ren_blk {A B : Vw} {g : Nat → Option Nat} (r : Rn A B g) {i j b : Nat} {k k' : Blk} (h : BlkOk A i b k) (hk : renB g k = some k') (hc : B.cp j = A.cp i) : BlkOk B j b k' := by
  cases k <;> simp only [renB] at hk
  · obtain ⟨ys, hy, rfl⟩ := Option.map_eq_some_iff.1 hk
    obtain ⟨vs, t, h1, h2, h3⟩ := h
    refine ⟨vs, t, by rw [r.w]; exact h1, ren_reps r h2 hy, fun q hq => ?_⟩
    obtain ⟨m, hm, rfl⟩ := List.getElem_of_mem hq
    obtain ⟨p, hp, hr⟩ := (renL_get hy).2 m _ (List.getElem?_eq_getElem hm)
    rw [ren_leaf hr]; exact h3 p (mem_of_get hp)
  · obtain ⟨ys, hy, rfl⟩ := Option.map_eq_some_iff.1 hk
    obtain ⟨h1, h2, h3, h4, vs, h5, h6, h7⟩ := h
    have hl := (renL_get hy).1
    exact ⟨h1, by rw [hc, hl]; exact h2, by rw [hc]; exact h3, ren_wide hy h4, vs, by rw [r.w]; exact h5, by rw [hc]; exact h6, by rw [hl]; exact ren_reps r h7 (ren_flatC hy)⟩
  · split at hk
    · rename_i a b' ha hb
      cases hk
      obtain ⟨es, cl, h1, h2, h3⟩ := h
      exact ⟨es, cl, by rw [r.w]; exact h1, ren_reps r h2 ha, ren_reps r h3 hb⟩
    · cases hk
  · obtain ⟨ys, hy, rfl⟩ := Option.map_eq_some_iff.1 hk
    obtain ⟨h0, h1, h2, h3, h4, vs, h5, h6, h7⟩ := h
    have hl := (renL_get hy).1
    exact ⟨fun e => h0 (List.eq_nil_of_length_eq_zero (by rw [← hl, e]; rfl)), h1, by rw [hc, hl]; exact h2, by rw [hc]; exact h3, ren_wide hy h4, vs, by rw [r.w]; exact h5, by rw [hc]; exact h6, by rw [hl]; exact ren_reps r h7 (ren_flatC hy)⟩
  · cases hk
  · cases hk; trivial

theorem idxA_some : ∀ {l : List Nat} {id i j : Nat}, idxA l id i = some j → i ≤ j ∧ l[j - i]? = some id
  | [], id, i, j, h => by simp [idxA] at h
  | a :: l, id, i, j, h => by
    unfold idxA at h
    split at h
    · rename_i he
      have := Nat.eq_of_beq_eq_true he
      subst this
      cases h; exact ⟨Nat.le_refl _, by simp⟩
    · obtain ⟨h1, h2⟩ := idxA_some h
      refine ⟨by omega, ?_⟩
      rw [show j - i = (j - (i + 1)) + 1 from by omega]
      simpa using h2
theorem idxA_of : ∀ {l : List Nat} {id i j : Nat}, nodupB l = true → l[j]? = some id → idxA l id i = some (i + j)
  | [], id, i, j, _, h => by simp at h
  | a :: l, id, i, j, hn, h => by
    simp only [nodupB, Bool.and_eq_true, Bool.not_eq_true'] at hn
    unfold idxA
    cases j with
    | zero => simp at h; subst h; simp
    | succ j =>
      simp at h
      have hne : Nat.beq a id = false := by
        cases hq : Nat.beq a id with
        | false => rfl
        | true =>
          have := Nat.eq_of_beq_eq_true hq
          subst this
          have : l.contains a = true := by simp only [List.contains_eq_mem, decide_eq_true_eq]; exact List.mem_of_getElem? h
          rw [this] at hn; simp at hn
      rw [hne]
      rw [idxA_of hn.2 h]; simp; omega
theorem memOf_get {m : Mem} {g : Nat → Option Nat} : ∀ {ids : List Nat} {M : Mem}, memOf m g ids = some M → M.length = ids.length ∧ ∀ (j id : Nat), ids[j]? = some id → ∃ k k', m[id]? = some k ∧ renB g k = some k' ∧ M[j]? = some k'
  | [], M, h => by simp [memOf] at h; subst h; exact ⟨rfl, fun j id h => by simp at h⟩
  | a :: ids, M, h => by
    simp only [memOf] at h
    split at h
    · rename_i k ks h1 h2
      cases h
      obtain ⟨g1, g2⟩ := memOf_get h2
      refine ⟨by simp [g1], fun j id hj => ?_⟩
      cases j with
      | zero =>
        simp at hj; subst hj
        obtain ⟨k0, hk0, hr⟩ := Option.bind_eq_some_iff.1 h1
        exact ⟨k0, k, hk0, hr, rfl⟩
      | succ j => simp at hj; obtain ⟨k0, k', q1, q2, q3⟩ := g2 j id hj; exact ⟨k0, k', q1, q2, by simpa using q3⟩
    · cases h
theorem putM_get {h : Nat → Option Nat} : ∀ {ids : List Nat} {m m' ks : Mem}, nodupB ids = true → (∀ id ∈ ids, id < m.length) → putM h m ids ks = some m' → m'.length = m.length ∧ ks.length = ids.length ∧ (∀ id, id ∉ ids → m'[id]? = m[id]?) ∧
    ∀ (j id : Nat), ids[j]? = some id → ∃ k k', ks[j]? = some k ∧ renB h k = some k' ∧ m'[id]? = some k'
  | [], m, m', [], _, _, hp => by simp [putM] at hp; subst hp; exact ⟨rfl, rfl, fun _ _ => rfl, fun j id hj => by simp at hj⟩
  | [], m, m', _ :: _, _, _, hp => by simp [putM] at hp
  | _ :: _, m, m', [], _, _, hp => by simp [putM] at hp
  | a :: ids, m, m', k :: ks, hn, hlt, hp => by
    simp only [nodupB, Bool.and_eq_true, Bool.not_eq_true'] at hn
    have hna : a ∉ ids := fun hin => by
      have : ids.contains a = true := by simpa using hin
      rw [this] at hn; simp at hn
    simp only [putM] at hp
    split at hp
    · rename_i k' hk
      obtain ⟨g1, g2, g3, g4⟩ := putM_get (m := m.set a k') hn.2 (fun id hid => by simpa using hlt id (List.mem_cons_of_mem _ hid)) hp
      refine ⟨by simpa using g1, by simp [g2], fun id hid => ?_, fun j id hj => ?_⟩
      · rw [g3 id (fun h => hid (List.mem_cons_of_mem _ h)), List.getElem?_set_ne (fun e => hid (by simp [e]))]
      · cases j with
        | zero =>
          simp at hj; subst hj
          exact ⟨k, k', rfl, hk, by rw [g3 a hna, List.getElem?_set_self (hlt a (by simp))]⟩
        | succ j => simp at hj; obtain ⟨q, q', e1, e2, e3⟩ := g4 j id hj; exact ⟨q, q', by simpa using e1, e2, e3⟩
    · cases hp
theorem nodup_inj : ∀ {l : List Nat} {i j a : Nat}, nodupB l = true → l[i]? = some a → l[j]? = some a → i = j := by
  intro l i j a hn hi hj
  have h1 := idxA_of (i := 0) hn hi
  have h2 := idxA_of (i := 0) hn hj
  rw [h1] at h2
  simp at h2; exact h2

/-! ### A view of some blocks -/
def Vw.sub (V : Vw) (ids : List Nat) (M : Mem) : Vw := { w := V.w, S := V.S, rs := fun j => (ids[j]?).bind V.rs, cp := fun j => V.cp (ids.getD j 0), mem := M }
theorem sub_rn {V : Vw} {ids : List Nat} {M : Mem} (hM : memOf V.mem (fun id => idxA ids id 0) ids = some M) : Rn V (V.sub ids M) (fun id => idxA ids id 0) where
  w := rfl
  S := fun _ h => h
  pt := fun i j h => by
    obtain ⟨_, h2⟩ := idxA_some h
    rw [Nat.sub_zero] at h2
    obtain ⟨g1, g2⟩ := memOf_get hM
    obtain ⟨k, k', q1, q2, q3⟩ := g2 j i h2
    obtain ⟨e1, e2⟩ := renB_shp q2
    refine ⟨(List.getElem?_eq_some_iff.1 q3).1, ?_, ?_, ?_, ?_⟩
    · show verOf M j = _
      rw [verOf_some q3, verOf_some q1, e1]
    · simp [Vw.sub, h2]
    · simp [Vw.sub, List.getD_eq_getElem?_getD, h2]
    · show isVec M j = _
      rw [isVec_some q3, isVec_some q1, e2]
theorem sub_ok {V : Vw} (o : Ok V) {ids : List Nat} {M : Mem} (hn : nodupB ids = true) (hM : memOf V.mem (fun id => idxA ids id 0) ids = some M) : Ok (V.sub ids M) := by
  have rn := sub_rn hM
  obtain ⟨g1, g2⟩ := memOf_get hM
  have hrs : ∀ j b, (V.sub ids M).rs j = some b → ∃ id, ids[j]? = some id ∧ V.rs id = some b := fun j b h => Option.bind_eq_some_iff.1 h
  have hid : ∀ {j id}, ids[j]? = some id → idxA ids id 0 = some j := fun h => by rw [idxA_of hn h]; simp
  refine ⟨o.sb, fun j b h => ?_, fun j b v hv hr => ?_, fun j j' b v v' hv hv' hr hr' => ?_, fun j b k hm hr => ?_⟩
  · obtain ⟨id, h1, h2⟩ := hrs j b h
    exact ⟨(o.rb id b h2).1, (rn.pt id j (hid h1)).1⟩
  · obtain ⟨id, h1, h2⟩ := hrs j b hr
    exact o.sep id b v (by rw [← (rn.pt id j (hid h1)).2.1]; exact hv) h2
  · obtain ⟨id, h1, h2⟩ := hrs j b hr
    obtain ⟨id', h1', h2'⟩ := hrs j' b hr'
    have := o.inj id id' b v v' (by rw [← (rn.pt id j (hid h1)).2.1]; exact hv) (by rw [← (rn.pt id' j' (hid h1')).2.1]; exact hv') h2 h2'
    subst this
    exact nodup_inj hn h1 h1'
  · obtain ⟨id, h1, h2⟩ := hrs j b hr
    obtain ⟨k0, k', q1, q2, q3⟩ := g2 j id h1
    have hm : M[j]? = some k := hm
    rw [hm] at q3; cases q3
    exact ren_blk rn (o.blk id b k0 q1 h2) q2 (rn.pt id j (hid h1)).2.2.2.1

/-! ### And back -/
def Vw.merge (V U : Vw) (ids : List Nat) (m : Mem) : Vw :=
  { w := U.w, S := U.S, rs := fun id => match idxA ids id 0 with | some j => U.rs j | none => V.rs id, cp := fun id => match idxA ids id 0 with | some j => U.cp j | none => V.cp id, mem := m }
theorem merge_ok {V U : Vw} (o : Ok V) (oU : Ok U) {ids : List Nat} {M m' : Mem} (hn : nodupB ids = true) (hlive : ∀ id ∈ ids, ∃ v, verOf V.mem id = some v) (hM : memOf V.mem (fun id => idxA ids id 0) ids = some M)
    (e : Ext (V.sub ids M) U) (hp : putM (fun j => ids[j]?) V.mem ids U.mem = some m') : Ok (V.merge U ids m') ∧ Ext V (V.merge U ids m') ∧ Rn U (V.merge U ids m') (fun j => ids[j]?) := by
  have rn := sub_rn hM
  have hid : ∀ {j id}, ids[j]? = some id → idxA ids id 0 = some j := fun h => by rw [idxA_of hn h]; simp
  have hdi : ∀ {j id}, idxA ids id 0 = some j → ids[j]? = some id := fun h => by simpa using (idxA_some h).2
  have hno : ∀ {id}, idxA ids id 0 = none → id ∉ ids := fun h hin => by
    obtain ⟨j, hj, rfl⟩ := List.getElem_of_mem hin
    rw [hid (List.getElem?_eq_getElem hj)] at h; cases h
  have hlt : ∀ id ∈ ids, id < V.mem.length := fun id h => by obtain ⟨v, hv⟩ := hlive id h; exact verOf_lt hv
  obtain ⟨p1, p2, p3, p4⟩ := putM_get hn hlt hp
  have rU : Rn U (V.merge U ids m') (fun j => ids[j]?) := {
    w := rfl
    S := fun _ h => h
    pt := fun j id h => by
      have h : ids[j]? = some id := h
      obtain ⟨k, k', q1, q2, q3⟩ := p4 j id h
      obtain ⟨e1, e2⟩ := renB_shp q2
      refine ⟨(List.getElem?_eq_some_iff.1 q3).1, ?_, ?_, ?_, ?_⟩
      · show verOf m' id = _
        rw [verOf_some q3, verOf_some q1, e1]
      · simp only [Vw.merge, hid h]
      · simp only [Vw.merge, hid h]
      · show isVec m' id = _
        rw [isVec_some q3, isVec_some q1, e2] }
  have hfr : ∀ b, b < V.w.heap.size → (∀ id ∈ ids, V.rs id ≠ some b) → U.w.heap[b]? = V.w.heap[b]? := fun b hb hn' => e.frame b hb (fun j hj => by
    obtain ⟨id, h1, h2⟩ := Option.bind_eq_some_iff.1 hj
    exact hn' id (List.mem_of_getElem? h1) h2)
  have hvn : ∀ {id}, id ∉ ids → verOf m' id = verOf V.mem id := fun h => by unfold verOf shp; rw [p3 _ h]
  have hin : ∀ {id v}, V.rs id = some v → (idxA ids id 0 = none ∨ ∃ j, idxA ids id 0 = some j) := fun {id v} _ => by
    cases idxA ids id 0 with
    | none => exact .inl rfl
    | some j => exact .inr ⟨j, rfl⟩
  have ext : Ext V (V.merge U ids m') := {
    os := e.os
    tape := e.tape
    output := e.output
    size := e.size
    frame := fun b hb hn' => hfr b hb (fun id _ => hn' id)
    stab := e.stab
    sm := e.sm
    sn := fun b h => by
      rcases e.sn b h with h1 | h1 | ⟨j, h1⟩
      · exact .inl h1
      · exact .inr (.inl h1)
      · obtain ⟨id, _, h3⟩ := Option.bind_eq_some_iff.1 h1
        exact .inr (.inr ⟨id, h3⟩)
    len := by simp [Vw.merge, p1]
    ver := fun id hidl v' h => by
      have h : verOf m' id = some v' := h
      cases hx : idxA ids id 0 with
      | none =>
        rw [hvn (hno hx)] at h
        refine ⟨v', h, Nat.le_refl _, fun _ => ⟨by simp only [Vw.merge, hx], by simp only [Vw.merge, hx], ?_⟩⟩
        show isVec m' id = _
        unfold isVec; rw [p3 _ (hno hx)]
      | some j =>
        obtain ⟨r1, r2, r3, r4, r5⟩ := rU.pt j id (hdi hx)
        obtain ⟨s1, s2, s3, s4, s5⟩ := rn.pt id j hx
        have hj : verOf U.mem j = some v' := by rw [← r2]; exact h
        obtain ⟨v0, h0, h1, h2⟩ := e.ver j s1 v' hj
        refine ⟨v0, by rw [← s2]; exact h0, h1, fun he => ⟨?_, ?_, ?_⟩⟩
        · rw [r3, (h2 he).1, s3]
        · rw [r4, (h2 he).2.1, s4]
        · rw [r5, (h2 he).2.2, s5]
    rn := fun id b h => by
      cases hx : idxA ids id 0 with
      | none => simp only [Vw.merge, hx] at h; exact .inr ⟨id, h⟩
      | some j =>
        simp only [Vw.merge, hx] at h
        rcases e.rn j b h with h1 | ⟨j', h1⟩
        · exact .inl h1
        · obtain ⟨id', _, h3⟩ := Option.bind_eq_some_iff.1 h1
          exact .inr ⟨id', h3⟩
    nn := fun id hidl h hvc => by
      cases hx : idxA ids id 0 with
      | none => exact ⟨by simp only [Vw.merge, hx]; exact h, .inl (p3 _ (hno hx))⟩
      | some j =>
        obtain ⟨s1, s2, s3, s4, s5⟩ := rn.pt id j hx
        obtain ⟨r1, r2, r3, r4, r5⟩ := rU.pt j id (hdi hx)
        obtain ⟨n1, n2⟩ := e.nn j s1 (by rw [s3]; exact h) (by rw [s5]; exact hvc)
        refine ⟨by rw [r3]; exact n1, ?_⟩
        obtain ⟨k, k', q1, q2, q3⟩ := p4 j id (hdi hx)
        obtain ⟨k0, k1, t1, t2, t3⟩ := (memOf_get hM).2 j id (hdi hx)
        show m'[id]? = _ ∨ m'[id]? = _
        rw [q3, t1]
        rcases n2 with n2 | n2
        · left
          have : (V.sub ids M).mem[j]? = some k1 := t3
          rw [n2, this] at q1
          cases q1
          have hi := renB_inv (h := fun j => ids[j]?) (fun i j h => hdi h) t2
          rw [hi] at q2; cases q2; rfl
        · right
          rw [n2] at q1
          cases q1
          simp [renB] at q2
          rw [← q2] }
  refine ⟨o.step ext (fun b h => oU.sb b h) (fun id b h => ?_) (fun id b v hv hr => ?_) (fun id id' b v v' hv hv' hr hr' => ?_) (fun id b k hm hr hd => ?_), ext, rU⟩
  · cases hx : idxA ids id 0 with
    | none =>
      simp only [Vw.merge, hx] at h
      have := o.rb id b h
      exact ⟨Nat.lt_of_lt_of_le this.1 e.size, by simp [Vw.merge, p1]; exact this.2⟩
    | some j =>
      simp only [Vw.merge, hx] at h
      exact ⟨(oU.rb j b h).1, (rU.pt j id (hdi hx)).1⟩
  · have hv : verOf m' id = some v := hv
    cases hx : idxA ids id 0 with
    | none =>
      simp only [Vw.merge, hx] at hr
      rw [hvn (hno hx)] at hv
      intro hS
      rcases e.sn b hS with h1 | h1 | ⟨j, h1⟩
      · exact o.sep id b v hv hr h1
      · have := (o.rb id b hr).1; exact absurd h1 (Nat.not_le.2 this)
      · obtain ⟨id', h2, h3⟩ := Option.bind_eq_some_iff.1 h1
        obtain ⟨v', hv'⟩ := hlive id' (List.mem_of_getElem? h2)
        have := o.inj id id' b v v' hv hv' hr h3
        subst this
        exact hno hx (List.mem_of_getElem? h2)
    | some j =>
      simp only [Vw.merge, hx] at hr
      exact oU.sep j b v (by rw [← (rU.pt j id (hdi hx)).2.1]; exact hv) hr
  · have hv : verOf m' id = some v := hv
    have hv' : verOf m' id' = some v' := hv'
    have mix : ∀ {a c : Nat} {va vc : Nat} {j : Nat}, verOf m' a = some va → verOf m' c = some vc → idxA ids a 0 = none → idxA ids c 0 = some j → V.rs a = some b → U.rs j = some b → False := by
      intro a c va vc j ha hc hxa hxc hra hrc
      rw [hvn (hno hxa)] at ha
      rcases e.rn j b hrc with h1 | ⟨j', h1⟩
      · have := (o.rb a b hra).1; exact absurd h1 (Nat.not_le.2 this)
      · obtain ⟨i', h2, h3⟩ := Option.bind_eq_some_iff.1 h1
        obtain ⟨w', hw'⟩ := hlive i' (List.mem_of_getElem? h2)
        have := o.inj a i' b va w' ha hw' hra h3
        subst this
        exact hno hxa (List.mem_of_getElem? h2)
    cases hx : idxA ids id 0 with
    | none =>
      simp only [Vw.merge, hx] at hr
      cases hx' : idxA ids id' 0 with
      | none =>
        simp only [Vw.merge, hx'] at hr'
        rw [hvn (hno hx)] at hv
        rw [hvn (hno hx')] at hv'
        exact o.inj id id' b v v' hv hv' hr hr'
      | some j =>
        simp only [Vw.merge, hx'] at hr'
        exact (mix hv hv' hx hx' hr hr').elim
    | some j =>
      simp only [Vw.merge, hx] at hr
      cases hx' : idxA ids id' 0 with
      | none =>
        simp only [Vw.merge, hx'] at hr'
        exact (mix hv' hv hx' hx hr' hr).elim
      | some j' =>
        simp only [Vw.merge, hx'] at hr'
        have := oU.inj j j' b v v' (by rw [← (rU.pt j id (hdi hx)).2.1]; exact hv) (by rw [← (rU.pt j' id' (hdi hx')).2.1]; exact hv') hr hr'
        subst this
        have h1 := hdi hx
        have h2 := hdi hx'
        rw [h1] at h2; cases h2; rfl
  · have hm : m'[id]? = some k := hm
    cases hx : idxA ids id 0 with
    | none =>
      simp only [Vw.merge, hx] at hr
      rw [p3 _ (hno hx)] at hm
      refine .inl ⟨hm, hr, by simp only [Vw.merge, hx], hfr b (o.rb id b hr).1 (fun i hi hri => ?_)⟩
      obtain ⟨w', hw'⟩ := hlive i hi
      have h1 : verOf V.mem id = (shpB k).map (·.1) := verOf_some hm
      cases hsk : shpB k with
      | none => cases k <;> simp [shpB] at hsk; exact hd rfl
      | some s =>
        have := o.inj id i b s.1 w' (by rw [h1, hsk]; rfl) hw' hr hri
        subst this
        exact hno hx hi
    | some j =>
      simp only [Vw.merge, hx] at hr
      obtain ⟨k0, k', q1, q2, q3⟩ := p4 j id (hdi hx)
      rw [hm] at q3; cases q3
      exact .inr (ren_blk rU (oU.blk j b k0 q1 hr) q2 (rU.pt j id (hdi hx)).2.2.2.1)
mutual
theorem ren_comp {g h : Nat → Option Nat} : ∀ {x y z : AV}, ren g x = some y → ren h y = some z → ren (fun i => (g i).bind h) x = some z
  | .agg xs, y, z, e, k => by
    simp only [ren] at e
    obtain ⟨ys, hy, rfl⟩ := Option.map_eq_some_iff.1 e
    simp only [ren] at k
    obtain ⟨zs, hz, rfl⟩ := Option.map_eq_some_iff.1 k
    simp [ren, renL_comp hy hz]
  | .tup xs, y, z, e, k => by
    simp only [ren] at e
    obtain ⟨ys, hy, rfl⟩ := Option.map_eq_some_iff.1 e
    simp only [ren] at k
    obtain ⟨zs, hz, rfl⟩ := Option.map_eq_some_iff.1 k
    simp [ren, renL_comp hy hz]
  | .rptr xs, y, z, e, k => by
    simp only [ren] at e
    obtain ⟨ys, hy, rfl⟩ := Option.map_eq_some_iff.1 e
    simp only [ren] at k
    obtain ⟨zs, hz, rfl⟩ := Option.map_eq_some_iff.1 k
    simp [ren, renL_comp hy hz]
  | .seq z0 fl sz xs, y, z, e, k => by
    simp only [ren] at e
    obtain ⟨ys, hy, rfl⟩ := Option.map_eq_some_iff.1 e
    simp only [ren] at k
    obtain ⟨zs, hz, rfl⟩ := Option.map_eq_some_iff.1 k
    simp [ren, renL_comp hy hz]
  | .fn f a b, y, z, e, k => by
    simp only [ren] at e
    split at e
    · rename_i a1 b1 ha hb
      cases e
      simp only [ren] at k
      split at k
      · rename_i a2 b2 ha2 hb2
        cases k
        simp [ren, renL_comp ha ha2, renL_comp hb hb2]
      · cases k
    · cases e
  | .smap a b, y, z, e, k => by
    simp only [ren] at e
    split at e
    · rename_i a1 b1 ha hb
      cases e
      simp only [ren] at k
      split at k
      · rename_i a2 b2 ha2 hb2
        cases k
        simp [ren, renL_comp ha ha2, renL_comp hb hb2]
      · cases k
    · cases e
  | .own id v, y, z, e, k => by
    simp only [ren] at e
    obtain ⟨j, hj, rfl⟩ := Option.map_eq_some_iff.1 e
    simp only [ren] at k
    obtain ⟨j2, hj2, rfl⟩ := Option.map_eq_some_iff.1 k
    simp [ren, hj, hj2]
  | .ptr id v o, y, z, e, k => by
    simp only [ren] at e
    obtain ⟨j, hj, rfl⟩ := Option.map_eq_some_iff.1 e
    simp only [ren] at k
    obtain ⟨j2, hj2, rfl⟩ := Option.map_eq_some_iff.1 k
    simp [ren, hj, hj2]
  | .aptr id v sz i f, y, z, e, k => by
    simp only [ren] at e
    obtain ⟨j, hj, rfl⟩ := Option.map_eq_some_iff.1 e
    simp only [ren] at k
    obtain ⟨j2, hj2, rfl⟩ := Option.map_eq_some_iff.1 k
    simp [ren, hj, hj2]
  | .yld id, y, z, e, k => by
    simp only [ren] at e
    obtain ⟨j, hj, rfl⟩ := Option.map_eq_some_iff.1 e
    simp only [ren] at k
    obtain ⟨j2, hj2, rfl⟩ := Option.map_eq_some_iff.1 k
    simp [ren, hj, hj2]
  | .mp id, y, z, e, k => by
    simp only [ren] at e
    obtain ⟨j, hj, rfl⟩ := Option.map_eq_some_iff.1 e
    simp only [ren] at k
    obtain ⟨j2, hj2, rfl⟩ := Option.map_eq_some_iff.1 k
    simp [ren, hj, hj2]
  | .int k0 n, y, z, e, k => by cases e; cases k; rfl
  | .bool b, y, z, e, k => by cases e; cases k; rfl
  | .str s, y, z, e, k => by cases e; cases k; rfl
  | .nilptr, y, z, e, k => by cases e; cases k; rfl
  | .nilfn, y, z, e, k => by cases e; cases k; rfl
  | .nilmp, y, z, e, k => by cases e; cases k; rfl
  | .junk, y, z, e, k => by cases e; cases k; rfl
theorem renL_comp {g h : Nat → Option Nat} : ∀ {xs ys zs : List AV}, renL g xs = some ys → renL h ys = some zs → renL (fun i => (g i).bind h) xs = some zs
  | [], ys, zs, e, k => by simp [renL] at e; subst e; simpa [renL] using k
  | x :: xs, ys, zs, e, k => by
    simp only [renL] at e
    split at e
    · rename_i y ys' hx hl
      cases e
      simp only [renL] at k
      split at k
      · rename_i z zs' hx2 hl2
        cases k
        simp [renL, ren_comp hx hx2, renL_comp hl hl2]
      · cases k
    · cases e
end
def lowN (N : Nat) : Nat → Option Nat := fun i => if i < N then some i else none
mutual
theorem ren_under {N : Nat} : ∀ {x : AV}, x.under N = true → ren (lowN N) x = some x
  | .agg xs, h => by simp [ren, renL_under (xs := xs) (by simpa [AV.under] using h)]
  | .tup xs, h => by simp [ren, renL_under (xs := xs) (by simpa [AV.under] using h)]
  | .rptr xs, h => by simp [ren, renL_under (xs := xs) (by simpa [AV.under] using h)]
  | .seq z0 fl sz xs, h => by simp [ren, renL_under (xs := xs) (by simpa [AV.under] using h)]
  | .fn f a b, h => by
    simp only [AV.under, Bool.and_eq_true] at h
    simp [ren, renL_under h.1, renL_under h.2]
  | .smap a b, h => by
    simp only [AV.under, Bool.and_eq_true] at h
    simp [ren, renL_under h.1, renL_under h.2]
  | .own id v, h => by
    have h : id < N := by simpa [AV.under] using h
    simp [ren, lowN, h]
  | .ptr id v o, h => by
    have h : id < N := by simpa [AV.under] using h
    simp [ren, lowN, h]
  | .aptr id v sz i f, h => by
    have h : id < N := by simpa [AV.under] using h
    simp [ren, lowN, h]
  | .yld id, h => by
    have h : id < N := by simpa [AV.under] using h
    simp [ren, lowN, h]
  | .mp id, h => by
    have h : id < N := by simpa [AV.under] using h
    simp [ren, lowN, h]
  | .int k0 n, _ => rfl
  | .bool b, _ => rfl
  | .str s, _ => rfl
  | .nilptr, _ => rfl
  | .nilfn, _ => rfl
  | .nilmp, _ => rfl
  | .junk, _ => rfl
theorem renL_under {N : Nat} : ∀ {xs : List AV}, underL N xs = true → renL (lowN N) xs = some xs
  | [], _ => rfl
  | x :: xs, h => by
    simp only [underL, Bool.and_eq_true] at h
    simp [renL, ren_under h.1, renL_under h.2]
end
theorem low_rep {A B : Vw} (r : Rn A B (lowN A.mem.length)) {x : AV} {v : Value} (h : Rep A x v) : Rep B x v := ren_rep r h (ren_under (rep_under h))
theorem low_reps {A B : Vw} (r : Rn A B (lowN A.mem.length)) {xs : List AV} {us : List Value} (h : Reps A xs us) : Reps B xs us := ⟨h.1, fun j x c hx hc => low_rep r (h.2 j x c hx hc)⟩
theorem low_blk {A B : Vw} (r : Rn A B (lowN A.mem.length)) {id b : Nat} {k : Blk} (h : BlkOk A id b k) (hc : B.cp id = A.cp id) : BlkOk B id b k := by
  cases k with
  | box cs => obtain ⟨vs, t, h1, h2, h3⟩ := h; exact ⟨vs, t, by rw [r.w]; exact h1, low_reps r h2, h3⟩
  | arr ty sz xs =>
    obtain ⟨h1, h2, h3, h4, vs, h5, h6, h7⟩ := h
    exact ⟨h1, by rw [hc]; exact h2, by rw [hc]; exact h3, h4, vs, by rw [r.w]; exact h5, by rw [hc]; exact h6, low_reps r h7⟩
  | vec ty sz xs =>
    obtain ⟨h0, h1, h2, h3, h4, vs, h5, h6, h7⟩ := h
    exact ⟨h0, h1, by rw [hc]; exact h2, by rw [hc]; exact h3, h4, vs, by rw [r.w]; exact h5, by rw [hc]; exact h6, low_reps r h7⟩
  | lp env ps a bd st pend =>
    obtain ⟨q, h1, h2, h3, h4, h5, h6, h6', h7⟩ := h
    exact ⟨q, by rw [r.w]; exact h1, h2, h3, h4, h5, h6, h6', fun t => low_rep r (h7 t)⟩
  | mp ks vs =>
    obtain ⟨es, cl, h1, h2, h3⟩ := h
    exact ⟨es, cl, by rw [r.w]; exact h1, low_reps r h2, low_reps r h3⟩
  | dead => trivial

/-! ### A result whose own slices the caller keeps -/
def Vw.keep (V U : Vw) (ks tp : List Nat) (B : Mem) : Vw :=
  { w := U.w, S := (V.back U ks).S, rs := fun id => if id < V.mem.length then V.rs id else (tp[id - V.mem.length]?).bind U.rs, cp := fun id => if id < V.mem.length then V.cp id else U.cp (tp.getD (id - V.mem.length) 0), mem := kill V.mem ks ++ B }
theorem kill_length : ∀ (l : List Nat) (m : Mem), (kill m l).length = m.length
  | [], m => rfl
  | a :: l, m => by
    show (kill (m.set a .dead) l).length = _
    rw [kill_length l]; simp
theorem keep_ok {V U : Vw} (o : Ok V) {ids ks tp : List Nat} {B : Mem} (oU : Ok U) (e : Ext (V.callee ids) U) (hl : Live V ks) (hk : ids = [] ∨ ks = ids) (hn : nodupB tp = true) (hB : tp.mapM (fun id => U.mem[id]?) = some B) (ha : B.all arrB = true) :
    Ok (V.keep U ks tp B) ∧ Ext V (V.keep U ks tp B) ∧ Rn U (V.keep U ks tp B) (fun i => (idxA tp i 0).bind fun j => some (V.mem.length + j)) := by
  obtain ⟨oW, eW⟩ := back_ok (ks := ks) o oU e hl
  have hlenW : (V.back U ks).mem.length = V.mem.length := kill_length ks V.mem
  have hlk : (kill V.mem ks).length = V.mem.length := kill_length ks V.mem
  have hB2 : B.length = tp.length ∧ ∀ (j id : Nat), tp[j]? = some id → ∃ k, U.mem[id]? = some k ∧ B[j]? = some k := by
    have : ∀ (tp : List Nat) (B : Mem), tp.mapM (fun id => U.mem[id]?) = some B → B.length = tp.length ∧ ∀ (j id : Nat), tp[j]? = some id → ∃ k, U.mem[id]? = some k ∧ B[j]? = some k := by
      intro tp
      induction tp with
      | nil => intro B h; simp at h; subst h; exact ⟨rfl, fun j id h => by simp at h⟩
      | cons a tp ih =>
        intro B h
        rw [List.mapM_cons] at h
        cases h1 : U.mem[a]? with
        | none => simp [h1] at h
        | some k =>
          cases h2 : tp.mapM (fun id => U.mem[id]?) with
          | none => simp [h1, h2] at h
          | some ks =>
            simp [h1, h2] at h
            subst h
            obtain ⟨g1, g2⟩ := ih ks h2
            refine ⟨by simp [g1], fun j id hj => ?_⟩
            cases j with
            | zero => simp at hj; subst hj; exact ⟨k, h1, rfl⟩
            | succ j => simp at hj; obtain ⟨q, q1, q2⟩ := g2 j id hj; exact ⟨q, q1, by simpa using q2⟩
    exact this tp B hB
  obtain ⟨hBl, hBg⟩ := hB2
  have hfresh : ∀ i b, U.rs i = some b → V.w.heap.size ≤ b := fun i b h => by
    rcases e.rn i b h with h1 | ⟨_, h1⟩
    · exact h1
    · cases h1
  have hS : ∀ b, U.S b → (V.keep U ks tp B).S b := fun b hb => by
    rcases e.sn b hb with h1 | h1 | ⟨id, h1⟩
    · rcases h1 with h1 | h1
      · exact .inl (.inl h1)
      · rcases hk with rfl | rfl
        · obtain ⟨id, hid, _⟩ := h1; simp at hid
        · exact .inl (.inr h1)
    · exact .inr ⟨h1, hb⟩
    · cases h1
  have hold : ∀ id, id < V.mem.length → (V.keep U ks tp B).mem[id]? = (V.back U ks).mem[id]? := fun id h => List.getElem?_append_left (by rw [hlk]; exact h)
  have hnew : ∀ j, (V.keep U ks tp B).mem[V.mem.length + j]? = B[j]? := fun j => by
    show (kill V.mem ks ++ B)[_]? = _
    rw [List.getElem?_append_right (by omega), hlk, Nat.add_sub_cancel_left]
  have hvold : ∀ id, id < V.mem.length → verOf (V.keep U ks tp B).mem id = verOf (V.back U ks).mem id := fun id h => by unfold verOf shp; rw [hold id h]
  have hiold : ∀ id, id < V.mem.length → isVec (V.keep U ks tp B).mem id = isVec (V.back U ks).mem id := fun id h => by unfold isVec; rw [hold id h]
  have rnW : Rn (V.back U ks) (V.keep U ks tp B) (lowN (V.back U ks).mem.length) := {
    w := rfl
    S := fun _ h => h
    pt := fun i j h => by
      unfold lowN at h
      split at h
      · rename_i hlt
        cases h
        rw [hlenW] at hlt
        exact ⟨by show _ < (kill V.mem ks ++ B).length; rw [List.length_append, hlk]; omega, hvold i hlt, by simp only [Vw.keep, if_pos hlt]; rfl, by simp only [Vw.keep, if_pos hlt]; rfl, hiold i hlt⟩
      · cases h }
  have rnU : Rn U (V.keep U ks tp B) (fun i => (idxA tp i 0).bind fun j => some (V.mem.length + j)) := {
    w := rfl
    S := hS
    pt := fun i q h => by
      obtain ⟨j, hj, hq⟩ := Option.bind_eq_some_iff.1 h
      cases hq
      have hti : tp[j]? = some i := by simpa using (idxA_some hj).2
      obtain ⟨k, h1, h2⟩ := hBg j i hti
      have hng : ¬ V.mem.length + j < V.mem.length := by omega
      have h3 : (V.keep U ks tp B).mem[V.mem.length + j]? = some k := (hnew j).trans h2
      refine ⟨(List.getElem?_eq_some_iff.1 h3).1, by rw [verOf_some h3, verOf_some h1], ?_, ?_, by rw [isVec_some h3, isVec_some h1]⟩
      · simp only [Vw.keep, if_neg hng, Nat.add_sub_cancel_left, hti]; rfl
      · simp only [Vw.keep, if_neg hng, Nat.add_sub_cancel_left, List.getD_eq_getElem?_getD, hti]; rfl }
  have hrs : ∀ id b, (V.keep U ks tp B).rs id = some b → (id < V.mem.length ∧ V.rs id = some b) ∨ ∃ j i, id = V.mem.length + j ∧ tp[j]? = some i ∧ U.rs i = some b := by
    intro id b h
    simp only [Vw.keep] at h
    split at h
    · exact .inl ⟨by assumption, h⟩
    · obtain ⟨i, h1, h2⟩ := Option.bind_eq_some_iff.1 h
      exact .inr ⟨id - V.mem.length, i, by omega, h1, h2⟩
  have hlv : ∀ j i v, tp[j]? = some i → verOf (V.keep U ks tp B).mem (V.mem.length + j) = some v → verOf U.mem i = some v := by
    intro j i v hj hv
    obtain ⟨k, h1, h2⟩ := hBg j i hj
    rw [verOf_some ((hnew j).trans h2)] at hv
    rw [verOf_some h1]; exact hv
  have ext : Ext V (V.keep U ks tp B) := {
    os := eW.os
    tape := eW.tape
    output := eW.output
    size := eW.size
    frame := eW.frame
    stab := eW.stab
    sm := eW.sm
    sn := eW.sn
    len := by show _ ≤ (kill V.mem ks ++ B).length; rw [List.length_append, hlk]; omega
    ver := fun id hid v' h => by
      rw [hvold id hid] at h
      obtain ⟨v0, h0, h1, h2⟩ := eW.ver id hid v' h
      refine ⟨v0, h0, h1, fun he => ⟨?_, ?_, ?_⟩⟩
      · simp only [Vw.keep, if_pos hid]
      · simp only [Vw.keep, if_pos hid]
      · rw [hiold id hid]; exact (h2 he).2.2
    rn := fun id b h => by
      rcases hrs id b h with ⟨_, h1⟩ | ⟨j, i, _, _, h1⟩
      · exact .inr ⟨id, h1⟩
      · exact .inl (hfresh i b h1)
    nn := fun id hid h hvc => by
      refine ⟨by simp only [Vw.keep, if_pos hid]; exact h, ?_⟩
      rw [hold id hid]
      exact (eW.nn id hid h hvc).2 }
  refine ⟨⟨fun b h => oW.sb b h, fun id b h => ?_, fun id b v hv hr hSb => ?_, fun id id' b v v' hv hv' hr hr' => ?_, fun id b k hm hr => ?_⟩, ext, rnU⟩
  · rcases hrs id b h with ⟨h1, h2⟩ | ⟨j, i, rfl, h1, h2⟩
    · have h3 := o.rb id b h2
      exact ⟨Nat.lt_of_lt_of_le h3.1 e.size, Nat.lt_of_lt_of_le h1 ext.len⟩
    · refine ⟨(oU.rb i b h2).1, ?_⟩
      obtain ⟨k, _, h3⟩ := hBg j i h1
      exact (List.getElem?_eq_some_iff.1 ((hnew j).trans h3)).1
  · rcases hrs id b hr with ⟨h1, h2⟩ | ⟨j, i, rfl, h1, h2⟩
    · exact oW.sep id b v (by rw [← hvold id h1]; exact hv) h2 hSb
    · have hf := hfresh i b h2
      rcases hSb with (h | ⟨id, _, h⟩) | h
      · have := o.sb b h; omega
      · have := (o.rb id b h).1; omega
      · exact oU.sep i b v (hlv j i v h1 hv) h2 h.2
  · rcases hrs id b hr with ⟨h1, h2⟩ | ⟨j, i, rfl, h1, h2⟩ <;> rcases hrs id' b hr' with ⟨h1', h2'⟩ | ⟨j', i', rfl, h1', h2'⟩
    · exact oW.inj id id' b v v' (by rw [← hvold id h1]; exact hv) (by rw [← hvold id' h1']; exact hv') h2 h2'
    · have := hfresh i' b h2'; have := (o.rb id b h2).1; omega
    · have := hfresh i b h2; have := (o.rb id' b h2').1; omega
    · have := oU.inj i i' b v v' (hlv j i v h1 hv) (hlv j' i' v' h1' hv') h2 h2'
      subst this
      rw [nodup_inj hn h1 h1']
  · rcases hrs id b hr with ⟨h1, h2⟩ | ⟨j, i, rfl, h1, h2⟩
    · rw [hold id h1] at hm
      exact low_blk rnW (oW.blk id b k hm h2) (by simp only [Vw.keep, if_pos h1]; rfl)
    · obtain ⟨k', q1, q2⟩ := hBg j i h1
      rw [hnew j, q2] at hm
      cases hm
      have hab := List.all_eq_true.1 ha k (List.mem_of_getElem? q2)
      cases k with
      | arr ty sz xs =>
        have hpx : pureL xs = true := hab
        obtain ⟨g1, g2, g3, g4, vs, g5, g6, g7⟩ := oU.blk i b _ q1 h2
        have hc : (V.keep U ks tp B).cp (V.mem.length + j) = U.cp i := (rnU.pt i (V.mem.length + j) (by rw [idxA_of hn h1]; simp)).2.2.2.1
        refine ⟨g1, by rw [hc]; exact g2, by rw [hc]; exact g3, g4, vs, g5, by rw [hc]; exact g6, g7.1, fun m x c hx hcx => ?_⟩
        refine pure_rep (V := U) (U := V.keep U ks tp B) (fun b _ => rfl) hS (g7.2 m x c hx hcx) ?_
        obtain ⟨y, hy, hxy⟩ := List.mem_flatMap.1 (List.mem_of_getElem? hx)
        obtain ⟨q, hq, rfl⟩ := List.getElem_of_mem hxy
        exact pure_cells (pureL_mem hpx y hy) (List.getElem?_eq_getElem hq)
      | _ => simp [arrB] at hab
end Go.Ab

/- One operation: what the evaluator gives, the machine does. -/
set_option linter.unusedVariables false
set_option linter.unusedSimpArgs false
namespace Go.Ab
open Go

/-- No fence at all, in a round or out of one. -/
def W (ro : Option Nat) : Fence := { fn := fun _ => True, depth := none, alive := false, round := ro }
theorem callsIn_W {ro : Option Nat} {n : Nat} {P : Program} {f : FuncId} {args : Array Value} {w : World} {R : Ending → World → Prop} (h : Calls P f args w R) : CallsIn (W ro) n P f args w R :=
  ⟨trivial, fun cs _ => ((callsIn_wide (n := n)).2 h).2 cs (room_wide _)⟩
theorem calls_W {n : Nat} {P : Program} {f : FuncId} {args : Array Value} {w : World} {R : Ending → World → Prop} (h : CallsIn (W none) n P f args w R) : Calls P f args w R := callsIn_wide.1 h

def Gl (cx : Cx) (V : Vw) : Prop := ∀ g cs, cx.G g = some cs → pureL cs = true ∧ Rep V (.rptr cs) (.pointer (some ⟨g, 0, none⟩))
theorem Gl.mono {cx : Cx} {V V' : Vw} (e : Ext V V') (h : Gl cx V) : Gl cx V' := fun g cs hg => ⟨(h g cs hg).1, (h g cs hg).2.mono e⟩
theorem Gl.callee {cx : Cx} {V : Vw} (h : Gl cx V) (ids : List Nat) : Gl cx (V.callee ids) := fun g cs hg =>
  ⟨(h g cs hg).1, pure_rep (V := V) (U := V.callee ids) (fun _ _ => rfl) (fun b hb => .inl hb) (h g cs hg).2 (h g cs hg).1⟩

def Enters (P : Program) (f : Nat) : Prop := ∃ fn c, P.funcs[f]? = some fn ∧ fn.name ≠ "runtime.NumGoroutine" ∧ fn.body = some c
theorem Enters.run {P : Program} {f : Nat} (h : Enters P f) (args : Array Value) (w : World) : (callFunc f args).run P w = .ok (.enter f args) w := by
  obtain ⟨fn, c, h1, h2, h3⟩ := h
  have h2' : (fn.name == "runtime.NumGoroutine") = false := by simpa using h2
  simp only [callFunc, Sem.run_bind, run_program, Result.andThen_ok, h1, h2', h3, Option.isNone_some, Bool.false_eq_true, if_false, Sem.run_pure]

/-- What a call leaves: the result in a view that goes on from V. -/
def Left (V : Vw) (r : AV) (m' : Mem) (e : Ending) (w' : World) : Prop := ∃ v V', e = .returned v ∧ V'.w = w' ∧ V'.mem = m' ∧ Ok V' ∧ Ext V V' ∧ Rep V' r v

structure FunOK (cx : Cx) (F : CallT) : Prop where
  enters : ∀ f args m rm, F f args m = some rm → Enters cx.P f
  ok : ∀ f args m r m' V vs, F f args m = some (r, m') → Ok V → Gl cx V → V.mem = m → Reps V args vs.toList → Calls cx.P f vs V.w (Left V r m')
structure YldOK (cx : Cx) (Y : CallT) : Prop where
  live : ∀ id args m rm, Y id args m = some rm → verOf m id = some 0
  ok : ∀ id args m r m' V vs b, Y id args m = some (r, m') → Ok V → Gl cx V → V.mem = m → Reps V args vs.toList → V.rs id = some b → ∀ ro,
    ∃ fn tmps a bd, (Instr.yield b vs).run cx.P V.w = .ok (.round b fn tmps a bd) V.w ∧ RoundIn (W ro) 0 cx.P b fn tmps a bd V.w (Left V r m')
structure CxOK (cx : Cx) : Prop where
  mixed : cx.P.follows .mixedOrders = true
  X : ∀ f g args r, cx.X f = some g → g args = some r → Enters cx.P f ∧ ∀ U vs, Ok U → U.mem = [] → Gl cx U → Reps U args vs.toList → Calls cx.P f vs U.w (Left U r [])

variable {cx : Cx} {F Y : CallT}

theorem reps_app {V : Vw} {xs ys : List AV} {a b : Array Value} (h : Reps V xs a.toList) (k : Reps V ys b.toList) : Reps V (xs ++ ys) (a ++ b).toList := by
  rw [Array.toList_append]; exact h.append k

theorem fzs_reps {V : Vw} (o : Ok V) {xs ys : List AV} {us : List Value} (h : fzs V.mem xs = some ys) (hr : Reps V xs us) : Reps (V.callee (idsDL V.mem xs)) ys us ∧ Live V (idsDL V.mem xs) := by
  obtain ⟨h1, h2⟩ := mapM_some h
  refine ⟨⟨by rw [h1]; exact hr.1, fun j d u hd hu => ?_⟩, fun id hid => ?_⟩
  · have hj : j < xs.length := by rw [← h1]; exact (List.getElem?_eq_some_iff.1 hd).1
    obtain ⟨d', hd', hf⟩ := h2 j _ (List.getElem?_eq_getElem hj)
    rw [hd] at hd'
    cases hd'
    exact fz_rep (U := V.callee (idsDL V.mem xs)) o rfl (fun b hb => .inl hb) 6 (hr.2 j _ u (List.getElem?_eq_getElem hj) hu) hf
      (fun id hid b hb => .inr ⟨id, List.mem_flatMap.2 ⟨_, List.getElem_mem hj, hid⟩, hb⟩)
  · obtain ⟨c, hc, hid⟩ := List.mem_flatMap.1 hid
    obtain ⟨j, hj, rfl⟩ := List.getElem_of_mem hc
    obtain ⟨d, hd, hf⟩ := h2 j _ (List.getElem?_eq_getElem hj)
    exact fz_live hf id hid

theorem settle_ok {V U : Vw} (o : Ok V) {ro : Bool} {as : List AV} {r r' : AV} {m' : Mem} (hl : Live V (idsDL V.mem as)) (oU : Ok U) (e : Ext (V.callee (idsDL V.mem as)) U) {v : Value} (hr : Rep U r v) (h : settle ro V.mem as r = some (r', m')) :
    ∃ V', V'.w = U.w ∧ V'.mem = m' ∧ Ok V' ∧ Ext V V' ∧ Rep V' r' v := by
  unfold settle at h
  split at h
  case isFalse => cases h
  rename_i hp
  split at h
  · rename_i hc
    cases h
    obtain ⟨o', e'⟩ := back_ok (ks := []) o oU e (fun id hid => by simp at hid)
    refine ⟨V.back U [], rfl, rfl, o', e', back_rep e hr hp ?_⟩
    simp only [Bool.or_eq_true, List.isEmpty_iff] at hc
    rcases hc with hc | hc
    · exact .inl hc
    · exact .inr (.inl hc)
  · split at h
    · cases h
    · cases h
      obtain ⟨o', e'⟩ := back_ok (ks := idsDL V.mem as) o oU e hl
      exact ⟨V.back U _, rfl, rfl, o', e', back_rep e hr hp (.inr (.inr rfl))⟩

theorem Ext.of_frz {V : Vw} {ids : List Nat} (o : Ok V) (hl : Live V ids) : Ext V (V.frz ids) := (ok_frz o hl).2

theorem lendOwn_spec {V : Vw} (o : Ok V) : ∀ {as xs : List AV} {is : List Nat} {us : List Value}, lendOwn V.mem as = some (xs, is) → Reps V as us → Live V is ∧ ∀ js : List Nat, (∀ i ∈ is, i ∈ js) → Live V js → Reps (V.frz js) xs us
  | [], xs, is, us, h, hr => by
    simp [lendOwn] at h
    obtain ⟨rfl, rfl⟩ := h
    exact ⟨fun id hid => by simp at hid, fun js _ _ => ⟨hr.1, fun j x c hx => by simp at hx⟩⟩
  | a :: as, xs, is, us, h, hr => by
    obtain ⟨c, us', rfl, h1, h2⟩ := hr.inv
    have other : ∀ {ys : List AV}, (∀ id ver, a ≠ .own id ver) → lendOwn V.mem as = some (ys, is) → xs = a :: ys → Live V is ∧ ∀ js : List Nat, (∀ i ∈ is, i ∈ js) → Live V js → Reps (V.frz js) xs (c :: us') := by
      intro ys hn hl hx
      obtain ⟨g1, g2⟩ := lendOwn_spec o hl h2
      subst hx
      exact ⟨g1, fun js hj hjl => Reps.cons (h1.mono (ok_frz o hjl).2) (g2 js hj hjl)⟩
    cases a with
    | own id ver =>
      simp only [lendOwn] at h
      cases hf : fz V.mem 6 (.own id ver) with
      | none => simp [hf] at h
      | some x =>
        cases hl : lendOwn V.mem as with
        | none => simp [hf, hl] at h
        | some p =>
          obtain ⟨ys, is'⟩ := p
          simp [hf, hl] at h
          obtain ⟨rfl, rfl⟩ := h
          obtain ⟨g1, g2⟩ := lendOwn_spec o hl h2
          refine ⟨fun i hi => ?_, fun js hj hjl => Reps.cons ?_ (g2 js (fun i hi => hj i (List.mem_append_right _ hi)) hjl)⟩
          · rcases List.mem_append.1 hi with hi | hi
            · exact fz_live hf i hi
            · exact g1 i hi
          · exact fz_rep (U := V.frz js) o rfl (fun b hb => .inl hb) 6 h1 hf (fun i hi b hb => .inr ⟨i, hj i (List.mem_append_left _ hi), hb⟩)
    | _ =>
      simp only [lendOwn] at h
      cases hl : lendOwn V.mem as with
      | none => simp [hl] at h
      | some p =>
        obtain ⟨ys, is'⟩ := p
        simp [hl] at h
        obtain ⟨rfl, rfl⟩ := h
        exact other (fun id ver e => by cases e) hl rfl

theorem ioGo_ok (hF : FunOK cx F) {V : Vw} (o : Ok V) (gl : Gl cx V) {f : Nat} {xs : List AV} {ids : List Nat} {r : AV} {m' : Mem} {vs : Array Value} (hr : Reps V xs vs.toList) (h : ioGo F V.mem f xs ids = some (r, m')) :
    Enters cx.P f ∧ Calls cx.P f vs V.w (Left V r m') := by
  unfold ioGo at h
  split at h
  case isFalse => cases h
  rename_i hc
  simp only [Bool.and_eq_true, List.all_eq_true] at hc
  obtain ⟨hn, hlv⟩ := hc
  have hlive : ∀ id ∈ ids, ∃ v, verOf V.mem id = some v := fun id hid => Option.isSome_iff_exists.1 (hlv id hid)
  split at h
  case h_2 => cases h
  rename_i ys M hys hM
  split at h
  case h_2 => cases h
  rename_i rm hf
  obtain ⟨r0, M1⟩ := rm
  split at h
  case h_2 => cases h
  rename_i p hp
  obtain ⟨r1, M2⟩ := p
  unfold ioBack at h
  split at h
  case h_2 => cases h
  rename_i r2 m2 hr2 hm2
  simp only [Option.some.injEq, Prod.mk.injEq] at h
  obtain ⟨rfl, rfl⟩ := h
  have rn := sub_rn hM
  have oU := sub_ok o hn hM
  have glU : Gl cx (V.sub ids M) := fun g cs hg => ⟨(gl g cs hg).1, pure_rep (V := V) (U := V.sub ids M) (fun _ _ => rfl) (fun _ h => h) (gl g cs hg).2 (gl g cs hg).1⟩
  refine ⟨hF.enters _ _ _ _ hf, (hF.ok f ys M r0 M1 (V.sub ids M) vs hf oU glU rfl (ren_reps rn hr hys)).mono ?_⟩
  rintro e w' ⟨v, U1, rfl, rfl, rfl, ok1, ext1, rep1⟩
  obtain ⟨U2, hw, rfl, ok2, ext2, rep2⟩ := retrunc_ok (V0 := V.sub ids M) ok1 ext1 rep1 hp
  obtain ⟨ok3, ext3, rn3⟩ := merge_ok o ok2 hn hlive hM ext2 hm2
  exact ⟨v, V.merge U2 ids m2, rfl, hw, rfl, ok3, ext3, ren_rep rn3 rep2 hr2⟩

theorem keepB_ok {V U : Vw} (o : Ok V) {as : List AV} {r0 : AV} {v : Value} {p : AV × Mem} {r : AV} {m' : Mem} (hl : Live V (idsDL V.mem as)) (oU : Ok U) (e : Ext (V.callee (idsDL V.mem as)) U) (hr : Rep U r0 v)
    (ht : thw (r0, U.mem) = some p) (h : keepB V.mem as p = some (r, m')) : ∃ V', V'.w = U.w ∧ V'.mem = m' ∧ Ok V' ∧ Ext V V' ∧ Rep V' r v := by
  unfold thw at ht
  split at ht
  case h_2 => cases ht
  rename_i r1 B hn hr1 hB
  split at ht
  case isFalse => cases ht
  rename_i ha
  cases ht
  unfold keepB at h
  split at h
  case h_2 => cases h
  rename_i r2 hr2
  simp only [Option.some.injEq, Prod.mk.injEq] at h
  obtain ⟨rfl, rfl⟩ := h
  by_cases hi : (idsDL V.mem as).isEmpty = true
  · rw [if_pos hi]
    obtain ⟨ok', ext', rn'⟩ := keep_ok (ks := []) o oU e (fun id hid => by simp at hid) (.inl (List.isEmpty_iff.1 hi)) hn hB ha
    exact ⟨V.keep U [] (tops r0) B, rfl, rfl, ok', ext', ren_rep rn' hr (ren_comp hr1 hr2)⟩
  · rw [if_neg hi]
    obtain ⟨ok', ext', rn'⟩ := keep_ok (ks := idsDL V.mem as) o oU e hl (.inr rfl) hn hB ha
    exact ⟨V.keep U _ (tops r0) B, rfl, rfl, ok', ext', ren_rep rn' hr (ren_comp hr1 hr2)⟩

/-- The call of a value. -/
theorem callV_ok (hF : FunOK cx F) (hY : YldOK cx Y) (hX : CxOK cx) {V : Vw} (o : Ok V) (gl : Gl cx V) {ro : Bool} {c r : AV} {args : List AV} {m' : Mem} {vc : Value} {vs : Array Value}
    (hc : Rep V c vc) (ha : Reps V args vs.toList) (h : callV cx ro F Y V.mem c args = some (r, m')) :
    ∃ d, (Deferred.ofValue vc vs).run cx.P V.w = .ok d V.w ∧ ∀ (oo : Oper) (a : Act) (fr : Option Nat) (next : Act → World → Prop) (Q : Exit → Act → World → Prop),
      (∀ V' v, V'.mem = m' → Ok V' → Ext V V' → Rep V' r v → next (a.put oo.dst v) V'.w) → oo.uponIn (W fr) 0 cx.P a next Q ((invoke d.target d.args).run cx.P V.w) := by
  cases c with
  | fn f first cap =>
    cases hc with
    | fn f xs ys fs cs h1 h2 hr1 hr2 =>
      have hall : Reps V (first ++ args ++ cap) ((fs ++ vs) ++ cs).toList :=
        reps_app (reps_app ⟨by simpa using h1, fun j x u hx hu => hr1 j x u hx (by simpa using hu)⟩ ha) ⟨by simpa using h2, fun j x u hx hu => hr2 j x u hx (by simpa using hu)⟩
      refine ⟨{ target := .fn (.func f) cs, args := fs ++ vs }, rfl, fun oo a fr next Q hn => ?_⟩
      -- once the call's contract is there
      have fin : Enters cx.P f → Calls cx.P f ((fs ++ vs) ++ cs) V.w (Left V r m') → oo.uponIn (W fr) 0 cx.P a next Q ((invoke (.fn (.func f) cs) (fs ++ vs)).run cx.P V.w) := by
        intro hen hcall
        have hrun : (invoke (.fn (.func f) cs) (fs ++ vs)).run cx.P V.w = .ok (.enter f ((fs ++ vs) ++ cs)) V.w := hen.run _ _
        rw [hrun, Oper.uponIn_enter]
        refine ⟨fun h => by simp [W] at h, callsIn_W (hcall.mono ?_)⟩
        rintro e w' ⟨v, V', rfl, rfl, hm, ok', ext, rep⟩
        exact hn V' v hm ok' ext rep
      simp only [callV] at h
      generalize first ++ args ++ cap = L at h hall
      cases hx : cx.X f with
      | some g =>
        simp only [hx] at h
        cases hz : fzs V.mem L with
        | none => simp [hz] at h
        | some as' =>
          simp only [hz] at h
          cases hg : g as' with
          | none => simp [hg] at h
          | some r0 =>
            simp only [hg] at h
            obtain ⟨hreps, hlive⟩ := fzs_reps o hz hall
            obtain ⟨hen, hok⟩ := hX.X f g as' r0 hx hg
            refine fin hen ((hok _ _ (ok_callee o _) rfl (gl.callee _) hreps).mono ?_)
            rintro e w' ⟨v, U', rfl, rfl, hm, okU, ext, rep⟩
            obtain ⟨V', hw, hm', ok', ext', rep'⟩ := settle_ok o hlive okU ext rep h
            exact ⟨v, V', rfl, hw, hm', ok', ext', rep'⟩
      | none =>
        simp only [hx] at h
        split at h
        · -- shared
          split at h
          · cases h
          · cases hl : lendOwn V.mem L with
            | none => simp [hl] at h
            | some p =>
              obtain ⟨xs', is⟩ := p
              simp only [hl] at h
              cases hf : F f xs' (kill V.mem is) with
              | none => simp [hf] at h
              | some rm =>
                obtain ⟨r0, m0⟩ := rm
                simp only [hf] at h
                obtain ⟨hlive, hreps⟩ := lendOwn_spec o hl hall
                obtain ⟨o1, e1⟩ := ok_frz o hlive
                have hcall := hF.ok f xs' _ r0 m0 (V.frz is) _ hf o1 (gl.mono e1) rfl (hreps is (fun i hi => hi) hlive)
                refine fin (hF.enters _ _ _ _ hf) (hcall.mono ?_)
                rintro e w' ⟨v, V', rfl, rfl, rfl, ok', ext, rep⟩
                obtain ⟨V'', hw, hm', ok'', ext'', rep''⟩ := retrunc_ok ok' (e1.trans ext) rep h
                exact ⟨v, V'', rfl, hw, hm', ok'', ext'', rep''⟩
        · split at h
          · -- in a small memory
            split at h
            · cases h
            · split at h
              case h_2 => cases h
              rename_i xs' is hl
              obtain ⟨hlive, hreps⟩ := lendOwn_spec o hl hall
              obtain ⟨o1, e1⟩ := ok_frz o hlive
              obtain ⟨hen, hcall⟩ := ioGo_ok hF (V := V.frz is) o1 (gl.mono e1) (hreps is (fun i hi => hi) hlive) h
              refine fin hen (hcall.mono ?_)
              rintro e w' ⟨v, V', rfl, rfl, rfl, ok', ext, rep⟩
              exact ⟨v, V', rfl, rfl, rfl, ok', e1.trans ext, rep⟩
          · -- pure
            cases hz : fzs V.mem L with
            | none => simp [hz] at h
            | some as' =>
              simp only [hz] at h
              cases hf : F f as' [] with
              | none => simp [hf] at h
              | some rm =>
                obtain ⟨r0, m0⟩ := rm
                simp only [hf] at h
                obtain ⟨hreps, hlive⟩ := fzs_reps o hz hall
                have hcall := hF.ok f as' _ r0 m0 _ _ hf (ok_callee o _) (gl.callee _) rfl hreps
                refine fin (hF.enters _ _ _ _ hf) (hcall.mono ?_)
                rintro e w' ⟨v, V1, rfl, rfl, rfl, ok', ext, rep⟩
                split at h
                · split at h
                  case h_2 => cases h
                  rename_i p hp
                  obtain ⟨V', hw, hm', ok'', ext'', rep''⟩ := keepB_ok o hlive ok' ext rep hp h
                  exact ⟨v, V', rfl, hw, hm', ok'', ext'', rep''⟩
                · cases hq : fz V1.mem 6 r0 with
                  | none => simp [hq] at h
                  | some r1 =>
                    simp only [hq] at h
                    obtain ⟨V', hw, hm', ok'', ext'', rep''⟩ := settle_ok o hlive (ok_close ok') (ext_close ext rfl) (rep_close ok' rep hq) h
                    exact ⟨v, V', rfl, hw, hm', ok'', ext'', rep''⟩
  | yld id =>
    simp only [callV] at h
    split at h
    · cases h
    · cases hl : lendOwn V.mem args with
      | none => simp [hl] at h
      | some p =>
        obtain ⟨xs', is⟩ := p
        simp only [hl] at h
        cases hf : Y id xs' (kill V.mem is) with
        | none => simp [hf] at h
        | some rm =>
          obtain ⟨r0, m0⟩ := rm
          simp only [hf] at h
          obtain ⟨hlive, hreps⟩ := lendOwn_spec o hl ha
          obtain ⟨o1, e1⟩ := ok_frz o hlive
          have hver := hY.live _ _ _ _ hf
          have hverV := (verOf_kill is hver).2
          have hb : ∃ b, V.rs id = some b ∧ vc = .func (.yield b) #[] #[] := by
            cases hc with | yld _ _ _ _ hv => exact hv hverV
          obtain ⟨b, hb, rfl⟩ := hb
          refine ⟨{ target := .fn (.yield b) #[], args := #[] ++ vs }, rfl, fun oo a fr next Q hn => ?_⟩
          obtain ⟨fn, tmps, a', bd, hrun, hround⟩ := hY.ok id xs' _ r0 m0 (V.frz is) vs b hf o1 (gl.mono e1) rfl (hreps is (fun i hi => hi) hlive) hb fr
          have hrun' : (invoke (.fn (.yield b) #[]) (#[] ++ vs)).run cx.P V.w = .ok (.round b fn tmps a' bd) V.w := by
            rw [Array.empty_append]; exact hrun
          rw [hrun', Oper.uponIn_round]
          refine ⟨fun h => by simp [W] at h, hround.mono ?_⟩
          rintro e w' ⟨v, V', rfl, rfl, rfl, ok', ext, rep⟩
          obtain ⟨V'', hw, hm', ok'', ext'', rep''⟩ := retrunc_ok ok' (e1.trans ext) rep h
          exact hw ▸ hn V'' v hm' ok'' ext'' rep''
  | _ => simp [callV] at h
end Go.Ab

/- Maps whose keys are numbers, texts or bools. -/
set_option linter.unusedVariables false
set_option linter.unusedSimpArgs false
namespace Go.Ab
open Go

variable {P : Program}

theorem bytes_list (c : ByteArray) : c.toList = c.data.toList := ByteArray.toList_eq c
theorem bytes_inj {a b : ByteArray} (h : a.toList = b.toList) : a = b := by
  rw [bytes_list, bytes_list] at h
  cases a; cases b; simp at h; subst h; rfl
theorem beq_list (a b : ByteArray) : (a == b) = (a.data.toList == b.data.toList) := by
  rw [← bytes_list, ← bytes_list, Bool.eq_iff_iff, MapKept.bytes_beq, beq_iff_eq]
  constructor
  · rintro rfl; rfl
  · intro h; exact bytes_inj h

theorem same_ok {V : Vw} {kd : TypeDesc} {k x : AV} {u c : Value} (hk : Rep V k u) (hx : Rep V x c) {b : Bool} (h : sameA kd k x = some b) : Instr.sameNow kd u c = some b := by
  unfold sameA at h
  split at h
  · cases hk; cases hx
    unfold Instr.sameNow
    split at h
    · rename_i he
      simp only [he, if_true]
      cases h
      rfl
    · cases h
  · cases hk; cases hx
    rw [← beq_list] at h
    exact h
  · cases hk; cases hx
    exact h
  · cases h

theorem find_ok {V : Vw} {kd : TypeDesc} {k : AV} {u : Value} (hk : Rep V k u) : ∀ {ks vs : List AV} {es : List MapEntry} {i : Nat} {r : Option (Nat × AV)}, Reps V ks (es.map (·.key)) → Reps V vs (es.map (·.val)) → findA kd k ks vs i = some r →
    ∃ q, Instr.findNow kd u es i = some q ∧ (match r, q with
      | none, none => True
      | some (j, y), some (j', v) => j' = j ∧ Rep V y v ∧ i ≤ j ∧ ∃ e, es[j - i]? = some e ∧ sameA kd k (ks.getD (j - i) .undef) = some true ∧ j - i < ks.length
      | _, _ => False)
  | [], [], es, i, r, h1, h2, h => by
    simp [findA] at h
    subst h
    have : es = [] := List.eq_nil_of_length_eq_zero (by have := h1.1; simpa using this)
    subst this
    exact ⟨none, rfl, trivial⟩
  | [], _ :: _, es, i, r, h1, h2, h => by simp [findA] at h
  | _ :: _, [], es, i, r, h1, h2, h => by simp [findA] at h
  | x :: ks, y :: vs, [], i, r, h1, h2, h => by have := h1.1; simp at this
  | x :: ks, y :: vs, e :: es, i, r, h1, h2, h => by
    simp only [List.map_cons] at h1 h2
    obtain ⟨c, cs, hc, hx, hks⟩ := h1.inv
    obtain ⟨d, ds, hd, hy, hvs⟩ := h2.inv
    cases hc
    cases hd
    simp only [findA] at h
    cases hs : sameA kd k x with
    | none => simp [hs] at h
    | some b =>
      have hn := same_ok hk hx hs
      cases b with
      | true =>
        simp only [hs] at h
        cases h
        exact ⟨some (i, e.val), by simp [Instr.findNow, hn], rfl, hy, Nat.le_refl _, e, by simp, by simpa using hs, by simp⟩
      | false =>
        simp only [hs] at h
        obtain ⟨q, hq, hm⟩ := find_ok hk (ks := ks) (vs := vs) (es := es) hks hvs h
        refine ⟨q, by simp [Instr.findNow, hn, hq], ?_⟩
        cases r with
        | none => cases q <;> exact hm
        | some p =>
          cases q with
          | none => exact hm
          | some q =>
            obtain ⟨g1, g2, g3, e', g4, g5, g6⟩ := hm
            have hj : p.1 - i = (p.1 - (i + 1)) + 1 := by omega
            refine ⟨g1, g2, by omega, e', by rw [hj]; simpa using g4, by rw [hj]; simpa using g5, by rw [hj]; simpa using g6⟩

theorem fit_key {V : Vw} {kd : TypeDesc} {k : AV} {u : Value} (hk : Rep V k u) (h : fitA kd k = true) : MapKept.IsKey kd u := by
  unfold fitA at h
  split at h
  · cases hk; simp at h; subst h; simp [MapKept.IsKey]
  · cases hk; simp [MapKept.IsKey]
  · cases hk; simp [MapKept.IsKey]
  · cases h

theorem mapT_some {t kt et : Nat} (h : mapT P t = some (kt, et)) : P.underlying t = some (.map kt et) := by
  unfold mapT at h
  split at h
  · rename_i hu; cases h; exact hu
  · cases h
theorem keyD_some {t : Nat} {kd : TypeDesc} (h : keyD P t = some kd) : ∃ kt et, mapT P t = some (kt, et) ∧ P.underlying kt = some kd ∧ keyK kd = true := by
  unfold keyD at h
  split at h
  · rename_i kt et hm
    split at h
    · rename_i kd' hk
      split at h
      · rename_i hq; cases h; exact ⟨kt, et, hm, hk, hq⟩
      · cases h
    · cases h
  · cases h

/-- The entries of a map, in the world. -/
theorem entries_ok {V : Vw} (o : Ok V) {x : AV} {v : Value} (hx : Rep V x v) {ks vs : List AV} (h : entriesA V.mem x = some (ks, vs)) :
    ∃ es : Array MapEntry, Reps V ks (es.toList.map (·.key)) ∧ Reps V vs (es.toList.map (·.val)) ∧ ((v = .map none ∧ es = #[]) ∨ ∃ b cl, v = .map (some b) ∧ V.w.heap[b]? = some (.map es cl)) := by
  cases hx with
  | nilmp => simp [entriesA] at h; obtain ⟨rfl, rfl⟩ := h; exact ⟨#[], Reps.nil _, Reps.nil _, .inl ⟨rfl, rfl⟩⟩
  | smap ks' vs' b es cl hS hb h1 h2 hk hv =>
    simp [entriesA] at h
    obtain ⟨rfl, rfl⟩ := h
    exact ⟨es, reps_entries h1 hk, reps_entries h2 hv, .inr ⟨b, cl, rfl, hb⟩⟩
  | mp id v h1 hh hv =>
    simp only [entriesA] at h
    split at h
    · rename_i ks' vs' hm
      simp at h
      obtain ⟨rfl, rfl⟩ := h
      obtain ⟨b, hb, rfl⟩ := hv (by simp [verOf, shp, hm, shpB])
      obtain ⟨es, cl, g1, g2, g3⟩ := o.blk id b _ hm hb
      exact ⟨es, g2, g3, .inr ⟨b, cl, rfl, g1⟩⟩
    · cases h
  | _ => cases h

theorem look_ok {V : Vw} (o : Ok V) {t : Nat} {x k r : AV} {v u : Value} {ok : Bool} (hx : Rep V x v) (hk : Rep V k u) (h : lookA P V.mem t x k ok = some r) :
    ∃ w, (Instr.lookup t v u ok).run P V.w = .ok w V.w ∧ Rep V r w := by
  unfold lookA at h
  split at h
  case h_2 => cases h
  rename_i kt et kd ks vs hmt hkd hen
  split at h
  case isFalse => cases h
  rename_i hfit
  obtain ⟨kt', et', hm', hu, _⟩ := keyD_some hkd
  rw [hmt] at hm'
  cases hm'
  have hum := mapT_some hmt
  obtain ⟨es, h1, h2, hor⟩ := entries_ok o hx hen
  have pair : ∀ {a b : AV} {c d : Value}, Rep V a c → Rep V b d → Rep V (.tup [a, b]) (.tuple #[c, d]) := by
    intro a b c d ha hb
    refine .tup _ _ rfl (fun j x y hx hy => ?_)
    match j, hx, hy with
    | 0, hx, hy => simp at hx hy; subst hx; subst hy; exact ha
    | 1, hx, hy => simp at hx hy; subst hx; subst hy; exact hb
    | j + 2, hx, _ => simp at hx
  -- the run, once the finding is known
  have key : ∀ (q : Option (Nat × Value)), Instr.findNow kd u es.toList 0 = some q → ∀ (y : Value) (b : Bool), (match q with | some (_, v) => (v, b) = (y, true) | none => b = false ∧ (zeroValue et).run P V.w = .ok y V.w) →
      (Instr.lookup t v u ok).run P V.w = .ok (if ok then .tuple #[y, .bool b] else y) V.w := by
    intro q hq y b hyb
    have hck : ∀ e, (Instr.checkKey e 10000 kt u).run P V.w = .ok () V.w := fun e => MapKept.run_checkKey hu (fit_key hk hfit) e 9999
    have hfk : (Instr.findKey kt u es.toList).run P V.w = .ok q V.w := MapKept.run_findKey hu hq
    unfold Instr.lookup
    rcases hor with ⟨rfl, rfl⟩ | ⟨b', cl, rfl, hb⟩
    · simp only [Sem.run_bind, run_und hum, Result.andThen_ok, Sem.run_pure, hck]
      rw [hfk]
      cases q with
      | none => simp only [Result.andThen_ok, hyb.2, Sem.run_bind, Sem.run_pure, hyb.1]
      | some p => simp only [Prod.mk.injEq] at hyb; simp only [Result.andThen_ok, Sem.run_bind, Sem.run_pure, hyb.1, hyb.2]
    · simp only [Sem.run_bind, run_und hum, Result.andThen_ok, MapKept.run_getObj_map hb, Sem.run_pure, hck, hfk]
      cases q with
      | none => simp only [Result.andThen_ok, hyb.2, Sem.run_bind, Sem.run_pure, hyb.1]
      | some p => simp only [Prod.mk.injEq] at hyb; simp only [Result.andThen_ok, Sem.run_bind, Sem.run_pure, hyb.1, hyb.2]
  split at h
  · rename_i j y hf
    obtain ⟨q, hq, hm⟩ := find_ok hk h1 h2 hf
    cases q with
    | none => exact hm.elim
    | some p =>
      obtain ⟨_, hr, _⟩ := hm
      refine ⟨_, key _ hq p.2 true rfl, ?_⟩
      cases h
      cases ok with
      | true => exact pair hr (.bool true)
      | false => exact hr
  · rename_i hf
    obtain ⟨q, hq, hm⟩ := find_ok hk h1 h2 hf
    cases q with
    | some p => exact hm.elim
    | none =>
      obtain ⟨z, hz, rfl⟩ := Option.map_eq_some_iff.1 h
      obtain ⟨i, zv, g1, g2, g3, g4⟩ := zero_rep hz
      refine ⟨_, key _ hq zv false ⟨rfl, by simp [zeroValue, run_tinfo g1, g2]⟩, ?_⟩
      cases ok with
      | true => exact pair (g4 V) (.bool false)
      | false => exact g4 V
  · cases h

/-! ### Writing -/
theorem same_bits {V : Vw} {kd : TypeDesc} {k x : AV} {u c : Value} (hk : Rep V k u) (hx : Rep V x c) (h : sameA kd k x = some true) : Instr.sameBits 10000 c u = true := by
  unfold sameA at h
  split at h
  · cases hk; cases hx
    split at h
    · rename_i he
      simp at h
      subst he; subst h
      simp [Instr.sameBits]
    · cases h
  · cases hk; cases hx
    simp at h
    rename_i a b
    have : a = b := by cases a; cases b; simp at h; subst h; rfl
    subst this
    rw [Instr.sameBits]
    exact (MapKept.bytes_beq _ _).2 rfl
  · cases hk; cases hx
    simp at h
    subst h
    simp [Instr.sameBits]
  · cases h
theorem reps_modify {V : Vw} {xs : List AV} {es : Array MapEntry} {g : MapEntry → Value} {f : MapEntry → MapEntry} {i : Nat} {x : AV} (h : Reps V xs (es.toList.map g)) (hx : ∀ e, es[i]? = some e → Rep V x (g (f e))) :
    Reps V (xs.set i x) ((es.modify i f).toList.map g) := by
  refine ⟨by have := h.1; simpa using this, fun j y c hy hc => ?_⟩
  rw [List.getElem?_map, Array.getElem?_toList, Array.getElem?_modify] at hc
  obtain ⟨e, he, rfl⟩ := Option.map_eq_some_iff.1 hc
  by_cases hj : i = j
  · subst hj
    rw [if_pos rfl] at he
    obtain ⟨e', he', rfl⟩ := Option.map_eq_some_iff.1 he
    have hi : i < xs.length := by have := h.1; have h2 := (Array.getElem?_eq_some_iff.1 he').1; simp at this; omega
    rw [List.getElem?_set_self hi] at hy
    cases hy
    exact hx e' he'
  · rw [if_neg hj] at he
    rw [List.getElem?_set_ne hj] at hy
    exact h.2 j y _ hy (by rw [List.getElem?_map]; simp [he])

theorem upd_ok {V : Vw} (o : Ok V) {t : Nat} {x k y : AV} {v u c : Value} {m' : Mem} (hx : Rep V x v) (hk : Rep V k u) (hy : Rep V y c) (h : updA P V.mem t x k y = some m') :
    ∃ V', (Instr.mapUpdate t v u c).run P V.w = .ok () V'.w ∧ V'.mem = m' ∧ Ok V' ∧ Ext V V' := by
  unfold updA at h
  split at h
  case h_2 => cases h
  rename_i id kd hkd
  split at h
  case h_2 => cases h
  rename_i ks vs hm
  split at h
  case isFalse => cases h
  rename_i hfit
  obtain ⟨kt, et, hmt, hu, _⟩ := keyD_some hkd
  have hum := mapT_some hmt
  have hv0 : verOf V.mem id = some 0 := by simp [verOf, shp, hm, shpB]
  obtain ⟨b, hb, rfl⟩ : ∃ b, V.rs id = some b ∧ v = .map (some b) := by cases hx with | mp _ _ _ _ hv => exact hv hv0
  obtain ⟨es, cl, g1, g2, g3⟩ := o.blk id b _ hm hb
  have hck : (Instr.checkKey false 10000 kt u).run P V.w = .ok () V.w := MapKept.run_checkKey hu (fit_key hk hfit) false 9999
  have hlt : b < V.w.heap.size := (o.rb id b hb).1
  -- the block set anew
  have fin : ∀ (es' : Array MapEntry) (cl' : Nat) (ks' vs' : List AV), (∀ V' : Vw, Ext V V' → Reps V' ks' (es'.toList.map (·.key)) ∧ Reps V' vs' (es'.toList.map (·.val))) →
      (Instr.mapUpdate t (.map (some b)) u c).run P V.w = .ok () { V.w with heap := V.w.heap.setIfInBounds b (.map es' cl') } → m' = V.mem.set id (.mp ks' vs') →
      ∃ V', (Instr.mapUpdate t (.map (some b)) u c).run P V.w = .ok () V'.w ∧ V'.mem = m' ∧ Ok V' ∧ Ext V V' := by
    rintro es' cl' ks' vs' hr hrun rfl
    have hs : (V.w.heap.setIfInBounds b (.map es' cl')).size = V.w.heap.size := by simp
    have hh : ∀ j, j ≠ b → (V.w.heap.setIfInBounds b (.map es' cl'))[j]? = V.w.heap[j]? := fun j hj => Array.getElem?_setIfInBounds_ne (Ne.symm hj)
    have ext : Ext V (V.wr id { V.w with heap := V.w.heap.setIfInBounds b (.map es' cl') } (.mp ks' vs')) := ext_wr o hm hv0 rfl hb rfl rfl rfl hs hh
    refine ⟨V.wr id { V.w with heap := V.w.heap.setIfInBounds b (.map es' cl') } (.mp ks' vs'), hrun, rfl, ok_wr o hm hv0 rfl hb rfl rfl rfl hs hh ?_, ext⟩
    exact ⟨es', cl', by show (V.w.heap.setIfInBounds b (.map es' cl'))[b]? = _; simp [hlt], (hr _ ext).1, (hr _ ext).2⟩
  split at h
  · rename_i j y' hf
    obtain ⟨q, hq, hmm⟩ := find_ok hk g2 g3 hf
    cases q with
    | none => exact hmm.elim
    | some p =>
      obtain ⟨hp1, _, _, e, he, hsame, hjl⟩ := hmm
      rw [Nat.sub_zero] at he hsame hjl
      have hfk : (Instr.findKey kt u es.toList).run P V.w = .ok (some p) V.w := MapKept.run_findKey hu hq
      have hej : es[j]? = some e := by simpa using he
      have hkj : ks[j]? = some ks[j] := List.getElem?_eq_getElem hjl
      have hkr : Rep V ks[j] e.key := g2.2 j _ _ hkj (by rw [List.getElem?_map]; simp [hej])
      have hsb : Instr.sameBits 10000 e.key u = true := same_bits hk hkr (by simpa [List.getD_eq_getElem?_getD, hkj] using hsame)
      cases h
      refine fin (es.modify j fun e => { e with key := u, val := c }) cl (ks.set j k) (vs.set j y) (fun V' ext => ⟨reps_modify (g2.mono ext) (fun _ _ => hk.mono ext), reps_modify (g3.mono ext) (fun _ _ => hy.mono ext)⟩) ?_ rfl
      have hp : p.1 = j := hp1
      simp only [Instr.mapUpdate, Sem.run_bind, run_und hum, Result.andThen_ok, MapKept.run_getObj_map g1, hck, hfk, hp, hej, Option.map_some, Option.getD_some, Instr.keyThatStays, hsb, if_true, Sem.run_pure]
      exact MapKept.run_setObj_map _ g1
  · rename_i hf
    obtain ⟨q, hq, hmm⟩ := find_ok hk g2 g3 hf
    cases q with
    | some p => exact hmm.elim
    | none =>
      have hfk : (Instr.findKey kt u es.toList).run P V.w = .ok none V.w := MapKept.run_findKey hu hq
      cases h
      refine fin (es.push { key := u, val := c, born := cl }) (cl + 1) (ks ++ [k]) (vs ++ [y]) (fun V' ext => ⟨?_, ?_⟩) ?_ rfl
      · simp only [Array.toList_push, List.map_append, List.map_cons, List.map_nil]
        exact (g2.mono ext).append (Reps.cons (hk.mono ext) (Reps.nil _))
      · simp only [Array.toList_push, List.map_append, List.map_cons, List.map_nil]
        exact (g3.mono ext).append (Reps.cons (hy.mono ext) (Reps.nil _))
      · simp only [Instr.mapUpdate, Sem.run_bind, run_und hum, Result.andThen_ok, MapKept.run_getObj_map g1, hck, hfk]
        exact MapKept.run_setObj_map _ g1
  · cases h

theorem makeS_ok {V : Vw} (o : Ok V) {t et sz b : Nat} {z : AV} {l c : Int} (kl kc : IntKind) (he : elemT P t = some et) (hsz : szT P et = some sz) (hb : byT P et = some b) (hz : zeroT P et = some z)
    (h0l : 0 ≤ l) (hlc : l ≤ c) (hby : b * c.toNat ≤ 140737488355328) (hc : c.toNat ≤ 140737488350000) (hzl : z.cells.length = sz) (hzd : z.data = true) (h0 : 0 < sz) :
    ∃ V' v, (Instr.makeSlice t (.int kl l) (.int kc c)).run P V.w = .ok v V'.w ∧ V'.mem = V.mem ++ [.arr et sz (List.replicate l.toNat z)] ∧ Ok V' ∧ Ext V V' ∧ Rep V' (.own V.mem.length l.toNat) v := by
  unfold elemT at he
  split at he
  case h_2 => cases he
  rename_i e' hu
  cases he
  obtain ⟨i, zv, hi, hiz, _, hzr⟩ := zero_rep hz
  have hisz : i.size = sz := by unfold szT at hsz; rw [hi] at hsz; simpa using hsz
  have hib : i.bytes = b := by unfold byT at hb; rw [hi] at hb; simpa using hb
  obtain ⟨hrz, hlz, h1z⟩ := (hzr V).cells (not_tup hzd)
  have hzs : zv.cells.size = sz := by have := hrz.1; simp at this; omega
  have hcc : ((c.toNat : Nat) : Int) = c := Int.toNat_of_nonneg (by omega)
  have hbi : (b : Int) * (c.toNat : Int) ≤ 281474976710656 := by
    rw [← Int.natCast_mul]
    exact Int.le_trans (Int.ofNat_le.2 hby) (by decide)
  have hrun := run_make (P := P) V.w t et i zv hu hi hiz kl kc l c h0l hlc (by rw [hib, ← hcc]; exact hbi) (by omega)
  rw [hisz] at hrun
  have hwz : ∀ x ∈ List.replicate l.toNat z, wide x sz := fun x hx => by
    have := List.eq_of_mem_replicate hx
    subst this
    exact ⟨hzl, hlz⟩
  have hlcn : l.toNat ≤ c.toNat := by omega
  have e := ext_new o (.arr et sz (List.replicate l.toNat z)) (.cells (madeCells zv.cells (c.toNat * sz)) et) c.toNat
  have hmul : l.toNat * sz ≤ c.toNat * sz := Nat.mul_le_mul_right _ hlcn
  have hrep : Reps (V.new (.arr et sz (List.replicate l.toNat z)) (.cells (madeCells zv.cells (c.toNat * sz)) et) c.toNat) (flatC (List.replicate l.toNat z)) ((madeCells zv.cells (c.toNat * sz)).toList.take ((List.replicate l.toNat z).length * sz)) := by
    refine ⟨?_, fun k y q hy hq => ?_⟩
    · have h1 := size_madeCells zv.cells (c.toNat * sz)
      rw [flatC_length hwz, List.length_take, List.length_replicate]
      rw [show (madeCells zv.cells (c.toNat * sz)).toList.length = c.toNat * sz from h1]
      exact Nat.min_eq_left hmul
    have hk : k < l.toNat * sz := by
      have := (List.getElem?_eq_some_iff.1 hy).1
      rwa [flatC_length hwz, List.length_replicate] at this
    have hqz : k / sz < l.toNat := (Nat.div_lt_iff_lt_mul h0).2 hk
    have hg := flatC_get hwz (j := k / sz) (m := k % sz) (x := z) (by rw [List.getElem?_replicate, if_pos hqz]) (Nat.mod_lt _ h0)
    rw [show k / sz * sz + k % sz = k from by rw [Nat.mul_comm]; exact Nat.div_add_mod k sz, hy] at hg
    obtain ⟨c', hc', hrep⟩ := hrz.get hg.symm
    have hcq : q = c' := by
      rw [List.getElem?_take, List.length_replicate, if_pos hk, Array.getElem?_toList] at hq
      unfold madeCells at hq
      rw [Array.getElem?_map, Array.getElem?_range, if_pos (by omega)] at hq
      simp only [Option.map_some, Option.some.injEq] at hq
      rw [Array.getElem?_toList] at hc'
      rw [← hq, hzs, getElem!_def, hc']
    rw [hcq]; exact hrep.mono e
  refine ⟨V.new (.arr et sz (List.replicate l.toNat z)) (.cells (madeCells zv.cells (c.toNat * sz)) et) c.toNat, .slice (some ⟨V.w.heap.size, 0, none⟩) l.toNat c.toNat, hrun, rfl, ok_new o _ _ _ ?_, e, ?_⟩
  · refine ⟨h0, by rw [new_cp]; simpa using hlcn, by rw [new_cp]; simp [maxLen]; omega, hwz, madeCells zv.cells (c.toNat * sz), new_heap V _ _ _, by rw [new_cp, size_madeCells], hrep⟩
  · exact .own _ _ _ rfl (new_hd V (.arr et sz (List.replicate l.toNat z)) _ _ (by simp [shpB])) (fun _ => .inl ⟨_, new_rs V _ _ _, by rw [new_cp]⟩)

theorem make_ok {V : Vw} (o : Ok V) (t : Nat) : ∃ V' v, (Instr.makeMap t none).run P V.w = .ok v V'.w ∧ V'.mem = V.mem ++ [.mp [] []] ∧ Ok V' ∧ Ext V V' ∧ Rep V' (.mp V.mem.length) v := by
  have e := ext_new o (.mp [] []) (.map #[] 0) 0
  refine ⟨V.new (.mp [] []) (.map #[] 0) 0, .map (some V.w.heap.size), rfl, rfl, ok_new o _ _ _ ⟨#[], 0, new_heap V _ _ _, Reps.nil _, Reps.nil _⟩, e, ?_⟩
  exact .mp _ _ rfl (new_hd V (.mp [] []) _ _ rfl) (fun _ => ⟨_, new_rs V _ _ _, rfl⟩)
end Go.Ab
