/- A row's frame: from the evaluator's answer to the row's contract. -/
import Derived.Test.YtcmcgmcogknpfaaDoorFA
set_option linter.unusedVariables false
set_option linter.unusedSimpArgs false
namespace Go.Ab
open Go Go.ChangeShapes Go.WideShapes Go.ChangeAt Go.RowKit

def TypAll {H : Type} (P : Program) : List Nat → List AV → List (DataW H) → Prop
  | [], [], [] => True
  | t :: ts, a :: as, d :: ds => (∃ n cs, Typ P n t cs d ∧ a = mkV P t cs) ∧ TypAll P ts as ds
  | _, _, _ => False

section
variable {H : Type} {enc : TypeId × Value → H} {P : Program} {W : World} {spare : Nat → Bool} {held : Bool}

theorem arg_read {ps : List Nat} (hp : plainS P ps = true) {r : Reach} {base t : Nat} (ht : t ∈ ps) {v : Value} {d : DataW H} {pl : List MemPlace} (h : DataW.Trod enc P W 0 spare held t v d pl) (hok : Value.okWide P W r base t v) :
    ∃ n cs, Typ P n t cs d ∧ Rep (U0 W) (mkV P t cs) v := by
  obtain ⟨fuel, hf⟩ := h
  obtain ⟨xs, h1, h2, h3⟩ := read_ok hp fuel t _ _ ht hf
  refine ⟨fuel, xs, h3, ?_⟩
  have hpt : plainT P ps t = true := List.all_eq_true.1 hp t ht
  unfold plainT at hpt
  have one : v.cells = #[v] → aggT P t = false → Rep (U0 W) (mkV P t xs) v := by
    intro hc ha
    rw [hc] at h1
    unfold mkV
    rw [ha]
    cases xs with
    | nil => have := h1.1; simp at this
    | cons x xs' => exact h1.2 0 x v rfl rfl
  have many : ∀ cs, v = .agg cs → aggT P t = true → Rep (U0 W) (mkV P t xs) v := by
    rintro cs rfl ha
    unfold mkV
    rw [ha]
    exact .agg xs cs (by have := h1.1; simpa [Value.cells] using this) h2 (fun j x c hx hc => h1.2 j x c hx (by simpa [Value.cells] using hc))
  split at hpt
  · rename_i hu
    obtain ⟨b, rfl⟩ := okWide_bool hu hok
    exact one rfl (by simp [aggT, hu])
  · rename_i k hu
    obtain ⟨b, rfl⟩ := okWide_int hu hok
    exact one rfl (by simp [aggT, hu])
  · rename_i hu
    obtain ⟨b, rfl⟩ := okWide_string hu hok
    exact one rfl (by simp [aggT, hu])
  · rename_i e hu
    obtain ⟨a, l, c, rfl⟩ := okWide_slice hu hok
    exact one rfl (by simp [aggT, hu])
  · rename_i fs hu
    unfold Value.okWide at hok
    rw [hu] at hok
    obtain ⟨cs, rfl, _⟩ := hok
    exact many cs rfl (by simp [aggT, hu])
  · rename_i k e hu
    unfold Value.okWide at hok
    rw [hu] at hok
    obtain ⟨cs, rfl, _⟩ := hok
    exact many cs rfl (by simp [aggT, hu])
  · cases hpt

theorem args_read {ps : List Nat} (hp : plainS P ps = true) {r : Reach} {base : Nat} : ∀ {ts : List Nat} {vs : List Value} {ds : List (DataW H)} {pl : List MemPlace}, (∀ t ∈ ts, t ∈ ps) → DataW.TrodAll enc P W 0 spare held ts vs ds pl →
    (∀ (j : Nat) (t : TypeId) (v : Value), ts[j]? = some t → vs[j]? = some v → Value.okWide P W r base t v) → ∃ as, Reps (U0 W) as vs ∧ TypAll P ts as ds
  | [], [], [], pl, _, _, _ => ⟨[], Reps.nil _, trivial⟩
  | [], _ :: _, _, pl, _, h, _ => by simp [DataW.TrodAll] at h
  | [], [], _ :: _, pl, _, h, _ => by simp [DataW.TrodAll] at h
  | _ :: _, [], _, pl, _, h, _ => by simp [DataW.TrodAll] at h
  | _ :: _, _ :: _, [], pl, _, h, _ => by simp [DataW.TrodAll] at h
  | t :: ts, v :: vs, d :: ds, pl, hts, h, hok => by
    obtain ⟨p, q, h1, h2, _⟩ := h
    obtain ⟨n, cs, g1, g2⟩ := arg_read hp (hts t (by simp)) h1 (hok 0 t v rfl rfl)
    obtain ⟨as, g3, g4⟩ := args_read hp (ts := ts) (fun t ht => hts t (List.mem_cons_of_mem _ ht)) h2 (fun j t v ht hv => hok (j + 1) t v (by simpa using ht) (by simpa using hv))
    exact ⟨mkV P t cs :: as, Reps.cons g2 g3, ⟨n, cs, g1, rfl⟩, g4⟩

theorem trodAll_below (hl : laidOutB P = true) {W' : World} (hb : Below W.heap.size W W') : ∀ {ts : List Nat} {vs : List Value} {ds : List (DataW H)} {pl : List MemPlace}, (∀ t ∈ ts, P.readableRec t = true ∧ t < P.types.size) →
    DataW.TrodAll enc P W 0 (fun _ => true) true ts vs ds pl → (∀ x ∈ pl, x.block < W.heap.size) → DataW.TrodAll enc P W' 0 (fun b => decide (b < W.heap.size)) true ts vs ds pl
  | [], [], [], pl, _, h, _ => h
  | [], _ :: _, _, pl, _, h, _ => by simp [DataW.TrodAll] at h
  | [], [], _ :: _, pl, _, h, _ => by simp [DataW.TrodAll] at h
  | _ :: _, [], _, pl, _, h, _ => by simp [DataW.TrodAll] at h
  | _ :: _, _ :: _, [], pl, _, h, _ => by simp [DataW.TrodAll] at h
  | t :: ts, v :: vs, d :: ds, pl, hts, h, hlt => by
    obtain ⟨p, q, h1, h2, rfl⟩ := h
    exact ⟨p, q, Below.trod hl (hts t (by simp)).1 (hts t (by simp)).2 h1 hb (fun x hx => hlt x (List.mem_append_left _ hx)),
      trodAll_below hl hb (fun t ht => hts t (List.mem_cons_of_mem _ ht)) h2 (fun x hx => hlt x (List.mem_append_right _ hx)), rfl⟩

/-- The row's 'post' for a law that answers true. -/
theorem post_true {fn : Func} {s : ChangeSpec} {apart : Bool} {W' : World} {args : Array Value} {ds gs : List (DataW H)} {before : List MemPlace} (hl : laidOutB P = true) (hts : ∀ t ∈ fn.params.toList, P.readableRec t = true ∧ t < P.types.size)
    {tb : Nat} (hres : fn.resultTypes = #[tb]) (htb : P.underlying tb = some .bool) (hsv : s.vars = []) (hW : DataW.Whole enc P fn.params.toList s.vars apart W args.toList ds gs before)
    (hr : (s.fn H (ds ++ gs)).results = [.lit (.bool true)]) (ha : (s.fn H (ds ++ gs)).args = ds) (hv : (s.fn H (ds ++ gs)).vars = []) (hb : Below W.heap.size W W') :
    s.post enc P fn apart true false false W args (.bool true) W' := by
  have hlt : ∀ x ∈ before, x.block < W.heap.size := hW.lt
  have hW0 := hW
  obtain ⟨p, q, hA, hV, rfl, hz, hn⟩ := hW
  refine ⟨ds, gs, p ++ q, [], p, [], hW0, ?_, ?_, ?_, hb.frame _, fun h => by cases h⟩
  · rw [hr, hres]
    exact trodAll_mk1 (shut_bool htb true)
  · rw [ha]
    exact trodAll_below hl hb hts hA (fun x hx => hlt x (List.mem_append_left _ hx))
  · rw [hv, hsv]
    rfl

theorem below_of_ext {V : Vw} (h : Ext (U0 W) V) : Below W.heap.size W V.w := ⟨h.os, h.tape, h.output, h.size, fun b hb => h.stab b hb⟩

/-- The evaluator says true: so does the call, and nothing old turns. -/
theorem law_contract {cx : Cx} (hX : CxOK cx) (gl : Gl cx (U0 W)) {n f : Nat} {as : List AV} (hev : evPure cx n f as = some (.bool true)) {args : Array Value} (hr : Reps (U0 W) as args.toList) {Q : Value → World → Prop}
    (hq : ∀ W', Below W.heap.size W W' → Q (.bool true) W') : Calls cx.P f args W fun e W' => ∃ v, e = .returned v ∧ Q v W' := by
  obtain ⟨_, hc⟩ := pure_call hX hev (ok_U0 W) rfl gl hr
  refine hc.mono ?_
  rintro e w' ⟨v, V, rfl, rfl, hm, ok, ext, rep⟩
  cases rep
  exact ⟨_, rfl, hq _ (below_of_ext ext)⟩
end
end Go.Ab
