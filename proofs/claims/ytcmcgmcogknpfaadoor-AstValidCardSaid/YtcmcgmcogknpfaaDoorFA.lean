/- What an argument reads as, as an abstract value. -/
import Derived.OpenShut
import Derived.LaidMore
import Derived.ProofKit
import Derived.Carry
import Derived.Test.YtcmcgmcogknpfaaDoorEZ
set_option linter.unusedVariables false
set_option linter.unusedSimpArgs false
namespace Go.Ab
open Go

/-- The view in which a call begins: all that lies there is never written again. -/
def U0 (W : World) : Vw := { w := W, S := fun b => b < W.heap.size, rs := fun _ => none, cp := fun _ => 0, mem := [] }
theorem ok_U0 (W : World) : Ok (U0 W) where
  sb := fun b h => h
  rb := fun id b h => by cases h
  sep := fun id b v _ h => by cases h
  inj := fun id id' b v v' _ _ h => by cases h
  blk := fun id b k _ h => by cases h

def mkV (P : Program) (t : Nat) (cs : List AV) : AV := if aggT P t then .agg cs else cs.head?.getD .undef
def tiled (P : Program) : Nat → List Field → Nat → Bool
  | off, [], total => off == total
  | off, f :: fs, total => f.offset == off && tiled P (off + P.cellsOf f.type) fs total
def plainT (P : Program) (ps : List Nat) (t : Nat) : Bool :=
  match P.underlying t with
  | some .bool | some (.int _) | some .string => true
  | some (.slice e) => ps.contains e && decide (0 < P.cellsOf e) && (if aggT P e then true else P.cellsOf e == 1)
  | some (.struct fs) => fs.toList.all (fun f => ps.contains f.type) && tiled P 0 fs.toList (P.cellsOf t)
  | some (.array n e) => ps.contains e && P.cellsOf t == n * P.cellsOf e
  | _ => false
def plainS (P : Program) (ps : List Nat) : Bool := ps.all (plainT P ps)

/-- A type's cells, as data and as abstract values. -/
def Typ {H : Type} (P : Program) : Nat → Nat → List AV → DataW H → Prop
  | 0, _, _, _ => False
  | n + 1, t, xs, d => match P.underlying t with
    | some .bool => ∃ b, xs = [.bool b] ∧ d = .lit (.bool b)
    | some (.int k) => ∃ i, xs = [.int k i] ∧ d = .lit (.int k i) ∧ (Lit.int k i).wf = true
    | some .string => ∃ s : ByteArray, xs = [.str s] ∧ d = .lit (.string s.data.toList) ∧ s.size ≤ maxLen
    | some (.slice e) => (xs = [.seq true true (P.cellsOf e) []] ∧ d = .nil) ∨ ∃ (ys : List AV) (ds sp : List (DataW H)), xs = [.seq false false (P.cellsOf e) ys] ∧ d = .slice ds sp ∧ ys.length = ds.length ∧ ys.length ≤ maxLen ∧
        ∀ (j : Nat) (y : AV) (dj : DataW H), ys[j]? = some y → ds[j]? = some dj → ∃ cs, Typ P n e cs dj ∧ y = mkV P e cs
    | some (.struct fs) => ∃ (parts : List (List AV)) (ds : List (DataW H)), parts.length = fs.size ∧ ds.length = fs.size ∧ d = .agg ds ∧ xs = parts.flatten ∧
        ∀ (j : Nat) (f : Field) (p : List AV) (dj : DataW H), fs[j]? = some f → parts[j]? = some p → ds[j]? = some dj → Typ P n f.type p dj
    | some (.array m e) => ∃ (parts : List (List AV)) (ds : List (DataW H)), parts.length = m ∧ ds.length = m ∧ d = .agg ds ∧ xs = parts.flatten ∧
        ∀ (j : Nat) (p : List AV) (dj : DataW H), parts[j]? = some p → ds[j]? = some dj → Typ P n e p dj
    | _ => False

section
variable {H : Type} {enc : TypeId × Value → H} {P : Program} {W : World} {spare : Nat → Bool} {held : Bool}

theorem mkV_cells {t : Nat} {xs : List AV} (hl : ∀ x ∈ xs, x.leaf = true) (h : aggT P t = true ∨ xs.length = 1) : (mkV P t xs).cells = xs := by
  unfold mkV
  split
  · rfl
  · rename_i ha
    have h1 := h.resolve_left ha
    obtain ⟨x, rfl⟩ := List.length_eq_one_iff.1 h1
    exact cells_leaf (hl x (by simp))

/-- Fields laid side by side. -/
theorem read_fields {cs : List Value} {Q : Nat → List AV → DataW H → Prop} : ∀ (fs : List Field) (off : Nat) (xs : List (DataW H × List MemPlace)), tiled P off fs cs.length = true → xs.length = fs.length →
    (∀ (j : Nat) (f : Field) (x : DataW H × List MemPlace), fs[j]? = some f → xs[j]? = some x → ∃ p, Reps (U0 W) p ((cs.drop f.offset).take (P.cellsOf f.type)) ∧ (∀ y ∈ p, y.leaf = true) ∧ Q f.type p x.1) →
    ∃ parts : List (List AV), parts.length = fs.length ∧ Reps (U0 W) parts.flatten (cs.drop off) ∧ (∀ y ∈ parts.flatten, y.leaf = true) ∧
      ∀ (j : Nat) (f : Field) (p : List AV) (x : DataW H × List MemPlace), fs[j]? = some f → parts[j]? = some p → xs[j]? = some x → Q f.type p x.1
  | [], off, xs, ht, hl, h => by
    refine ⟨[], rfl, ?_, fun y hy => by simp at hy, fun j f p x hf => by simp at hf⟩
    have : off = cs.length := by simpa [tiled] using ht
    subst this
    rw [List.drop_length]
    exact Reps.nil _
  | f :: fs, off, [], ht, hl, h => by simp at hl
  | f :: fs, off, x :: xs, ht, hl, h => by
    simp only [tiled, Bool.and_eq_true, beq_iff_eq] at ht
    obtain ⟨ho, ht⟩ := ht
    obtain ⟨p, h1, h2, h3⟩ := h 0 f x rfl rfl
    obtain ⟨parts, g1, g2, g3, g4⟩ := read_fields fs (off + P.cellsOf f.type) xs ht (by simpa using hl) (fun j f' x' hf hx => h (j + 1) f' x' (by simpa using hf) (by simpa using hx))
    refine ⟨p :: parts, by simp [g1], ?_, ?_, ?_⟩
    · rw [List.flatten_cons, ← List.take_append_drop (P.cellsOf f.type) (cs.drop off), List.drop_drop]
      rw [ho] at h1
      exact h1.append g2
    · intro y hy
      rw [List.flatten_cons, List.mem_append] at hy
      rcases hy with hy | hy
      · exact h2 y hy
      · exact g3 y hy
    · intro j f' p' x' hf hp hx
      cases j with
      | zero => simp at hf hp hx; subst hf; subst hp; subst hx; exact h3
      | succ j => exact g4 j f' p' x' (by simpa using hf) (by simpa using hp) (by simpa using hx)
/-- Elements laid side by side. -/
theorem read_elems {c : Nat} {cs : List Value} {Q : List AV → DataW H → Prop} : ∀ (m i : Nat) (xs : List (DataW H × List MemPlace)), cs.length = (i + m) * c → xs.length = m →
    (∀ (j : Nat) (x : DataW H × List MemPlace), xs[j]? = some x → ∃ p, Reps (U0 W) p ((cs.drop ((i + j) * c)).take c) ∧ (∀ y ∈ p, y.leaf = true) ∧ Q p x.1) →
    ∃ parts : List (List AV), parts.length = m ∧ Reps (U0 W) parts.flatten (cs.drop (i * c)) ∧ (∀ y ∈ parts.flatten, y.leaf = true) ∧
      ∀ (j : Nat) (p : List AV) (x : DataW H × List MemPlace), parts[j]? = some p → xs[j]? = some x → Q p x.1
  | 0, i, xs, hc, hl, h => by
    refine ⟨[], rfl, ?_, fun y hy => by simp at hy, fun j p x hp => by simp at hp⟩
    have : cs.drop (i * c) = [] := by rw [List.drop_eq_nil_iff]; simp at hc; omega
    rw [this]
    exact Reps.nil _
  | m + 1, i, [], hc, hl, h => by simp at hl
  | m + 1, i, x :: xs, hc, hl, h => by
    obtain ⟨p, h1, h2, h3⟩ := h 0 x rfl
    obtain ⟨parts, g1, g2, g3, g4⟩ := read_elems m (i + 1) xs (by rw [hc]; congr 1; omega) (by simpa using hl) (fun j x' hx => by
      have := h (j + 1) x' (by simpa using hx)
      rwa [show i + (j + 1) = i + 1 + j by omega] at this)
    refine ⟨p :: parts, by simp [g1], ?_, ?_, ?_⟩
    · rw [List.flatten_cons, ← List.take_append_drop c (cs.drop (i * c)), List.drop_drop]
      rw [Nat.add_zero] at h1
      rw [Nat.succ_mul] at g2
      exact h1.append g2
    · intro y hy
      rw [List.flatten_cons, List.mem_append] at hy
      rcases hy with hy | hy
      · exact h2 y hy
      · exact g3 y hy
    · intro j p' x' hp hx
      cases j with
      | zero => simp at hp hx; subst hp; subst hx; exact h3
      | succ j => exact g4 j p' x' (by simpa using hp) (by simpa using hx)

theorem choose_list {α β : Type} {R : Nat → α → β → Prop} : ∀ (l : List α), (∀ (j : Nat) (x : α), l[j]? = some x → ∃ y, R j x y) → ∃ ys : List β, ys.length = l.length ∧ ∀ (j : Nat) (x : α) (y : β), l[j]? = some x → ys[j]? = some y → R j x y
  | [], _ => ⟨[], rfl, fun j x y h => by simp at h⟩
  | a :: l, h => by
    obtain ⟨y, hy⟩ := h 0 a rfl
    obtain ⟨ys, h1, h2⟩ := choose_list (R := fun j x y => R (j + 1) x y) l (fun j x hx => h (j + 1) x (by simpa using hx))
    refine ⟨y :: ys, by simp [h1], fun j x z hx hz => ?_⟩
    cases j with
    | zero => simp at hx hz; subst hx; subst hz; exact hy
    | succ j => exact h2 j x z (by simpa using hx) (by simpa using hz)

theorem read_ok {ps : List Nat} (hp : plainS P ps = true) : ∀ (fuel t : Nat) (cs : List Value) (x : DataW H × List MemPlace), t ∈ ps → DataW.trod enc P W 0 spare held fuel t cs = some x →
    ∃ xs, Reps (U0 W) xs cs ∧ (∀ y ∈ xs, y.leaf = true) ∧ Typ P fuel t xs x.1 := by
  intro fuel
  induction fuel with
  | zero => intro t cs x _ h; simp [DataW.trod] at h
  | succ n ih =>
    intro t cs x ht h
    have hpt : plainT P ps t = true := List.all_eq_true.1 hp t ht
    unfold plainT at hpt
    have one : ∀ {a : AV} {v : Value}, Rep (U0 W) a v → a.leaf = true → Reps (U0 W) [a] [v] ∧ ∀ y ∈ [a], y.leaf = true := fun hr hl => ⟨Reps.cons hr (Reps.nil _), by simpa using hl⟩
    split at hpt
    · rename_i hu
      obtain ⟨b, rfl, rfl⟩ := DataW.trod_bool hu h
      obtain ⟨h1, h2⟩ := one (.bool b) rfl
      exact ⟨_, h1, h2, by rw [Typ, hu]; exact ⟨b, rfl, rfl⟩⟩
    · rename_i k hu
      obtain ⟨i, rfl, rfl, hw⟩ := DataW.trod_int hu h
      obtain ⟨h1, h2⟩ := one (.int k i) rfl
      exact ⟨_, h1, h2, by rw [Typ, hu]; exact ⟨i, rfl, rfl, hw⟩⟩
    · rename_i hu
      obtain ⟨s, rfl, rfl, hs⟩ := DataW.trod_string hu h
      obtain ⟨h1, h2⟩ := one (.str s) rfl
      exact ⟨_, h1, h2, by rw [Typ, hu]; exact ⟨s, rfl, rfl, hs⟩⟩
    · rename_i e hu
      simp only [Bool.and_eq_true, decide_eq_true_eq, List.contains_eq_mem] at hpt
      obtain ⟨⟨he, h0⟩, hagg⟩ := hpt
      rcases DataW.trod_slice hu h with ⟨rfl, rfl⟩ | ⟨a, len, cap, elems, rest, m, hm, rfl, rfl, hb, hlc, hcm, hlen, hel, _, _⟩
      · obtain ⟨h1, h2⟩ := one (Rep.seqNil (V := U0 W) true (P.cellsOf e)) rfl
        exact ⟨_, h1, h2, by rw [Typ, hu]; exact .inl ⟨rfl, rfl⟩⟩
      · have hm : n = m := by omega
        subst hm
        have step : ∀ (j : Nat) (x : DataW H × List MemPlace), elems[j]? = some x → ∃ p : List AV × List Value, W.cells? 0 (a.add (j * P.cellsOf e)) (P.cellsOf e) = some p.2 ∧ Reps (U0 W) p.1 p.2 ∧ (∀ y ∈ p.1, y.leaf = true) ∧ Typ P n e p.1 x.1 := by
          intro j x hx
          have hj : j < len := by rw [← hlen]; exact (List.getElem?_eq_some_iff.1 hx).1
          have := hel j hj
          rw [hx] at this
          obtain ⟨cs', h1, h2⟩ := Option.bind_eq_some_iff.1 this
          obtain ⟨xs, g1, g2, g3⟩ := ih e cs' x he h2
          exact ⟨(xs, cs'), h1, g1, g2, g3⟩
        obtain ⟨qs, hq1, hq2⟩ := choose_list elems step
        have hcell : ∀ (j : Nat) (q : List AV × List Value), qs[j]? = some q → (mkV P e q.1).cells = q.1 ∧ q.1.length = P.cellsOf e ∧ q.2.length = P.cellsOf e := by
          intro j q hq
          have hj : j < elems.length := by rw [← hq1]; exact (List.getElem?_eq_some_iff.1 hq).1
          obtain ⟨g1, g2, g3, g4⟩ := hq2 j _ q (List.getElem?_eq_getElem hj) hq
          have hl2 := (World.cells?_some g1).2.1
          have hl1 : q.1.length = P.cellsOf e := by rw [← g2.1]; exact hl2
          refine ⟨mkV_cells g3 ?_, hl1, hl2⟩
          split at hagg
          · rename_i ha; exact .inl ha
          · right; rw [hl1]; simpa using hagg
        let ys := qs.map fun q => mkV P e q.1
        have hys : ∀ (j : Nat) (y : AV), ys[j]? = some y → ∃ q, qs[j]? = some q ∧ y = mkV P e q.1 := by
          intro j y hy
          simp only [ys, List.getElem?_map] at hy
          obtain ⟨q, hq, rfl⟩ := Option.map_eq_some_iff.1 hy
          exact ⟨q, hq, rfl⟩
        have hyl : ys.length = len := by simp [ys, hq1, hlen]
        have hrep : Rep (U0 W) (.seq false false (P.cellsOf e) ys) (.slice (some a) len cap) := by
          rw [← hyl]
          refine .seq false (P.cellsOf e) ys a cap (fun j m => ((qs[j]?).bind fun q => q.2[m]?).getD undef) (by omega) (fun h => by cases h) (fun hne => ?_) (fun _ => h0) (fun y hy => ?_) (fun j y m z hy hz => ?_) (fun j y m z hy hz => ?_)
          · have hlp : 0 < ys.length := List.length_pos_iff.2 hne
            have hq0 : qs[0]? = some qs[0] := List.getElem?_eq_getElem (by simpa [ys] using hlp)
            have he0 : elems[0]? = some elems[0] := List.getElem?_eq_getElem (by rw [hlen, ← hyl]; exact hlp)
            obtain ⟨g1, _⟩ := hq2 0 _ _ he0 hq0
            have := World.cells?_block g1 h0
            rw [add_block] at this
            exact this
          · obtain ⟨j, hj, rfl⟩ := List.getElem_of_mem hy
            obtain ⟨q, hq, hyq⟩ := hys j _ (List.getElem?_eq_getElem hj)
            obtain ⟨c1, c2, c3⟩ := hcell j q hq
            have hje : j < elems.length := by rw [hlen, ← hyl]; exact hj
            obtain ⟨_, _, g3, _⟩ := hq2 j _ q (List.getElem?_eq_getElem hje) hq
            rw [hyq, c1]
            exact ⟨c2, g3⟩
          · obtain ⟨q, hq, rfl⟩ := hys j y hy
            obtain ⟨c1, c2, c3⟩ := hcell j q hq
            have hje : j < elems.length := by rw [← hq1]; exact (List.getElem?_eq_some_iff.1 hq).1
            obtain ⟨g1, _, _, _⟩ := hq2 j _ q (List.getElem?_eq_getElem hje) hq
            rw [c1] at hz
            have hm : m < P.cellsOf e := by rw [← c2]; exact (List.getElem?_eq_some_iff.1 hz).1
            have := (World.cells?_some g1).2.2 m hm
            rw [add_add] at this
            show W.cell? _ = _
            rw [this, hq]
            simp [List.getElem?_eq_getElem (show m < q.2.length by omega)]
          · obtain ⟨q, hq, rfl⟩ := hys j y hy
            obtain ⟨c1, c2, c3⟩ := hcell j q hq
            have hje : j < elems.length := by rw [← hq1]; exact (List.getElem?_eq_some_iff.1 hq).1
            obtain ⟨_, g2, _, _⟩ := hq2 j _ q (List.getElem?_eq_getElem hje) hq
            rw [c1] at hz
            have hm : m < P.cellsOf e := by rw [← c2]; exact (List.getElem?_eq_some_iff.1 hz).1
            rw [hq]
            simp only [Option.bind_some, List.getElem?_eq_getElem (show m < q.2.length by omega), Option.getD_some]
            exact g2.2 m z _ hz (List.getElem?_eq_getElem (by omega))
        obtain ⟨h1, h2⟩ := one hrep rfl
        refine ⟨_, h1, h2, ?_⟩
        rw [Typ, hu]
        refine .inr ⟨ys, elems.map (·.1), rest.map (·.1), rfl, rfl, by simp [hyl, hlen], by omega, fun j y dj hy hd => ?_⟩
        obtain ⟨q, hq, rfl⟩ := hys j y hy
        rw [List.getElem?_map] at hd
        obtain ⟨el, hel', rfl⟩ := Option.map_eq_some_iff.1 hd
        obtain ⟨_, _, _, g4⟩ := hq2 j el q hel' hq
        exact ⟨q.1, g4, rfl⟩
    · rename_i fs hu
      simp only [Bool.and_eq_true, List.all_eq_true, List.contains_eq_mem, decide_eq_true_eq] at hpt
      obtain ⟨xs, m, hm, rfl, hl, hxl, hf⟩ := DataW.trod_struct hu h
      have hm : n = m := by omega
      subst hm
      obtain ⟨parts, g1, g2, g3, g4⟩ := read_fields (P := P) (W := W) (cs := cs) (Q := fun t p d => Typ P n t p d) fs.toList 0 xs (by rw [hl]; exact hpt.2) (by simpa using hxl) (fun j f x hfj hx => by
        have hfj' : fs[j]? = some f := by simpa using hfj
        have h1 := hf j f hfj'
        rw [hx] at h1
        obtain ⟨p, k1, k2, k3⟩ := ih f.type _ x (by simpa using hpt.1 f (List.mem_of_getElem? hfj)) h1
        exact ⟨p, k1, k2, k3⟩)
      refine ⟨parts.flatten, by simpa using g2, g3, ?_⟩
      rw [Typ, hu]
      refine ⟨parts, xs.map (·.1), by simpa using g1, by simpa using hxl, rfl, rfl, fun j f p dj hfj hpj hdj => ?_⟩
      rw [List.getElem?_map] at hdj
      obtain ⟨x, hx, rfl⟩ := Option.map_eq_some_iff.1 hdj
      exact g4 j f p x (by simpa using hfj) hpj hx
    · rename_i k e hu
      simp only [Bool.and_eq_true, List.contains_eq_mem, decide_eq_true_eq, beq_iff_eq] at hpt
      obtain ⟨xs, m, hm, rfl, hl, hxl, hf⟩ := DataW.trod_array hu h
      have hm : n = m := by omega
      subst hm
      obtain ⟨parts, g1, g2, g3, g4⟩ := read_elems (W := W) (c := P.cellsOf e) (cs := cs) (Q := fun p d => Typ P n e p d) k 0 xs (by rw [hl, hpt.2, Nat.zero_add]) hxl (fun j x hx => by
        have hj : j < k := by rw [← hxl]; exact (List.getElem?_eq_some_iff.1 hx).1
        have h1 := hf j hj
        rw [hx] at h1
        rw [Nat.zero_add]
        exact ih e _ x hpt.1 h1)
      refine ⟨parts.flatten, by simpa using g2, g3, ?_⟩
      rw [Typ, hu]
      refine ⟨parts, xs.map (·.1), g1, by simpa using hxl, rfl, rfl, fun j p dj hpj hdj => ?_⟩
      rw [List.getElem?_map] at hdj
      obtain ⟨x, hx, rfl⟩ := Option.map_eq_some_iff.1 hdj
      exact g4 j p x hpj hx
    · cases hpt
end
end Go.Ab
