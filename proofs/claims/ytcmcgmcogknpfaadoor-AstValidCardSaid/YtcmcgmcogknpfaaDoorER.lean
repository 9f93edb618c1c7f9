/- Regions that draw their order: whatever the order, what the evaluator gives. -/
import Derived.Test.YtcmcgmcogknpfaaDoorEQ
set_option linter.unusedVariables false
set_option linter.unusedSimpArgs false
namespace Go.Ab
open Go

variable {cx : Cx} {F Y : CallT} {ops : Array Oper}

/-! ### What must come before -/
theorem fold_bit {g : Nat → Nat} {i : Nat} : ∀ {l : List Edge} {b : Nat}, (l.foldl (fun b e => if bindE e then b ||| (1 <<< e.on) ||| g e.on else b) b).testBit i = true → b.testBit i = true ∨ ∃ e ∈ l, bindE e = true ∧ (e.on = i ∨ (g e.on).testBit i = true)
  | [], b, h => .inl h
  | x :: l, b, h => by
    rw [List.foldl_cons] at h
    rcases fold_bit h with h | ⟨e, he, h1, h2⟩
    · split at h
      · rename_i hb
        rw [Nat.testBit_or, Nat.testBit_or] at h
        simp only [Bool.or_eq_true] at h
        rcases h with (h | h) | h
        · exact .inl h
        · refine .inr ⟨x, by simp, hb, .inl ?_⟩
          rw [Nat.one_shiftLeft, Nat.testBit_two_pow] at h
          simpa using h
        · exact .inr ⟨x, by simp, hb, .inr h⟩
      · exact .inl h
    · exact .inr ⟨e, List.mem_cons_of_mem _ he, h1, h2⟩
theorem ancsAux_keep : ∀ (os : List Oper) (acc : List Nat) (k : Nat), k < acc.length → (ancsAux os acc).getD k 0 = acc.getD k 0
  | [], acc, k, h => rfl
  | o :: os, acc, k, h => by
    unfold ancsAux
    rw [ancsAux_keep os _ k (by simp; omega)]
    simp [List.getD_eq_getElem?_getD, List.getElem?_append_left h]
theorem ancsAux_bit : ∀ (os : List Oper) (acc : List Nat) (k : Nat) (i : Nat), ((ancsAux os acc).getD (acc.length + k) 0).testBit i = true →
    ∃ o, os[k]? = some o ∧ ∃ e ∈ o.after.toList, bindE e = true ∧ (e.on = i ∨ ((ancsAux os acc).getD e.on 0).testBit i = true)
  | [], acc, k, i, h => by
    unfold ancsAux at h
    simp [List.getD_eq_getElem?_getD] at h
  | o :: os, acc, k, i, h => by
    cases k with
    | zero =>
      refine ⟨o, rfl, ?_⟩
      have hk := h
      unfold ancsAux at h
      rw [ancsAux_keep os _ _ (by simp)] at h
      have h0 : ∀ v, (acc ++ [v]).getD (acc.length + 0) 0 = v := fun v => by simp
      rw [h0] at h
      rcases fold_bit (g := fun j => acc.getD j 0) h with h | ⟨e, he, h1, h2⟩
      · rw [Nat.zero_testBit] at h; cases h
      · refine ⟨e, he, h1, ?_⟩
        rcases h2 with h2 | h2
        · exact .inl h2
        · refine .inr ?_
          by_cases hl : e.on < acc.length
          · unfold ancsAux
            rw [ancsAux_keep os _ _ (by simp; omega)]
            simpa [List.getD_eq_getElem?_getD, List.getElem?_append_left hl] using h2
          · have : acc.getD e.on 0 = 0 := by simp [List.getD_eq_getElem?_getD, List.getElem?_eq_none (Nat.le_of_not_lt hl)]
            simp only [this] at h2
            simp at h2
    | succ k =>
      unfold ancsAux at h ⊢
      have := ancsAux_bit os (acc ++ [o.after.toList.foldl (fun b e => if bindE e then b ||| (1 <<< e.on) ||| acc.getD e.on 0 else b) 0]) k i (by
        have e : (acc ++ [o.after.toList.foldl (fun b e => if bindE e then b ||| (1 <<< e.on) ||| acc.getD e.on 0 else b) 0]).length + k = acc.length + (k + 1) := by simp; omega
        rw [e]; exact h)
      simpa using this
theorem ancs_bit {l : List Oper} {j i : Nat} (h : ((ancs l).getD j 0).testBit i = true) : ∃ o, l[j]? = some o ∧ ∃ e ∈ o.after.toList, bindE e = true ∧ (e.on = i ∨ ((ancs l).getD e.on 0).testBit i = true) := by
  have := ancsAux_bit l [] j i (by simpa [ancs] using h)
  simpa [ancs] using this

structure RegFacts (ops : Array Oper) : Prop where
  back : ∀ (i : Nat) (o : Oper), ops[i]? = some o → ∀ e ∈ o.after, bindE e = true → e.on < i
  al : ∀ (i : Nat) (o : Oper), ops[i]? = some o → isA o = true → o.guard = none ∧ o.after = #[] ∧ ∃ d, o.dst = some d
  pair : ∀ (i j : Nat) (x y : Oper), ops[i]? = some x → ops[j]? = some y → i < j → pairOK ops (ancs ops.toList) i j x y = true
theorem zip_mem {ops : Array Oper} {i : Nat} {o : Oper} (h : ops[i]? = some o) : (o, i) ∈ ops.toList.zipIdx := by
  rw [List.mem_zipIdx_iff_getElem?]
  simpa using h
theorem reg_facts (h : regOK ops = true) : RegFacts ops := by
  unfold regOK at h
  simp only [Bool.and_eq_true, List.all_eq_true] at h
  obtain ⟨h1, h2⟩ := h
  refine ⟨fun i o ho e he hb => ?_, fun i o ho ha => ?_, fun i j x y hx hy hij => ?_⟩
  · have := (h1 (o, i) (zip_mem ho)).1 e (by simpa using he)
    simpa [hb] using this
  · have := (h1 (o, i) (zip_mem ho)).2
    simp [ha] at this
    exact ⟨this.1.1, this.1.2, Option.isSome_iff_exists.1 this.2⟩
  · have := h2 (y, j) (zip_mem hy) (x, i) (zip_mem hx)
    simpa [Nat.not_le.2 hij] using this

def Closed (ops : Array Oper) (listed : Array Bool) : Prop := ∀ (j : Nat) (o : Oper), ops[j]? = some o → listed.getD j false = true → ∀ e ∈ o.after, bindE e = true → listed.getD e.on false = true
theorem anc_listed (rf : RegFacts ops) {listed : Array Bool} (hc : Closed ops listed) : ∀ (j i : Nat) (o : Oper), ops[j]? = some o → (∀ e ∈ o.after, bindE e = true → listed.getD e.on false = true) → ((ancs ops.toList).getD j 0).testBit i = true → listed.getD i false = true := by
  intro j
  induction j using Nat.strongRecOn with
  | _ j ih =>
  intro i o ho hp hb
  obtain ⟨o', ho', e, he, hbe, hor⟩ := ancs_bit hb
  have : o' = o := by rw [Array.getElem?_toList, ho] at ho'; cases ho'; rfl
  subst this
  have he' : e ∈ o'.after := by simpa using he
  rcases hor with rfl | hor
  · exact hp e he' hbe
  · have hlt := rf.back j o' ho e he' hbe
    obtain ⟨o2, ho2, _⟩ := ancs_bit hor
    have ho2 : ops[e.on]? = some o2 := by simpa using ho2
    exact ih e.on hlt i o2 ho2 (hc e.on o2 ho2 (hp e he' hbe)) hor

/-! ### Lists of places -/
def opl (ops : Array Oper) (is : List Nat) : List Oper := is.filterMap (ops[·]?)
theorem opl_append {a b : List Nat} : opl ops (a ++ b) = opl ops a ++ opl ops b := by simp [opl]
theorem opl_mem {is : List Nat} {x : Oper} (h : x ∈ opl ops is) : ∃ k ∈ is, ops[k]? = some x := by simpa [opl] using h
theorem range_get (l : List Oper) : (List.range l.length).filterMap (l[·]?) = l := by
  induction l with
  | nil => rfl
  | cons x l ih =>
    rw [List.length_cons, List.range_succ_eq_map, List.filterMap_cons]
    simp only [List.getElem?_cons_zero, List.filterMap_map]
    congr 1
def pI (ops : Array Oper) (p : Oper → Bool) (i : Nat) : Bool := ((ops[i]?).map p).getD false
theorem opl_filter (p : Oper → Bool) : ops.toList.filter p = opl ops ((List.range ops.size).filter (pI ops p)) := by
  have h : ops.toList = (List.range ops.size).filterMap (ops[·]?) := by
    have := range_get ops.toList
    simp only [Array.length_toList, Array.getElem?_toList] at this
    exact this.symm
  conv => lhs; rw [h]
  unfold opl
  rw [List.filter_filterMap, List.filterMap_filter]
  congr 1
  funext i
  unfold pI
  cases ops[i]? with
  | none => rfl
  | some o => cases hp : p o <;> simp [Option.filter, hp]

/-- The places not yet taken. -/
def lft (ops : Array Oper) (p : Nat → Bool) (listed : Array Bool) : List Nat := (List.range ops.size).filter fun j => !listed.getD j true && p j
theorem lft_mem {p : Nat → Bool} {listed : Array Bool} {j : Nat} : j ∈ lft ops p listed ↔ j < ops.size ∧ listed.getD j true = false ∧ p j = true := by
  simp [lft]
theorem lft_set {p : Nat → Bool} {listed : Array Bool} {i : Nat} : lft ops p (listed.setIfInBounds i true) = (lft ops p listed).filter (fun j => !(j == i)) := by
  unfold lft
  rw [List.filter_filter]
  apply List.filter_congr
  intro j _
  by_cases h : j = i
  · subst h
    have : (listed.setIfInBounds j true).getD j true = true := by
      by_cases hj : j < listed.size
      · simp [hj]
      · simp [Nat.not_lt.1 hj]
    simp [this]
  · rw [getD_set_ne true (fun e => h e.symm)]
    simp [h]
theorem lft_skip {p : Nat → Bool} {listed : Array Bool} {i : Nat} (h : p i = false) : lft ops p (listed.setIfInBounds i true) = lft ops p listed := by
  rw [lft_set, List.filter_eq_self]
  intro j hj
  have := (lft_mem.1 hj).2.2
  have hne : j ≠ i := fun e => by subst e; rw [h] at this; cases this
  simp [hne]
theorem lft_split {p : Nat → Bool} {listed : Array Bool} {i : Nat} (hi : i < ops.size) (hl : listed.getD i true = false) (hp : p i = true) :
    ∃ A B, lft ops p listed = A ++ i :: B ∧ lft ops p (listed.setIfInBounds i true) = A ++ B ∧ ∀ x ∈ A, x < i := by
  obtain ⟨A, B, h⟩ := List.append_of_mem (lft_mem.2 ⟨hi, hl, hp⟩ : i ∈ lft ops p listed)
  have hpw : (lft ops p listed).Pairwise (· < ·) := List.Pairwise.filter _ List.pairwise_lt_range
  rw [h, List.pairwise_append] at hpw
  obtain ⟨h1, h2, h3⟩ := hpw
  have hA : ∀ x ∈ A, x < i := fun x hx => h3 x hx i (by simp)
  have hB : ∀ x ∈ B, i < x := fun x hx => (List.pairwise_cons.1 h2).1 x hx
  refine ⟨A, B, h, ?_, hA⟩
  rw [lft_set, h, List.filter_append, List.filter_cons]
  simp only [beq_self_eq_true, Bool.not_true, Bool.false_eq_true, if_false]
  rw [List.filter_eq_self.2 (fun x hx => by have := hA x hx; simp; omega), List.filter_eq_self.2 (fun x hx => by have := hB x hx; simp; omega)]

theorem getD_set_self {listed : Array Bool} {i : Nat} {d : Bool} (h : i < listed.size) : (listed.setIfInBounds i true).getD i d = true := by simp [h]
theorem getD_of_true {listed : Array Bool} {j : Nat} (h : listed.getD j false = true) : listed.getD j true = true := by
  by_cases hj : j < listed.size
  · simpa [hj] using h
  · simp [Nat.not_lt.1 hj]

/-! ### The world's side -/
theorem EnvRep.put {V : Vw} {e : Env} {a : Act} {d : Option Nat} {r : AV} {v : Value} (h : EnvRep V e a) (hr : Rep V r v) (hd : ∀ t, d = some t → t < a.tmps.size) : EnvRep V (Ab.put e d r) (a.put d v) := by
  cases d with
  | none => exact h
  | some d =>
    intro t
    show Rep V (if t = d then r else e t) ((a.tmps.setIfInBounds d v).getD t undef)
    by_cases ht : t = d
    · subst ht
      have := hd t rfl
      simpa [this] using hr
    · rw [if_neg ht]
      have := h t
      simpa [Array.getElem?_setIfInBounds_ne (fun e => ht e.symm)] using this
theorem want_ok {V : Vw} {e : Env} {a : Act} (he : EnvRep V e a) {o : Oper} {b : Bool} (h : wantA ops e o = some b) : Region.wanted o (yielded ops a.tmps) = b := by
  unfold wantA at h
  unfold Region.wanted
  cases hg : o.guard with
  | none => simp [hg] at h; simp [h]
  | some jw =>
    obtain ⟨j, w⟩ := jw
    simp only [hg] at h ⊢
    unfold yielded
    cases hd : (ops[j]?).bind (·.dst) with
    | none => simp [hd] at h; subst h; simp
    | some d =>
      simp only [hd] at h
      simp only [Option.bind_some]
      have hr := he d
      split at h
      · rename_i b' hb
        cases h
        rw [hb] at hr
        have hv : a.tmps.getD d undef = .bool b' := by generalize a.tmps.getD d undef = q at hr; cases hr; rfl
        have : a.tmps[d]? = some (.bool b') := by
          rw [Array.getD_eq_getD_getElem?] at hv
          cases hq : a.tmps[d]? with
          | none => rw [hq] at hv; cases hv
          | some q => rw [hq] at hv; simp at hv; rw [hv]
        rw [this]
        cases b' <;> cases w <;> rfl
      · rename_i hb
        cases h
        rw [hb] at hr
        have hv : ∃ cs, a.tmps.getD d undef = .tuple cs := by generalize a.tmps.getD d undef = q at hr; cases hr; exact ⟨_, rfl⟩
        obtain ⟨cs, hv⟩ := hv
        cases hq : a.tmps[d]? with
        | none => rfl
        | some q =>
          rw [Array.getD_eq_getD_getElem?, hq] at hv
          simp at hv
          subst hv
          rfl
      · cases h

theorem cls6 {o : Oper} : cls ops o = 6 ↔ isA o = true := by
  unfold cls isA
  cases hop : o.op with
  | binOp b t x y yt => cases b <;> simp
  | call c =>
    obtain ⟨callee, args, ats⟩ := c
    cases callee with
    | value f => cases f <;> simp
    | invoke _ _ => simp
    | builtin b =>
      cases b with
      | append => simp only; split <;> simp
      | _ => simp
  | _ => simp
end Go.Ab
