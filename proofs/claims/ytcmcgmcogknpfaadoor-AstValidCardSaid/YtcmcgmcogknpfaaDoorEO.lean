/- What an operation's result hangs on. -/
import Derived.Test.YtcmcgmcogknpfaaDoorEN
set_option linter.unusedVariables false
set_option linter.unusedSimpArgs false
namespace Go.Ab
open Go

variable {cx : Cx} {F Y : CallT}

/-- The temporaries that an operation looks at. -/
def tmpsOf (op : Op) : List Nat := op.operands.toList.filterMap fun | .tmp t => some t | _ => none

theorem evX_congr {e e' : Env} {x : Operand} (h : ∀ t, x = .tmp t → e t = e' t) : evX cx e x = evX cx e' x := by
  cases x <;> simp only [evX]
  rw [h _ rfl]
theorem evXs_congr {e e' : Env} : ∀ {xs : List Operand}, (∀ t, Operand.tmp t ∈ xs → e t = e' t) → evXs cx e xs = evXs cx e' xs
  | [], _ => rfl
  | x :: xs, h => by
    simp only [evXs]
    rw [evX_congr (fun t ht => h t (by simp [ht])), evXs_congr (fun t ht => h t (by simp [ht]))]
theorem evParts_congr {e e' : Env} : ∀ {xs : List (Nat × Operand)}, (∀ t, Operand.tmp t ∈ xs.map (·.2) → e t = e' t) → evParts cx e xs = evParts cx e' xs
  | [], _ => rfl
  | (j, x) :: xs, h => by
    simp only [evParts]
    rw [evX_congr (fun t ht => h t (by simp [ht])), evParts_congr (fun t ht => h t (by simp at ht; simp [ht]))]
theorem evO_congr {e e' : Env} {x : Option Operand} (h : ∀ t, x = some (.tmp t) → e t = e' t) : x.mapM (evX cx e) = x.mapM (evX cx e') := by
  cases x with
  | none => rfl
  | some x => simp only [Option.mapM_some]; rw [evX_congr (fun t ht => h t (by rw [ht]))]

/-- An operation looks at its own temporaries alone. -/
theorem evOp_congr {md : Nat} {m : Mem} {e e' : Env} {op : Op} (h : ∀ t ∈ tmpsOf op, e t = e' t) : evOp cx md F Y e m op = evOp cx md F Y e' m op := by
  have hx : ∀ x : Operand, x ∈ op.operands.toList → evX cx e x = evX cx e' x := fun x hm => evX_congr (fun t ht => h t (by
    unfold tmpsOf
    refine List.mem_filterMap.2 ⟨x, hm, by rw [ht]⟩))
  have hxs : ∀ xs : List Operand, (∀ x ∈ xs, x ∈ op.operands.toList) → evXs cx e xs = evXs cx e' xs := fun xs hm => evXs_congr (fun t ht => h t (by
    unfold tmpsOf
    exact List.mem_filterMap.2 ⟨_, hm _ ht, rfl⟩))
  cases op with
  | build t ps =>
    simp only [evOp]
    rw [evParts_congr (fun t ht => h t (List.mem_filterMap.2 ⟨_, by simpa [Op.operands] using ht, rfl⟩))]
  | buildSlice t n ps =>
    simp only [evOp]
    rw [evParts_congr (fun t ht => h t (List.mem_filterMap.2 ⟨_, by simpa [Op.operands] using ht, rfl⟩))]
  | slice t x lo hi mx =>
    simp only [evOp]
    rw [hx x (by simp [Op.operands]), evO_congr (x := lo) (e' := e') (fun t ht => h t (List.mem_filterMap.2 ⟨Operand.tmp t, by simp [Op.operands, ht], rfl⟩)),
      evO_congr (x := hi) (e' := e') (fun t ht => h t (List.mem_filterMap.2 ⟨Operand.tmp t, by simp [Op.operands, ht], rfl⟩)), evO_congr (x := mx) (e' := e') (fun t ht => h t (List.mem_filterMap.2 ⟨Operand.tmp t, by simp [Op.operands, ht], rfl⟩))]
  | makeFunc fn first cap =>
    simp only [evOp]
    rw [hxs first.toList (fun x hm => by simp [Op.operands]; left; simpa using hm), hxs cap.toList (fun x hm => by simp [Op.operands]; right; simpa using hm)]
  | call c =>
    obtain ⟨callee, args, ats⟩ := c
    cases callee with
    | value f => simp only [evOp]; rw [hx f (by simp [Op.operands, Call.operands]), hxs args.toList (fun x hm => by simp [Op.operands, Call.operands]; right; simpa using hm)]
    | invoke _ _ => rfl
    | builtin b => simp only [evOp]; rw [hxs args.toList (fun x hm => by simp [Op.operands, Call.operands]; simpa using hm)]
  | pick c a b =>
    simp only [evOp]
    rw [hx c (by simp [Op.operands])]
    have ha := hx a (by simp [Op.operands])
    have hb := hx b (by simp [Op.operands])
    split
    · rename_i t _
      cases t
      · simp only [Bool.false_eq_true, if_false]; rw [hb]
      · simp only [if_true]; rw [ha]
    · rfl
  | lookup t x k b => simp only [evOp]; rw [hx x (by simp [Op.operands]), hx k (by simp [Op.operands])]
  | mapUpdate t x k y => simp only [evOp]; rw [hx x (by simp [Op.operands]), hx k (by simp [Op.operands]), hx y (by simp [Op.operands])]
  | makeMap t r => rfl
  | makeSlice t x y => simp only [evOp]; rw [hx x (by simp [Op.operands]), hx y (by simp [Op.operands])]
  | move x => simp only [evOp]; rw [hx x (by simp [Op.operands])]
  | assign x => simp only [evOp]; rw [hx x (by simp [Op.operands])]
  | box t x => simp only [evOp]; rw [hx x (by simp [Op.operands])]
  | load t x => simp only [evOp]; rw [hx x (by simp [Op.operands])]
  | store t x y => simp only [evOp]; rw [hx x (by simp [Op.operands]), hx y (by simp [Op.operands])]
  | nilCheck x => simp only [evOp]; rw [hx x (by simp [Op.operands])]
  | binOp o t x y _ => simp only [evOp]; rw [hx x (by simp [Op.operands]), hx y (by simp [Op.operands])]
  | unOp o t x => simp only [evOp]; rw [hx x (by simp [Op.operands])]
  | convert s d x => simp only [evOp]; rw [hx x (by simp [Op.operands])]
  | fieldAddr s x j => simp only [evOp]; rw [hx x (by simp [Op.operands])]
  | field s x j => simp only [evOp]; rw [hx x (by simp [Op.operands])]
  | indexAddr t x y => simp only [evOp]; rw [hx x (by simp [Op.operands]), hx y (by simp [Op.operands])]
  | index t x y => simp only [evOp]; rw [hx x (by simp [Op.operands]), hx y (by simp [Op.operands])]
  | extract x j => simp only [evOp]; rw [hx x (by simp [Op.operands])]
  | _ => rfl

def hid : AV → Option Nat
  | .own id _ => some id
  | .ptr id _ _ => some id
  | .aptr id .. => some id
  | .mp id => some id
  | _ => none

theorem noMem_at {m : Mem} {x : Option AV} {r : AV} {m1 : Mem} (h : noMem m x = some (r, m1)) (m' : Mem) : m1 = m ∧ noMem m' x = some (r, m') := by
  obtain ⟨h1, h2⟩ := noMem_some h
  exact ⟨h2.symm, by rw [h1]; rfl⟩

theorem bin_noeq {P : Program} {m m' : Mem} {op : BinOp} {t : Nat} {x y : AV} (h : op ≠ .eql ∧ op ≠ .neq) : binA P m op t x y = binA P m' op t x y := by
  unfold binA
  split
  · rfl
  · rfl
  · cases op <;> first | rfl | exact absurd rfl h.1 | exact absurd rfl h.2

/-- Class 0: no memory. -/
theorem ev0 {ops : Array Oper} {o : Oper} (hc : cls ops o = 0) {md : Nat} {e : Env} {m : Mem} {r : AV} {m1 : Mem} (h : evOp cx md F Y e m o.op = some (r, m1)) (m' : Mem) :
    m1 = m ∧ evOp cx md F Y e m' o.op = some (r, m') := by
  unfold cls at hc
  cases hop : o.op with
  | move x => rw [hop] at h; exact noMem_at h m'
  | assign x => rw [hop] at h; exact noMem_at h m'
  | pick c a b =>
    rw [hop] at h
    simp only [evOp] at h ⊢
    split at h
    · rename_i t hct; exact noMem_at h m'
    · cases h
  | build t ps =>
    rw [hop] at h
    simp only [evOp] at h ⊢
    split at h
    · split at h
      · rename_i hpl; simp only [hpl, if_true]; exact noMem_at h m'
      · cases h
    · cases h
  | buildSlice t n ps =>
    rw [hop] at h
    simp only [evOp] at h ⊢
    split at h
    · split at h
      · split at h
        · rename_i hcnd; simp only [if_pos hcnd]; exact noMem_at h m'
        · cases h
      · cases h
    · cases h
  | binOp b t x y yt =>
    rw [hop] at h hc
    simp only [evOp] at h ⊢
    split at h
    · rename_i x' y' hx hy
      have hne : b ≠ .eql ∧ b ≠ .neq := by
        constructor <;> intro hb <;> subst hb <;> simp at hc
      rw [bin_noeq (m' := m') hne] at h
      exact noMem_at h m'
    · cases h
  | unOp u t x =>
    rw [hop] at h
    simp only [evOp] at h ⊢
    split at h
    · exact noMem_at h m'
    · cases h
  | convert s d x =>
    rw [hop] at h
    simp only [evOp] at h ⊢
    split at h
    · exact noMem_at h m'
    · cases h
  | makeFunc fn a b =>
    rw [hop] at h
    simp only [evOp] at h ⊢
    split at h
    · simp only [Option.some.injEq, Prod.mk.injEq] at h
      obtain ⟨rfl, rfl⟩ := h
      exact ⟨rfl, rfl⟩
    · cases h
  | slice t x lo hi mx =>
    rw [hop] at h
    simp only [evOp] at h ⊢
    split at h
    · exact noMem_at h m'
    · cases h
  | field s x j =>
    rw [hop] at h
    simp only [evOp] at h ⊢
    split at h
    · exact noMem_at h m'
    · cases h
  | index t x y =>
    rw [hop] at h
    simp only [evOp] at h ⊢
    split at h
    · exact noMem_at h m'
    · cases h
  | extract x j =>
    rw [hop] at h
    simp only [evOp] at h ⊢
    split at h
    · exact noMem_at h m'
    · cases h
  | call c =>
    obtain ⟨callee, args, ats⟩ := c
    rw [hop] at h hc
    cases callee with
    | value f => cases f <;> simp at hc
    | invoke _ _ => simp [evOp] at h
    | builtin b =>
      simp only [evOp] at h ⊢
      cases b with
      | max =>
        cases hxs : evXs cx e args.toList with
        | none => simp [hxs] at h
        | some xs => simp only [hxs] at h ⊢; exact noMem_at h m'
      | min =>
        cases hxs : evXs cx e args.toList with
        | none => simp [hxs] at h
        | some xs => simp only [hxs] at h ⊢; exact noMem_at h m'
      | append => dsimp only at hc; split at hc <;> cases hc
      | len => cases hc
      | _ => cases hc
  | box t x => rw [hop] at hc; simp at hc
  | alloc t => rw [hop] at hc; simp at hc
  | load t x => rw [hop] at hc; simp at hc
  | store t x y => rw [hop] at hc; simp at hc
  | nilCheck x => rw [hop] at hc; simp at hc
  | fieldAddr s x j => rw [hop] at hc; simp at hc
  | indexAddr t x y => rw [hop] at hc; simp at hc
  | makeSlice t x y => rw [hop] at hc; simp at hc
  | lookup t x k b => rw [hop] at hc; simp at hc
  | mapUpdate t x k y => rw [hop] at hc; simp at hc
  | makeMap t r => rw [hop] at hc; simp at hc
  | _ => rw [hop] at h; simp [evOp] at h

def ShpAt (m m' : Mem) (x : AV) : Prop := ∀ id, hid x = some id → (shp m id).isSome = true → shp m' id = shp m id
theorem ver_at {m m' : Mem} {x : AV} (h : ShpAt m m' x) {id ver : Nat} (hi : hid x = some id) (hv : verOf m id = some ver) : verOf m' id = some ver := by
  unfold verOf at hv ⊢
  obtain ⟨s, hs, he⟩ := Option.map_eq_some_iff.1 hv
  rw [h id hi (by rw [hs]; rfl), hs]
  simp [he]

theorem eq_at {P : Program} {m m' : Mem} {t : Nat} {x y : AV} {b : Bool} (hx : ShpAt m m' x) (hy : ShpAt m m' y) (h : eqA P m t x y = some b) : eqA P m' t x y = some b := by
  unfold eqA at h ⊢
  split at h
  · exact h
  · exact h
  · exact h
  · split at h
    · rename_i hc; rw [if_pos ⟨hc.1, ver_at hx rfl hc.2⟩]; exact h
    · cases h
  · split at h
    · rename_i hc; rw [if_pos ⟨hc.1, ver_at hy rfl hc.2⟩]; exact h
    · cases h
  · exact h
  · exact h
  · exact h
  · cases h

/-- Class 1: the shapes of the blocks that the operands lead to. -/
theorem ev1 {ops : Array Oper} {o : Oper} (hc : cls ops o = 1) {md : Nat} {e : Env} {m m' : Mem} {r : AV} {m1 : Mem} (h : evOp cx md F Y e m o.op = some (r, m1))
    (H : ∀ x ∈ o.op.operands.toList, ∀ v, evX cx e x = some v → ShpAt m m' v) : m1 = m ∧ evOp cx md F Y e m' o.op = some (r, m') := by
  unfold cls at hc
  cases hop : o.op with
  | nilCheck x =>
    rw [hop] at h H
    simp only [evOp] at h ⊢
    split at h
    · rename_i v hv
      have hs := H x (by simp [Op.operands]) v hv
      split at h
      · rename_i hval
        simp only [Option.some.injEq, Prod.mk.injEq] at h
        obtain ⟨rfl, rfl⟩ := h
        refine ⟨rfl, ?_⟩
        have : validA m' v = true := by
          cases v with
          | ptr id ver off => simp only [validA, beq_iff_eq] at hval ⊢; exact ver_at hs rfl hval
          | aptr id ver sz i f => simp only [validA, beq_iff_eq] at hval ⊢; exact ver_at hs rfl hval
          | _ => exact hval
        simp only [this, if_true]
      · cases h
    · cases h
  | fieldAddr s x j =>
    rw [hop] at h H
    simp only [evOp] at h ⊢
    split at h
    · rename_i v hv
      have hs := H x (by simp [Op.operands]) v hv
      obtain ⟨h1, h2⟩ := noMem_some h
      refine ⟨h2.symm, ?_⟩
      have : fieldAddrA cx.P m' s j v = some r := by
        unfold fieldAddrA at h1 ⊢
        cases hf : fldT cx.P s j with
        | none => simp [hf] at h1
        | some p =>
          obtain ⟨ft, off⟩ := p
          simp only [hf] at h1 ⊢
          split at h1
          · rename_i hz
            rw [if_pos hz]
            cases v with
            | ptr id ver off =>
              simp only at h1 ⊢
              split at h1
              · rename_i hv1; rw [if_pos (ver_at hs rfl hv1)]; exact h1
              · cases h1
            | aptr id ver sz i f =>
              simp only at h1 ⊢
              split at h1
              · rename_i hv1; rw [if_pos (ver_at hs rfl hv1)]; exact h1
              · cases h1
            | _ => exact h1
          · cases h1
      rw [this]; rfl
    · cases h
  | indexAddr t x y =>
    rw [hop] at h H
    simp only [evOp] at h ⊢
    split at h
    · rename_i v i hv hi
      have hs := H x (by simp [Op.operands]) v hv
      obtain ⟨h1, h2⟩ := noMem_some h
      refine ⟨h2.symm, ?_⟩
      have : indexAddrA cx.P m' t v i = some r := by
        unfold indexAddrA at h1 ⊢
        cases i with
        | int k i =>
          simp only at h1 ⊢
          cases he : elemT cx.P t with
          | some et =>
            simp only [he] at h1 ⊢
            cases v with
            | own id ver =>
              simp only at h1 ⊢
              cases hsh : shp m id with
              | none => simp [hsh] at h1
              | some p =>
                rw [hs id rfl (by rw [hsh]; rfl), hsh]
                rw [hsh] at h1
                exact h1
            | _ => exact h1
          | none =>
            simp only [he] at h1 ⊢
            cases ha : arrT cx.P t with
            | none => simp [ha] at h1
            | some p =>
              obtain ⟨n, et⟩ := p
              simp only [ha] at h1 ⊢
              cases hsz : szT cx.P et with
              | none => simp [hsz] at h1
              | some sz =>
                simp only [hsz] at h1 ⊢
                split at h1
                · rename_i hcnd
                  rw [if_pos hcnd]
                  cases v with
                  | ptr id ver off =>
                    simp only at h1 ⊢
                    split at h1
                    · rename_i hv1; rw [if_pos (ver_at hs rfl hv1)]; exact h1
                    · cases h1
                  | aptr id ver sz i f =>
                    simp only at h1 ⊢
                    split at h1
                    · rename_i hv1; rw [if_pos (ver_at hs rfl hv1)]; exact h1
                    · cases h1
                  | _ => exact h1
                · cases h1
        | _ => cases h1
      rw [this]; rfl
    · cases h
  | binOp b t x y yt =>
    rw [hop] at h H
    simp only [evOp] at h ⊢
    split at h
    · rename_i x' y' hx hy
      have hsx := H x (by simp [Op.operands]) x' hx
      have hsy := H y (by simp [Op.operands]) y' hy
      obtain ⟨h1, h2⟩ := noMem_some h
      refine ⟨h2.symm, ?_⟩
      have : binA cx.P m' b t x' y' = some r := by
        unfold binA at h1 ⊢
        split at h1
        · exact h1
        · exact h1
        · cases b <;> simp only at h1 ⊢
          case eql =>
            obtain ⟨q, hq, rfl⟩ := Option.map_eq_some_iff.1 h1
            rw [eq_at hsx hsy hq]; rfl
          case neq =>
            obtain ⟨q, hq, rfl⟩ := Option.map_eq_some_iff.1 h1
            rw [eq_at hsx hsy hq]; rfl
          all_goals cases h1
      rw [this]; rfl
    · cases h
  | call c =>
    obtain ⟨callee, args, ats⟩ := c
    rw [hop] at h hc H
    cases callee with
    | value f => cases f <;> simp at hc
    | invoke _ _ => simp [evOp] at h
    | builtin b =>
      simp only [evOp] at h ⊢
      cases b with
      | len =>
        cases hxs : evXs cx e args.toList with
        | none => simp [hxs] at h
        | some xs =>
          simp only [hxs] at h ⊢
          cases xs with
          | nil => simp at h
          | cons x xs' =>
          cases xs' with
          | cons _ _ => simp at h
          | nil =>
          cases hat : ats.toList with
          | nil => simp [hat] at h
          | cons t ts =>
          cases ts with
          | cons _ _ => simp [hat] at h
          | nil =>
          simp only [hat] at h ⊢
          obtain ⟨h1, h2⟩ := noMem_some h
          refine ⟨h2.symm, ?_⟩
          have hs : ShpAt m m' x := by
            cases hal : args.toList with
            | nil => rw [hal] at hxs; simp [evXs] at hxs
            | cons y ys =>
              rw [hal] at hxs
              simp only [evXs] at hxs
              cases hy : evX cx e y with
              | none => simp [hy] at hxs
              | some v =>
                cases hys : evXs cx e ys with
                | none => simp [hy, hys] at hxs
                | some vs =>
                  simp [hy, hys] at hxs
                  rw [← hxs.1]
                  exact H y (by simp [Op.operands, Call.operands, hal]) v hy
          have : lenA cx.P m' t x = some r := by
            unfold lenA at h1 ⊢
            cases x with
            | own id ver =>
              simp only at h1 ⊢
              split at h1
              · rename_i hcnd; rw [if_pos ⟨hcnd.1, ver_at hs rfl hcnd.2⟩]; exact h1
              · cases h1
            | _ => exact h1
          rw [this]; rfl
      | append => dsimp only at hc; split at hc <;> cases hc
      | max => cases hc
      | min => cases hc
      | _ => cases hc
  | move x => rw [hop] at hc; simp at hc
  | assign x => rw [hop] at hc; simp at hc
  | pick c a b => rw [hop] at hc; simp at hc
  | build t ps => rw [hop] at hc; simp at hc
  | buildSlice t n ps => rw [hop] at hc; simp at hc
  | unOp u t x => rw [hop] at hc; simp at hc
  | convert s d x => rw [hop] at hc; simp at hc
  | makeFunc fn a b => rw [hop] at hc; simp at hc
  | slice t x lo hi mx => rw [hop] at hc; simp at hc
  | field s x j => rw [hop] at hc; simp at hc
  | index t x y => rw [hop] at hc; simp at hc
  | extract x j => rw [hop] at hc; simp at hc
  | box t x => rw [hop] at hc; simp at hc
  | alloc t => rw [hop] at hc; simp at hc
  | load t x => rw [hop] at hc; simp at hc
  | store t x y => rw [hop] at hc; simp at hc
  | makeSlice t x y => rw [hop] at hc; simp at hc
  | lookup t x k b => rw [hop] at hc; simp at hc
  | mapUpdate t x k y => rw [hop] at hc; simp at hc
  | makeMap t r => rw [hop] at hc; simp at hc
  | _ => rw [hop] at h; simp [evOp] at h

/-- Class 2: a load hangs on one block; a call on what its arguments are when frozen. -/
def BlkAt (m m' : Mem) (x : AV) : Prop := ∀ id, hid x = some id → (m[id]?).isSome = true → m'[id]? = m[id]?
def FzAt (m m' : Mem) (x : AV) : Prop := ∀ y, fz m 6 x = some y → fz m' 6 x = some y ∧ idsD m' 6 x = idsD m 6 x

theorem mapM_at {f f' : AV → Option AV} {g g' : AV → List Nat} : ∀ {xs ys : List AV}, (∀ x ∈ xs, ∀ y, f x = some y → f' x = some y ∧ g' x = g x) → xs.mapM f = some ys → xs.mapM f' = some ys ∧ xs.flatMap g' = xs.flatMap g
  | [], ys, _, h => ⟨by simpa using h, rfl⟩
  | x :: xs, ys, H, h => by
    simp only [List.mapM_cons, Option.bind_eq_bind, Option.pure_def] at h
    obtain ⟨y, hy, h⟩ := Option.bind_eq_some_iff.1 h
    obtain ⟨zs, hz, h⟩ := Option.bind_eq_some_iff.1 h
    obtain ⟨h1, h2⟩ := H x (by simp) y hy
    obtain ⟨h3, h4⟩ := mapM_at (fun x hx => H x (by simp [hx])) hz
    refine ⟨?_, by simp only [List.flatMap_cons, h2, h4]⟩
    simp only [List.mapM_cons, Option.bind_eq_bind, Option.pure_def, h1, h3, Option.bind_some]
    exact h
theorem fzs_at {m m' : Mem} {xs ys : List AV} (H : ∀ x ∈ xs, FzAt m m' x) (h : fzs m xs = some ys) : fzs m' xs = some ys ∧ idsDL m' xs = idsDL m xs :=
  mapM_at (f := fz m 6) (f' := fz m' 6) (g := idsD m 6) (g' := idsD m' 6) H h
theorem ofV_nocall {v : Value} {c : AV} (h : ofV v = some c) (ro : Bool) (m : Mem) (xs : List AV) : callV cx ro F Y m c xs = none := by
  unfold ofV at h
  split at h
  · cases h; rfl
  · cases h; rfl
  · cases h; rfl
  · cases h; rfl
  · cases h; rfl
  · cases h; rfl
  · cases h; rfl
  · split at h
    · split at h
      · cases h; rfl
      · cases h
    · cases h
  · obtain ⟨ys, _, rfl⟩ := Option.map_eq_some_iff.1 h; rfl
  · cases h

theorem settle_at {m m' : Mem} {xs : List AV} {r r1 : AV} {m1 : Mem} (hi : idsDL m' xs = idsDL m xs) (h : settle true m xs r = some (r1, m1)) : m1 = m ∧ settle true m' xs r = some (r1, m') := by
  unfold settle at h ⊢
  rw [hi]
  split at h
  · rename_i hp
    rw [if_pos hp]
    split at h
    · rename_i hq; cases h; rw [if_pos hq]; exact ⟨rfl, rfl⟩
    · cases h
  · cases h

theorem ev2 {ops : Array Oper} {o : Oper} (hc : cls ops o = 2) {e : Env} {m m' : Mem} {r : AV} {m1 : Mem} (h : evOp cx 1 F Y e m o.op = some (r, m1))
    (H : ∀ x ∈ o.op.operands.toList, ∀ v, evX cx e x = some v → BlkAt m m' v ∧ FzAt m m' v) : m1 = m ∧ evOp cx 1 F Y e m' o.op = some (r, m') := by
  unfold cls at hc
  cases hop : o.op with
  | load t x =>
    rw [hop] at h H
    simp only [evOp] at h ⊢
    split at h
    · rename_i v hv
      have hs := (H x (by simp [Op.operands]) v hv).1
      obtain ⟨h1, h2⟩ := noMem_some h
      refine ⟨h2.symm, ?_⟩
      have : loadA cx.P m' t v = some r := by
        unfold loadA at h1 ⊢
        cases v with
        | ptr id ver off =>
          simp only at h1 ⊢
          cases hm : m[id]? with
          | none => simp [hm] at h1
          | some k => rw [hs id rfl (by rw [hm]; rfl)]; exact h1
        | aptr id ver sz i f =>
          simp only at h1 ⊢
          cases hm : m[id]? with
          | none => simp [hm] at h1
          | some k => rw [hs id rfl (by rw [hm]; rfl)]; exact h1
        | _ => exact h1
      rw [this]; rfl
    · cases h
  | call c =>
    obtain ⟨callee, args, ats⟩ := c
    rw [hop] at h hc H
    cases callee with
    | value f =>
      simp only [evOp] at h ⊢
      cases f with
      | tmp t => simp at hc
      | func f =>
        simp only [evX] at h ⊢
        cases hxs : evXs cx e args.toList with
        | none => simp [hxs] at h
        | some xs =>
          simp only [hxs] at h ⊢
          have hfz : ∀ x ∈ xs, FzAt m m' x := by
            have : ∀ (l : List Operand) (xs : List AV), (∀ y ∈ l, y ∈ args.toList) → evXs cx e l = some xs → ∀ x ∈ xs, FzAt m m' x := by
              intro l
              induction l with
              | nil => intro xs _ h x hx; simp [evXs] at h; subst h; simp at hx
              | cons y l ih =>
                intro xs hl h x hx
                simp only [evXs] at h
                cases hy : evX cx e y with
                | none => simp [hy] at h
                | some v =>
                  cases hys : evXs cx e l with
                  | none => simp [hy, hys] at h
                  | some vs =>
                    simp [hy, hys] at h
                    subst h
                    rcases List.mem_cons.1 hx with rfl | hx
                    · have hyl := hl y (by simp)
                      exact (H y (by simp [Op.operands, Call.operands]; right; simpa using hyl) _ hy).2
                    · exact ih vs (fun z hz => hl z (by simp [hz])) hys x hx
            exact this _ _ (fun y hy => hy) hxs
          simp only [callV, List.nil_append, List.append_nil] at h ⊢
          cases hX : cx.X f with
          | some g =>
            simp only [hX] at h ⊢
            cases hz : fzs m xs with
            | none => simp [hz] at h
            | some ys =>
              obtain ⟨h1, h2⟩ := fzs_at hfz hz
              simp only [hz] at h
              simp only [h1]
              cases hg : g ys with
              | none => simp [hg] at h
              | some r0 =>
                simp only [hg] at h ⊢
                exact settle_at h2 h
          | none =>
            simp only [hX] at h ⊢
            split at h
            · simp at h
            · rename_i hsh
              rw [if_neg hsh]
              cases hz : fzs m xs with
              | none => simp [hz] at h
              | some ys =>
                obtain ⟨h1, h2⟩ := fzs_at hfz hz
                simp only [hz] at h
                simp only [h1]
                cases hf : F f ys [] with
                | none => simp [hf] at h
                | some rm =>
                  simp only [hf] at h ⊢
                  cases hq : fz rm.2 6 rm.1 with
                  | none => simp [hq] at h
                  | some r0 =>
                    simp only [hq] at h ⊢
                    exact settle_at h2 h
      | const v =>
        simp only [evX] at h ⊢
        cases hv : ofV v with
        | none => simp [hv] at h
        | some c =>
          exfalso
          simp only [hv] at h
          cases hxs : evXs cx e args.toList with
          | none => simp [hxs] at h
          | some xs =>
            simp only [hxs, ofV_nocall hv] at h
            cases h
      | global g =>
        exfalso
        simp only [evX] at h
        cases hg : cx.G g with
        | none => simp [hg] at h
        | some cs =>
          simp only [hg, Option.map_some] at h
          cases hxs : evXs cx e args.toList with
          | none => simp [hxs] at h
          | some xs => simp [hxs, callV] at h
    | invoke _ _ => simp [evOp] at h
    | builtin b =>
      exfalso
      cases b with
      | append => dsimp only at hc; split at hc <;> cases hc
      | len => cases hc
      | max => cases hc
      | min => cases hc
      | _ => (simp only [evOp] at h; cases hxs : evXs cx e args.toList <;> simp [hxs] at h)
  | move x => rw [hop] at hc; simp at hc
  | assign x => rw [hop] at hc; simp at hc
  | pick c a b => rw [hop] at hc; simp at hc
  | build t ps => rw [hop] at hc; simp at hc
  | buildSlice t n ps => rw [hop] at hc; simp at hc
  | unOp u t x => rw [hop] at hc; simp at hc
  | binOp b t x y yt => rw [hop] at hc; cases b <;> simp at hc
  | convert s d x => rw [hop] at hc; simp at hc
  | makeFunc fn a b => rw [hop] at hc; simp at hc
  | slice t x lo hi mx => rw [hop] at hc; simp at hc
  | field s x j => rw [hop] at hc; simp at hc
  | index t x y => rw [hop] at hc; simp at hc
  | extract x j => rw [hop] at hc; simp at hc
  | box t x => rw [hop] at hc; simp at hc
  | alloc t => rw [hop] at hc; simp at hc
  | nilCheck x => rw [hop] at hc; simp at hc
  | fieldAddr s x j => rw [hop] at hc; simp at hc
  | indexAddr t x y => rw [hop] at hc; simp at hc
  | store t x y => rw [hop] at hc; simp at hc
  | makeSlice t x y => rw [hop] at hc; simp at hc
  | mapUpdate t x k y => rw [hop] at hc; simp at hc
  | makeMap t r => rw [hop] at hc; simp at hc
  | lookup t x k b =>
    rw [hop] at h H
    simp only [evOp] at h ⊢
    split at h
    · rename_i x' k' hx hk
      have hs := (H x (by simp [Op.operands]) x' hx).1
      obtain ⟨h1, h2⟩ := noMem_some h
      refine ⟨h2.symm, ?_⟩
      have : lookA cx.P m' t x' k' b = some r := by
        have he : ∀ p, entriesA m x' = some p → entriesA m' x' = some p := by
          intro p hp
          cases x' with
          | mp id =>
            simp only [entriesA] at hp ⊢
            cases hm : m[id]? with
            | none => simp [hm] at hp
            | some q => rw [hs id rfl (by rw [hm]; rfl)]; exact hp
          | _ => exact hp
        unfold lookA at h1 ⊢
        split at h1
        · rename_i hmt hkd hen
          rw [hmt, hkd, he _ hen]
          exact h1
        · cases h1
      rw [this]; rfl
    · cases h
  | _ => rw [hop] at h; simp [evOp] at h
end Go.Ab
