/- Expressions and places: the program's and the reference's answer on trees. -/
import Derived.Test.YtjodlfhkabploaaDoorHD
import Derived.Test.YtjodlfhkabploaaDoorHE
set_option linter.unusedVariables false
set_option linter.unusedSimpArgs false
namespace Go.Ab
open Go Go.Proofs

theorem nd_pure {k num : Int} {s : ByteArray} {z fl : Bool} {xs : List AV} (h : pureL xs = true) : pureL [nd k num s (.seq z fl 4 xs)] = true := by simp [pureL, AV.pure, h]
theorem seq_pure {z fl : Bool} {sz : Nat} {xs : List AV} (h : pureL xs = true) {ys : List AV} (k : pureL ys = true) : pureL (.seq z fl sz xs :: ys) = true := by simp [pureL, AV.pure, h, k]

/-! ### slices.ContainsFunc -/
def idx (p : Tr → Bool) : List Tr → Nat → Option Nat
  | [], _ => none
  | x :: xs, i => if p x then some i else idx p xs (i + 1)
theorem idx_any (p : Tr → Bool) : ∀ (ts : List Tr) (i : Nat), (idx p ts i).isSome = ts.any p
  | [], i => rfl
  | t :: ts, i => by
    simp only [idx, List.any_cons]
    cases p t with
    | true => simp
    | false => simpa using idx_any p ts (i + 1)
theorem index_loop {z fl : Bool} {ts : List Tr} {cap : List AV} {g : Nat} {p : Tr → Bool} (hb : ts.length ≤ maxLen) (hs : plainF cx.sh g = true) (h0 : ∀ t ∈ ts, Pw cx g (t.av :: cap) (.bool (p t))) : ∀ (us : List Tr) (i : Nat), ts.drop i = us →
    ∃ x r, LoopAns cx true 0 (loopC Tryd.prog 116 0) [0, 1, 4, 7, 8] [.seq z fl 4 (avs ts), .fn g [] cap, .int .i64 0, .int .i64 ((avs ts).length : Nat), .int .i64 (i : Nat)] [] x [4] [.int .i64 r] [] ∧
      (match idx p us i with | some j => x = .ret ∧ r = (j : Nat) | none => x = .exit 0)
  | [], i, hd => by
    have := drop_nil hd
    exact ⟨.exit 0, 0, index_r fun e => br_no (by rw [avs_length]; omega) ⟨rfl, rfl, rfl⟩, rfl⟩
  | .mk k num s z' fl' kids :: us, i, hd => by
    obtain ⟨h1, h2, h3⟩ := drop_cons hd
    have hg : (avs ts)[i]? = some (Tr.mk k num s z' fl' kids).av := by rw [avs_get, h1]; rfl
    have hq := h0 _ (List.mem_of_getElem? h1)
    have hl : ((i : Nat) : Int) < ((avs ts).length : Nat) := by rw [avs_length]; omega
    cases hp : p (.mk k num s z' fl' kids) with
    | true =>
      rw [hp] at hq
      refine ⟨.ret, (i : Nat), index_r fun e => br_yes hl ⟨_, _, _, _, _, _, hg, br_t hs ⟨true, hq, rfl, rfl, rfl⟩⟩, ?_⟩
      simp [idx, hp]
    | false =>
      rw [hp] at hq
      obtain ⟨x, r, ih, hx⟩ := index_loop (z := z) (fl := fl) hb hs h0 us (i + 1) h3
      refine ⟨x, r, index_r fun e => br_yes hl ⟨_, _, _, _, _, _, hg, br_t hs ⟨false, hq, br_yes (wrap_up (by have := maxLen_le; omega)) ih⟩⟩, ?_⟩
      simpa [idx, hp] using hx
theorem contains_pw {z fl : Bool} {ts : List Tr} {cap : List AV} {g : Nat} {p : Tr → Bool} (hb : ts.length ≤ maxLen) (hs : plainF cx.sh g = true) (hC : pureL cap = true) (h0 : ∀ t ∈ ts, Pw cx g (t.av :: cap) (.bool (p t))) :
    Pw cx 91 [.seq z fl 4 (avs ts), .fn g [] cap] (.bool (ts.any p)) := by
  have hp : pureL [.seq z fl 4 (avs ts), .fn g [] cap] = true := by simp [pureL, AV.pure, avs_pure, hC]
  obtain ⟨x, r, h1, h2⟩ := index_loop (z := z) (fl := fl) hb hs h0 ts 0 rfl
  have ha := idx_any p ts 0
  cases hx : idx p ts 0 with
  | some j =>
    rw [hx] at h2 ha
    obtain ⟨rfl, rfl⟩ := h2
    rw [← ha]
    exact contains_w hp ⟨_, index_w hp (.inl ⟨_, h1, fun e => rfl⟩), by simp⟩
  | none =>
    rw [hx] at h2 ha
    have h2 : x = .exit 0 := h2
    subst h2
    rw [← ha]
    exact contains_w hp ⟨_, index_w hp (.inr ⟨_, h1, fun e => rfl⟩), rfl⟩

/-! ### Expressions -/
def emptyS (s : ByteArray) : Bool := s.data.toList == (ByteArray.mk #[]).data.toList
def exprB (k num : Int) (s : ByteArray) (l : Nat) (all : Bool) : Bool :=
  if k = 1 then decide (0 ≤ num) && emptyS s && decide (l = 0)
  else if k = 2 ∨ k = 4 ∨ k = 5 then decide (num = 0) && nameB s && decide (l = 0)
  else if k = 3 then decide (num = 0) && nameB s && (decide (l = 1) && all)
  else if k = 6 ∨ k = 7 then decide (num = 0) && emptyS s && (decide (l = 1) && all)
  else if 8 ≤ k ∧ k ≤ 23 then decide (num = 0) && emptyS s && (decide (l = 2) && all)
  else false
mutual
def isExpr : Tr → Bool
  | .mk k num s z fl kids => exprB k num s kids.length (allExpr kids)
def allExpr : List Tr → Bool
  | [] => true
  | t :: ts => isExpr t && allExpr ts
end
theorem allExpr_any : ∀ ts : List Tr, ts.any (fun t => !isExpr t) = !allExpr ts
  | [] => rfl
  | t :: ts => by simp [allExpr, allExpr_any ts]
theorem allExpr_all : ∀ ts : List Tr, ts.all isExpr = allExpr ts
  | [] => rfl
  | t :: ts => by simp [allExpr, allExpr_all ts]
theorem cast_eq (a b : Nat) : decide ((a : Int) = (b : Int)) = decide (a = b) := by congr 1; apply propext; omega
theorem cast_eq0 (a : Nat) : decide ((a : Int) = 0) = decide (a = 0) := cast_eq a 0
theorem cast_eq1 (a : Nat) : decide ((a : Int) = 1) = decide (a = 1) := cast_eq a 1
theorem cast_eq2 (a : Nat) : decide ((a : Int) = 2) = decide (a = 2) := cast_eq a 2
mutual
theorem isExpr_pw : ∀ t : Tr, t.ok → Pw cx 20 [t.av] (.bool (isExpr t))
  | .mk k num s z fl kids, ho => by
    obtain ⟨_, _, hsz, hl, hk⟩ := ho
    have hall := allExpr_pw kids hk
    have hpx := avs_pure kids
    have hp : pureL [(Tr.mk k num s z fl kids).av] = true := nd_pure hpx
    have hb : Pw cx 57 [nd k num s (.seq z fl 4 (avs kids))] (.bool (decide (num = 0))) := bare_w hp rfl
    have hn := name_pw hsz
    have hc := contains_pw (z := z) (fl := fl) (cap := []) (g := 92) (p := fun t => !isExpr t) hl rfl rfl (fun t ht => by
      have h1 := hall t ht
      cases t with | mk k' num' s' z' fl' kids' => exact exprs1_w (nd_pure (avs_pure _)) ⟨_, h1, rfl⟩)
    rw [allExpr_any] at hc
    have he : ∀ w : Int, Pw cx 59 [.seq z fl 4 (avs kids), .int .i64 w] (.bool (decide ((kids.length : Int) = w) && allExpr kids)) := fun w =>
      exprs_w (seq_pure hpx rfl) (by
        rw [avs_length]
        refine br_mk (fun h => ⟨_, hc, ?_⟩) (fun h => ?_)
        · rw [h]; cases allExpr kids <;> rfl
        · rw [h]; rfl)
    refine isExpr_w hp ?_
    have e1 : isExpr (.mk k num s z fl kids) = exprB k num s kids.length (allExpr kids) := by rw [isExpr]
    rw [e1]
    generalize allExpr kids = ae at he ⊢
    unfold exprB emptyS
    simp only [avs_length, cast_eq0]
    have he1 := he 1
    have he2 := he 2
    rw [cast_eq1] at he1
    rw [cast_eq2] at he2
    generalize kids.length = l at he1 he2 ⊢
    generalize nameB s = ns at hn ⊢
    generalize (s.data.toList == (ByteArray.mk #[]).data.toList) = es
    repeat' first
      | refine br_mk (fun _ => ?_) (fun _ => ?_)
      | refine ⟨_, hb, ?_⟩
      | refine ⟨_, hn, ?_⟩
      | refine ⟨_, he1, ?_⟩
      | refine ⟨_, he2, ?_⟩
      | fail
    all_goals first | (simp_all; done) | (simp_all; intros; omega)
theorem allExpr_pw : ∀ ts : List Tr, okL ts → ∀ t ∈ ts, Pw cx 20 [t.av] (.bool (isExpr t))
  | [], _, t, ht => by simp at ht
  | u :: ts, h, t, ht => by
    rcases List.mem_cons.1 ht with he | ht
    · rw [he]; exact isExpr_pw u h.1
    · exact allExpr_pw ts h.2 t ht
end
def Tr.kind : Tr → Int
  | .mk k _ _ _ _ _ => k
def isPlace (t : Tr) : Bool := decide (t.kind = 2 ∨ t.kind = 3) && isExpr t
theorem isPlace_pw (t : Tr) (ho : t.ok) : Pw cx 28 [t.av] (.bool (isPlace t)) := by
  have h := isExpr_pw t ho
  cases t with
  | mk k num s z fl kids =>
    refine isPlace_w (nd_pure (avs_pure _)) (br_mk (fun h2 => ⟨_, h, ?_⟩) (fun h2 => br_mk (fun h3 => ⟨_, h, ?_⟩) (fun h3 => ?_)))
    all_goals simp_all [isPlace, Tr.kind]

/-! ### The reference's expressions -/
abbrev bx (k num : Int) (s : ByteArray) (z fl : Bool) (xs : List AV) : Blk := .box [.int .u8 k, .int .i64 num, .str s, .seq z fl 4 xs]
theorem rexpr_loop {k num w : Int} {s : ByteArray} {z fl : Bool} {ts : List Tr} (hb : ts.length ≤ maxLen) (hw : w = (ts.length : Nat)) (h0 : ∀ t ∈ ts, Pw cx 39 [t.av] (.bool (isExpr t))) : ∀ (us : List Tr) (i : Nat), ts.drop i = us →
    LoopAns cx true 1 (loopC Tryd.prog 39 0) [1, 2, 3, 4] [.ptr 0 4 0, .bool false, .int .i64 w, .int .i64 (i : Nat)] [bx k num s z fl (avs ts)] (if us.all isExpr then .exit 1 else .ret) [2] [.bool false] [bx k num s z fl (avs ts)]
  | [], i, hd => rexpr_r fun e => br_no (by have := drop_nil hd; omega) ⟨rfl, rfl, rfl⟩
  | .mk k' num' s' z' fl' kids :: us, i, hd => by
    obtain ⟨h1, h2, h3⟩ := drop_cons hd
    have hg : (avs ts)[i]? = some (Tr.mk k' num' s' z' fl' kids).av := by rw [avs_get, h1]; rfl
    have hq := h0 _ (List.mem_of_getElem? h1)
    have ih := rexpr_loop (k := k) (num := num) (s := s) (z := z) (fl := fl) hb hw h0 us (i + 1) h3
    refine rexpr_r fun e => br_yes (by omega) ⟨_, _, _, _, _, _, hg, _, hq, br_mk (fun hx => ?_) (fun hx => br_yes (wrap_up (by have := maxLen_le; omega)) ?_)⟩
    · have hx : isExpr (.mk k' num' s' z' fl' kids) = false := by simpa using hx
      rw [List.all_cons, hx]
      exact ⟨rfl, rfl, rfl⟩
    · have hx : isExpr (.mk k' num' s' z' fl' kids) = true := by simpa using hx
      rw [List.all_cons, hx, Bool.true_and]
      exact ih
mutual
theorem rexpr_pw : ∀ t : Tr, t.ok → Pw cx 39 [t.av] (.bool (isExpr t))
  | .mk k num s z fl kids, ho => by
    obtain ⟨_, _, hsz, hl, hk⟩ := ho
    have hall := rexprs_pw kids hk
    have hpx := avs_pure kids
    have hp : pureL [(Tr.mk k num s z fl kids).av] = true := nd_pure hpx
    have hn := rname_pw hsz
    have hlp : ∀ w : Int, w = (kids.length : Nat) → LoopAns cx true 1 (loopC Tryd.prog 39 0) [1, 2, 3, 4] [.ptr 0 4 0, .bool false, .int .i64 w, .int .i64 ((0 : Nat) : Int)] [bx k num s z fl (avs kids)] (if allExpr kids then .exit 1 else .ret) [2] [.bool false] [bx k num s z fl (avs kids)] := fun w hw => by
      have := rexpr_loop (k := k) (num := num) (s := s) (z := z) (fl := fl) hl hw hall kids 0 rfl
      rwa [allExpr_all] at this
    have e1 : isExpr (.mk k num s z fl kids) = exprB k num s kids.length (allExpr kids) := by rw [isExpr]
    have hone : kids.length = 1 → ∃ n1 n2 s3 z4 f5 x6, (avs kids)[0]? = some (AV.agg [AV.int IntKind.u8 n1, AV.int IntKind.i64 n2, AV.str s3, AV.seq z4 f5 4 x6]) ∧ Pw cx 39 [AV.agg [AV.int IntKind.u8 n1, AV.int IntKind.i64 n2, AV.str s3, AV.seq z4 f5 4 x6]] (.bool (allExpr kids)) := by
      intro h1
      match kids, h1, hall with
      | [.mk k' num' s' z' fl' kids'], _, hall =>
        refine ⟨_, _, _, _, _, _, rfl, ?_⟩
        have h2 := hall _ (List.mem_singleton.2 rfl)
        have h3 : allExpr [.mk k' num' s' z' fl' kids'] = isExpr (.mk k' num' s' z' fl' kids') := by simp [allExpr]
        rw [h3]
        exact h2
    have hfin : ∀ w : Int, w = (kids.length : Nat) → ∀ {r : Bool}, r = allExpr kids →
        ((∃ b : Bool, LoopAns cx true 1 (loopC Tryd.prog 39 0) [1, 2, 3, 4] [AV.ptr 0 4 0, AV.bool false, AV.int IntKind.i64 w, AV.int IntKind.i64 0] [bx k num s z fl (avs kids)] (.ret) [2] [AV.bool b] [bx k num s z fl (avs kids)] ∧ ∀ e : Env, (AV.bool b) = .bool r) ∨
         (∃ b : Bool, LoopAns cx true 1 (loopC Tryd.prog 39 0) [1, 2, 3, 4] [AV.ptr 0 4 0, AV.bool false, AV.int IntKind.i64 w, AV.int IntKind.i64 0] [bx k num s z fl (avs kids)] (.exit 1) [2] [AV.bool b] [bx k num s z fl (avs kids)] ∧ ∀ e : Env, (AV.bool true) = .bool r)) := by
      rintro w hw r rfl
      have := hlp w hw
      cases ha : allExpr kids with
      | true => rw [ha] at this; exact .inr ⟨_, this, fun e => rfl⟩
      | false => rw [ha] at this; exact .inl ⟨_, this, fun e => rfl⟩
    refine rexpr_w hp ?_
    rw [e1]
    unfold exprB emptyS
    simp only [avs_length, cast_eq0, cast_eq1, cast_eq2]
    generalize nameB s = ns at hn ⊢
    generalize (s.data.toList == (ByteArray.mk #[]).data.toList) = es
    repeat' first
      | refine br_mk (fun _ => ?_) (fun _ => ?_)
      | refine ⟨_, hn, ?_⟩
      | fail
    all_goals first
      | (simp_all; done)
      | (simp_all; intros; omega)
      | (have hl1 : kids.length = 1 := by simp_all
         obtain ⟨n1, n2, s3, z4, f5, x6, g1, g2⟩ := hone hl1
         exact ⟨n1, n2, s3, z4, f5, x6, g1, _, g2, by simp_all⟩)
      | (have hl1 : kids.length = 1 := by simp_all
         exact hfin 1 (by omega) (by simp_all))
      | (have hl1 : kids.length = 2 := by simp_all
         exact hfin 2 (by omega) (by simp_all))
theorem rexprs_pw : ∀ ts : List Tr, okL ts → ∀ t ∈ ts, Pw cx 39 [t.av] (.bool (isExpr t))
  | [], _, t, ht => by simp at ht
  | u :: ts, h, t, ht => by
    rcases List.mem_cons.1 ht with he | ht
    · rw [he]; exact rexpr_pw u h.1
    · exact rexprs_pw ts h.2 t ht
end
end Go.Ab
