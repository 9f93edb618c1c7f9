/- Statements and blocks: the program's and the reference's answer on trees. -/
import Derived.Test.YtjodlfhkabploaaDoorHF
set_option linter.unusedVariables false
set_option linter.unusedSimpArgs false
namespace Go.Ab
open Go Go.Proofs

inductive Cat where | e | p | b | v
def stShape (k : Int) (l : Nat) : Option (List Cat × Bool) :=
  if k = 40 ∨ k = 41 ∨ k = 42 ∨ k = 56 then some ([.p, .e], false)
  else if k = 43 then some ([.p, .p], false)
  else if k = 44 ∨ k = 45 then some ([.p], true)
  else if k = 46 ∨ k = 47 ∨ k = 48 ∨ k = 49 then some ([.p], false)
  else if k = 50 ∨ k = 51 then (if l ≤ 8 then some (List.replicate l .v, true) else none)
  else if k = 52 ∨ k = 53 then some ([.e, .b, .b, .e], false)
  else if k = 54 then some ([.e, .b, .e], true)
  else if k = 55 then some ([.b], true)
  else none
mutual
def isStmt : Tr → Bool
  | .mk k num s z fl kids => decide (num = 0) && (match stShape k kids.length with
    | none => false
    | some (cs, named) => (if named then nameB s else emptyS s) && (decide (kids.length = cs.length) && catL cs kids))
def isBlock : Tr → Bool
  | .mk k num s z fl kids => decide (k = 57) && (decide (num = 0) && (emptyS s && stmtL kids))
def stmtL : List Tr → Bool
  | [] => true
  | t :: ts => isStmt t && stmtL ts
def catL : List Cat → List Tr → Bool
  | c :: cs, t :: ts => (match c with
    | .e => isExpr t
    | .p => isPlace t
    | .b => isBlock t
    | .v => decide (t.kind = 2) && isExpr t) && catL cs ts
  | _, _ => true
end
def catB (c : Cat) (t : Tr) : Bool := match c with
  | .e => isExpr t
  | .p => isPlace t
  | .b => isBlock t
  | .v => decide (t.kind = 2) && isExpr t
theorem catL_cons (c : Cat) (cs : List Cat) (t : Tr) (ts : List Tr) : catL (c :: cs) (t :: ts) = (catB c t && catL cs ts) := by cases c <;> simp [catL, catB]
theorem stmtL_any : ∀ ts : List Tr, ts.any (fun t => !isStmt t) = !stmtL ts
  | [] => by simp [stmtL]
  | t :: ts => by simp [stmtL, stmtL_any ts]
theorem stmtL_all : ∀ ts : List Tr, ts.all isStmt = stmtL ts
  | [] => by simp [stmtL]
  | t :: ts => by simp [stmtL, stmtL_all ts]
theorem catL_v : ∀ ts : List Tr, catL (List.replicate ts.length .v) ts = !ts.any (fun t => !catB .v t)
  | [] => by simp [catL]
  | t :: ts => by
    rw [List.length_cons, List.replicate_succ, catL_cons, catL_v ts]
    simp
mutual
theorem under_pure {N : Nat} : ∀ {x : AV}, x.pure = true → x.under N = true
  | .agg xs, h => by simpa [AV.under] using underL_pure (xs := xs) (by simpa [AV.pure] using h)
  | .tup xs, h => by simpa [AV.under] using underL_pure (xs := xs) (by simpa [AV.pure] using h)
  | .fn f a b, h => by
    simp only [AV.pure, Bool.and_eq_true] at h
    simp [AV.under, underL_pure h.1, underL_pure h.2]
  | .seq z fl sz xs, h => by simpa [AV.under] using underL_pure (xs := xs) (by simpa [AV.pure] using h)
  | .rptr xs, h => by simpa [AV.under] using underL_pure (xs := xs) (by simpa [AV.pure] using h)
  | .smap ks vs, h => by
    simp only [AV.pure, Bool.and_eq_true] at h
    simp [AV.under, underL_pure h.1, underL_pure h.2]
  | .int .., _ => rfl
  | .bool .., _ => rfl
  | .str .., _ => rfl
  | .nilptr, _ => rfl
  | .nilfn, _ => rfl
  | .nilmp, _ => rfl
  | .own .., h => by simp [AV.pure] at h
  | .ptr .., h => by simp [AV.pure] at h
  | .aptr .., h => by simp [AV.pure] at h
  | .yld .., h => by simp [AV.pure] at h
  | .mp .., h => by simp [AV.pure] at h
  | .junk, h => by simp [AV.pure] at h
theorem underL_pure {N : Nat} : ∀ {xs : List AV}, pureL xs = true → underL N xs = true
  | [], _ => rfl
  | x :: xs, h => by
    simp only [pureL, Bool.and_eq_true] at h
    simp [underL, under_pure h.1, underL_pure h.2]
end
theorem bx_under {N : Nat} {k num : Int} {s : ByteArray} {z fl : Bool} {xs : List AV} (h : pureL xs = true) : List.all [Blk.box [AV.int IntKind.u8 k, AV.int IntKind.i64 num, AV.str s, AV.seq z fl 4 xs]] (blkUnder N 0) = true := by
  simp [blkUnder, underL, AV.under, underL_pure h]

/-! ### The program's -/
def fnOf : Cat → Nat
  | .e => 20
  | .p => 28
  | .b => 104
  | .v => 20
def testsOf (cs : List Cat) : List AV := cs.map fun c => .fn (fnOf c) [] []
theorem shape_loop {k num : Int} {s : ByteArray} {z fl : Bool} {ts : List Tr} {cs : List Cat} (hb : ts.length ≤ maxLen) (hlen : ts.length = cs.length) (hcat : ∀ c ∈ cs, ∀ t ∈ ts, Pw cx (fnOf c) [t.av] (.bool (catB c t))) : ∀ (us : List Tr) (ds : List Cat) (i : Nat), ts.drop i = us → cs.drop i = ds →
    LoopAns cx true 1 (loopC Tryd.prog 131 0) [2, 4, 13, 14, 15] [.ptr 0 4 0, .bool false, .seq false true 1 (testsOf cs), .int .i64 ((testsOf cs).length : Nat), .int .i64 (i : Nat)] [bx k num s z fl (avs ts)] (if catL ds us then .exit 0 else .ret) [4] [.bool false] [bx k num s z fl (avs ts)]
  | [], ds, i, hd, hc => by
    have := drop_nil hd
    have h2 : catL ds [] = true := by cases ds <;> simp [catL]
    rw [h2]
    exact shape_r fun e => br_no (by simp [testsOf]; omega) ⟨rfl, rfl, rfl⟩
  | u :: us, [], i, hd, hc => by
    obtain ⟨h1, h2, h3⟩ := drop_cons hd
    have := drop_nil hc
    omega
  | .mk k' num' s' z' fl' kids :: us, c :: ds, i, hd, hc => by
    obtain ⟨h1, h2, h3⟩ := drop_cons hd
    obtain ⟨c1, c2, c3⟩ := drop_cons hc
    have hg : (avs ts)[i]? = some (Tr.mk k' num' s' z' fl' kids).av := by rw [avs_get, h1]; rfl
    have hgc : (testsOf cs)[i]? = some (.fn (fnOf c) [] []) := by simp [testsOf, c1]
    have hq := hcat c (List.mem_of_getElem? c1) _ (List.mem_of_getElem? h1)
    have ih := shape_loop (k := k) (num := num) (s := s) (z := z) (fl := fl) hb hlen hcat us ds (i + 1) h3 c3
    rw [catL_cons]
    refine shape_r fun e => br_yes (by simp [testsOf]; omega) ⟨_, hgc, _, _, _, _, _, _, hg, br_t (by cases c <;> rfl) ⟨_, hq, br_mk (fun hx => ?_) (fun hx => br_yes (wrap_up (by have := maxLen_le; omega)) ?_)⟩⟩
    · have hx : catB c (.mk k' num' s' z' fl' kids) = false := by simpa using hx
      rw [hx]
      exact ⟨rfl, rfl, rfl⟩
    · have hx : catB c (.mk k' num' s' z' fl' kids) = true := by simpa using hx
      rw [hx, Bool.true_and]
      exact ih
theorem shape_pw {k num : Int} {s : ByteArray} {z fl : Bool} {ts : List Tr} (cs : List Cat) (hb : ts.length ≤ maxLen) (hcat : ∀ c ∈ cs, ∀ t ∈ ts, Pw cx (fnOf c) [t.av] (.bool (catB c t))) :
    Pw cx 131 [nd k num s (.seq z fl 4 (avs ts)), .seq false true 1 (testsOf cs)] (.bool (decide (ts.length = cs.length) && catL cs ts)) := by
  have hT : pureL (testsOf cs) = true := pureL_of (fun y hy => by obtain ⟨c, _, rfl⟩ := List.mem_map.1 hy; rfl)
  have hp : pureL [nd k num s (.seq z fl 4 (avs ts)), .seq false true 1 (testsOf cs)] = true := by simp [pureL, AV.pure, avs_pure, hT]
  refine shape_w hp ?_
  have hl : (testsOf cs).length = cs.length := by simp [testsOf]
  rw [avs_length, hl]
  by_cases hlen : ts.length = cs.length
  · refine br_f (by simp [hlen]) ?_
    have := shape_loop (k := k) (num := num) (s := s) (z := z) (fl := fl) hb hlen hcat ts cs 0 rfl rfl
    rw [hl] at this
    rw [decide_eq_true hlen, Bool.true_and]
    cases hc : catL cs ts with
    | true => rw [hc] at this; exact .inr ⟨_, this, fun e => rfl⟩
    | false => rw [hc] at this; exact .inl ⟨_, this, fun e => rfl⟩
  · refine br_t (by simp; omega) ?_
    rw [decide_eq_false hlen]
    rfl
mutual
theorem isStmt_pw : ∀ t : Tr, t.ok → Pw cx 125 [t.av] (.bool (isStmt t))
  | .mk k num s z fl kids, ho => by
    obtain ⟨_, _, hsz, hl, hk⟩ := ho
    have hall := stmts_pw kids hk
    have hpx := avs_pure kids
    have hp : pureL [(Tr.mk k num s z fl kids).av] = true := nd_pure hpx
    have hb : Pw cx 57 [nd k num s (.seq z fl 4 (avs kids))] (.bool (decide (num = 0))) := bare_w hp rfl
    have hn := name_pw hsz
    have hcat : ∀ c, ∀ t ∈ kids, c ≠ .v → Pw cx (fnOf c) [t.av] (.bool (catB c t)) := by
      intro c t ht hc
      cases c with
      | e => exact isExpr_pw t (okL_mem hk t ht)
      | p => exact isPlace_pw t (okL_mem hk t ht)
      | b => exact (hall t ht).2
      | v => exact absurd rfl hc
    have hsh : ∀ cs : List Cat, (∀ c ∈ cs, c ≠ .v) → Pw cx 131 [nd k num s (.seq z fl 4 (avs kids)), .seq false true 1 (testsOf cs)] (.bool (decide (kids.length = cs.length) && catL cs kids)) :=
      fun cs hcs => shape_pw cs hl (fun c hc t ht => hcat c t ht (hcs c hc))
    have h1 := hsh [.p, .e] (by simp)
    have h2 := hsh [.p, .p] (by simp)
    have h3 := hsh [.p] (by simp)
    have h4 := hsh [.e, .b, .b, .e] (by simp)
    have h5 := hsh [.e, .b, .e] (by simp)
    have h6 := hsh [.b] (by simp)
    have h7 : Pw cx 91 [.seq z fl 4 (avs kids), .fn 132 [] []] (.bool (kids.any fun t => !catB .v t)) :=
      contains_pw (cap := []) hl rfl rfl (fun t ht => by
        have h1 := isExpr_pw t (okL_mem hk t ht)
        cases t with
        | mk k' num' s' z' fl' kids' =>
          refine isStmt1_w (nd_pure (avs_pure _)) (br_mk (fun h => ?_) (fun h => ⟨_, h1, ?_⟩))
          · simp_all [catB, Tr.kind]
          · simp_all [catB, Tr.kind])
    have h8 : (!kids.any fun t => !catB .v t) = catL (List.replicate kids.length .v) kids := (catL_v kids).symm
    have e1 : isStmt (.mk k num s z fl kids) = (decide (num = 0) && (match stShape k kids.length with
      | none => false
      | some (cs, named) => (if named then nameB s else emptyS s) && (decide (kids.length = cs.length) && catL cs kids))) := by rw [isStmt]
    rw [e1]
    refine isStmt_w hp ⟨_, hb, ?_⟩
    clear hall hcat hsh e1 hb
    generalize hes : (s.data.toList == (ByteArray.mk #[]).data.toList) = es
    have hes' : emptyS s = es := hes
    simp only [avs_length, hes']
    clear hes hes'
    refine br_mk (fun hz => by simp_all) (fun hz => ⟨_, hn, ?_⟩)
    have hz : num = 0 := by simpa using hz
    rw [decide_eq_true hz, Bool.true_and]
    generalize nameB s = ns at hn ⊢
    repeat' first
      | refine ⟨_, h1, ?_⟩
      | refine ⟨_, h2, ?_⟩
      | refine ⟨_, h3, ?_⟩
      | refine ⟨_, h4, ?_⟩
      | refine ⟨_, h5, ?_⟩
      | refine ⟨_, h6, ?_⟩
      | refine ⟨_, h7, ?_⟩
      | refine br_mk (fun _ => ?_) (fun _ => ?_)
      | fail
    all_goals
      clear h1 h2 h3 h4 h5 h6 h7 hn
      try rw [h8]
      clear h8
      simp only [decide_eq_true_eq, decide_eq_false_iff_not] at *
      first
        | (simp_all [stShape]; done)
        | (by_cases h9 : kids.length ≤ 8 <;> first
          | (simp_all [stShape]; done)
          | (exfalso; omega)
          | (have h10 : stShape 50 kids.length = none := by simp [stShape]; omega
             have h11 : stShape 51 kids.length = none := by simp [stShape]; omega
             simp_all))
theorem isBlock_pw : ∀ t : Tr, t.ok → Pw cx 104 [t.av] (.bool (isBlock t))
  | .mk k num s z fl kids, ho => by
    obtain ⟨_, _, hsz, hl, hk⟩ := ho
    have hall := stmts_pw kids hk
    have hpx := avs_pure kids
    have hp : pureL [(Tr.mk k num s z fl kids).av] = true := nd_pure hpx
    have hb : Pw cx 57 [nd k num s (.seq z fl 4 (avs kids))] (.bool (decide (num = 0))) := bare_w hp rfl
    have hc : Pw cx 91 [.seq z fl 4 (avs kids), .fn 124 [] []] (.bool (kids.any fun t => !isStmt t)) :=
      contains_pw (cap := []) hl rfl rfl (fun t ht => by
        have h1 := (hall t ht).1
        cases t with | mk k' num' s' z' fl' kids' => exact isBlock1_w (nd_pure (avs_pure _)) ⟨_, h1, rfl⟩)
    rw [stmtL_any] at hc
    have e1 : isBlock (.mk k num s z fl kids) = (decide (k = 57) && (decide (num = 0) && (emptyS s && stmtL kids))) := by rw [isBlock]
    rw [e1]
    refine isBlock_w hp ?_
    unfold emptyS
    repeat' first
      | refine ⟨_, hb, ?_⟩
      | refine ⟨_, hc, ?_⟩
      | refine br_mk (fun _ => ?_) (fun _ => ?_)
      | fail
    all_goals simp_all
theorem stmts_pw : ∀ ts : List Tr, okL ts → ∀ t ∈ ts, Pw cx 125 [t.av] (.bool (isStmt t)) ∧ Pw cx 104 [t.av] (.bool (isBlock t))
  | [], _, t, ht => by simp at ht
  | u :: ts, h, t, ht => by
    rcases List.mem_cons.1 ht with he | ht
    · rw [he]; exact ⟨isStmt_pw u h.1, isBlock_pw u h.1⟩
    · exact stmts_pw ts h.2 t ht
end
/-! ### The reference's -/
def chr : Cat → UInt8
  | .e => 101
  | .p => 112
  | .b => 98
  | .v => 118
def strOf (cs : List Cat) : ByteArray := ⟨(cs.map chr).toArray⟩
theorem strOf_list (cs : List Cat) : (strOf cs).data.toList = cs.map chr := by simp [strOf]
theorem strOf_size (cs : List Cat) : (strOf cs).size = cs.length := by rw [← size_list, strOf_list, List.length_map]
theorem extract_v {l : Nat} (h : l ≤ 8) : ByteArray.extract (ByteArray.mk #[118, 118, 118, 118, 118, 118, 118, 118]) 0 l = strOf (List.replicate l .v) := by
  match l, h with
  | 0, _ => rfl
  | 1, _ => rfl
  | 2, _ => rfl
  | 3, _ => rfl
  | 4, _ => rfl
  | 5, _ => rfl
  | 6, _ => rfl
  | 7, _ => rfl
  | 8, _ => rfl
theorem nameB_ne {s : ByteArray} (h : nameB s = true) : emptyS s = false := by
  unfold nameB at h
  cases hs : s.data.toList with
  | nil => simp [hs, wordB] at h
  | cons b l => simp only [emptyS, hs]; rfl
end Go.Ab
