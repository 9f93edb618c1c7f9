/- Equality of trees; the law AstEqual over abstract values. -/
import Derived.Test.YtcmcgmcogknpfaaDoorHH
import Derived.Test.YtcmcgmcogknpfaaDoorHI
set_option linter.unusedVariables false
set_option linter.unusedSimpArgs false
namespace Go.Ab
open Go Go.Proofs

mutual
def eqT : Tr → Tr → Bool
  | .mk k num s _ _ kids, .mk l nun t _ _ kids' => decide (k = l) && (decide (num = nun) && ((s.data.toList == t.data.toList) && eqL kids kids'))
def eqL : List Tr → List Tr → Bool
  | [], [] => true
  | [], _ :: _ => false
  | _ :: _, [] => false
  | a :: al, b :: bl => eqT a b && eqL al bl
end
/-- A tree without what no reader sees. -/
inductive Co where
  | mk (k num : Int) (s : List UInt8) (kids : List Co)
mutual
def core : Tr → Co
  | .mk k num s _ _ kids => .mk k num s.data.toList (coreL kids)
def coreL : List Tr → List Co
  | [] => []
  | t :: ts => core t :: coreL ts
end
mutual
theorem eqT_iff : ∀ (a b : Tr), eqT a b = true ↔ core a = core b
  | .mk k num s _ _ kids, .mk l nun t _ _ kids' => by
    rw [eqT, core, core]
    simp only [Bool.and_eq_true, decide_eq_true_eq, beq_iff_eq, Co.mk.injEq, eqL_iff kids kids']
theorem eqL_iff : ∀ (a b : List Tr), eqL a b = true ↔ coreL a = coreL b
  | [], [] => by simp [eqL, coreL]
  | [], _ :: _ => by simp [eqL, coreL]
  | _ :: _, [] => by simp [eqL, coreL]
  | a :: al, b :: bl => by
    rw [eqL, coreL, coreL]
    simp only [Bool.and_eq_true, List.cons.injEq, eqT_iff a b, eqL_iff al bl]
end
theorem eqT_refl (a : Tr) : eqT a a = true := (eqT_iff a a).2 rfl
theorem bool_ext {a b : Bool} (h : a = true ↔ b = true) : a = b := by cases a <;> cases b <;> simp_all
theorem eqT_symm (a b : Tr) : eqT a b = eqT b a := bool_ext (by rw [eqT_iff, eqT_iff]; exact eq_comm)
theorem eqT_cong {a b : Tr} (h : eqT a b = true) (c : Tr) : eqT b c = eqT a c := bool_ext (by rw [eqT_iff, eqT_iff, (eqT_iff a b).1 h])
theorem eqL_length : ∀ {a b : List Tr}, eqL a b = true → a.length = b.length
  | [], [], _ => rfl
  | [], _ :: _, h => by simp [eqL] at h
  | _ :: _, [], h => by simp [eqL] at h
  | a :: al, b :: bl, h => by
    rw [eqL, Bool.and_eq_true] at h
    simp [eqL_length h.2]

theorem eqfunc_loop {z fl y gl : Bool} {ts us : List Tr} {g : Nat} (hb : ts.length ≤ maxLen) (hlen : ts.length = us.length) (hs : cx.sh g = false) (h0 : ∀ t ∈ ts, ∀ u, Pw cx g [t.av, u.av] (.bool (eqT t u)) ∨ u ∉ us) : ∀ (tl ul : List Tr) (i : Nat), ts.drop i = tl → us.drop i = ul →
    (match eqL tl ul with
      | true => LoopAns cx true 0 (loopC Tryd.prog 58 0) [1, 2, 6, 15, 16, 17] [.seq y gl 4 (avs us), .fn g [] [], .bool false, .seq z fl 4 (avs ts), .int .i64 ((avs ts).length : Nat), .int .i64 (i : Nat)] [] (.exit 0) [6] [.bool false] []
      | false => ∃ m', LoopAns cx true 0 (loopC Tryd.prog 58 0) [1, 2, 6, 15, 16, 17] [.seq y gl 4 (avs us), .fn g [] [], .bool false, .seq z fl 4 (avs ts), .int .i64 ((avs ts).length : Nat), .int .i64 (i : Nat)] [] .ret [6] [.bool false] m')
  | [], [], i, hd, hu => by
    rw [eqL]
    exact eqfunc_r fun e => br_no (by have := drop_nil hd; rw [avs_length]; omega) ⟨rfl, rfl, rfl⟩
  | [], u :: ul, i, hd, hu => by have := drop_nil hd; have := (drop_cons hu).2.1; omega
  | t :: tl, [], i, hd, hu => by have := drop_nil hu; have := (drop_cons hd).2.1; omega
  | .mk k num s z1 f1 kids :: tl, .mk l nun t z2 f2 kids' :: ul, i, hd, hu => by
    obtain ⟨h1, h2, h3⟩ := drop_cons hd
    obtain ⟨u1, u2, u3⟩ := drop_cons hu
    have hg : (avs ts)[i]? = some (Tr.mk k num s z1 f1 kids).av := by rw [avs_get, h1]; rfl
    have hg' : (avs us)[i]? = some (Tr.mk l nun t z2 f2 kids').av := by rw [avs_get, u1]; rfl
    have hq := (h0 _ (List.mem_of_getElem? h1) (.mk l nun t z2 f2 kids')).resolve_right (fun h => h (List.mem_of_getElem? u1))
    have hl : ((i : Nat) : Int) < ((avs ts).length : Nat) := by rw [avs_length]; omega
    have pt := underL_pure (N := 0) (avs_pure ts)
    have pu := underL_pure (N := 0) (avs_pure us)
    have ih := eqfunc_loop (z := z) (fl := fl) (y := y) (gl := gl) hb hlen hs h0 tl ul (i + 1) h3 u3
    rw [eqL]
    cases he : eqT (.mk k num s z1 f1 kids) (.mk l nun t z2 f2 kids') with
    | false =>
      rw [he] at hq
      exact ⟨_, eqfunc_r fun e => br_yes hl ⟨_, _, _, _, _, _, hg, _, _, _, _, _, _, hg', br_t (by rw [hs]; rfl) ⟨false, hq, rfl, rfl, rfl⟩⟩⟩
    | true =>
      rw [he] at hq
      rw [Bool.true_and]
      have go : ∀ {x : Exit} {m' : Mem}, LoopAns cx true 0 (loopC Tryd.prog 58 0) [1, 2, 6, 15, 16, 17] [.seq y gl 4 (avs us), .fn g [] [], .bool false, .seq z fl 4 (avs ts), .int .i64 ((avs ts).length : Nat), .int .i64 ((i + 1 : Nat) : Int)] [] x [6] [.bool false] m' →
          LoopAns cx true 0 (loopC Tryd.prog 58 0) [1, 2, 6, 15, 16, 17] [.seq y gl 4 (avs us), .fn g [] [], .bool false, .seq z fl 4 (avs ts), .int .i64 ((avs ts).length : Nat), .int .i64 (i : Nat)] [] x [6] [.bool false] m' := fun h =>
        eqfunc_r fun e => br_yes hl ⟨_, _, _, _, _, _, hg, _, _, _, _, _, _, hg', br_t (by rw [hs]; rfl) ⟨true, hq, br_yes (wrap_up (by have := maxLen_le; omega)) (br_t (by simp [underL, AV.under, pt, pu]) (br_t (by simp [underL, AV.under, pt, pu]) h))⟩⟩
      cases hc : eqL tl ul with
      | true => rw [hc] at ih; exact go ih
      | false => rw [hc] at ih; obtain ⟨m', ih⟩ := ih; exact ⟨m', go ih⟩
mutual
theorem equal_pw : ∀ (a b : Tr), a.ok → Pw cx 28 [a.av, b.av] (.bool (eqT a b))
  | .mk k num s z fl kids, .mk l nun t y gl kids', ho => by
    obtain ⟨_, _, hsz, hl, hk⟩ := ho
    have hp : pureL [(Tr.mk k num s z fl kids).av, (Tr.mk l nun t y gl kids').av] = true := by
      show (AV.pure _ && (AV.pure _ && _)) = true
      rw [av_pure, av_pure]; rfl
    have hp2 : pureL [.seq z fl 4 (avs kids), .seq y gl 4 (avs kids'), .fn 28 [] []] = true := by simp [pureL, AV.pure, avs_pure]
    have hall := equals_pw kids hk
    have hf : Pw cx 58 [.seq z fl 4 (avs kids), .seq y gl 4 (avs kids'), .fn 28 [] []] (.bool (eqL kids kids')) := by
      refine eqfunc_w hp2 ?_
      rw [avs_length, avs_length]
      by_cases hlen : kids.length = kids'.length
      · refine br_f (by simp [hlen]) ?_
        have := eqfunc_loop (z := z) (fl := fl) (y := y) (gl := gl) hl hlen rfl (fun t ht u => .inl (hall t ht u)) kids kids' 0 rfl rfl
        rw [avs_length] at this
        cases hc : eqL kids kids' with
        | true => rw [hc] at this; exact .inr ⟨_, this, fun e => rfl⟩
        | false => rw [hc] at this; obtain ⟨m', this⟩ := this; exact .inl ⟨_, m', this, fun e => rfl⟩
      · have : eqL kids kids' = false := by
          cases hc : eqL kids kids' with
          | false => rfl
          | true => exact absurd (eqL_length hc) hlen
        rw [this]
        exact br_t (by simp; omega) rfl
    have e1 : eqT (.mk k num s z fl kids) (.mk l nun t y gl kids') = (decide (k = l) && (decide (num = nun) && ((s.data.toList == t.data.toList) && eqL kids kids'))) := by rw [eqT]
    rw [e1]
    refine equal_w hp (br_mk (fun h1 => br_mk (fun h2 => br_mk (fun h3 => ⟨_, hf, ?_⟩) (fun h3 => ?_)) (fun h2 => ?_)) (fun h1 => ?_))
    · rw [h1, h2, h3]; rfl
    · rw [h1, h2, h3]; rfl
    · rw [h1, h2]; rfl
    · rw [h1]; rfl
theorem equals_pw : ∀ (ts : List Tr), okL ts → ∀ t ∈ ts, ∀ u : Tr, Pw cx 28 [t.av, u.av] (.bool (eqT t u))
  | [], _, t, ht, u => by simp at ht
  | v :: ts, h, t, ht, u => by
    rcases List.mem_cons.1 ht with he | ht
    · rw [he]; exact equal_pw v u h.1
    · exact equals_pw ts h.2 t ht u
end
theorem requal_loop {k num l nun : Int} {s t : ByteArray} {z fl y gl : Bool} {ts us : List Tr} (hb : ts.length ≤ maxLen) (hlen : ts.length = us.length) (h0 : ∀ t ∈ ts, ∀ u, Pw cx 26 [t.av, u.av] (.bool (eqT t u))) : ∀ (tl ul : List Tr) (i : Nat), ts.drop i = tl → us.drop i = ul →
    LoopAns cx true 2 (loopC Tryd.prog 26 0) [2, 3, 4, 5] [.ptr 0 4 0, .ptr 1 4 0, .bool false, .int .i64 (i : Nat)] [bx k num s z fl (avs ts), bx l nun t y gl (avs us)] (if eqL tl ul then .exit 0 else .ret) [4] [.bool false] [bx k num s z fl (avs ts), bx l nun t y gl (avs us)]
  | [], [], i, hd, hu => by
    rw [eqL]
    exact requal_r fun e => br_no (by have := drop_nil hd; rw [avs_length]; omega) ⟨rfl, rfl, rfl⟩
  | [], u :: ul, i, hd, hu => by have := drop_nil hd; have := (drop_cons hu).2.1; omega
  | t :: tl, [], i, hd, hu => by have := drop_nil hu; have := (drop_cons hd).2.1; omega
  | .mk k1 num1 s1 z1 f1 kids :: tl, .mk l1 nun1 t1 z2 f2 kids' :: ul, i, hd, hu => by
    obtain ⟨h1, h2, h3⟩ := drop_cons hd
    obtain ⟨u1, u2, u3⟩ := drop_cons hu
    have hg : (avs ts)[i]? = some (Tr.mk k1 num1 s1 z1 f1 kids).av := by rw [avs_get, h1]; rfl
    have hg' : (avs us)[i]? = some (Tr.mk l1 nun1 t1 z2 f2 kids').av := by rw [avs_get, u1]; rfl
    have hq := h0 _ (List.mem_of_getElem? h1) (.mk l1 nun1 t1 z2 f2 kids')
    have hl : ((i : Nat) : Int) < ((avs ts).length : Nat) := by rw [avs_length]; omega
    have ih := requal_loop (k := k) (num := num) (s := s) (z := z) (fl := fl) (l := l) (nun := nun) (t := t) (y := y) (gl := gl) hb hlen h0 tl ul (i + 1) h3 u3
    rw [eqL]
    cases he : eqT (.mk k1 num1 s1 z1 f1 kids) (.mk l1 nun1 t1 z2 f2 kids') with
    | false =>
      rw [he] at hq
      exact requal_r fun e => br_yes hl ⟨_, _, _, _, _, _, hg, _, _, _, _, _, _, hg', false, hq, rfl, rfl, rfl⟩
    | true =>
      rw [he] at hq
      rw [Bool.true_and]
      exact requal_r fun e => br_yes hl ⟨_, _, _, _, _, _, hg, _, _, _, _, _, _, hg', true, hq, br_yes (wrap_up (by have := maxLen_le; omega)) ih⟩
mutual
theorem requal_pw : ∀ (a b : Tr), a.ok → Pw cx 26 [a.av, b.av] (.bool (eqT a b))
  | .mk k num s z fl kids, .mk l nun t y gl kids', ho => by
    obtain ⟨_, _, hsz, hl, hk⟩ := ho
    have hp : pureL [(Tr.mk k num s z fl kids).av, (Tr.mk l nun t y gl kids').av] = true := by
      show (AV.pure _ && (AV.pure _ && _)) = true
      rw [av_pure, av_pure]; rfl
    have hall := requals_pw kids hk
    have e1 : eqT (.mk k num s z fl kids) (.mk l nun t y gl kids') = (decide (k = l) && (decide (num = nun) && ((s.data.toList == t.data.toList) && eqL kids kids'))) := by rw [eqT]
    rw [e1]
    refine requal_w hp ?_
    rw [avs_length, avs_length]
    by_cases hlen : kids.length = kids'.length
    · have hlp := requal_loop (k := k) (num := num) (s := s) (z := z) (fl := fl) (l := l) (nun := nun) (t := t) (y := y) (gl := gl) hl hlen hall kids kids' 0 rfl rfl
      cases hc : eqL kids kids' with
      | true =>
        rw [hc] at hlp
        repeat' first
          | exact .inr ⟨_, hlp, fun e => by simp_all⟩
          | refine br_mk (fun _ => ?_) (fun _ => ?_)
          | fail
        all_goals simp_all
      | false =>
        rw [hc] at hlp
        repeat' first
          | exact .inl ⟨_, hlp, fun e => by simp_all⟩
          | refine br_mk (fun _ => ?_) (fun _ => ?_)
          | fail
        all_goals simp_all
    · have : eqL kids kids' = false := by
        cases hc : eqL kids kids' with
        | false => rfl
        | true => exact absurd (eqL_length hc) hlen
      rw [this]
      have hne : (!decide (((kids.length : Nat) : Int) = (kids'.length : Nat))) = true := by simp; omega
      rw [hne]
      simp only [Bool.and_false]
      repeat' first
        | exact trivial
        | exact rfl
        | refine br_mk (fun _ => ?_) (fun _ => ?_)
        | fail
theorem requals_pw : ∀ (ts : List Tr), okL ts → ∀ t ∈ ts, ∀ u : Tr, Pw cx 26 [t.av, u.av] (.bool (eqT t u))
  | [], _, t, ht, u => by simp at ht
  | v :: ts, h, t, ht, u => by
    rcases List.mem_cons.1 ht with he | ht
    · rw [he]; exact requal_pw v u h.1
    · exact requals_pw ts h.2 t ht u
end
theorem lawEqual_pw (a b c : Tr) (ha : a.ok) (hb : b.ok) (hc : c.ok) : Pw cx 5 [a.av, b.av, c.av] (.bool true) := by
  have b1 := big_pw a ha
  have b2 := big_pw b hb
  have b3 := big_pw c hc
  have e1 := equal_pw a a ha
  have e2 := equal_pw a b ha
  have e3 := equal_pw b a hb
  have e4 := equal_pw b c hb
  have e5 := equal_pw a c ha
  have e6 := requal_pw a b ha
  have q1 := eqT_refl a
  have q2 := eqT_symm a b
  have q3 := fun h : eqT a b = true => eqT_cong h c
  have hp : pureL [a.av, b.av, c.av] = true := by simp [pureL, av_pure]
  generalize big a = g1 at b1
  generalize big b = g2 at b2
  generalize big c = g3 at b3
  generalize eqT a a = eaa at e1 q1
  generalize eqT b a = eba at e3 q2
  generalize eqT b c = ebc at e4 q3
  generalize eqT a c = eac at e5 q3
  generalize eqT a b = eab at e2 e6 q2 q3
  cases a with
  | mk k num s z fl kids =>
    cases b with
    | mk l nun t y gl kids' =>
      cases c with
      | mk p nuq u x hl kids'' =>
        refine lawEqual_w hp ⟨_, awake_pw, br_f rfl ?_⟩
        clear ha hb hc hp
        subst q1
        subst q2
        repeat' first
          | refine br_mk (fun _ => ?_) (fun _ => ?_)
          | refine ⟨_, b1, ?_⟩
          | refine ⟨_, b2, ?_⟩
          | refine ⟨_, b3, ?_⟩
          | refine ⟨_, e1, ?_⟩
          | refine ⟨_, e2, ?_⟩
          | refine ⟨_, e3, ?_⟩
          | refine ⟨_, e4, ?_⟩
          | refine ⟨_, e5, ?_⟩
          | refine ⟨_, e6, ?_⟩
          | fail
        all_goals
          clear b1 b2 b3 e1 e2 e3 e4 e5 e6
          first | rfl | contradiction | (cases eab <;> cases ebc <;> cases eac <;> first | rfl | contradiction | (exfalso; exact absurd (q3 rfl) (by decide)))
end Go.Ab
