/- Sizes and depths; declarations. -/
import Derived.Test.YtcmcgmcogknpfaaDoorHJ
import Derived.Test.YtcmcgmcogknpfaaDoorHK
set_option linter.unusedVariables false
set_option linter.unusedSimpArgs false
namespace Go.Ab
open Go Go.Proofs

mutual
def sizeT : Tr → Nat
  | .mk _ _ _ _ _ kids => 1 + sizeL kids
def sizeL : List Tr → Nat
  | [] => 0
  | t :: ts => sizeT t + sizeL ts
end
mutual
def depthT : Tr → Nat
  | .mk _ _ _ _ _ kids => depthL kids + 1
def depthL : List Tr → Nat
  | [] => 0
  | t :: ts => max (depthT t) (depthL ts)
end
mutual
theorem depth_le : ∀ t : Tr, depthT t ≤ sizeT t
  | .mk _ _ _ _ _ kids => by
    have := depthL_le kids
    rw [depthT, sizeT]; omega
theorem depthL_le : ∀ ts : List Tr, depthL ts ≤ sizeL ts
  | [] => by simp [depthL, sizeL]
  | t :: ts => by
    have h1 := depth_le t
    have h2 := depthL_le ts
    rw [depthL, sizeL]; omega
end
theorem size_mem : ∀ {ts : List Tr} {t : Tr}, t ∈ ts → sizeT t ≤ sizeL ts
  | [], t, h => by simp at h
  | u :: ts, t, h => by
    rw [sizeL]
    rcases List.mem_cons.1 h with rfl | h
    · omega
    · have := size_mem h; omega
mutual
theorem cnt_size : ∀ (t : Tr) (d : Int), 0 ≤ cnt t d → cnt t d = (sizeT t : Nat) ∧ ((depthT t : Nat) : Int) ≤ d
  | .mk k num s z fl kids, d, h => by
    rw [cnt] at h ⊢
    split at h
    · omega
    · rename_i h1
      rw [if_neg h1]
      cases hc : cntL kids (d - 1) 1 with
      | none => rw [hc] at h; simp at h
      | some r =>
        obtain ⟨h2, h3⟩ := cntL_size kids (d - 1) 1 r (by omega) hc
        rw [sizeT, depthT]
        simp only [Option.getD_some]
        omega
theorem cntL_size : ∀ (ts : List Tr) (d s r : Int), 0 ≤ d → cntL ts d s = some r → r = s + (sizeL ts : Nat) ∧ ((depthL ts : Nat) : Int) ≤ d
  | [], d, s, r, h, hc => by
    rw [cntL] at hc
    cases hc
    simp [sizeL, depthL, h]
  | t :: ts, d, s, r, h, hc => by
    rw [cntL] at hc
    split at hc
    · cases hc
    · rename_i h1
      obtain ⟨h2, h3⟩ := cnt_size t d (by omega)
      obtain ⟨h4, h5⟩ := cntL_size ts d (s + cnt t d) r h hc
      rw [sizeL, depthL]
      omega
end
theorem small_of {t : Tr} (h : big t = false) : sizeT t ≤ 400 ∧ depthT t ≤ 100 := by
  unfold big at h
  simp only [Bool.or_eq_false_iff, decide_eq_false_iff_not] at h
  obtain ⟨h1, h2⟩ := cnt_size t 100 (by omega)
  omega

theorem size_loop {k num : Int} {s : ByteArray} {z fl : Bool} {ts : List Tr} (hb : ts.length ≤ maxLen) (h0 : ∀ t ∈ ts, Pw cx 29 [t.av] (.int .i64 (sizeT t : Nat))) : ∀ (us : List Tr) (i n : Nat), n + sizeL us ≤ 1000000 → ts.drop i = us →
    LoopAns cx true 1 (loopC Tryd.prog 29 0) [3, 7, 8, 9] [.int .i64 (n : Nat), .seq z fl 4 (avs ts), .int .i64 ((avs ts).length : Nat), .int .i64 (i : Nat)] [bx k num s z fl (avs ts)] (.exit 0) [3] [.int .i64 ((n + sizeL us : Nat) : Int)] [bx k num s z fl (avs ts)]
  | [], i, n, hn, hd => size_r fun e => br_no (by have := drop_nil hd; rw [avs_length]; omega) ⟨rfl, by simp [sizeL], rfl⟩
  | .mk k' num' s' z' fl' kids :: us, i, n, hn, hd => by
    obtain ⟨h1, h2, h3⟩ := drop_cons hd
    have hg : (avs ts)[i]? = some (Tr.mk k' num' s' z' fl' kids).av := by rw [avs_get, h1]; rfl
    have hq := h0 _ (List.mem_of_getElem? h1)
    rw [sizeL] at hn ⊢
    have ih := size_loop (k := k) (num := num) (s := s) (z := z) (fl := fl) hb h0 us (i + 1) (n + sizeT (.mk k' num' s' z' fl' kids)) (by omega) h3
    rw [Nat.add_assoc] at ih
    have pu := underL_pure (N := 1) (avs_pure ts)
    exact size_r fun e => br_yes (by rw [avs_length]; omega) ⟨_, _, _, _, _, _, hg, _, hq, br_yes (wrap_in (by omega) (by omega)) (br_yes (wrap_up (by have := maxLen_le; omega)) (br_t (bx_under (avs_pure ts)) (br_t (by simp [underL, AV.under, pu]) (br_t (by simp [underL, AV.under, pu]) ih))))⟩
mutual
theorem size_pw : ∀ t : Tr, t.ok → sizeT t ≤ 1000000 → Pw cx 29 [t.av] (.int .i64 (sizeT t : Nat))
  | .mk k num s z fl kids, ho, hs => by
    obtain ⟨_, _, hsz, hl, hk⟩ := ho
    rw [sizeT] at hs ⊢
    have hlp := size_loop (k := k) (num := num) (s := s) (z := z) (fl := fl) hl (fun t ht => sizes_pw kids hk (by omega) t ht) kids 0 1 (by omega) rfl
    exact size_w (nd_pure (avs_pure _)) ⟨_, hlp, fun e => rfl⟩
theorem sizes_pw : ∀ ts : List Tr, okL ts → sizeL ts ≤ 1000000 → ∀ t ∈ ts, Pw cx 29 [t.av] (.int .i64 (sizeT t : Nat))
  | [], _, _, t, ht => by simp at ht
  | u :: ts, h, hs, t, ht => by
    rw [sizeL] at hs
    rcases List.mem_cons.1 ht with he | ht
    · rw [he]; exact size_pw u h.1 (by omega)
    · exact sizes_pw ts h.2 (by omega) t ht
end
theorem rsize_loop {k num : Int} {s : ByteArray} {z fl : Bool} {ts : List Tr} (hb : ts.length ≤ maxLen) (h0 : ∀ t ∈ ts, Pw cx 33 [t.av] (.int .i64 (sizeT t : Nat))) : ∀ (us : List Tr) (i n : Nat), n + sizeL us ≤ 1000000 → ts.drop i = us →
    LoopAns cx true 1 (loopC Tryd.prog 33 0) [1, 3, 4] [.ptr 0 4 0, .int .i64 (n : Nat), .int .i64 (i : Nat)] [bx k num s z fl (avs ts)] (.exit 0) [3] [.int .i64 ((n + sizeL us : Nat) : Int)] [bx k num s z fl (avs ts)]
  | [], i, n, hn, hd => rsize_r fun e => br_no (by have := drop_nil hd; rw [avs_length]; omega) ⟨rfl, by simp [sizeL], rfl⟩
  | .mk k' num' s' z' fl' kids :: us, i, n, hn, hd => by
    obtain ⟨h1, h2, h3⟩ := drop_cons hd
    have hg : (avs ts)[i]? = some (Tr.mk k' num' s' z' fl' kids).av := by rw [avs_get, h1]; rfl
    have hq := h0 _ (List.mem_of_getElem? h1)
    rw [sizeL] at hn ⊢
    have ih := rsize_loop (k := k) (num := num) (s := s) (z := z) (fl := fl) hb h0 us (i + 1) (n + sizeT (.mk k' num' s' z' fl' kids)) (by omega) h3
    rw [Nat.add_assoc] at ih
    exact rsize_r fun e => br_yes (by rw [avs_length]; omega) ⟨_, _, _, _, _, _, hg, _, hq, br_yes (wrap_in (by omega) (by omega)) (br_yes (wrap_up (by have := maxLen_le; omega)) ih)⟩
mutual
theorem rsize_pw : ∀ t : Tr, t.ok → sizeT t ≤ 1000000 → Pw cx 33 [t.av] (.int .i64 (sizeT t : Nat))
  | .mk k num s z fl kids, ho, hs => by
    obtain ⟨_, _, hsz, hl, hk⟩ := ho
    rw [sizeT] at hs ⊢
    have hlp := rsize_loop (k := k) (num := num) (s := s) (z := z) (fl := fl) hl (fun t ht => rsizes_pw kids hk (by omega) t ht) kids 0 1 (by omega) rfl
    exact rsize_w (nd_pure (avs_pure _)) ⟨_, hlp, fun e => rfl⟩
theorem rsizes_pw : ∀ ts : List Tr, okL ts → sizeL ts ≤ 1000000 → ∀ t ∈ ts, Pw cx 33 [t.av] (.int .i64 (sizeT t : Nat))
  | [], _, _, t, ht => by simp at ht
  | u :: ts, h, hs, t, ht => by
    rw [sizeL] at hs
    rcases List.mem_cons.1 ht with he | ht
    · rw [he]; exact rsize_pw u h.1 (by omega)
    · exact rsizes_pw ts h.2 (by omega) t ht
end
theorem max_int (a b : Nat) : (if true = true then if ((a : Nat) : Int) > (b : Nat) then ((a : Nat) : Int) else ((b : Nat) : Int) else if ((a : Nat) : Int) < (b : Nat) then ((a : Nat) : Int) else ((b : Nat) : Int)) = ((max b a : Nat) : Int) := by
  rw [if_pos rfl]
  split <;> omega
theorem depth_loop {k num : Int} {s : ByteArray} {z fl : Bool} {ts : List Tr} (hb : ts.length ≤ maxLen) (h0 : ∀ t ∈ ts, Pw cx 34 [t.av] (.int .i64 (depthT t : Nat))) : ∀ (us : List Tr) (i n : Nat), ts.drop i = us →
    LoopAns cx true 1 (loopC Tryd.prog 34 0) [3, 7, 8, 9] [.int .i64 (n : Nat), .seq z fl 4 (avs ts), .int .i64 ((avs ts).length : Nat), .int .i64 (i : Nat)] [bx k num s z fl (avs ts)] (.exit 0) [3] [.int .i64 ((max n (depthL us) : Nat) : Int)] [bx k num s z fl (avs ts)]
  | [], i, n, hd => depth_r fun e => br_no (by have := drop_nil hd; rw [avs_length]; omega) ⟨rfl, by simp [depthL], rfl⟩
  | .mk k' num' s' z' fl' kids :: us, i, n, hd => by
    obtain ⟨h1, h2, h3⟩ := drop_cons hd
    have hg : (avs ts)[i]? = some (Tr.mk k' num' s' z' fl' kids).av := by rw [avs_get, h1]; rfl
    have hq := h0 _ (List.mem_of_getElem? h1)
    rw [depthL]
    have ih := depth_loop (k := k) (num := num) (s := s) (z := z) (fl := fl) hb h0 us (i + 1) (max n (depthT (.mk k' num' s' z' fl' kids))) h3
    rw [Nat.max_assoc] at ih
    have pu := underL_pure (N := 1) (avs_pure ts)
    refine depth_r fun e => br_yes (by rw [avs_length]; omega) ⟨_, _, _, _, _, _, hg, _, hq, br_yes (wrap_up (by have := maxLen_le; omega)) (br_t (bx_under (avs_pure ts)) (br_t (by simp [underL, AV.under, pu]) (br_t (by simp [underL, AV.under, pu]) ?_)))⟩
    rw [max_int]
    exact ih
mutual
theorem depth_pw : ∀ t : Tr, t.ok → sizeT t ≤ 1000000 → Pw cx 34 [t.av] (.int .i64 (depthT t : Nat))
  | .mk k num s z fl kids, ho, hs => by
    obtain ⟨_, _, hsz, hl, hk⟩ := ho
    rw [sizeT] at hs
    rw [depthT]
    have hdl := depthL_le kids
    have hlp := depth_loop (k := k) (num := num) (s := s) (z := z) (fl := fl) hl (fun t ht => depths_pw kids hk (by omega) t ht) kids 0 0 rfl
    rw [Nat.zero_max] at hlp
    exact depth_w (nd_pure (avs_pure _)) ⟨_, hlp, fun e => br_yes (wrap_in (by omega) (by omega)) rfl⟩
theorem depths_pw : ∀ ts : List Tr, okL ts → sizeL ts ≤ 1000000 → ∀ t ∈ ts, Pw cx 34 [t.av] (.int .i64 (depthT t : Nat))
  | [], _, _, t, ht => by simp at ht
  | u :: ts, h, hs, t, ht => by
    rw [sizeL] at hs
    rcases List.mem_cons.1 ht with he | ht
    · rw [he]; exact depth_pw u h.1 (by omega)
    · exact depths_pw ts h.2 (by omega) t ht
end
theorem rdepth_loop {k num : Int} {s : ByteArray} {z fl : Bool} {ts : List Tr} (hb : ts.length ≤ maxLen) (h0 : ∀ t ∈ ts, Pw cx 35 [t.av] (.int .i64 (depthT t : Nat))) : ∀ (us : List Tr) (i n : Nat), ts.drop i = us →
    LoopAns cx true 1 (loopC Tryd.prog 35 0) [1, 3, 4] [.ptr 0 4 0, .int .i64 (n : Nat), .int .i64 (i : Nat)] [bx k num s z fl (avs ts)] (.exit 0) [3] [.int .i64 ((max n (depthL us) : Nat) : Int)] [bx k num s z fl (avs ts)]
  | [], i, n, hd => rdepth_r fun e => br_no (by have := drop_nil hd; rw [avs_length]; omega) ⟨rfl, by simp [depthL], rfl⟩
  | .mk k' num' s' z' fl' kids :: us, i, n, hd => by
    obtain ⟨h1, h2, h3⟩ := drop_cons hd
    have hg : (avs ts)[i]? = some (Tr.mk k' num' s' z' fl' kids).av := by rw [avs_get, h1]; rfl
    have hq := h0 _ (List.mem_of_getElem? h1)
    rw [depthL]
    have ih := rdepth_loop (k := k) (num := num) (s := s) (z := z) (fl := fl) hb h0 us (i + 1) (max n (depthT (.mk k' num' s' z' fl' kids))) h3
    rw [Nat.max_assoc] at ih
    refine rdepth_r fun e => br_yes (by rw [avs_length]; omega) ⟨_, _, _, _, _, _, hg, _, hq, br_yes (wrap_up (by have := maxLen_le; omega)) ?_⟩
    rw [max_int]
    exact ih
mutual
theorem rdepth_pw : ∀ t : Tr, t.ok → sizeT t ≤ 1000000 → Pw cx 35 [t.av] (.int .i64 (depthT t : Nat))
  | .mk k num s z fl kids, ho, hs => by
    obtain ⟨_, _, hsz, hl, hk⟩ := ho
    rw [sizeT] at hs
    rw [depthT]
    have hdl := depthL_le kids
    have hlp := rdepth_loop (k := k) (num := num) (s := s) (z := z) (fl := fl) hl (fun t ht => rdepths_pw kids hk (by omega) t ht) kids 0 0 rfl
    rw [Nat.zero_max] at hlp
    exact rdepth_w (nd_pure (avs_pure _)) ⟨_, hlp, fun e => br_yes (wrap_in (by omega) (by omega)) rfl⟩
theorem rdepths_pw : ∀ ts : List Tr, okL ts → sizeL ts ≤ 1000000 → ∀ t ∈ ts, Pw cx 35 [t.av] (.int .i64 (depthT t : Nat))
  | [], _, _, t, ht => by simp at ht
  | u :: ts, h, hs, t, ht => by
    rw [sizeL] at hs
    rcases List.mem_cons.1 ht with he | ht
    · rw [he]; exact rdepth_pw u h.1 (by omega)
    · exact rdepths_pw ts h.2 (by omega) t ht
end
/-! ### Bodies and declarations -/
def bodyB (t : Tr) : Bool := isBlock t && (decide (depthT t ≤ 80) && decide (sizeT t ≤ 2000))
theorem body_pw (t : Tr) (ho : t.ok) (hs : sizeT t ≤ 1000000) : Pw cx 61 [t.av] (.bool (bodyB t)) := by
  have h1 := isBlock_pw t ho
  have h2 := depth_pw t ho hs
  have h3 := size_pw t ho hs
  unfold bodyB
  generalize isBlock t = b at h1 ⊢
  generalize depthT t = d at h2 ⊢
  generalize sizeT t = n at h3 ⊢
  cases t with
  | mk k num s z fl kids =>
    refine body_w (nd_pure (avs_pure _)) ⟨_, h1, br_mk (fun g1 => ⟨_, h2, br_mk (fun g2 => ⟨_, h3, ?_⟩) (fun g2 => ?_)⟩) (fun g1 => ?_)⟩
    · have g2 : d ≤ 80 := by have := of_decide_eq_true g2; omega
      rw [g1, decide_eq_true g2, Bool.true_and, Bool.true_and]
      congr 1
      congr 1
      apply propext; omega
    · have g2 : ¬ d ≤ 80 := by have := of_decide_eq_false g2; omega
      rw [decide_eq_false g2]; simp
    · rw [g1]; rfl
theorem rbody_pw (t : Tr) (ho : t.ok) (hs : sizeT t ≤ 1000000) : Pw cx 62 [t.av] (.bool (bodyB t)) := by
  have h1 := rblock_pw t ho
  have h2 := rdepth_pw t ho hs
  have h3 := rsize_pw t ho hs
  unfold bodyB
  generalize isBlock t = b at h1 ⊢
  generalize depthT t = d at h2 ⊢
  generalize sizeT t = n at h3 ⊢
  cases t with
  | mk k num s z fl kids =>
    refine rbody_w (nd_pure (avs_pure _)) ⟨_, h1, br_mk (fun g1 => ⟨_, h2, br_mk (fun g2 => ⟨_, h3, ?_⟩) (fun g2 => ?_)⟩) (fun g1 => ?_)⟩
    · have g2 : d ≤ 80 := by have := of_decide_eq_true g2; omega
      rw [g1, decide_eq_true g2, Bool.true_and, Bool.true_and]
      congr 1
      congr 1
      apply propext; omega
    · have g2 : ¬ d ≤ 80 := by have := of_decide_eq_false g2; omega
      rw [decide_eq_false g2]; simp
    · rw [g1]; rfl
def isDecl (v : VarD) : Bool := nameB v.name && (if v.kind = 2 then decide (1 ≤ v.len) && decide (v.len ≤ 16) else decide (v.kind = 1 ∨ v.kind = 3) && decide (v.len = 0))
theorem decl_pw (v : VarD) (ho : v.ok) : Pw cx 75 [v.av] (.bool (isDecl v)) := by
  have h1 := name_pw ho.2.2
  unfold isDecl
  generalize nameB v.name = b at h1 ⊢
  refine decl_w rfl ⟨_, h1, ?_⟩
  repeat' first
    | refine br_mk (fun _ => ?_) (fun _ => ?_)
    | fail
  all_goals first | (simp_all; done) | (simp_all; intros; omega)
theorem rdecl_pw (v : VarD) (ho : v.ok) : Pw cx 63 [v.av] (.bool (isDecl v)) := by
  have h1 := rname_pw ho.2.2
  unfold isDecl
  generalize nameB v.name = b at h1 ⊢
  refine rdecl_w rfl ⟨_, h1, ?_⟩
  repeat' first
    | refine br_mk (fun _ => ?_) (fun _ => ?_)
    | fail
  all_goals first | (simp_all; done) | (simp_all; intros; omega)
end Go.Ab
