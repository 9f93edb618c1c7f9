/- The reference's count, its bound, the chapter's example, and the law AstKinds over abstract values. -/
import Derived.Test.YtjodlfhkabploaaDoorHG
set_option linter.unusedVariables false
set_option linter.unusedSimpArgs false
namespace Go.Ab
open Go Go.Proofs

mutual
def cnt : Tr → Int → Int
  | .mk k num s z fl kids, d => if d < 1 then -1 else (cntL kids (d - 1) 1).getD (-1)
def cntL : List Tr → Int → Int → Option Int
  | [], _, s => some s
  | t :: ts, d, s => if cnt t d < 0 ∨ 1000 < s then none else cntL ts d (s + cnt t d)
end
mutual
theorem cnt_le : ∀ (t : Tr) (d : Int), 0 ≤ d → cnt t d ≤ 1000 * d + 1
  | .mk k num s z fl kids, d, h => by
    rw [cnt]
    split
    · omega
    · rename_i h1
      cases hc : cntL kids (d - 1) 1 with
      | none => simp; omega
      | some r =>
        have := cntL_le kids (d - 1) 1 r (by omega) (by omega) hc
        simp; omega
theorem cntL_le : ∀ (ts : List Tr) (d s r : Int), 0 ≤ d → s ≤ 1000 * d + 1001 → cntL ts d s = some r → r ≤ 1000 * d + 1001
  | [], d, s, r, h, hs, hc => by
    rw [cntL] at hc
    cases hc; exact hs
  | t :: ts, d, s, r, h, hs, hc => by
    rw [cntL] at hc
    split at hc
    · cases hc
    · rename_i h1
      have := cnt_le t d h
      exact cntL_le ts d (s + cnt t d) r h (by omega) hc
end
theorem wrap_in {x : Int} (h1 : -9223372036854775808 ≤ x) (h2 : x ≤ 9223372036854775807) : IntKind.i64.wrap x = x := by
  rw [IntKind.wrap_i64]
  omega
theorem count_loop {k num d : Int} {s : ByteArray} {z fl : Bool} {ts : List Tr} (hb : ts.length ≤ maxLen) (hd1 : 1 ≤ d) (hd2 : d ≤ 1000000) (h0 : ∀ t ∈ ts, Pw cx 69 [t.av, .int .i64 (d - 1)] (.int .i64 (cnt t (d - 1)))) : ∀ (us : List Tr) (i : Nat) (n : Int), 0 ≤ n → ts.drop i = us →
    (match cntL us (d - 1) n with
      | some r => LoopAns cx true 1 (loopC Tryd.prog 69 0) [1, 2, 4, 5, 6] [.int .i64 d, .ptr 0 4 0, .int .i64 0, .int .i64 n, .int .i64 (i : Nat)] [bx k num s z fl (avs ts)] (.exit 0) [4, 5] [.int .i64 0, .int .i64 r] [bx k num s z fl (avs ts)]
      | none => ∃ r, LoopAns cx true 1 (loopC Tryd.prog 69 0) [1, 2, 4, 5, 6] [.int .i64 d, .ptr 0 4 0, .int .i64 0, .int .i64 n, .int .i64 (i : Nat)] [bx k num s z fl (avs ts)] .ret [4, 5] [.int .i64 (-1), .int .i64 r] [bx k num s z fl (avs ts)])
  | [], i, n, hn, hd => by
    rw [cntL]
    exact count_r fun e => br_no (by have := drop_nil hd; rw [avs_length]; omega) ⟨rfl, rfl, rfl⟩
  | .mk k' num' s' z' fl' kids :: us, i, n, hn, hd => by
    obtain ⟨h1, h2, h3⟩ := drop_cons hd
    have hg : (avs ts)[i]? = some (Tr.mk k' num' s' z' fl' kids).av := by rw [avs_get, h1]; rfl
    have hq := h0 _ (List.mem_of_getElem? h1)
    have hle := cnt_le (.mk k' num' s' z' fl' kids) (d - 1) (by omega)
    have hl : ((i : Nat) : Int) < ((avs ts).length : Nat) := by rw [avs_length]; omega
    rw [cntL]
    by_cases hneg : cnt (.mk k' num' s' z' fl' kids) (d - 1) < 0
    · rw [if_pos (.inl hneg)]
      exact ⟨n, count_r fun e => br_yes hl ⟨_, _, _, _, _, _, hg, br_yes (wrap_in (by omega) (by omega)) ⟨_, hq, br_yes hneg ⟨rfl, rfl, rfl⟩⟩⟩⟩
    by_cases hbig : 1000 < n
    · rw [if_pos (.inr hbig)]
      exact ⟨n, count_r fun e => br_yes hl ⟨_, _, _, _, _, _, hg, br_yes (wrap_in (by omega) (by omega)) ⟨_, hq, br_no hneg (br_yes hbig ⟨rfl, rfl, rfl⟩)⟩⟩⟩
    rw [if_neg (by omega)]
    have ih := count_loop (k := k) (num := num) (s := s) (z := z) (fl := fl) hb hd1 hd2 h0 us (i + 1) (n + cnt (.mk k' num' s' z' fl' kids) (d - 1)) (by omega) h3
    have go : ∀ {x : Exit} {ws : List AV}, LoopAns cx true 1 (loopC Tryd.prog 69 0) [1, 2, 4, 5, 6] [.int .i64 d, .ptr 0 4 0, .int .i64 0, .int .i64 (n + cnt (.mk k' num' s' z' fl' kids) (d - 1)), .int .i64 ((i + 1 : Nat) : Int)] [bx k num s z fl (avs ts)] x [4, 5] ws [bx k num s z fl (avs ts)] →
        LoopAns cx true 1 (loopC Tryd.prog 69 0) [1, 2, 4, 5, 6] [.int .i64 d, .ptr 0 4 0, .int .i64 0, .int .i64 n, .int .i64 (i : Nat)] [bx k num s z fl (avs ts)] x [4, 5] ws [bx k num s z fl (avs ts)] := fun h =>
      count_r fun e => br_yes hl ⟨_, _, _, _, _, _, hg, br_yes (wrap_in (by omega) (by omega)) ⟨_, hq, br_no hneg (br_no hbig (br_yes (wrap_in (by omega) (by omega)) (br_yes (wrap_up (by have := maxLen_le; omega)) h)))⟩⟩
    cases hc : cntL us (d - 1) (n + cnt (.mk k' num' s' z' fl' kids) (d - 1)) with
    | some r => rw [hc] at ih; exact go ih
    | none => rw [hc] at ih; obtain ⟨r, ih⟩ := ih; exact ⟨r, go ih⟩
mutual
theorem count_pw : ∀ (t : Tr) (d : Int), t.ok → 0 ≤ d → d ≤ 1000000 → Pw cx 69 [t.av, .int .i64 d] (.int .i64 (cnt t d))
  | .mk k num s z fl kids, d, ho, hd1, hd2 => by
    obtain ⟨_, _, hsz, hl, hk⟩ := ho
    have hp : pureL [(Tr.mk k num s z fl kids).av, .int .i64 d] = true := by
      show (AV.pure _ && _) = true
      rw [av_pure]; rfl
    rw [cnt]
    by_cases h1 : d < 1
    · rw [if_pos h1]
      exact count_w hp (br_yes h1 rfl)
    · rw [if_neg h1]
      have hall := counts_pw kids (d - 1) hk (by omega) (by omega)
      have hlp := count_loop (k := k) (num := num) (s := s) (z := z) (fl := fl) hl (by omega) hd2 hall kids 0 1 (by omega) rfl
      cases hc : cntL kids (d - 1) 1 with
      | some r => rw [hc] at hlp; exact count_w hp (br_no h1 (.inr ⟨_, _, hlp, fun e => rfl⟩))
      | none => rw [hc] at hlp; obtain ⟨r, hlp⟩ := hlp; exact count_w hp (br_no h1 (.inl ⟨_, _, hlp, fun e => rfl⟩))
theorem counts_pw : ∀ (ts : List Tr) (d : Int), okL ts → 0 ≤ d → d ≤ 1000000 → ∀ t ∈ ts, Pw cx 69 [t.av, .int .i64 d] (.int .i64 (cnt t d))
  | [], d, _, _, _, t, ht => by simp at ht
  | u :: ts, d, h, hd1, hd2, t, ht => by
    rcases List.mem_cons.1 ht with he | ht
    · rw [he]; exact count_pw u d h.1 hd1 hd2
    · exact counts_pw ts d h.2 hd1 hd2 t ht
end
/-- More than 400 nodes, or deeper than 100. -/
def big (t : Tr) : Bool := decide (cnt t 100 < 0) || decide (400 < cnt t 100)
theorem big_pw (t : Tr) (ho : t.ok) : Pw cx 33 [t.av] (.bool (big t)) := by
  have hc := count_pw t 100 ho (by omega) (by omega)
  unfold big
  cases t with
  | mk k num s z fl kids => exact big_w (nd_pure (avs_pure _)) ⟨_, hc, br_mk (fun h => by rw [h]; rfl) (fun h => ⟨_, hc, by rw [h]; rfl⟩)⟩
end Go.Ab
