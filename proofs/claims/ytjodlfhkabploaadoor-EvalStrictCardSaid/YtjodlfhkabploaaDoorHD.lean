/- The reference's names. -/
import Derived.Test.YtjodlfhkabploaaDoorHC
set_option linter.unusedVariables false
set_option linter.unusedSimpArgs false
namespace Go.Ab
open Go Go.Proofs

theorem in_loop {z fl : Bool} {l0 : List ByteArray} {s : ByteArray} (hl : l0.length ≤ 1000) : ∀ (l : List ByteArray) (i : Nat), (l0.map AV.str).drop i = l.map AV.str →
    LoopAns cx true 0 (loopC Tryd.prog 121 0) [0, 1, 4, 5] [.seq z fl 1 (l0.map .str), .str s, .bool false, .int .i64 (i : Nat)] [] (if l.any (fun k => k.data.toList == s.data.toList) then .ret else .exit 0) [4] [.bool (l.any fun k => k.data.toList == s.data.toList)] []
  | [], i, hd => in_r fun e => br_no (by have := drop_nil (by simpa using hd); simp at this ⊢; omega) ⟨rfl, rfl, rfl⟩
  | p :: l, i, hd => in_r fun e => by
    obtain ⟨h1, h2, h3⟩ := drop_cons (by simpa using hd)
    refine br_yes (by omega) ⟨p, h1, br_mk (fun hp => ?_) (fun hp => ?_)⟩
    · rw [List.any_cons, hp]
      exact ⟨rfl, rfl, rfl⟩
    · rw [List.any_cons, hp, Bool.false_or]
      exact br_yes (wrap_up (by simp at h2; omega)) (in_loop hl l (i + 1) (by simpa using h3))
theorem in_pw {z fl : Bool} {l0 : List ByteArray} {s : ByteArray} (hl : l0.length ≤ 1000) : Pw cx 121 [.seq z fl 1 (l0.map .str), .str s] (.bool (l0.any fun k => k.data.toList == s.data.toList)) := by
  have hp : pureL [.seq z fl 1 (l0.map .str), .str s] = true := by
    have : pureL (l0.map .str) = true := pureL_of (fun y hy => by obtain ⟨b, _, rfl⟩ := List.mem_map.1 hy; rfl)
    simp [pureL, AV.pure, this]
  have h := in_loop (z := z) (fl := fl) (s := s) hl l0 0 rfl
  cases ha : (l0.any fun k => k.data.toList == s.data.toList) with
  | true => rw [ha] at h; exact in_w hp (.inl ⟨true, h, fun e => rfl⟩)
  | false => rw [ha] at h; exact in_w hp (.inr ⟨false, h, fun e => rfl⟩)
theorem kind_loop {s : ByteArray} (hb : s.size ≤ 9223372036854775807) : ∀ (l : List UInt8) (i : Nat) (u v w x : Bool), s.data.toList.drop i = l → i ≤ s.size →
    ∃ v' w' x', LoopAns cx true 0 (loopC Tryd.prog 120 0) [0, 3, 4, 5, 6, 7] [.str s, .bool u, .bool v, .bool w, .bool x, .int .i64 (i : Nat)] [] (.exit 0) [3, 4, 5, 6] [.bool (u && l.all fun b => isLetter b || isDigit b), .bool v', .bool w', .bool x'] []
  | [], i, u, v, w, x, hd, hi => ⟨v, w, x, kind_r fun e => br_no (by have := drop_nil hd; rw [size_list] at this; omega) ⟨rfl, by simp, rfl⟩⟩
  | b :: l, i, u, v, w, x, hd, hi => by
    obtain ⟨h1, h2, h3⟩ := drop_cons hd
    rw [size_list] at h2
    obtain ⟨v', w', x', ih⟩ := kind_loop hb l (i + 1) (u && (isLetter b || isDigit b)) (v && isDigit b)
      (w && (decide (((b.toNat : Nat) : Int) = 32) || decide (((b.toNat : Nat) : Int) = 9) || decide (((b.toNat : Nat) : Int) = 13) || decide (((b.toNat : Nat) : Int) = 10))) (x && !decide (((b.toNat : Nat) : Int) = 10)) h3 (by omega)
    rw [Bool.and_assoc] at ih
    have hall : ((isLetter b || isDigit b) && l.all fun b => isLetter b || isDigit b) = (b :: l).all fun b => isLetter b || isDigit b := rfl
    rw [hall] at ih
    refine ⟨v', w', x', kind_r fun e => br_yes (by omega) ⟨b, h1, ?_⟩⟩
    have hw := wrap_up (i := i) (by omega)
    generalize (u && (b :: l).all fun b => isLetter b || isDigit b) = fin at ih ⊢
    repeat' first
      | refine br_yes hw ?_
      | refine br_mk (fun _ => ?_) (fun _ => ?_)
      | refine ⟨_, rletter_pw b, ?_⟩
      | refine ⟨_, rdigit_pw b, ?_⟩
      | fail
    all_goals simp only [*, Bool.true_and, Bool.false_and, Bool.and_true, Bool.and_false, Bool.true_or, Bool.false_or, Bool.or_true, Bool.or_false, Bool.not_true, Bool.not_false] at ih ⊢ <;> exact ih
theorem kind_pw {s : ByteArray} (hs : s.size ≤ maxLen) : ∃ k, Pw cx 120 [.str s] (.int .u8 k) ∧ decide (k = 1) = wordB s.data.toList := by
  have hz : s.size ≤ 9223372036854775807 := Nat.le_trans hs maxLen_le
  cases hb : s.data.toList with
  | nil => exact ⟨0, kind_w rfl (br_t (by rw [hb]; rfl) rfl), rfl⟩
  | cons b l =>
    have h0 : s.data.toList[0]? = some b := by rw [hb]; rfl
    have hne : (s.data.toList == (ByteArray.mk #[]).data.toList) = false := by rw [hb]; rfl
    obtain ⟨v, w, x, hl⟩ := kind_loop hz (b :: l) 0 (isLetter b) true true (decide (((b.toNat : Nat) : Int) = 35)) hb (Nat.zero_le _)
    have start : ∀ {k : Int}, (∀ e8 : Env, br (isLetter b && (b :: l).all fun b => isLetter b || isDigit b) (AV.int IntKind.u8 1 = AV.int .u8 k) (br v (AV.int IntKind.u8 2 = AV.int .u8 k) (∃ z9 : Bool, ∃ f10 : Bool, ∃ x11 : List AV, Pw cx 130 [] (AV.seq z9 f10 1 x11) ∧ ∃ b12 : Bool, Pw cx 121 [AV.seq z9 f10 1 x11, AV.str s] (AV.bool b12) ∧ br b12 (AV.int IntKind.u8 3 = AV.int .u8 k) (br w (AV.int IntKind.u8 4 = AV.int .u8 k) (br x (AV.int IntKind.u8 5 = AV.int .u8 k) (AV.int IntKind.u8 0 = AV.int .u8 k)))))) →
        Pw cx 120 [.str s] (.int .u8 k) := fun h => kind_w rfl (br_f hne ⟨b, h0, _, rletter_pw b, b, h0, _, v, w, x, hl, h⟩)
    show ∃ k, _ ∧ decide (k = 1) = (isLetter b && (b :: l).all fun b => isLetter b || isDigit b)
    cases hw : (isLetter b && (b :: l).all fun b => isLetter b || isDigit b) with
    | true => exact ⟨1, start fun e => br_t hw rfl, rfl⟩
    | false =>
      have I := in_pw (z := false) (fl := true) (l0 := signL) (s := s) (by decide)
      cases v with
      | true => exact ⟨2, start fun e => br_f hw rfl, rfl⟩
      | false =>
        cases hi : (signL.any fun k => k.data.toList == s.data.toList) with
        | true => rw [hi] at I; exact ⟨3, start fun e => br_f hw ⟨_, _, _, rsigns_pw, true, I, rfl⟩, rfl⟩
        | false =>
          rw [hi] at I
          cases w with
          | true => exact ⟨4, start fun e => br_f hw ⟨_, _, _, rsigns_pw, false, I, rfl⟩, rfl⟩
          | false =>
            cases x with
            | true => exact ⟨5, start fun e => br_f hw ⟨_, _, _, rsigns_pw, false, I, rfl⟩, rfl⟩
            | false => exact ⟨0, start fun e => br_f hw ⟨_, _, _, rsigns_pw, false, I, rfl⟩, rfl⟩
theorem rrname_pw {s : ByteArray} (hs : s.size ≤ maxLen) : Pw cx 100 [.str s] (.bool (nameB s)) := by
  obtain ⟨k, hk, hw⟩ := kind_pw hs
  refine rrname_w rfl ⟨k, hk, ?_⟩
  rw [hw]
  unfold nameB
  refine br_mk (fun h1 => ?_) (fun h1 => by rw [h1]; rfl)
  rw [h1, Bool.true_and]
  by_cases h2 : s.size ≤ 16
  · refine br_yes (by omega) ⟨_, _, _, rkeywords_pw, _, in_pw (by decide), ?_⟩
    have : (kwL.any fun k => k.data.toList == s.data.toList) = isKw s := by
      unfold isKw
      congr 1
      funext k
      exact Bool.beq_comm ..
    rw [this, decide_eq_true h2, Bool.true_and]
  · exact br_no (by omega) (by rw [decide_eq_false h2]; rfl)
theorem rname_pw {s : ByteArray} (hs : s.size ≤ maxLen) : Pw cx 72 [.str s] (.bool (nameB s)) := rname_w rfl ⟨_, rrname_pw hs, rfl⟩
end Go.Ab
