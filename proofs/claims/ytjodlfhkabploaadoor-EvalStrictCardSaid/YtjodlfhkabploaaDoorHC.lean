/- Names: the lexer's and the reference's answer. -/
import Derived.Test.YtjodlfhkabploaaDoorHB
set_option linter.unusedVariables false
set_option linter.unusedSimpArgs false
namespace Go.Ab
open Go Go.Proofs

def bStr (l : List UInt8) : ByteArray := ⟨l.toArray⟩
def isLetter (b : UInt8) : Bool := decide (97 ≤ b.toNat) && decide (b.toNat ≤ 122)
def isDigit (b : UInt8) : Bool := decide (48 ≤ b.toNat) && decide (b.toNat ≤ 57)
def isSpaceB (b : UInt8) : Bool := decide (b.toNat = 32) || decide (b.toNat = 9) || decide (b.toNat = 13) || decide (b.toNat = 10)
theorem cast_le (a : Nat) (b : Nat) : decide ((a : Int) ≤ (b : Int)) = decide (a ≤ b) := by congr 1; apply propext; omega
theorem letter_pw (b : UInt8) : Pw cx 108 [.int .u8 (b.toNat : Nat)] (.bool (isLetter b)) :=
  letter_w rfl (br_mk (fun h => by have h := of_decide_eq_true h; simp only [isLetter, AV.bool.injEq]; rw [show decide (97 ≤ b.toNat) = true from by simpa using by omega]; simp; omega)
    (fun h => by have h := of_decide_eq_false h; simp only [isLetter, AV.bool.injEq]; rw [show decide (97 ≤ b.toNat) = false from by simpa using by omega]; rfl))
theorem rletter_pw (b : UInt8) : Pw cx 128 [.int .u8 (b.toNat : Nat)] (.bool (isLetter b)) :=
  rletter_w rfl (br_mk (fun h => by have h := of_decide_eq_true h; simp only [isLetter, AV.bool.injEq]; rw [show decide (97 ≤ b.toNat) = true from by simpa using by omega]; simp; omega)
    (fun h => by have h := of_decide_eq_false h; simp only [isLetter, AV.bool.injEq]; rw [show decide (97 ≤ b.toNat) = false from by simpa using by omega]; rfl))
theorem digit_pw (b : UInt8) : Pw cx 111 [.int .u8 (b.toNat : Nat)] (.bool (isDigit b)) :=
  digit_w rfl (br_mk (fun h => by have h := of_decide_eq_true h; simp only [isDigit, AV.bool.injEq]; rw [show decide (48 ≤ b.toNat) = true from by simpa using by omega]; simp; omega)
    (fun h => by have h := of_decide_eq_false h; simp only [isDigit, AV.bool.injEq]; rw [show decide (48 ≤ b.toNat) = false from by simpa using by omega]; rfl))
theorem rdigit_pw (b : UInt8) : Pw cx 129 [.int .u8 (b.toNat : Nat)] (.bool (isDigit b)) :=
  rdigit_w rfl (br_mk (fun h => by have h := of_decide_eq_true h; simp only [isDigit, AV.bool.injEq]; rw [show decide (48 ≤ b.toNat) = true from by simpa using by omega]; simp; omega)
    (fun h => by have h := of_decide_eq_false h; simp only [isDigit, AV.bool.injEq]; rw [show decide (48 ≤ b.toNat) = false from by simpa using by omega]; rfl))
theorem space_pw (b : UInt8) : ∃ r, Pw cx 112 [.int .u8 (b.toNat : Nat)] (.bool r) := by
  by_cases h1 : ((b.toNat : Nat) : Int) = 32
  · exact ⟨true, space_w rfl (br_yes h1 rfl)⟩
  by_cases h2 : ((b.toNat : Nat) : Int) = 9
  · exact ⟨true, space_w rfl (br_no h1 (br_yes h2 rfl))⟩
  by_cases h3 : ((b.toNat : Nat) : Int) = 13
  · exact ⟨true, space_w rfl (br_no h1 (br_no h2 (br_yes h3 rfl)))⟩
  exact ⟨_, space_w rfl (br_no h1 (br_no h2 (br_no h3 rfl)))⟩
theorem next1_pw (b : UInt8) : Pw cx 110 [.int .u8 (b.toNat : Nat)] (.bool (isLetter b || isDigit b)) :=
  next1_w rfl ⟨_, letter_pw b, br_mk (fun h => by rw [h]; rfl) (fun h => ⟨_, digit_pw b, by rw [h]; rfl⟩)⟩
theorem next2_pw (b : UInt8) : ∃ r, Pw cx 113 [.int .u8 (b.toNat : Nat)] (.bool r) := ⟨_, next2_w rfl rfl⟩

theorem size_list (s : ByteArray) : s.data.toList.length = s.size := by rw [Array.length_toList]; rfl
theorem wrap_up {i : Nat} (h : i < 9223372036854775807) : IntKind.i64.wrap ((i : Int) + 1) = (i : Int) + 1 := by
  rw [IntKind.wrap_i64]
  omega
def spanB (p : UInt8 → Bool) (l : List UInt8) : Nat := (l.takeWhile p).length
/-- A function on bytes answers. -/
def Bp (g : Nat) (p : UInt8 → Bool) : Prop := plainF cx.sh g = true ∧ ∀ b : UInt8, Pw cx g [.int .u8 (b.toNat : Nat)] (.bool (p b))
theorem span_loop {s : ByteArray} {g : Nat} {p : UInt8 → Bool} (hb : s.size ≤ 9223372036854775807) (hg : Bp g p) : ∀ (l : List UInt8) (i : Nat), s.data.toList.drop i = l → i ≤ s.size →
    LoopAns cx true 0 (loopC Tryd.prog 109 0) [0, 1, 5] [.str s, .fn g [] [], .int .i64 (i : Nat)] [] (.exit 0) [5] [.int .i64 ((i + spanB p l : Nat) : Int)] []
  | [], i, hd, hi => span_r fun e => br_no (by have := drop_nil hd; rw [size_list] at this; omega) ⟨rfl, by simp [spanB], rfl⟩
  | b :: l, i, hd, hi => span_r fun e => by
    obtain ⟨h1, h2, h3⟩ := drop_cons hd
    rw [size_list] at h2
    refine br_yes (by omega) ⟨b, h1, br_t hg.1 ⟨p b, hg.2 b, br_mk (fun hp => br_yes (wrap_up (by omega)) ?_) (fun hp => ⟨rfl, by simp [spanB, List.takeWhile_cons, hp], rfl⟩)⟩⟩
    have := span_loop hb hg l (i + 1) h3 (by omega)
    have he : i + spanB p (b :: l) = i + 1 + spanB p l := by simp [spanB, List.takeWhile_cons, hp]; omega
    rw [he]
    exact this
theorem span_pw {s : ByteArray} {g : Nat} {p : UInt8 → Bool} (hb : s.size ≤ 9223372036854775807) (hg : Bp g p) : Pw cx 109 [.str s, .fn g [] []] (.int .i64 (spanB p s.data.toList : Nat)) :=
  span_w rfl ⟨_, span_loop hb hg _ 0 rfl (Nat.zero_le _), fun e => by rw [Nat.zero_add]; rfl⟩

/-! ### Words and signs -/
def kwL : List ByteArray := [bStr [105, 110, 116], bStr [97, 114, 114, 97, 121], bStr [115, 116, 97, 99, 107], bStr [112, 114, 111, 99], bStr [109, 97, 105, 110], bStr [112, 117, 115, 104], bStr [112, 111, 112], bStr [114, 101, 97, 100],
  bStr [117, 110, 114, 101, 97, 100], bStr [119, 114, 105, 116, 101], bStr [117, 110, 119, 114, 105, 116, 101], bStr [99, 97, 108, 108], bStr [117, 110, 99, 97, 108, 108], bStr [105, 102], bStr [101, 108, 115, 101], bStr [102, 105],
  bStr [102, 114, 111, 109], bStr [108, 111, 111, 112], bStr [117, 110, 116, 105, 108], bStr [108, 111, 99, 97, 108], bStr [100, 101, 108, 111, 99, 97, 108], bStr [116, 111, 112], bStr [115, 105, 122, 101]]
def signL : List ByteArray := [bStr [60, 61, 62], bStr [58, 61], bStr [43, 61], bStr [45, 61], bStr [94, 61], bStr [61, 61], bStr [33, 61], bStr [60, 61], bStr [62, 61], bStr [38, 38], bStr [124, 124], bStr [43], bStr [45], bStr [42], bStr [47],
  bStr [37], bStr [38], bStr [124], bStr [94], bStr [33], bStr [61], bStr [60], bStr [62], bStr [40], bStr [41], bStr [123], bStr [125], bStr [91], bStr [93], bStr [59], bStr [44]]
theorem keywords_pw : Pw cx 107 [] (.smap (kwL.map .str) (List.replicate 23 (.bool true))) := Pw.of_ev (n := 150) rfl (by kernel_rfl)
theorem signs_pw : Pw cx 114 [] (.seq false false 1 (signL.map .str)) := Pw.of_ev (n := 130) rfl (by kernel_rfl)
theorem rkeywords_pw : Pw cx 122 [] (.seq false true 1 (kwL.map .str)) := Pw.of_ev (n := 5) rfl (by kernel_rfl)
theorem rsigns_pw : Pw cx 130 [] (.seq false true 1 (signL.map .str)) := Pw.of_ev (n := 5) rfl (by kernel_rfl)
def isKw (s : ByteArray) : Bool := kwL.any fun k => s.data.toList == k.data.toList

theorem find_all {s : ByteArray} : ∀ (l : List ByteArray) (i : Nat), ∃ o, findA .string (.str s) (l.map .str) (List.replicate l.length (.bool true)) i = some o ∧ (match o with | some (_, v) => v = .bool true ∧ l.any (fun k => s.data.toList == k.data.toList) = true | none => l.any (fun k => s.data.toList == k.data.toList) = false)
  | [], i => ⟨none, rfl, rfl⟩
  | k :: l, i => by
    simp only [List.map_cons, List.length_cons, List.replicate_succ, findA, sameA, List.any_cons]
    cases hk : (s.data.toList == k.data.toList) with
    | true => exact ⟨_, rfl, rfl, rfl⟩
    | false =>
      obtain ⟨o, h1, h2⟩ := find_all l (i + 1)
      refine ⟨o, h1, ?_⟩
      simpa using h2
theorem keyword_pw (s : ByteArray) : Pw cx 89 [.str s] (.bool (isKw s)) := by
  refine keyword_w rfl ⟨_, keywords_pw, isKw s, ?_, rfl⟩
  have h1 : mapT Tryd.prog 109 = some (9, 4) := by kernel_rfl
  have h2 : keyD Tryd.prog 109 = some .string := by kernel_rfl
  have h3 : zeroT Tryd.prog 4 = some (.bool false) := by kernel_rfl
  obtain ⟨o, h4, h5⟩ := find_all (s := s) kwL 0
  have h4 : findA .string (.str s) (kwL.map .str) (List.replicate 23 (.bool true)) 0 = some o := h4
  unfold lookAt lookA
  simp only [h1, h2, entriesA, fitA, if_true, h4]
  cases o with
  | some q =>
    obtain ⟨j, v⟩ := q
    obtain ⟨rfl, h6⟩ := h5
    simp only [Option.some.injEq, AV.bool.injEq]
    exact congrArg _ (congrArg _ h6.symm)
  | none =>
    have h6 : isKw s = false := h5
    simp [h3, h6]
theorem prefix_pw (s p : ByteArray) (hs : s.size ≤ maxLen) : ∃ r, Pw cx 115 [.str s, .str p] (.bool r) := by
  have : ∃ r, Pw cx 127 [.str s, .str p] (.bool r) := by
    by_cases h : ((p.size : Nat) : Int) ≤ (s.size : Nat)
    · exact ⟨_, prefix_w rfl (br_yes h (br_yes ⟨by omega, h⟩ rfl))⟩
    · exact ⟨_, prefix_w rfl (br_no h rfl)⟩
  obtain ⟨r, hr⟩ := this
  exact ⟨r, hasPrefix_w rfl ⟨r, hr, rfl⟩⟩
theorem next_loop {s : ByteArray} (hs : s.size ≤ maxLen) {z fl : Bool} {l0 : List ByteArray} (hl : l0.length ≤ 1000) : ∀ (l : List ByteArray) (i : Nat), (l0.map AV.str).drop i = l.map AV.str →
    ∃ x k n, (x = .ret ∧ k = 3 ∨ x = .exit 1 ∧ k = 0) ∧ LoopAns cx true 0 (loopC Tryd.prog 90 0) [0, 2, 3, 29, 30, 31] [.str s, .int .u8 0, .int .i64 0, .seq z fl 1 (l0.map .str), .int .i64 ((l0.map AV.str).length : Nat), .int .i64 (i : Nat)] [] x [2, 3] [.int .u8 k, .int .i64 n] []
  | [], i, hd => ⟨.exit 1, 0, 0, .inr ⟨rfl, rfl⟩, next_r fun e => br_no (by have := drop_nil (by simpa using hd); simp at this ⊢; omega) ⟨rfl, rfl, rfl⟩⟩
  | p :: l, i, hd => by
    obtain ⟨h1, h2, h3⟩ := drop_cons (by simpa using hd)
    obtain ⟨r, hr⟩ := prefix_pw s p hs
    cases r with
    | true => exact ⟨.ret, 3, (p.size : Nat), .inl ⟨rfl, rfl⟩, next_r fun e => br_yes (by omega) ⟨p, h1, true, hr, ⟨rfl, rfl, rfl⟩⟩⟩
    | false =>
      obtain ⟨x, k, n, hx, ih⟩ := next_loop hs (z := z) (fl := fl) hl l (i + 1) (by simpa using h3)
      exact ⟨x, k, n, hx, next_r fun e => br_yes (by omega) ⟨p, h1, false, hr, br_yes (wrap_up (by simp at h2; omega)) ih⟩⟩
theorem maxLen_le : maxLen ≤ 9223372036854775807 := by decide
/-- The token at the start of a text that is not empty. -/
theorem next_pw {s : ByteArray} (hs : s.size ≤ maxLen) {b : UInt8} {l : List UInt8} (hb : s.data.toList = b :: l) :
    ∃ k n, Pw cx 90 [.str s] (.tup [.int .u8 k, .int .i64 n]) ∧ (isLetter b = true → k = 1 ∧ n = (spanB (fun b => isLetter b || isDigit b) s.data.toList : Nat)) ∧ (isLetter b = false → k ≠ 1) := by
  have h0 : s.data.toList[0]? = some b := by rw [hb]; rfl
  have hz : s.size ≤ 9223372036854775807 := Nat.le_trans hs maxLen_le
  cases hl : isLetter b with
  | true =>
    refine ⟨1, _, next_w rfl ⟨b, h0, true, by rw [← hl]; exact letter_pw b, _, span_pw hz ⟨rfl, next1_pw⟩, rfl⟩, fun _ => ⟨rfl, rfl⟩, fun h => by cases h⟩
  | false =>
    have A := letter_pw b
    rw [hl] at A
    suffices h : ∃ k n, k ≠ 1 ∧ Pw cx 90 [.str s] (.tup [.int .u8 k, .int .i64 n]) by
      obtain ⟨k, n, h1, h2⟩ := h
      exact ⟨k, n, h2, (fun h => by cases h), (fun _ => h1)⟩
    have B := digit_pw b
    cases hd : isDigit b with
    | true =>
      rw [hd] at B
      exact ⟨2, _, by decide, next_w rfl ⟨b, h0, false, A, true, B, _, span_pw hz ⟨rfl, digit_pw⟩, rfl⟩⟩
    | false =>
      rw [hd] at B
      obtain ⟨sp, hsp⟩ := Classical.axiomOfChoice space_pw
      obtain ⟨n2, hn2⟩ := Classical.axiomOfChoice next2_pw
      have C := hsp b
      cases hc : sp b with
      | true =>
        rw [hc] at C
        exact ⟨4, _, by decide, next_w rfl ⟨b, h0, false, A, false, B, true, C, _, span_pw hz ⟨rfl, hsp⟩, rfl⟩⟩
      | false =>
        rw [hc] at C
        by_cases h35 : ((b.toNat : Nat) : Int) = 35
        · exact ⟨5, _, by decide, next_w rfl ⟨b, h0, false, A, false, B, false, C, br_yes h35 ⟨_, span_pw hz ⟨rfl, hn2⟩, rfl⟩⟩⟩
        · obtain ⟨x, k, n, hx, hlp⟩ := next_loop hs (z := false) (fl := false) (l0 := signL) (by decide) signL 0 rfl
          rcases hx with ⟨rfl, rfl⟩ | ⟨rfl, rfl⟩
          · exact ⟨3, n, by decide, next_w rfl ⟨b, h0, false, A, false, B, false, C, br_no h35 ⟨_, _, _, signs_pw, .inl ⟨_, _, hlp, fun e => rfl⟩⟩⟩⟩
          · exact ⟨0, 0, by decide, next_w rfl ⟨b, h0, false, A, false, B, false, C, br_no h35 ⟨_, _, _, signs_pw, .inr ⟨_, _, hlp, fun e => rfl⟩⟩⟩⟩
/-- A name. -/
def wordB (l : List UInt8) : Bool := match l with
  | [] => false
  | b :: l => isLetter b && (b :: l).all fun b => isLetter b || isDigit b
def nameB (s : ByteArray) : Bool := wordB s.data.toList && (decide (s.size ≤ 16) && !isKw s)
theorem spanB_all {p : UInt8 → Bool} : ∀ l : List UInt8, decide (spanB p l = l.length) = l.all p
  | [] => rfl
  | b :: l => by
    have := spanB_all (p := p) l
    unfold spanB at this ⊢
    rw [List.takeWhile_cons, List.all_cons]
    cases hp : p b with
    | true => simpa using this
    | false => simp
theorem name_pw {s : ByteArray} (hs : s.size ≤ maxLen) : Pw cx 58 [.str s] (.bool (nameB s)) := by
  have hsz := size_list s
  by_cases h0 : ((s.size : Nat) : Int) = 0
  · have : s.data.toList = [] := List.eq_nil_of_length_eq_zero (by omega)
    exact name_w rfl (br_yes h0 (by simp [nameB, this, wordB]))
  by_cases h16 : 16 < ((s.size : Nat) : Int)
  · exact name_w rfl (br_no h0 (br_yes h16 (by simp [nameB, show ¬ (s.size ≤ 16) by omega])))
  have K := keyword_pw s
  cases hk : isKw s with
  | true =>
    rw [hk] at K
    exact name_w rfl (br_no h0 (br_no h16 ⟨true, K, by simp [br, nameB, hk]⟩))
  | false =>
    rw [hk] at K
    cases hb : s.data.toList with
    | nil => rw [hb] at hsz; simp at hsz; omega
    | cons b l =>
      obtain ⟨k, n, hn, h1, h2⟩ := next_pw hs hb
      refine name_w rfl (br_no h0 (br_no h16 ⟨false, K, k, n, hn, ?_⟩))
      cases hl : isLetter b with
      | true =>
        obtain ⟨rfl, rfl⟩ := h1 hl
        refine br_yes rfl ?_
        have := spanB_all (p := fun b => isLetter b || isDigit b) s.data.toList
        rw [hsz] at this
        have h3 : decide (((spanB (fun b => isLetter b || isDigit b) s.data.toList : Nat) : Int) = (s.size : Nat)) = s.data.toList.all fun b => isLetter b || isDigit b := by
          rw [← this]; congr 1; apply propext; omega
        rw [h3, hb]
        simp only [nameB, hb, wordB, hl, hk, Bool.true_and, Bool.not_false, Bool.and_true, show decide (s.size ≤ 16) = true from by simp; omega]
      | false =>
        refine br_no (h2 hl) ?_
        simp [nameB, hb, wordB, hl]
end Go.Ab
