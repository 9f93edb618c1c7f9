/- The bound of trees (Great), variables as values, and the evaluation of expressions: the program's and the reference's. -/
import Derived.Test.YtjodlfhkabploaaDoorHF
import Derived.Test.YtjodlfhkabploaaDoorHH
import Derived.Test.YtjodlfhkabploaaDoorHR
set_option linter.unusedVariables false
set_option linter.unusedSimpArgs false
namespace Go.Ab
open Go Go.Proofs

/-! ### The bound -/
theorem small_loop {k num : Int} {s : ByteArray} {z fl : Bool} {ts : List Tr} {d : Int} (hb : ts.length ≤ maxLen) (hd1 : 1 ≤ d) (hd2 : d ≤ 24)
    (h0 : ∀ t ∈ ts, ∀ (d l : Int), 0 ≤ d → d ≤ 24 → 0 ≤ l → l ≤ 200 → ∃ b l', Pi cx 106 [t.av, .int .i64 d, .ptr 0 1 0] [.box [.int .i64 l]] (.bool b) [.box [.int .i64 l']] ∧ (b = true → 0 ≤ l' ∧ l' ≤ 200)) :
    ∀ (us : List Tr) (i : Nat) (l : Int), ts.drop i = us → 0 ≤ l → l ≤ 200 →
    ∃ l' g, small_r_L k num s z fl (avs ts) d l i .ret [.bool false] (.box [.int .i64 l'] :: bx k num s z fl (avs ts) :: g) ∨ (small_r_L k num s z fl (avs ts) d l i (.exit 0) [.bool false] [.box [.int .i64 l'], bx k num s z fl (avs ts)] ∧ 0 ≤ l' ∧ l' ≤ 200)
  | [], i, l, hd, h1, h2 => by
    have := drop_nil hd
    exact ⟨l, [], .inr ⟨small_r fun e => br_no (by rw [avs_length]; omega) ⟨rfl, rfl, rfl⟩, h1, h2⟩⟩
  | .mk k' num' s' z' fl' kids :: us, i, l, hd, h1, h2 => by
    obtain ⟨g1, g2, g3⟩ := drop_cons hd
    have hg : (avs ts)[i]? = some (Tr.mk k' num' s' z' fl' kids).av := by rw [avs_get, g1]; rfl
    have hl : ((i : Nat) : Int) < ((avs ts).length : Nat) := by rw [avs_length]; omega
    obtain ⟨b, l1, hq, hbl⟩ := h0 _ (List.mem_of_getElem? g1) (d - 1) l (by omega) (by omega) h1 h2
    have hpk := avs_pure kids
    have hu := underL_pure (N := 2) (avs_pure ts)
    cases b with
    | false => exact ⟨l1, _, .inl (small_r fun e => br_yes hl ⟨_, _, _, _, _, _, hg, br_yes (wrap_in (by omega) (by omega)) (br_t hpk ⟨_, _, hq, br_t rfl ⟨rfl, rfl, rfl⟩⟩)⟩)⟩
    | true =>
      obtain ⟨b1, b2⟩ := hbl rfl
      obtain ⟨l', g, ih⟩ := small_loop (k := k) (num := num) (s := s) (z := z) (fl := fl) hb hd1 hd2 h0 us (i + 1) l1 g3 b1 b2
      have go : ∀ {x : Exit} {m' : Mem}, small_r_L k num s z fl (avs ts) d l1 (i + 1) x [.bool false] m' → small_r_L k num s z fl (avs ts) d l i x [.bool false] m' := fun h =>
        small_r fun e => br_yes hl ⟨_, _, _, _, _, _, hg, br_yes (wrap_in (by omega) (by omega)) (br_t hpk ⟨_, _, hq, br_f rfl (br_yes (wrap_up (by have := maxLen_le; omega))
          (br_t (by simp [blkUnder, underL, AV.under, hu]) (br_t (by simp [underL, AV.under, hu]) (br_t (by simp [underL, AV.under, hu]) h))))⟩)⟩
      exact ⟨l', g, ih.imp go (fun h => ⟨go h.1, h.2⟩)⟩
mutual
theorem small_pw : ∀ (t : Tr), t.ok → ∀ (d l : Int), 0 ≤ d → d ≤ 24 → 0 ≤ l → l ≤ 200 → ∃ b l', Pi cx 106 [t.av, .int .i64 d, .ptr 0 1 0] [.box [.int .i64 l]] (.bool b) [.box [.int .i64 l']] ∧ (b = true → 0 ≤ l' ∧ l' ≤ 200)
  | .mk k num s z fl kids, ho, d, l, hd1, hd2, h1, h2 => by
    obtain ⟨_, _, hsz, hl, hk⟩ := ho
    have hall := smalls_pw kids hk
    have hw : IntKind.wrap IntKind.i64 (l - 1) = l - 1 := wrap_in (by omega) (by omega)
    by_cases c1 : l - 1 < 0
    · exact ⟨false, l - 1, small_i (br_yes hw (br_yes c1 ⟨rfl, rfl⟩)), fun h => by cases h⟩
    by_cases c2 : d = 0
    · exact ⟨false, l - 1, small_i (br_yes hw (br_no c1 (br_yes c2 ⟨rfl, rfl⟩))), fun h => by cases h⟩
    by_cases c3 : 40 < ((s.size : Nat) : Int)
    · exact ⟨false, l - 1, small_i (br_yes hw (br_no c1 (br_no c2 (br_yes c3 ⟨rfl, rfl⟩)))), fun h => by cases h⟩
    obtain ⟨l', g, hlp⟩ := small_loop (k := k) (num := num) (s := s) (z := z) (fl := fl) (d := d) hl (by omega) hd2 hall kids 0 (l - 1) rfl (by omega) (by omega)
    rcases hlp with hlp | ⟨hlp, e1, e2⟩
    · exact ⟨false, l', small_i (br_yes hw (br_no c1 (br_no c2 (br_no c3 (.inl ⟨_, _, _, hlp, fun e => ⟨rfl, rfl⟩⟩))))), fun h => by cases h⟩
    · exact ⟨true, l', small_i (br_yes hw (br_no c1 (br_no c2 (br_no c3 (.inr ⟨_, _, hlp, fun e => ⟨rfl, rfl⟩⟩))))), fun _ => ⟨e1, e2⟩⟩
theorem smalls_pw : ∀ (ts : List Tr), okL ts → ∀ t ∈ ts, ∀ (d l : Int), 0 ≤ d → d ≤ 24 → 0 ≤ l → l ≤ 200 → ∃ b l', Pi cx 106 [t.av, .int .i64 d, .ptr 0 1 0] [.box [.int .i64 l]] (.bool b) [.box [.int .i64 l']] ∧ (b = true → 0 ≤ l' ∧ l' ≤ 200)
  | [], _, t, ht => by simp at ht
  | u :: ts, h, t, ht => by
    rcases List.mem_cons.1 ht with he | ht
    · rw [he]; exact small_pw u h.1
    · exact smalls_pw ts h.2 t ht
end
theorem great_pw (t : Tr) (ho : t.ok) : ∃ b, Pw cx 88 [t.av] (.bool b) := by
  obtain ⟨b, l', h, _⟩ := small_pw t ho 24 200 (by omega) (by omega) (by omega) (by omega)
  cases t with
  | mk k num s z fl kids => exact ⟨!b, great_w (nd_pure (avs_pure _)) (br_t (avs_pure _) ⟨_, _, h, rfl⟩)⟩
theorem greatP_pw (t : Tr) (ho : t.ok) : ∃ r : Int, Pw cx 56 [.agg ([.seq true true 0 [], .seq true true 0 []] ++ t.cells)] (.int .i64 r) := by
  obtain ⟨b, h⟩ := great_pw t ho
  cases t with
  | mk k num s z fl kids =>
    have hp : pureL [pr (.seq true true 0 []) (.seq true true 0 []) k num s (.seq z fl 4 (avs kids))] = true := by simp [pureL, AV.pure, avs_pure]
    cases b with
    | true => exact ⟨1, greatP_w hp ⟨_, h, br_t rfl rfl⟩⟩
    | false => exact ⟨0, greatP_w hp ⟨_, h, br_f rfl ⟨greatP_r fun e => ⟨rfl, rfl, rfl⟩, fun e => ⟨greatP_q fun e => ⟨rfl, rfl, rfl⟩, fun e => rfl⟩⟩⟩⟩

/-! ### Variables -/
structure Cel where
  name : ByteArray
  z : Bool
  fl : Bool
  l : List Int
def iav (n : Int) : AV := .int .i64 n
def iavs (l : List Int) : List AV := l.map iav
def Cel.av (c : Cel) : AV := .agg [.str c.name, .seq c.z c.fl 1 (iavs c.l)]
def cavs (l : List Cel) : List AV := l.map Cel.av
def Cel.ok (c : Cel) : Prop := c.name.size ≤ maxLen ∧ c.l.length ≤ maxLen
theorem iavs_pure (l : List Int) : pureL (iavs l) = true := by
  induction l with
  | nil => rfl
  | cons v l ih => simp only [iavs, List.map_cons, pureL, Bool.and_eq_true] at ih ⊢; exact ⟨rfl, ih⟩
theorem iavs_length (l : List Int) : (iavs l).length = l.length := by simp [iavs]
theorem iavs_get (l : List Int) (i : Nat) : (iavs l)[i]? = (l[i]?).map iav := by simp [iavs]
theorem cel_pure (c : Cel) : c.av.pure = true := by simp [Cel.av, AV.pure, pureL, iavs_pure]
theorem cavs_pure (l : List Cel) : pureL (cavs l) = true := by
  induction l with
  | nil => rfl
  | cons v l ih => simp only [cavs, List.map_cons, pureL, Bool.and_eq_true] at ih ⊢; exact ⟨cel_pure v, ih⟩
theorem cavs_length (l : List Cel) : (cavs l).length = l.length := by simp [cavs]
theorem cavs_get (l : List Cel) (i : Nat) : (cavs l)[i]? = (l[i]?).map Cel.av := by simp [cavs]
/-- A lookup function over some variables. -/
def lkup (zc fc : Bool) (cs : List Cel) : AV := .fn 61 [] [.rptr [.seq zc fc 2 (cavs cs)]]
theorem lkup_pure (zc fc : Bool) (cs : List Cel) : (lkup zc fc cs).pure = true := by simp [lkup, AV.pure, pureL, cavs_pure]

theorem greatE_loop {k num : Int} {s : ByteArray} {z fl : Bool} {xs : List AV} (hx : pureL xs = true) {zc fc : Bool} {cs : List Cel} (hb : cs.length ≤ maxLen) : ∀ (us : List Cel) (i : Nat), cs.drop i = us →
    ∃ g, greatE_r_L k num s z fl xs zc fc (cavs cs) i .ret [.int .i64 1] (bx k num s z fl xs :: g) ∨ greatE_r_L k num s z fl xs zc fc (cavs cs) i (.exit 0) [.int .i64 0] [bx k num s z fl xs]
  | [], i, hd => by
    have := drop_nil hd
    exact ⟨[], .inr (greatE_r fun e => br_no (by rw [cavs_length]; omega) ⟨rfl, rfl, rfl⟩)⟩
  | c :: us, i, hd => by
    obtain ⟨g1, g2, g3⟩ := drop_cons hd
    have hg : (cavs cs)[i]? = some c.av := by rw [cavs_get, g1]; rfl
    have hl : ((i : Nat) : Int) < ((cavs cs).length : Nat) := by rw [cavs_length]; omega
    by_cases hc : 20 < (((iavs c.l).length : Nat) : Int)
    · exact ⟨_, .inl (greatE_r fun e => br_yes hl ⟨_, _, _, _, hg, br_yes hc ⟨rfl, rfl, rfl⟩⟩)⟩
    · obtain ⟨g, ih⟩ := greatE_loop (k := k) (num := num) (s := s) (z := z) (fl := fl) hx (zc := zc) (fc := fc) hb us (i + 1) g3
      have hu := underL_pure (N := 1) hx
      have hu0 := underL_pure (N := 1) (cavs_pure cs)
      have go : ∀ {x : Exit} {w : AV} {m' : Mem}, greatE_r_L k num s z fl xs zc fc (cavs cs) (i + 1) x [w] m' → greatE_r_L k num s z fl xs zc fc (cavs cs) i x [w] m' := fun h =>
        greatE_r fun e => br_yes hl ⟨_, _, _, _, hg, br_no hc (br_yes (wrap_up (by have := maxLen_le; omega)) (br_t (by simp [blkUnder, underL, AV.under, hu]) (br_t (by simp [underL, AV.under, hu0]) (br_t (by simp [underL, AV.under, hu0]) h))))⟩
      exact ⟨g, ih.imp go go⟩
theorem greatE_pw (t : Tr) (ho : t.ok) {zc fc : Bool} {cs : List Cel} (hb : cs.length ≤ maxLen) : ∃ r : Int, Pw cx 19 [t.av, .seq zc fc 2 (cavs cs)] (.int .i64 r) := by
  obtain ⟨r, h⟩ := greatP_pw t ho
  cases t with
  | mk k num s z fl kids =>
    have hp : pureL [nd k num s (.seq z fl 4 (avs kids)), .seq zc fc 2 (cavs cs)] = true := by simp [pureL, AV.pure, avs_pure, cavs_pure]
    by_cases c1 : 10 < (((cavs cs).length : Nat) : Int)
    · exact ⟨1, greatE_w hp (br_yes c1 rfl)⟩
    by_cases c2 : r = 1
    · exact ⟨1, greatE_w hp (br_no c1 ⟨_, h, br_yes c2 rfl⟩)⟩
    obtain ⟨g, hlp⟩ := greatE_loop (k := k) (num := num) (s := s) (z := z) (fl := fl) (avs_pure kids) (zc := zc) (fc := fc) hb cs 0 rfl
    rcases hlp with hlp | hlp
    · exact ⟨1, greatE_w hp (br_no c1 ⟨_, h, br_no c2 (.inl ⟨_, _, hlp, fun e => rfl⟩)⟩)⟩
    · exact ⟨0, greatE_w hp (br_no c1 ⟨_, h, br_no c2 (.inr ⟨_, hlp, fun e => rfl⟩)⟩)⟩

/-! ### Finding a variable -/
def findC (t : ByteArray) : List Cel → Nat → Option Nat
  | [], _ => none
  | c :: cs, i => if c.name.data.toList == t.data.toList then some i else findC t cs (i + 1)
def cellC (t : ByteArray) : List Cel → Option Cel
  | [] => none
  | c :: cs => if c.name.data.toList == t.data.toList then some c else cellC t cs
theorem findC_get (t : ByteArray) : ∀ (cs : List Cel) (i : Nat), (match findC t cs i with | none => cellC t cs = none | some j => ∃ q, j = i + q ∧ ∃ c, cs[q]? = some c ∧ cellC t cs = some c)
  | [], i => by simp [findC, cellC]
  | c :: cs, i => by
    unfold findC cellC
    by_cases h : (c.name.data.toList == t.data.toList) = true
    · rw [if_pos h, if_pos h]; exact ⟨0, rfl, c, rfl, rfl⟩
    · rw [if_neg h, if_neg h]
      have ih := findC_get t cs (i + 1)
      split at ih
      · exact ih
      · obtain ⟨q, hq, c', h1, h2⟩ := ih
        exact ⟨q + 1, by omega, c', by simpa using h1, h2⟩
theorem find_loop {zc fc : Bool} {cs : List Cel} {t : ByteArray} (hb : cs.length ≤ maxLen) : ∀ (us : List Cel) (i : Nat), cs.drop i = us →
    (match findC t us i with | some j => find_r_L zc fc (cavs cs) t i .ret [.int .i64 (j : Nat)] [] | none => find_r_L zc fc (cavs cs) t i (.exit 0) [.int .i64 0] [])
  | [], i, hd => by
    have := drop_nil hd
    exact find_r fun e => br_no (by rw [cavs_length]; omega) ⟨rfl, rfl, rfl⟩
  | c :: us, i, hd => by
    obtain ⟨g1, g2, g3⟩ := drop_cons hd
    have hg : (cavs cs)[i]? = some c.av := by rw [cavs_get, g1]; rfl
    have hl : ((i : Nat) : Int) < ((cavs cs).length : Nat) := by rw [cavs_length]; omega
    have ih := find_loop (zc := zc) (fc := fc) (t := t) hb us (i + 1) g3
    have hw : IntKind.wrap IntKind.i64 (((i : Nat) : Int) + 1) = ((i : Nat) : Int) + 1 := wrap_up (by have := maxLen_le; omega)
    unfold findC
    cases hc : (c.name.data.toList == t.data.toList) with
    | true => rw [if_pos rfl]; exact find_r fun e => br_yes hl ⟨_, _, _, _, hg, br_t hc ⟨rfl, rfl, rfl⟩⟩
    | false =>
      rw [if_neg (by simp)]
      cases hf : findC t us (i + 1) with
      | none => rw [hf] at ih; exact find_r fun e => br_yes hl ⟨_, _, _, _, hg, br_f hc (br_yes hw ih)⟩
      | some j => rw [hf] at ih; exact find_r fun e => br_yes hl ⟨_, _, _, _, hg, br_f hc (br_yes hw ih)⟩
theorem find_pw {zc fc : Bool} {cs : List Cel} {t : ByteArray} (hb : cs.length ≤ maxLen) : Pw cx 62 [.seq zc fc 2 (cavs cs), .str t] (.int .i64 (match findC t cs 0 with | some j => (j : Nat) | none => -1)) := by
  have hp : pureL [.seq zc fc 2 (cavs cs), .str t] = true := by simp [pureL, AV.pure, cavs_pure]
  have hlp := find_loop (zc := zc) (fc := fc) (t := t) hb cs 0 rfl
  cases hf : findC t cs 0 with
  | none => rw [hf] at hlp; exact find_w hp (.inr ⟨_, hlp, fun e => rfl⟩)
  | some j => rw [hf] at hlp; exact find_w hp (.inl ⟨_, hlp, fun e => rfl⟩)
/-- What a lookup function answers. -/
def lkA (t : ByteArray) (cs : List Cel) : AV := match cellC t cs with
  | some c => .tup [.seq c.z c.fl 1 (iavs c.l), .bool true]
  | none => .tup [.seq true true 0 [], .bool false]
theorem lookup1_pw {zc fc : Bool} {cs : List Cel} {t : ByteArray} (hb : cs.length ≤ maxLen) : Pw cx 61 [.str t, .rptr [.seq zc fc 2 (cavs cs)]] (lkA t cs) := by
  have hp : pureL [.str t, .rptr [.seq zc fc 2 (cavs cs)]] = true := by simp [pureL, AV.pure, cavs_pure]
  have h1 := find_pw (zc := zc) (fc := fc) (t := t) hb
  have h2 := findC_get t cs 0
  unfold lkA
  cases hf : findC t cs 0 with
  | none =>
    rw [hf] at h1 h2
    rw [h2]
    exact lookup1_w hp ⟨_, h1, br_yes (by decide) rfl⟩
  | some j =>
    rw [hf] at h1 h2
    obtain ⟨q, hq, c, hc, hcc⟩ := h2
    rw [hcc]
    have hjq : j = q := by omega
    subst hjq
    have hg : (cavs cs)[Int.toNat ((j : Nat) : Int)]? = some c.av := by rw [Int.toNat_natCast, cavs_get, hc]; rfl
    exact lookup1_w hp ⟨_, h1, br_no (show ¬ ((j : Nat) : Int) < 0 by omega) (br_yes (show 0 ≤ ((j : Nat) : Int) by omega) ⟨_, _, _, _, hg, br_t (iavs_pure _) rfl⟩)⟩
theorem lookup_pw (zc fc : Bool) (cs : List Cel) : Pw cx 23 [.seq zc fc 2 (cavs cs)] (lkup zc fc cs) :=
  lookup_w (by simp [pureL, AV.pure, cavs_pure]) (br_t (cavs_pure cs) rfl)
end Go.Ab
