/- EvalStrict: for every input the law returns true, and its arguments read as they did. -/
import Derived.Test.YtjodlfhkabploaaDoorRA
import Derived.Test.YtjodlfhkabploaaDoorRQ
import Derived.Test.YtjodlfhkabploaaDoorHZ
import Derived.Test.YtjodlfhkabploaaDoorCards
import Derived.Test.YtjodlfhkabploaaDoorTie
import Derived.SevenTiedAt
set_option linter.unusedVariables false
namespace Go.Proofs.YtjodlfhkabploaaDoor
open Go Go.Ab Go.ChangeShapes Go.WideShapes Go.ChangeAt Go.RowKit

theorem strict_par : Tryd.f4.params = #[5, 24, 24, 25] := by kernel_rfl
set_option maxRecDepth 100000 in
theorem strict_lifted (os : Os) (started : os.Started) (H : Type) (enc : TypeId × Value → H) :
    ReturnsInHanded {} Tryd.checked os 4 .any (fun w args => (Rows.evalStrictSpec.pre enc Tryd.prog Tryd.f4 [] false w args ∧ laidMetH Tryd.prog laidL w) ∧ sizedMet enc Tryd.prog Tryd.f4 (OpenSpec.ofChange Rows.evalStrictSpec) false w args)
      (Rows.evalStrictSpec.post enc Tryd.prog Tryd.f4 false true false false) := by
  refine returnsInHanded_of_change_and (C := Tryd.checked) (X := fun w _ => laidMetH Tryd.prog laidL w) (fun _ _ _ hh h => h.of_heap hh) own started (by kernel_rfl) Tryd.func4
    (ChangeSpec.witness_shaped (enc := enc) (C := Tryd.checked) (os := os) (X := fun w _ => laidMetH Tryd.prog laidL w) false (World.doorLaid Tryd.prog 400 os) #[.int .u8 0, .agg #[.int .u8 0, .int .i64 0, .string ⟨#[]⟩, .slice none 0 0], .agg #[.int .u8 0, .int .i64 0, .string ⟨#[]⟩, .slice none 0 0], .slice none 0 0] 8 rfl (World.shaped_of_RefB (by kernel_rfl) (by kernel_rfl)) (by kernel_rfl) (by kernel_rfl) (by kernel_rfl) (door_met os _)) ?_
  intro W base args ds gs before hval hW _ _ hL _
  have hW' := hW
  obtain ⟨p, q, hA, hV, rfl, hfz, hnd⟩ := hW
  have hpar := strict_par
  obtain ⟨al, hr, hT0⟩ := args_read plain_cells (ts := Tryd.f4.params.toList) (fun t ht => by rw [hpar] at ht; simp at ht; rcases ht with rfl | rfl | rfl | rfl <;> simp) hA (fun j t v ht hv => hval j t v (by simpa using ht) (by simpa using hv))
  rw [hpar] at hT0
  obtain ⟨a0, d0, al0, ds0, rfl, rfl, ⟨n0, cs0, ht0, rfl⟩, hT1⟩ := typAll_cons hT0
  obtain ⟨a1, d1, al1, ds1, rfl, rfl, ⟨n1, cs1, ht1, rfl⟩, hT2⟩ := typAll_cons hT1
  obtain ⟨a2, d2, al2, ds2, rfl, rfl, ⟨n2, cs2, ht2, rfl⟩, hT3⟩ := typAll_cons hT2
  obtain ⟨a3, d3, al3, ds3, rfl, rfl, ⟨n3, cs3, ht3, rfl⟩, hT4⟩ := typAll_cons hT3
  obtain ⟨rfl, rfl⟩ := typAll_nil hT4
  obtain ⟨rfl, rfl⟩ := trodVars_none hV
  obtain ⟨v0, ho0, hav0⟩ := u8_of ht0
  rw [hav0] at hr
  obtain ⟨v1, ho1, hav1⟩ := tree_of n1 ht1
  rw [hav1] at hr
  obtain ⟨v2, ho2, hav2⟩ := tree_of n2 ht2
  rw [hav2] at hr
  obtain ⟨v3, ho3, hav3⟩ := cells_of' ht3
  rw [hav3] at hr
  obtain ⟨k, hev⟩ := (lawStrict_go v0 v1 v2 v3 ho0 ho1 ho2 ho3).ev
  exact law_contract cx_ok (gl_of_laid hL) hev hr (fun W' hb => post_true laid_out (fun t ht => readable_cells t (by rw [hpar] at ht; simp at ht; rcases ht with rfl | rfl | rfl | rfl <;> simp)) (show Tryd.f4.resultTypes = #[4] by kernel_rfl) u_bool rfl hW' rfl rfl rfl hb)
theorem strict_holds : Rows.EvalStrictSaid :=
  OpenClaim.holds_of_wide 4 Tryd.f4 rfl rfl rfl rfl rfl rfl rfl ⟨rfl, rfl, rfl, rfl, rfl⟩ rfl rfl rfl rfl rfl (by kernel_rfl) Tryd.func4 (by kernel_rfl)
    (of_decide_eq_true (by kernel_rfl)) (by unfold Func.isWrapper; first | (rw [if_pos (by decide +kernel)]; kernel_rfl) | (rw [if_neg (by decide +kernel)]; exact ⟨rfl, rfl⟩))
    (fun os started H enc _ => strict_lifted os started H enc)
theorem evalStrict_card_holds : Rows.EvalStrictCardSaid :=
  Claim7.holds_tied_plain_at .later [] [.listed, .data] true (true, "39bfe829a42e08819bd7f2833ba6f9eea79ad3c137b5a2ab8225ecd48ca916f7") false
    strict_holds (fun _ h => by cases h) (by kernel_rfl) (fun _ h => by cases h) evalStrict_row_tie rfl ⟨rfl, rfl⟩ (by kernel_rfl) rfl
    (fun f fn hf hfn => by
      obtain rfl : f = 4 := Option.some.inj ((show Tryd.prog.funcNamed "backstep/backsteplaw13.EvalStrict" = some 4 by kernel_rfl).symm.trans hf) |>.symm
      obtain rfl : fn = Tryd.f4 := (Option.some.inj (Tryd.func4.symm.trans hfn)).symm
      exact ⟨by kernel_rfl, fun j t ht => by
        rw [strict_par] at ht
        rcases j with _ | j
        · have h3 : t = 5 := by simpa using ht.symm
          subst h3
          exact (show Tryd.prog.wantsStandIn 5 = false by kernel_rfl)
        rcases j with _ | j
        · have h3 : t = 24 := by simpa using ht.symm
          subst h3
          exact (show Tryd.prog.wantsStandIn 24 = false by kernel_rfl)
        rcases j with _ | j
        · have h3 : t = 24 := by simpa using ht.symm
          subst h3
          exact (show Tryd.prog.wantsStandIn 24 = false by kernel_rfl)
        rcases j with _ | j
        · have h3 : t = 25 := by simpa using ht.symm
          subst h3
          exact (show Tryd.prog.wantsStandIn 25 = false by kernel_rfl)
        simp at ht
      ⟩)
    (by kernel_rfl)
#print axioms evalStrict_card_holds
end Go.Proofs.YtjodlfhkabploaaDoor
