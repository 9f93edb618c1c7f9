/- EvalConst: for every input the law returns true, and its arguments read as they did. -/
import Derived.Test.YtjodlfhkabploaaDoorRA
import Derived.Test.YtjodlfhkabploaaDoorRQ
import Derived.Test.YtjodlfhkabploaaDoorHY
import Derived.Test.YtjodlfhkabploaaDoorCards
import Derived.Test.YtjodlfhkabploaaDoorTie
import Derived.SevenTiedAt
set_option linter.unusedVariables false
namespace Go.Proofs.YtjodlfhkabploaaDoor
open Go Go.Ab Go.ChangeShapes Go.WideShapes Go.ChangeAt Go.RowKit

theorem const_par : Tryd.f9.params = #[24, 25] := by kernel_rfl
set_option maxRecDepth 100000 in
theorem const_lifted (os : Os) (started : os.Started) (H : Type) (enc : TypeId × Value → H) :
    ReturnsInHanded {} Tryd.checked os 9 .any (fun w args => (Rows.evalConstSpec.pre enc Tryd.prog Tryd.f9 [] false w args ∧ laidMetH Tryd.prog laidL w) ∧ sizedMet enc Tryd.prog Tryd.f9 (OpenSpec.ofChange Rows.evalConstSpec) false w args)
      (Rows.evalConstSpec.post enc Tryd.prog Tryd.f9 false true false false) := by
  refine returnsInHanded_of_change_and (C := Tryd.checked) (X := fun w _ => laidMetH Tryd.prog laidL w) (fun _ _ _ hh h => h.of_heap hh) own started (by kernel_rfl) Tryd.func9
    (ChangeSpec.witness_shaped (enc := enc) (C := Tryd.checked) (os := os) (X := fun w _ => laidMetH Tryd.prog laidL w) false (World.doorLaid Tryd.prog 400 os) #[.agg #[.int .u8 0, .int .i64 0, .string ⟨#[]⟩, .slice none 0 0], .slice none 0 0] 8 rfl (World.shaped_of_RefB (by kernel_rfl) (by kernel_rfl)) (by kernel_rfl) (by kernel_rfl) (by kernel_rfl) (door_met os _)) ?_
  intro W base args ds gs before hval hW _ _ hL _
  have hW' := hW
  obtain ⟨p, q, hA, hV, rfl, hfz, hnd⟩ := hW
  have hpar := const_par
  obtain ⟨al, hr, hT0⟩ := args_read plain_cells (ts := Tryd.f9.params.toList) (fun t ht => by rw [hpar] at ht; simp at ht; rcases ht with rfl | rfl <;> simp) hA (fun j t v ht hv => hval j t v (by simpa using ht) (by simpa using hv))
  rw [hpar] at hT0
  obtain ⟨a0, d0, al0, ds0, rfl, rfl, ⟨n0, cs0, ht0, rfl⟩, hT1⟩ := typAll_cons hT0
  obtain ⟨a1, d1, al1, ds1, rfl, rfl, ⟨n1, cs1, ht1, rfl⟩, hT2⟩ := typAll_cons hT1
  obtain ⟨rfl, rfl⟩ := typAll_nil hT2
  obtain ⟨rfl, rfl⟩ := trodVars_none hV
  obtain ⟨v0, ho0, hav0⟩ := tree_of n0 ht0
  rw [hav0] at hr
  obtain ⟨v1, ho1, hav1⟩ := cells_of' ht1
  rw [hav1] at hr
  obtain ⟨k, hev⟩ := (lawConst_go v0 v1 ho0 ho1).ev
  exact law_contract cx_ok (gl_of_laid hL) hev hr (fun W' hb => post_true laid_out (fun t ht => readable_cells t (by rw [hpar] at ht; simp at ht; rcases ht with rfl | rfl <;> simp)) (show Tryd.f9.resultTypes = #[4] by kernel_rfl) u_bool rfl hW' rfl rfl rfl hb)
theorem const_holds : Rows.EvalConstSaid :=
  OpenClaim.holds_of_wide 9 Tryd.f9 rfl rfl rfl rfl rfl rfl rfl ⟨rfl, rfl, rfl, rfl, rfl⟩ rfl rfl rfl rfl rfl (by kernel_rfl) Tryd.func9 (by kernel_rfl)
    (of_decide_eq_true (by kernel_rfl)) (by unfold Func.isWrapper; first | (rw [if_pos (by decide +kernel)]; kernel_rfl) | (rw [if_neg (by decide +kernel)]; exact ⟨rfl, rfl⟩))
    (fun os started H enc _ => const_lifted os started H enc)
theorem evalConst_card_holds : Rows.EvalConstCardSaid :=
  Claim7.holds_tied_plain_at .later [] [.listed, .data] true (true, "39bfe829a42e08819bd7f2833ba6f9eea79ad3c137b5a2ab8225ecd48ca916f7") false
    const_holds (fun _ h => by cases h) (by kernel_rfl) (fun _ h => by cases h) evalConst_row_tie rfl ⟨rfl, rfl⟩ (by kernel_rfl) rfl
    (fun f fn hf hfn => by
      obtain rfl : f = 9 := Option.some.inj ((show Tryd.prog.funcNamed "backstep/backsteplaw13.EvalConst" = some 9 by kernel_rfl).symm.trans hf) |>.symm
      obtain rfl : fn = Tryd.f9 := (Option.some.inj (Tryd.func9.symm.trans hfn)).symm
      exact ⟨by kernel_rfl, fun j t ht => by
        rw [const_par] at ht
        rcases j with _ | j
        · have h3 : t = 24 := by simpa using ht.symm
          subst h3
          exact (show Tryd.prog.wantsStandIn 24 = false by kernel_rfl)
        rcases j with _ | j
        · have h3 : t = 25 := by simpa using ht.symm
          subst h3
          exact (show Tryd.prog.wantsStandIn 25 = false by kernel_rfl)
        simp at ht
      ⟩)
    (by kernel_rfl)
#print axioms evalConst_card_holds
end Go.Proofs.YtjodlfhkabploaaDoor
