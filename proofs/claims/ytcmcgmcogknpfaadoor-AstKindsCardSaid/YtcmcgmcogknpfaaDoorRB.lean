/- AstKinds: for every input the law returns true, and its argument reads as it did. -/
import Derived.Test.YtcmcgmcogknpfaaDoorRA
import Derived.Test.YtcmcgmcogknpfaaDoorCards
import Derived.Test.YtcmcgmcogknpfaaDoorTie
import Derived.SevenTiedAt
set_option linter.unusedVariables false
namespace Go.Proofs.YtcmcgmcogknpfaaDoor
open Go Go.Ab Go.ChangeShapes Go.WideShapes Go.ChangeAt Go.RowKit

set_option maxRecDepth 100000 in
theorem kinds_lifted (os : Os) (started : os.Started) (H : Type) (enc : TypeId × Value → H) :
    ReturnsInHanded {} Tryd.checked os 3 .any (fun w args => (Rows.astKindsSpec.pre enc Tryd.prog Tryd.f3 [] false w args ∧ laidMetH Tryd.prog laidL w) ∧ sizedMet enc Tryd.prog Tryd.f3 (OpenSpec.ofChange Rows.astKindsSpec) false w args)
      (Rows.astKindsSpec.post enc Tryd.prog Tryd.f3 false true false false) := by
  refine returnsInHanded_of_change_and (C := Tryd.checked) (X := fun w _ => laidMetH Tryd.prog laidL w) (fun _ _ _ hh h => h.of_heap hh) own started (by kernel_rfl) Tryd.func3
    (ChangeSpec.witness_shaped (enc := enc) (C := Tryd.checked) (os := os) (X := fun w _ => laidMetH Tryd.prog laidL w) false (World.doorLaid Tryd.prog 400 os) #[.agg #[.int .u8 0, .int .i64 0, .string ⟨#[]⟩, .slice none 0 0]] 8 rfl (World.shaped_of_RefB (by kernel_rfl) (by kernel_rfl)) (by kernel_rfl) (by kernel_rfl) (by kernel_rfl) (door_met os _)) ?_
  intro W base args ds gs before hval hW _ _ hL _
  have hW' := hW
  obtain ⟨p, q, hA, hV, rfl, hfz, hnd⟩ := hW
  have hpar : Tryd.f3.params = #[24] := by kernel_rfl
  obtain ⟨al, hr, hT⟩ := args_read plain_node (ts := Tryd.f3.params.toList) (fun t ht => by rw [hpar] at ht; simp at ht; simp [ht]) hA (fun j t v ht hv => hval j t v (by simpa using ht) (by simpa using hv))
  rw [hpar] at hT
  obtain ⟨a, d, rfl, rfl, n, cs, ht, rfl⟩ := typAll_one hT
  obtain ⟨rfl, rfl⟩ := trodVars_none hV
  obtain ⟨t, ho, hav⟩ := tree_of n ht
  rw [hav] at hr
  obtain ⟨k, hev⟩ := (kinds_pw t ho).ev
  exact law_contract cx_ok (gl_of_laid hL) hev hr (fun W' hb => post_true laid_out (fun t ht => readable t (by rw [hpar] at ht; simp at ht; simp [ht])) (show Tryd.f3.resultTypes = #[4] by kernel_rfl) u_bool rfl hW' rfl rfl rfl hb)
theorem kinds_holds : Rows.AstKindsSaid :=
  OpenClaim.holds_of_wide 3 Tryd.f3 rfl rfl rfl rfl rfl rfl rfl ⟨rfl, rfl, rfl, rfl, rfl⟩ rfl rfl rfl rfl rfl (by kernel_rfl) Tryd.func3 (by kernel_rfl)
    (of_decide_eq_true (by kernel_rfl)) (by unfold Func.isWrapper; first | (rw [if_pos (by decide +kernel)]; kernel_rfl) | (rw [if_neg (by decide +kernel)]; exact ⟨rfl, rfl⟩))
    (fun os started H enc _ => kinds_lifted os started H enc)
theorem astKinds_card_holds : Rows.AstKindsCardSaid :=
  Claim7.holds_tied_plain_at .later [] [.listed, .data] true (true, "7f207c739c463547a103a10dec8a9061c01966692cda50adf9a9913cf620ed45") false
    kinds_holds (fun _ h => by cases h) (by kernel_rfl) (fun _ h => by cases h) astKinds_row_tie rfl ⟨rfl, rfl⟩ (by kernel_rfl) rfl
    (fun f fn hf hfn => by
      obtain rfl : f = 3 := Option.some.inj ((show Tryd.prog.funcNamed "backstep/backsteplaw03.AstKinds" = some 3 by kernel_rfl).symm.trans hf) |>.symm
      obtain rfl : fn = Tryd.f3 := (Option.some.inj (Tryd.func3.symm.trans hfn)).symm
      exact ⟨by kernel_rfl, fun j t ht => by
        have hpar : Tryd.f3.params = #[24] := by kernel_rfl
        rw [hpar] at ht
        have h3 : t = 24 := by
          rcases j with _ | j
          · simpa using ht.symm
          · simp at ht
        subst h3
        exact (show Tryd.prog.wantsStandIn 24 = false by kernel_rfl)⟩)
    (by kernel_rfl)
#print axioms astKinds_card_holds
end Go.Proofs.YtcmcgmcogknpfaaDoor
