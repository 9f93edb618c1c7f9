/- ConstfoldConst: for every input the law returns true, and its arguments read as they did. -/
import Derived.Test.YtjodlfhkabploaaDoorRA
import Derived.Test.YtjodlfhkabploaaDoorRQ
import Derived.Test.YtjodlfhkabploaaDoorLB
import Derived.Test.YtjodlfhkabploaaDoorCards
import Derived.Test.YtjodlfhkabploaaDoorTie
import Derived.SevenTiedAt
set_option linter.unusedVariables false
namespace Go.Proofs.YtjodlfhkabploaaDoor
open Go Go.Ab Go.ChangeShapes Go.WideShapes Go.ChangeAt Go.RowKit

theorem ccon_par : Tryd.f11.params = #[24] := by kernel_rfl
set_option maxRecDepth 100000 in
theorem ccon_lifted (os : Os) (started : os.Started) (H : Type) (enc : TypeId × Value → H) :
    ReturnsInHanded {} Tryd.checked os 11 .any (fun w args => (Rows.constfoldConstSpec.pre enc Tryd.prog Tryd.f11 [] false w args ∧ laidMetH Tryd.prog laidL w) ∧ sizedMet enc Tryd.prog Tryd.f11 (OpenSpec.ofChange Rows.constfoldConstSpec) false w args)
      (Rows.constfoldConstSpec.post enc Tryd.prog Tryd.f11 false true false false) := by
  refine returnsInHanded_of_change_and (C := Tryd.checked) (X := fun w _ => laidMetH Tryd.prog laidL w) (fun _ _ _ hh h => h.of_heap hh) own started (by kernel_rfl) Tryd.func11
    (ChangeSpec.witness_shaped (enc := enc) (C := Tryd.checked) (os := os) (X := fun w _ => laidMetH Tryd.prog laidL w) false (World.doorLaid Tryd.prog 400 os) #[.agg #[.int .u8 0, .int .i64 0, .string ⟨#[]⟩, .slice none 0 0]] 8 rfl (World.shaped_of_RefB (by kernel_rfl) (by kernel_rfl)) (by kernel_rfl) (by kernel_rfl) (by kernel_rfl) (door_met os _)) ?_
  intro W base args ds gs before hval hW _ _ hL _
  have hW' := hW
  obtain ⟨p, q, hA, hV, rfl, hfz, hnd⟩ := hW
  have hpar := ccon_par
  obtain ⟨al, hr, hT0⟩ := args_read plain_cells (ts := Tryd.f11.params.toList) (fun t ht => by rw [hpar] at ht; simp at ht; simp [ht]) hA (fun j t v ht hv => hval j t v (by simpa using ht) (by simpa using hv))
  rw [hpar] at hT0
  obtain ⟨a0, d0, al0, ds0, rfl, rfl, ⟨n0, cs0, ht0, rfl⟩, hT1⟩ := typAll_cons hT0
  obtain ⟨rfl, rfl⟩ := typAll_nil hT1
  obtain ⟨rfl, rfl⟩ := trodVars_none hV
  obtain ⟨v0, ho0, hav0⟩ := tree_of n0 ht0
  rw [hav0] at hr
  obtain ⟨k, hev⟩ := (lawCC_go v0 ho0).ev
  exact law_contract cx_ok (gl_of_laid hL) hev hr (fun W' hb => post_true laid_out (fun t ht => readable_cells t (by rw [hpar] at ht; simp at ht; simp [ht])) (show Tryd.f11.resultTypes = #[4] by kernel_rfl) u_bool rfl hW' rfl rfl rfl hb)
theorem ccon_holds : Rows.ConstfoldConstSaid :=
  OpenClaim.holds_of_wide 11 Tryd.f11 rfl rfl rfl rfl rfl rfl rfl ⟨rfl, rfl, rfl, rfl, rfl⟩ rfl rfl rfl rfl rfl (by kernel_rfl) Tryd.func11 (by kernel_rfl)
    (of_decide_eq_true (by kernel_rfl)) (by unfold Func.isWrapper; first | (rw [if_pos (by decide +kernel)]; kernel_rfl) | (rw [if_neg (by decide +kernel)]; exact ⟨rfl, rfl⟩))
    (fun os started H enc _ => ccon_lifted os started H enc)
theorem constfoldConst_card_holds : Rows.ConstfoldConstCardSaid :=
  Claim7.holds_tied_plain_at .later [] [.listed, .data] true (true, "39bfe829a42e08819bd7f2833ba6f9eea79ad3c137b5a2ab8225ecd48ca916f7") false
    ccon_holds (fun _ h => by cases h) (by kernel_rfl) (fun _ h => by cases h) constfoldConst_row_tie rfl ⟨rfl, rfl⟩ (by kernel_rfl) rfl
    (fun f fn hf hfn => by
      obtain rfl : f = 11 := Option.some.inj ((show Tryd.prog.funcNamed "backstep/backsteplaw07.ConstfoldConst" = some 11 by kernel_rfl).symm.trans hf) |>.symm
      obtain rfl : fn = Tryd.f11 := (Option.some.inj (Tryd.func11.symm.trans hfn)).symm
      exact ⟨by kernel_rfl, fun j t ht => by
        rw [ccon_par] at ht
        rcases j with _ | j
        · have h3 : t = 24 := by simpa using ht.symm
          subst h3
          exact (show Tryd.prog.wantsStandIn 24 = false by kernel_rfl)
        simp at ht
      ⟩)
    (by kernel_rfl)
#print axioms constfoldConst_card_holds
end Go.Proofs.YtjodlfhkabploaaDoor
