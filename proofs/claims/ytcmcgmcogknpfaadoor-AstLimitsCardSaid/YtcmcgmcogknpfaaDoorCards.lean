/-
  DERIVED. GIVEN WITH THE SEED: THE CARDS: each row of YtcmcgmcogknpfaaDoorRows.lean that lists a variable, with what it lists TIED to the program's text (the seventh form; the later family's looks); each row that meets fmt, with fmt's text TOLD by the authors' own Lean function (tested against real Go, not proved from fmt's source: count such statements apart). THE CARD IS WHAT COUNTS. Prove the row's statement (the work); the ties are given (YtcmcgmcogknpfaaDoorTie.lean); close each card by the builder's one call (the guide's Derived/Test/ToyasCard.lean, 'card_holds'). Laid BY PROGRAM, IN A SANDBOX (cutbox-door.mjs). By AI agents, Wed Nov 11 2026. No macro, syntax, notation, axiom, sorry.
-/
import Derived.Test.YtcmcgmcogknpfaaDoorRows
import GoSem.ClaimSeven
namespace Go.Proofs.YtcmcgmcogknpfaaDoor
namespace Rows

/-- THE TIED CARD OF 'backsteplaw03.AstKinds'. -/
def astKindsCard : Claim7 := { stood := { row := astKindsRow, standIns := [], harness := (true, "7f207c739c463547a103a10dec8a9061c01966692cda50adf9a9913cf620ed45"), looks := false }, kinds := [], alts := [], laidByText := true, laidKinds := [.listed, .data], laidTests := true, laidLooks := .later }
def AstKindsCardSaid : Prop := Claim7.holds Tryd.pinned (.plain (OpenSpec.ofChange astKindsSpec)) astKindsCard

/-- THE TIED CARD OF 'backsteplaw03.AstWalk'. -/
def astWalkCard : Claim7 := { stood := { row := astWalkRow, standIns := [], harness := (true, "7f207c739c463547a103a10dec8a9061c01966692cda50adf9a9913cf620ed45"), looks := false }, kinds := [], alts := [], laidByText := true, laidKinds := [.listed, .data], laidTests := true, laidLooks := .later }
def AstWalkCardSaid : Prop := Claim7.holds Tryd.pinned (.plain (OpenSpec.ofChange astWalkSpec)) astWalkCard

/-- THE TIED CARD OF 'backsteplaw03.AstEqual'. -/
def astEqualCard : Claim7 := { stood := { row := astEqualRow, standIns := [], harness := (true, "7f207c739c463547a103a10dec8a9061c01966692cda50adf9a9913cf620ed45"), looks := false }, kinds := [], alts := [], laidByText := true, laidKinds := [.listed, .data], laidTests := true, laidLooks := .later }
def AstEqualCardSaid : Prop := Claim7.holds Tryd.pinned (.plain (OpenSpec.ofChange astEqualSpec)) astEqualCard

/-- THE TIED CARD OF 'backsteplaw03.AstClosed'. -/
def astClosedCard : Claim7 := { stood := { row := astClosedRow, standIns := [], harness := (true, "7f207c739c463547a103a10dec8a9061c01966692cda50adf9a9913cf620ed45"), looks := false }, kinds := [], alts := [], laidByText := true, laidKinds := [.listed, .data], laidTests := true, laidLooks := .later }
def AstClosedCardSaid : Prop := Claim7.holds Tryd.pinned (.plain (OpenSpec.ofChange astClosedSpec)) astClosedCard

/-- THE TIED CARD OF 'backsteplaw03.AstClone'. -/
def astCloneCard : Claim7 := { stood := { row := astCloneRow, standIns := [], harness := (true, "7f207c739c463547a103a10dec8a9061c01966692cda50adf9a9913cf620ed45"), looks := false }, kinds := [], alts := [], laidByText := true, laidKinds := [.listed, .data], laidTests := true, laidLooks := .later }
def AstCloneCardSaid : Prop := Claim7.holds Tryd.pinned (.plain (OpenSpec.ofChange astCloneSpec)) astCloneCard

/-- THE TIED CARD OF 'backsteplaw03.AstAt'. -/
def astAtCard : Claim7 := { stood := { row := astAtRow, standIns := [], harness := (true, "7f207c739c463547a103a10dec8a9061c01966692cda50adf9a9913cf620ed45"), looks := false }, kinds := [], alts := [], laidByText := true, laidKinds := [.listed, .data], laidTests := true, laidLooks := .later }
def AstAtCardSaid : Prop := Claim7.holds Tryd.pinned (.plain (OpenSpec.ofChange astAtSpec)) astAtCard

/-- THE TIED CARD OF 'backsteplaw03.AstValid'. -/
def astValidCard : Claim7 := { stood := { row := astValidRow, standIns := [], harness := (true, "7f207c739c463547a103a10dec8a9061c01966692cda50adf9a9913cf620ed45"), looks := false }, kinds := [], alts := [], laidByText := true, laidKinds := [.listed, .data], laidTests := true, laidLooks := .later }
def AstValidCardSaid : Prop := Claim7.holds Tryd.pinned (.plain (OpenSpec.ofChange astValidSpec)) astValidCard

/-- THE TIED CARD OF 'backsteplaw03.AstSame'. -/
def astSameCard : Claim7 := { stood := { row := astSameRow, standIns := [], harness := (true, "7f207c739c463547a103a10dec8a9061c01966692cda50adf9a9913cf620ed45"), looks := false }, kinds := [], alts := [], laidByText := true, laidKinds := [.listed, .data], laidTests := true, laidLooks := .later }
def AstSameCardSaid : Prop := Claim7.holds Tryd.pinned (.plain (OpenSpec.ofChange astSameSpec)) astSameCard

/-- THE TIED CARD OF 'backsteplaw03.AstReplace'. -/
def astReplaceCard : Claim7 := { stood := { row := astReplaceRow, standIns := [], harness := (true, "7f207c739c463547a103a10dec8a9061c01966692cda50adf9a9913cf620ed45"), looks := false }, kinds := [], alts := [], laidByText := true, laidKinds := [.listed, .data], laidTests := true, laidLooks := .later }
def AstReplaceCardSaid : Prop := Claim7.holds Tryd.pinned (.plain (OpenSpec.ofChange astReplaceSpec)) astReplaceCard

/-- THE TIED CARD OF 'backsteplaw03.AstLimits'. -/
def astLimitsCard : Claim7 := { stood := { row := astLimitsRow, standIns := [], harness := (true, "7f207c739c463547a103a10dec8a9061c01966692cda50adf9a9913cf620ed45"), looks := false }, kinds := [], alts := [], laidByText := true, laidKinds := [.listed, .data], laidTests := true, laidLooks := .later }
def AstLimitsCardSaid : Prop := Claim7.holds Tryd.pinned (.plain (OpenSpec.ofChange astLimitsSpec)) astLimitsCard

/-- THE SECOND FORM's CARD OF 'backsteplaw03.AstKinds'. -/
def astKindsUptoCard : Claim7 := { stood := { row := astKindsUptoRow, standIns := [], harness := (true, "7f207c739c463547a103a10dec8a9061c01966692cda50adf9a9913cf620ed45"), looks := false }, kinds := [], alts := [], laidByText := true, laidKinds := [.listed, .data], laidTests := true, laidLooks := .later }
def AstKindsUptoCardSaid : Prop := Claim7.holds Tryd.pinned (.plain (OpenSpec.upto astKindsSpec)) astKindsUptoCard

/-- THE SECOND FORM's CARD OF 'backsteplaw03.AstWalk'. -/
def astWalkUptoCard : Claim7 := { stood := { row := astWalkUptoRow, standIns := [], harness := (true, "7f207c739c463547a103a10dec8a9061c01966692cda50adf9a9913cf620ed45"), looks := false }, kinds := [], alts := [], laidByText := true, laidKinds := [.listed, .data], laidTests := true, laidLooks := .later }
def AstWalkUptoCardSaid : Prop := Claim7.holds Tryd.pinned (.plain (OpenSpec.upto astWalkSpec)) astWalkUptoCard

/-- THE SECOND FORM's CARD OF 'backsteplaw03.AstEqual'. -/
def astEqualUptoCard : Claim7 := { stood := { row := astEqualUptoRow, standIns := [], harness := (true, "7f207c739c463547a103a10dec8a9061c01966692cda50adf9a9913cf620ed45"), looks := false }, kinds := [], alts := [], laidByText := true, laidKinds := [.listed, .data], laidTests := true, laidLooks := .later }
def AstEqualUptoCardSaid : Prop := Claim7.holds Tryd.pinned (.plain (OpenSpec.upto astEqualSpec)) astEqualUptoCard

/-- THE SECOND FORM's CARD OF 'backsteplaw03.AstClosed'. -/
def astClosedUptoCard : Claim7 := { stood := { row := astClosedUptoRow, standIns := [], harness := (true, "7f207c739c463547a103a10dec8a9061c01966692cda50adf9a9913cf620ed45"), looks := false }, kinds := [], alts := [], laidByText := true, laidKinds := [.listed, .data], laidTests := true, laidLooks := .later }
def AstClosedUptoCardSaid : Prop := Claim7.holds Tryd.pinned (.plain (OpenSpec.upto astClosedSpec)) astClosedUptoCard

/-- THE SECOND FORM's CARD OF 'backsteplaw03.AstClone'. -/
def astCloneUptoCard : Claim7 := { stood := { row := astCloneUptoRow, standIns := [], harness := (true, "7f207c739c463547a103a10dec8a9061c01966692cda50adf9a9913cf620ed45"), looks := false }, kinds := [], alts := [], laidByText := true, laidKinds := [.listed, .data], laidTests := true, laidLooks := .later }
def AstCloneUptoCardSaid : Prop := Claim7.holds Tryd.pinned (.plain (OpenSpec.upto astCloneSpec)) astCloneUptoCard

/-- THE SECOND FORM's CARD OF 'backsteplaw03.AstAt'. -/
def astAtUptoCard : Claim7 := { stood := { row := astAtUptoRow, standIns := [], harness := (true, "7f207c739c463547a103a10dec8a9061c01966692cda50adf9a9913cf620ed45"), looks := false }, kinds := [], alts := [], laidByText := true, laidKinds := [.listed, .data], laidTests := true, laidLooks := .later }
def AstAtUptoCardSaid : Prop := Claim7.holds Tryd.pinned (.plain (OpenSpec.upto astAtSpec)) astAtUptoCard

/-- THE SECOND FORM's CARD OF 'backsteplaw03.AstValid'. -/
def astValidUptoCard : Claim7 := { stood := { row := astValidUptoRow, standIns := [], harness := (true, "7f207c739c463547a103a10dec8a9061c01966692cda50adf9a9913cf620ed45"), looks := false }, kinds := [], alts := [], laidByText := true, laidKinds := [.listed, .data], laidTests := true, laidLooks := .later }
def AstValidUptoCardSaid : Prop := Claim7.holds Tryd.pinned (.plain (OpenSpec.upto astValidSpec)) astValidUptoCard

/-- THE SECOND FORM's CARD OF 'backsteplaw03.AstSame'. -/
def astSameUptoCard : Claim7 := { stood := { row := astSameUptoRow, standIns := [], harness := (true, "7f207c739c463547a103a10dec8a9061c01966692cda50adf9a9913cf620ed45"), looks := false }, kinds := [], alts := [], laidByText := true, laidKinds := [.listed, .data], laidTests := true, laidLooks := .later }
def AstSameUptoCardSaid : Prop := Claim7.holds Tryd.pinned (.plain (OpenSpec.upto astSameSpec)) astSameUptoCard

/-- THE SECOND FORM's CARD OF 'backsteplaw03.AstReplace'. -/
def astReplaceUptoCard : Claim7 := { stood := { row := astReplaceUptoRow, standIns := [], harness := (true, "7f207c739c463547a103a10dec8a9061c01966692cda50adf9a9913cf620ed45"), looks := false }, kinds := [], alts := [], laidByText := true, laidKinds := [.listed, .data], laidTests := true, laidLooks := .later }
def AstReplaceUptoCardSaid : Prop := Claim7.holds Tryd.pinned (.plain (OpenSpec.upto astReplaceSpec)) astReplaceUptoCard

/-- THE SECOND FORM's CARD OF 'backsteplaw03.AstLimits'. -/
def astLimitsUptoCard : Claim7 := { stood := { row := astLimitsUptoRow, standIns := [], harness := (true, "7f207c739c463547a103a10dec8a9061c01966692cda50adf9a9913cf620ed45"), looks := false }, kinds := [], alts := [], laidByText := true, laidKinds := [.listed, .data], laidTests := true, laidLooks := .later }
def AstLimitsUptoCardSaid : Prop := Claim7.holds Tryd.pinned (.plain (OpenSpec.upto astLimitsSpec)) astLimitsUptoCard
end Rows
end Go.Proofs.YtcmcgmcogknpfaaDoor
