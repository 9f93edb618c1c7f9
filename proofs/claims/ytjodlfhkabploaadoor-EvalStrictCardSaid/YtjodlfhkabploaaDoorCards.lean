/-
  DERIVED. GIVEN WITH THE SEED: THE CARDS: each row of YtjodlfhkabploaaDoorRows.lean that lists a variable, with what it lists TIED to the program's text (the seventh form; the later family's looks); each row that meets fmt, with fmt's text TOLD by the authors' own Lean function (tested against real Go, not proved from fmt's source: count such statements apart). THE CARD IS WHAT COUNTS. Prove the row's statement (the work); the ties are given (YtjodlfhkabploaaDoorTie.lean); close each card by the builder's one call (the guide's Derived/Test/ToyasCard.lean, 'card_holds'). Laid BY PROGRAM, IN A SANDBOX (cutbox-door.mjs). By AI agents, Wed Nov 11 2026. No macro, syntax, notation, axiom, sorry.
-/
import Derived.Test.YtjodlfhkabploaaDoorRows
import GoSem.ClaimSeven
namespace Go.Proofs.YtjodlfhkabploaaDoor
namespace Rows

/-- THE TIED CARD OF 'backsteplaw13.EvalMentioned'. -/
def evalMentionedCard : Claim7 := { stood := { row := evalMentionedRow, standIns := [], harness := (true, "39bfe829a42e08819bd7f2833ba6f9eea79ad3c137b5a2ab8225ecd48ca916f7"), looks := false }, kinds := [], alts := [], laidByText := true, laidKinds := [.listed, .data], laidTests := true, laidLooks := .later }
def EvalMentionedCardSaid : Prop := Claim7.holds Tryd.pinned (.plain (OpenSpec.ofChange evalMentionedSpec)) evalMentionedCard

/-- THE TIED CARD OF 'backsteplaw13.EvalStrict'. -/
def evalStrictCard : Claim7 := { stood := { row := evalStrictRow, standIns := [], harness := (true, "39bfe829a42e08819bd7f2833ba6f9eea79ad3c137b5a2ab8225ecd48ca916f7"), looks := false }, kinds := [], alts := [], laidByText := true, laidKinds := [.listed, .data], laidTests := true, laidLooks := .later }
def EvalStrictCardSaid : Prop := Claim7.holds Tryd.pinned (.plain (OpenSpec.ofChange evalStrictSpec)) evalStrictCard

/-- THE TIED CARD OF 'backsteplaw13.EvalItems'. -/
def evalItemsCard : Claim7 := { stood := { row := evalItemsRow, standIns := [], harness := (true, "39bfe829a42e08819bd7f2833ba6f9eea79ad3c137b5a2ab8225ecd48ca916f7"), looks := false }, kinds := [], alts := [], laidByText := true, laidKinds := [.listed, .data], laidTests := true, laidLooks := .later }
def EvalItemsCardSaid : Prop := Claim7.holds Tryd.pinned (.plain (OpenSpec.ofChange evalItemsSpec)) evalItemsCard

/-- THE TIED CARD OF 'backsteplaw13.EvalExprs'. -/
def evalExprsCard : Claim7 := { stood := { row := evalExprsRow, standIns := [], harness := (true, "39bfe829a42e08819bd7f2833ba6f9eea79ad3c137b5a2ab8225ecd48ca916f7"), looks := false }, kinds := [], alts := [], laidByText := true, laidKinds := [.listed, .data], laidTests := true, laidLooks := .later }
def EvalExprsCardSaid : Prop := Claim7.holds Tryd.pinned (.plain (OpenSpec.ofChange evalExprsSpec)) evalExprsCard

/-- THE TIED CARD OF 'backsteplaw13.EvalIndex'. -/
def evalIndexCard : Claim7 := { stood := { row := evalIndexRow, standIns := [], harness := (true, "39bfe829a42e08819bd7f2833ba6f9eea79ad3c137b5a2ab8225ecd48ca916f7"), looks := false }, kinds := [], alts := [], laidByText := true, laidKinds := [.listed, .data], laidTests := true, laidLooks := .later }
def EvalIndexCardSaid : Prop := Claim7.holds Tryd.pinned (.plain (OpenSpec.ofChange evalIndexSpec)) evalIndexCard

/-- THE TIED CARD OF 'backsteplaw13.EvalOwn'. -/
def evalOwnCard : Claim7 := { stood := { row := evalOwnRow, standIns := [], harness := (true, "39bfe829a42e08819bd7f2833ba6f9eea79ad3c137b5a2ab8225ecd48ca916f7"), looks := false }, kinds := [], alts := [], laidByText := true, laidKinds := [.listed, .data], laidTests := true, laidLooks := .later }
def EvalOwnCardSaid : Prop := Claim7.holds Tryd.pinned (.plain (OpenSpec.ofChange evalOwnSpec)) evalOwnCard

/-- THE TIED CARD OF 'backsteplaw13.EvalConst'. -/
def evalConstCard : Claim7 := { stood := { row := evalConstRow, standIns := [], harness := (true, "39bfe829a42e08819bd7f2833ba6f9eea79ad3c137b5a2ab8225ecd48ca916f7"), looks := false }, kinds := [], alts := [], laidByText := true, laidKinds := [.listed, .data], laidTests := true, laidLooks := .later }
def EvalConstCardSaid : Prop := Claim7.holds Tryd.pinned (.plain (OpenSpec.ofChange evalConstSpec)) evalConstCard

/-- THE TIED CARD OF 'backsteplaw13.EvalFolds'. -/
def evalFoldsCard : Claim7 := { stood := { row := evalFoldsRow, standIns := [], harness := (true, "39bfe829a42e08819bd7f2833ba6f9eea79ad3c137b5a2ab8225ecd48ca916f7"), looks := false }, kinds := [], alts := [], laidByText := true, laidKinds := [.listed, .data], laidTests := true, laidLooks := .later }
def EvalFoldsCardSaid : Prop := Claim7.holds Tryd.pinned (.plain (OpenSpec.ofChange evalFoldsSpec)) evalFoldsCard

/-- THE TIED CARD OF 'backsteplaw07.ConstfoldConst'. -/
def constfoldConstCard : Claim7 := { stood := { row := constfoldConstRow, standIns := [], harness := (true, "39bfe829a42e08819bd7f2833ba6f9eea79ad3c137b5a2ab8225ecd48ca916f7"), looks := false }, kinds := [], alts := [], laidByText := true, laidKinds := [.listed, .data], laidTests := true, laidLooks := .later }
def ConstfoldConstCardSaid : Prop := Claim7.holds Tryd.pinned (.plain (OpenSpec.ofChange constfoldConstSpec)) constfoldConstCard

/-- THE TIED CARD OF 'backsteplaw07.ConstfoldExpr'. -/
def constfoldExprCard : Claim7 := { stood := { row := constfoldExprRow, standIns := [], harness := (true, "39bfe829a42e08819bd7f2833ba6f9eea79ad3c137b5a2ab8225ecd48ca916f7"), looks := false }, kinds := [], alts := [], laidByText := true, laidKinds := [.listed, .data], laidTests := true, laidLooks := .later }
def ConstfoldExprCardSaid : Prop := Claim7.holds Tryd.pinned (.plain (OpenSpec.ofChange constfoldExprSpec)) constfoldExprCard

/-- THE TIED CARD OF 'backsteplaw07.ConstfoldValue'. -/
def constfoldValueCard : Claim7 := { stood := { row := constfoldValueRow, standIns := [], harness := (true, "39bfe829a42e08819bd7f2833ba6f9eea79ad3c137b5a2ab8225ecd48ca916f7"), looks := false }, kinds := [], alts := [], laidByText := true, laidKinds := [.listed, .data], laidTests := true, laidLooks := .later }
def ConstfoldValueCardSaid : Prop := Claim7.holds Tryd.pinned (.plain (OpenSpec.ofChange constfoldValueSpec)) constfoldValueCard

/-- THE TIED CARD OF 'backsteplaw07.ConstfoldLiteral'. -/
def constfoldLiteralCard : Claim7 := { stood := { row := constfoldLiteralRow, standIns := [], harness := (true, "39bfe829a42e08819bd7f2833ba6f9eea79ad3c137b5a2ab8225ecd48ca916f7"), looks := false }, kinds := [], alts := [], laidByText := true, laidKinds := [.listed, .data], laidTests := true, laidLooks := .later }
def ConstfoldLiteralCardSaid : Prop := Claim7.holds Tryd.pinned (.plain (OpenSpec.ofChange constfoldLiteralSpec)) constfoldLiteralCard

/-- THE TIED CARD OF 'backsteplaw07.ConstfoldParts'. -/
def constfoldPartsCard : Claim7 := { stood := { row := constfoldPartsRow, standIns := [], harness := (true, "39bfe829a42e08819bd7f2833ba6f9eea79ad3c137b5a2ab8225ecd48ca916f7"), looks := false }, kinds := [], alts := [], laidByText := true, laidKinds := [.listed, .data], laidTests := true, laidLooks := .later }
def ConstfoldPartsCardSaid : Prop := Claim7.holds Tryd.pinned (.plain (OpenSpec.ofChange constfoldPartsSpec)) constfoldPartsCard

/-- THE TIED CARD OF 'backsteplaw07.ConstfoldSmaller'. -/
def constfoldSmallerCard : Claim7 := { stood := { row := constfoldSmallerRow, standIns := [], harness := (true, "39bfe829a42e08819bd7f2833ba6f9eea79ad3c137b5a2ab8225ecd48ca916f7"), looks := false }, kinds := [], alts := [], laidByText := true, laidKinds := [.listed, .data], laidTests := true, laidLooks := .later }
def ConstfoldSmallerCardSaid : Prop := Claim7.holds Tryd.pinned (.plain (OpenSpec.ofChange constfoldSmallerSpec)) constfoldSmallerCard

/-- THE TIED CARD OF 'backsteplaw07.ConstfoldTwice'. -/
def constfoldTwiceCard : Claim7 := { stood := { row := constfoldTwiceRow, standIns := [], harness := (true, "39bfe829a42e08819bd7f2833ba6f9eea79ad3c137b5a2ab8225ecd48ca916f7"), looks := false }, kinds := [], alts := [], laidByText := true, laidKinds := [.listed, .data], laidTests := true, laidLooks := .later }
def ConstfoldTwiceCardSaid : Prop := Claim7.holds Tryd.pinned (.plain (OpenSpec.ofChange constfoldTwiceSpec)) constfoldTwiceCard

/-- THE SECOND FORM's CARD OF 'backsteplaw13.EvalMentioned'. -/
def evalMentionedUptoCard : Claim7 := { stood := { row := evalMentionedUptoRow, standIns := [], harness := (true, "39bfe829a42e08819bd7f2833ba6f9eea79ad3c137b5a2ab8225ecd48ca916f7"), looks := false }, kinds := [], alts := [], laidByText := true, laidKinds := [.listed, .data], laidTests := true, laidLooks := .later }
def EvalMentionedUptoCardSaid : Prop := Claim7.holds Tryd.pinned (.plain (OpenSpec.upto evalMentionedSpec)) evalMentionedUptoCard

/-- THE SECOND FORM's CARD OF 'backsteplaw13.EvalStrict'. -/
def evalStrictUptoCard : Claim7 := { stood := { row := evalStrictUptoRow, standIns := [], harness := (true, "39bfe829a42e08819bd7f2833ba6f9eea79ad3c137b5a2ab8225ecd48ca916f7"), looks := false }, kinds := [], alts := [], laidByText := true, laidKinds := [.listed, .data], laidTests := true, laidLooks := .later }
def EvalStrictUptoCardSaid : Prop := Claim7.holds Tryd.pinned (.plain (OpenSpec.upto evalStrictSpec)) evalStrictUptoCard

/-- THE SECOND FORM's CARD OF 'backsteplaw13.EvalItems'. -/
def evalItemsUptoCard : Claim7 := { stood := { row := evalItemsUptoRow, standIns := [], harness := (true, "39bfe829a42e08819bd7f2833ba6f9eea79ad3c137b5a2ab8225ecd48ca916f7"), looks := false }, kinds := [], alts := [], laidByText := true, laidKinds := [.listed, .data], laidTests := true, laidLooks := .later }
def EvalItemsUptoCardSaid : Prop := Claim7.holds Tryd.pinned (.plain (OpenSpec.upto evalItemsSpec)) evalItemsUptoCard

/-- THE SECOND FORM's CARD OF 'backsteplaw13.EvalExprs'. -/
def evalExprsUptoCard : Claim7 := { stood := { row := evalExprsUptoRow, standIns := [], harness := (true, "39bfe829a42e08819bd7f2833ba6f9eea79ad3c137b5a2ab8225ecd48ca916f7"), looks := false }, kinds := [], alts := [], laidByText := true, laidKinds := [.listed, .data], laidTests := true, laidLooks := .later }
def EvalExprsUptoCardSaid : Prop := Claim7.holds Tryd.pinned (.plain (OpenSpec.upto evalExprsSpec)) evalExprsUptoCard

/-- THE SECOND FORM's CARD OF 'backsteplaw13.EvalIndex'. -/
def evalIndexUptoCard : Claim7 := { stood := { row := evalIndexUptoRow, standIns := [], harness := (true, "39bfe829a42e08819bd7f2833ba6f9eea79ad3c137b5a2ab8225ecd48ca916f7"), looks := false }, kinds := [], alts := [], laidByText := true, laidKinds := [.listed, .data], laidTests := true, laidLooks := .later }
def EvalIndexUptoCardSaid : Prop := Claim7.holds Tryd.pinned (.plain (OpenSpec.upto evalIndexSpec)) evalIndexUptoCard

/-- THE SECOND FORM's CARD OF 'backsteplaw13.EvalOwn'. -/
def evalOwnUptoCard : Claim7 := { stood := { row := evalOwnUptoRow, standIns := [], harness := (true, "39bfe829a42e08819bd7f2833ba6f9eea79ad3c137b5a2ab8225ecd48ca916f7"), looks := false }, kinds := [], alts := [], laidByText := true, laidKinds := [.listed, .data], laidTests := true, laidLooks := .later }
def EvalOwnUptoCardSaid : Prop := Claim7.holds Tryd.pinned (.plain (OpenSpec.upto evalOwnSpec)) evalOwnUptoCard

/-- THE SECOND FORM's CARD OF 'backsteplaw13.EvalConst'. -/
def evalConstUptoCard : Claim7 := { stood := { row := evalConstUptoRow, standIns := [], harness := (true, "39bfe829a42e08819bd7f2833ba6f9eea79ad3c137b5a2ab8225ecd48ca916f7"), looks := false }, kinds := [], alts := [], laidByText := true, laidKinds := [.listed, .data], laidTests := true, laidLooks := .later }
def EvalConstUptoCardSaid : Prop := Claim7.holds Tryd.pinned (.plain (OpenSpec.upto evalConstSpec)) evalConstUptoCard

/-- THE SECOND FORM's CARD OF 'backsteplaw13.EvalFolds'. -/
def evalFoldsUptoCard : Claim7 := { stood := { row := evalFoldsUptoRow, standIns := [], harness := (true, "39bfe829a42e08819bd7f2833ba6f9eea79ad3c137b5a2ab8225ecd48ca916f7"), looks := false }, kinds := [], alts := [], laidByText := true, laidKinds := [.listed, .data], laidTests := true, laidLooks := .later }
def EvalFoldsUptoCardSaid : Prop := Claim7.holds Tryd.pinned (.plain (OpenSpec.upto evalFoldsSpec)) evalFoldsUptoCard

/-- THE SECOND FORM's CARD OF 'backsteplaw07.ConstfoldConst'. -/
def constfoldConstUptoCard : Claim7 := { stood := { row := constfoldConstUptoRow, standIns := [], harness := (true, "39bfe829a42e08819bd7f2833ba6f9eea79ad3c137b5a2ab8225ecd48ca916f7"), looks := false }, kinds := [], alts := [], laidByText := true, laidKinds := [.listed, .data], laidTests := true, laidLooks := .later }
def ConstfoldConstUptoCardSaid : Prop := Claim7.holds Tryd.pinned (.plain (OpenSpec.upto constfoldConstSpec)) constfoldConstUptoCard

/-- THE SECOND FORM's CARD OF 'backsteplaw07.ConstfoldExpr'. -/
def constfoldExprUptoCard : Claim7 := { stood := { row := constfoldExprUptoRow, standIns := [], harness := (true, "39bfe829a42e08819bd7f2833ba6f9eea79ad3c137b5a2ab8225ecd48ca916f7"), looks := false }, kinds := [], alts := [], laidByText := true, laidKinds := [.listed, .data], laidTests := true, laidLooks := .later }
def ConstfoldExprUptoCardSaid : Prop := Claim7.holds Tryd.pinned (.plain (OpenSpec.upto constfoldExprSpec)) constfoldExprUptoCard

/-- THE SECOND FORM's CARD OF 'backsteplaw07.ConstfoldValue'. -/
def constfoldValueUptoCard : Claim7 := { stood := { row := constfoldValueUptoRow, standIns := [], harness := (true, "39bfe829a42e08819bd7f2833ba6f9eea79ad3c137b5a2ab8225ecd48ca916f7"), looks := false }, kinds := [], alts := [], laidByText := true, laidKinds := [.listed, .data], laidTests := true, laidLooks := .later }
def ConstfoldValueUptoCardSaid : Prop := Claim7.holds Tryd.pinned (.plain (OpenSpec.upto constfoldValueSpec)) constfoldValueUptoCard

/-- THE SECOND FORM's CARD OF 'backsteplaw07.ConstfoldLiteral'. -/
def constfoldLiteralUptoCard : Claim7 := { stood := { row := constfoldLiteralUptoRow, standIns := [], harness := (true, "39bfe829a42e08819bd7f2833ba6f9eea79ad3c137b5a2ab8225ecd48ca916f7"), looks := false }, kinds := [], alts := [], laidByText := true, laidKinds := [.listed, .data], laidTests := true, laidLooks := .later }
def ConstfoldLiteralUptoCardSaid : Prop := Claim7.holds Tryd.pinned (.plain (OpenSpec.upto constfoldLiteralSpec)) constfoldLiteralUptoCard

/-- THE SECOND FORM's CARD OF 'backsteplaw07.ConstfoldParts'. -/
def constfoldPartsUptoCard : Claim7 := { stood := { row := constfoldPartsUptoRow, standIns := [], harness := (true, "39bfe829a42e08819bd7f2833ba6f9eea79ad3c137b5a2ab8225ecd48ca916f7"), looks := false }, kinds := [], alts := [], laidByText := true, laidKinds := [.listed, .data], laidTests := true, laidLooks := .later }
def ConstfoldPartsUptoCardSaid : Prop := Claim7.holds Tryd.pinned (.plain (OpenSpec.upto constfoldPartsSpec)) constfoldPartsUptoCard

/-- THE SECOND FORM's CARD OF 'backsteplaw07.ConstfoldSmaller'. -/
def constfoldSmallerUptoCard : Claim7 := { stood := { row := constfoldSmallerUptoRow, standIns := [], harness := (true, "39bfe829a42e08819bd7f2833ba6f9eea79ad3c137b5a2ab8225ecd48ca916f7"), looks := false }, kinds := [], alts := [], laidByText := true, laidKinds := [.listed, .data], laidTests := true, laidLooks := .later }
def ConstfoldSmallerUptoCardSaid : Prop := Claim7.holds Tryd.pinned (.plain (OpenSpec.upto constfoldSmallerSpec)) constfoldSmallerUptoCard

/-- THE SECOND FORM's CARD OF 'backsteplaw07.ConstfoldTwice'. -/
def constfoldTwiceUptoCard : Claim7 := { stood := { row := constfoldTwiceUptoRow, standIns := [], harness := (true, "39bfe829a42e08819bd7f2833ba6f9eea79ad3c137b5a2ab8225ecd48ca916f7"), looks := false }, kinds := [], alts := [], laidByText := true, laidKinds := [.listed, .data], laidTests := true, laidLooks := .later }
def ConstfoldTwiceUptoCardSaid : Prop := Claim7.holds Tryd.pinned (.plain (OpenSpec.upto constfoldTwiceSpec)) constfoldTwiceUptoCard
end Rows
end Go.Proofs.YtjodlfhkabploaaDoor
