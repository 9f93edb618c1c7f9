/-
  NARROWER THAN 'FOR EVERY INPUT', by the rows' own cells (each row's printed sentence says how): AstKinds: loops, laid · AstWalk: loops, laid · AstEqual: loops, laid · AstClosed: loops, laid · AstClone: loops, laid · AstAt: loops, laid · AstValid: loops, laid · AstSame: loops, laid · AstReplace: loops, laid · AstLimits: loops, laid.
  DERIVED. THE GIVEN ROWS OF THIS SEAT. 10 by the template 'for every input the law returns true; each argument reads behind the call as it read before'; 0 by the template 'total and deterministic' (their statements: YtcmcgmcogknpfaaDoorTotals.lean).
  GIVEN WITH THE SEED: the statements are not yours to turn. If you find one false, say at which input.
  Laid BY PROGRAM, IN A SANDBOX (cutbox-rows.mjs): the forced cells as the released guide's own fill.sh prints them over the translation e437ee95701d3acc… (all of the seat's roots in one cut). By AI agents, Wed Nov 11 2026. No macro, syntax, notation, axiom, sorry.
-/
import Derived.Test.YtcmcgmcogknpfaaDoorChecked
import GoSem.Claim
import GoSem.ClaimJoined
import GoSem.ClaimMapViews
import Derived.JoinedTies
import Derived.KernelRfl
namespace Go.Proofs.YtcmcgmcogknpfaaDoor
/- THE CELL 'sum', in the pinned program and in every row, IS THE sha256 OF THE DUMP (.gsa) THAT YtcmcgmcogknpfaaDoorProg.lean LOADS. Nothing in Lean hashes anything: it is a label: what it is worth is what the hold of that sum in a sandbox is worth. -/
noncomputable def Tryd.pinned : Pinned := { name := "ytcmcgmcogknpfaadoor", sum := "e437ee95701d3acc462e266e616d4b99b9b9a04c490c0cbc6bfc581fa85c6790", checked := Tryd.checked }
namespace Rows
def none {H : Type} : Left H := { results := [], args := [] }

/- WHAT THE LISTED PACKAGE-LEVEL VARIABLES READ AS WHEN THE CALL BEGINS. Each datum BY PROGRAM (the guide's laid-datum.mjs) off the statement by which the dump's own 'gosem.cut.vars' lays the variable. In a bare row this is a premise. The card (YtcmcgmcogknpfaaDoorCards.lean) ties it to the program's text. -/
def laid_unicode_White_Space {H : Type} : DataW H := .ptr (.agg [.slice [.agg [.lit (.int .u16 9), .lit (.int .u16 13), .lit (.int .u16 1)], .agg [.lit (.int .u16 32), .lit (.int .u16 133), .lit (.int .u16 101)], .agg [.lit (.int .u16 160), .lit (.int .u16 5760), .lit (.int .u16 5600)], .agg [.lit (.int .u16 8192), .lit (.int .u16 8202), .lit (.int .u16 1)], .agg [.lit (.int .u16 8232), .lit (.int .u16 8233), .lit (.int .u16 1)], .agg [.lit (.int .u16 8239), .lit (.int .u16 8287), .lit (.int .u16 48)], .agg [.lit (.int .u16 12288), .lit (.int .u16 12288), .lit (.int .u16 1)]] [], .nil, .lit (.int .i64 2)])
def laid_strings_asciiSpace {H : Type} : DataW H := .agg [.lit (.int .u8 0), .lit (.int .u8 0), .lit (.int .u8 0), .lit (.int .u8 0), .lit (.int .u8 0), .lit (.int .u8 0), .lit (.int .u8 0), .lit (.int .u8 0), .lit (.int .u8 0), .lit (.int .u8 1), .lit (.int .u8 1), .lit (.int .u8 1), .lit (.int .u8 1), .lit (.int .u8 1), .lit (.int .u8 0), .lit (.int .u8 0), .lit (.int .u8 0), .lit (.int .u8 0), .lit (.int .u8 0), .lit (.int .u8 0), .lit (.int .u8 0), .lit (.int .u8 0), .lit (.int .u8 0), .lit (.int .u8 0), .lit (.int .u8 0), .lit (.int .u8 0), .lit (.int .u8 0), .lit (.int .u8 0), .lit (.int .u8 0), .lit (.int .u8 0), .lit (.int .u8 0), .lit (.int .u8 0), .lit (.int .u8 1), .lit (.int .u8 0), .lit (.int .u8 0), .lit (.int .u8 0), .lit (.int .u8 0), .lit (.int .u8 0), .lit (.int .u8 0), .lit (.int .u8 0), .lit (.int .u8 0), .lit (.int .u8 0), .lit (.int .u8 0), .lit (.int .u8 0), .lit (.int .u8 0), .lit (.int .u8 0), .lit (.int .u8 0), .lit (.int .u8 0), .lit (.int .u8 0), .lit (.int .u8 0), .lit (.int .u8 0), .lit (.int .u8 0), .lit (.int .u8 0), .lit (.int .u8 0), .lit (.int .u8 0), .lit (.int .u8 0), .lit (.int .u8 0), .lit (.int .u8 0), .lit (.int .u8 0), .lit (.int .u8 0), .lit (.int .u8 0), .lit (.int .u8 0), .lit (.int .u8 0), .lit (.int .u8 0), .lit (.int .u8 0), .lit (.int .u8 0), .lit (.int .u8 0), .lit (.int .u8 0), .lit (.int .u8 0), .lit (.int .u8 0), .lit (.int .u8 0), .lit (.int .u8 0), .lit (.int .u8 0), .lit (.int .u8 0), .lit (.int .u8 0), .lit (.int .u8 0), .lit (.int .u8 0), .lit (.int .u8 0), .lit (.int .u8 0), .lit (.int .u8 0), .lit (.int .u8 0), .lit (.int .u8 0), .lit (.int .u8 0), .lit (.int .u8 0), .lit (.int .u8 0), .lit (.int .u8 0), .lit (.int .u8 0), .lit (.int .u8 0), .lit (.int .u8 0), .lit (.int .u8 0), .lit (.int .u8 0), .lit (.int .u8 0), .lit (.int .u8 0), .lit (.int .u8 0), .lit (.int .u8 0), .lit (.int .u8 0), .lit (.int .u8 0), .lit (.int .u8 0), .lit (.int .u8 0), .lit (.int .u8 0), .lit (.int .u8 0), .lit (.int .u8 0), .lit (.int .u8 0), .lit (.int .u8 0), .lit (.int .u8 0), .lit (.int .u8 0), .lit (.int .u8 0), .lit (.int .u8 0), .lit (.int .u8 0), .lit (.int .u8 0), .lit (.int .u8 0), .lit (.int .u8 0), .lit (.int .u8 0), .lit (.int .u8 0), .lit (.int .u8 0), .lit (.int .u8 0), .lit (.int .u8 0), .lit (.int .u8 0), .lit (.int .u8 0), .lit (.int .u8 0), .lit (.int .u8 0), .lit (.int .u8 0), .lit (.int .u8 0), .lit (.int .u8 0), .lit (.int .u8 0), .lit (.int .u8 0), .lit (.int .u8 0), .lit (.int .u8 0), .lit (.int .u8 0), .lit (.int .u8 0), .lit (.int .u8 0), .lit (.int .u8 0), .lit (.int .u8 0), .lit (.int .u8 0), .lit (.int .u8 0), .lit (.int .u8 0), .lit (.int .u8 0), .lit (.int .u8 0), .lit (.int .u8 0), .lit (.int .u8 0), .lit (.int .u8 0), .lit (.int .u8 0), .lit (.int .u8 0), .lit (.int .u8 0), .lit (.int .u8 0), .lit (.int .u8 0), .lit (.int .u8 0), .lit (.int .u8 0), .lit (.int .u8 0), .lit (.int .u8 0), .lit (.int .u8 0), .lit (.int .u8 0), .lit (.int .u8 0), .lit (.int .u8 0), .lit (.int .u8 0), .lit (.int .u8 0), .lit (.int .u8 0), .lit (.int .u8 0), .lit (.int .u8 0), .lit (.int .u8 0), .lit (.int .u8 0), .lit (.int .u8 0), .lit (.int .u8 0), .lit (.int .u8 0), .lit (.int .u8 0), .lit (.int .u8 0), .lit (.int .u8 0), .lit (.int .u8 0), .lit (.int .u8 0), .lit (.int .u8 0), .lit (.int .u8 0), .lit (.int .u8 0), .lit (.int .u8 0), .lit (.int .u8 0), .lit (.int .u8 0), .lit (.int .u8 0), .lit (.int .u8 0), .lit (.int .u8 0), .lit (.int .u8 0), .lit (.int .u8 0), .lit (.int .u8 0), .lit (.int .u8 0), .lit (.int .u8 0), .lit (.int .u8 0), .lit (.int .u8 0), .lit (.int .u8 0), .lit (.int .u8 0), .lit (.int .u8 0), .lit (.int .u8 0), .lit (.int .u8 0), .lit (.int .u8 0), .lit (.int .u8 0), .lit (.int .u8 0), .lit (.int .u8 0), .lit (.int .u8 0), .lit (.int .u8 0), .lit (.int .u8 0), .lit (.int .u8 0), .lit (.int .u8 0), .lit (.int .u8 0), .lit (.int .u8 0), .lit (.int .u8 0), .lit (.int .u8 0), .lit (.int .u8 0), .lit (.int .u8 0), .lit (.int .u8 0), .lit (.int .u8 0), .lit (.int .u8 0), .lit (.int .u8 0), .lit (.int .u8 0), .lit (.int .u8 0), .lit (.int .u8 0), .lit (.int .u8 0), .lit (.int .u8 0), .lit (.int .u8 0), .lit (.int .u8 0), .lit (.int .u8 0), .lit (.int .u8 0), .lit (.int .u8 0), .lit (.int .u8 0), .lit (.int .u8 0), .lit (.int .u8 0), .lit (.int .u8 0), .lit (.int .u8 0), .lit (.int .u8 0), .lit (.int .u8 0), .lit (.int .u8 0), .lit (.int .u8 0), .lit (.int .u8 0), .lit (.int .u8 0), .lit (.int .u8 0), .lit (.int .u8 0), .lit (.int .u8 0), .lit (.int .u8 0), .lit (.int .u8 0), .lit (.int .u8 0), .lit (.int .u8 0), .lit (.int .u8 0), .lit (.int .u8 0), .lit (.int .u8 0), .lit (.int .u8 0), .lit (.int .u8 0), .lit (.int .u8 0), .lit (.int .u8 0), .lit (.int .u8 0), .lit (.int .u8 0), .lit (.int .u8 0), .lit (.int .u8 0), .lit (.int .u8 0), .lit (.int .u8 0), .lit (.int .u8 0), .lit (.int .u8 0), .lit (.int .u8 0), .lit (.int .u8 0), .lit (.int .u8 0), .lit (.int .u8 0)]

/-- 'backsteplaw03.AstKinds': WHATEVER THE INPUT: true; the input reads as it did. -/
def astKindsSpec : ChangeSpec := { name := "astKinds", fn := fun _ => fun
  | [d] => { results := [.lit (.bool true)], args := [d] }
  | _ => none }
def astKindsRow : OpenClaim := { program := "ytcmcgmcogknpfaadoor", sum := "e437ee95701d3acc462e266e616d4b99b9b9a04c490c0cbc6bfc581fa85c6790", func := "backstep/backsteplaw03.AstKinds", spec := "astKinds", unfollowed := true, recurses := true, named := ["strings.asciiSpace", "unicode.White_Space"], loops := true, apart := false, laid := [("unicode.White_Space", laid_unicode_White_Space), ("strings.asciiSpace", laid_strings_asciiSpace)] }
def AstKindsSaid : Prop := astKindsRow.holds Tryd.pinned (OpenSpec.ofChange astKindsSpec)

/-- ITS FALSE NEIGHBOUR: 'it returns false'. Refute it at one input. -/
def astKindsWrong : ChangeSpec := { name := "astKinds", fn := fun _ => fun
  | [d] => { results := [.lit (.bool false)], args := [d] }
  | _ => none }
def AstKindsWrongFalsely : Prop := astKindsRow.holds Tryd.pinned (OpenSpec.ofChange astKindsWrong)

/-- 'backsteplaw03.AstWalk': WHATEVER THE INPUT: true; the input reads as it did. -/
def astWalkSpec : ChangeSpec := { name := "astWalk", fn := fun _ => fun
  | [d1, d2] => { results := [.lit (.bool true)], args := [d1, d2] }
  | _ => none }
def astWalkRow : OpenClaim := { program := "ytcmcgmcogknpfaadoor", sum := "e437ee95701d3acc462e266e616d4b99b9b9a04c490c0cbc6bfc581fa85c6790", func := "backstep/backsteplaw03.AstWalk", spec := "astWalk", unfollowed := true, recurses := true, named := ["strings.asciiSpace", "unicode.White_Space"], loops := true, apart := false, laid := [("unicode.White_Space", laid_unicode_White_Space), ("strings.asciiSpace", laid_strings_asciiSpace)] }
def AstWalkSaid : Prop := astWalkRow.holds Tryd.pinned (OpenSpec.ofChange astWalkSpec)

/-- ITS FALSE NEIGHBOUR: 'it returns false'. Refute it at one input. -/
def astWalkWrong : ChangeSpec := { name := "astWalk", fn := fun _ => fun
  | [d1, d2] => { results := [.lit (.bool false)], args := [d1, d2] }
  | _ => none }
def AstWalkWrongFalsely : Prop := astWalkRow.holds Tryd.pinned (OpenSpec.ofChange astWalkWrong)

/-- 'backsteplaw03.AstEqual': WHATEVER THE INPUT: true; the input reads as it did. -/
def astEqualSpec : ChangeSpec := { name := "astEqual", fn := fun _ => fun
  | [d1, d2, d3] => { results := [.lit (.bool true)], args := [d1, d2, d3] }
  | _ => none }
def astEqualRow : OpenClaim := { program := "ytcmcgmcogknpfaadoor", sum := "e437ee95701d3acc462e266e616d4b99b9b9a04c490c0cbc6bfc581fa85c6790", func := "backstep/backsteplaw03.AstEqual", spec := "astEqual", unfollowed := true, recurses := true, named := ["strings.asciiSpace", "unicode.White_Space"], loops := true, apart := false, laid := [("unicode.White_Space", laid_unicode_White_Space), ("strings.asciiSpace", laid_strings_asciiSpace)] }
def AstEqualSaid : Prop := astEqualRow.holds Tryd.pinned (OpenSpec.ofChange astEqualSpec)

/-- ITS FALSE NEIGHBOUR: 'it returns false'. Refute it at one input. -/
def astEqualWrong : ChangeSpec := { name := "astEqual", fn := fun _ => fun
  | [d1, d2, d3] => { results := [.lit (.bool false)], args := [d1, d2, d3] }
  | _ => none }
def AstEqualWrongFalsely : Prop := astEqualRow.holds Tryd.pinned (OpenSpec.ofChange astEqualWrong)

/-- 'backsteplaw03.AstClosed': WHATEVER THE INPUT: true; the input reads as it did. -/
def astClosedSpec : ChangeSpec := { name := "astClosed", fn := fun _ => fun
  | [d1, d2, d3, d4] => { results := [.lit (.bool true)], args := [d1, d2, d3, d4] }
  | _ => none }
def astClosedRow : OpenClaim := { program := "ytcmcgmcogknpfaadoor", sum := "e437ee95701d3acc462e266e616d4b99b9b9a04c490c0cbc6bfc581fa85c6790", func := "backstep/backsteplaw03.AstClosed", spec := "astClosed", unfollowed := true, recurses := true, named := ["strings.asciiSpace", "unicode.White_Space"], loops := true, apart := false, laid := [("unicode.White_Space", laid_unicode_White_Space), ("strings.asciiSpace", laid_strings_asciiSpace)] }
def AstClosedSaid : Prop := astClosedRow.holds Tryd.pinned (OpenSpec.ofChange astClosedSpec)

/-- ITS FALSE NEIGHBOUR: 'it returns false'. Refute it at one input. -/
def astClosedWrong : ChangeSpec := { name := "astClosed", fn := fun _ => fun
  | [d1, d2, d3, d4] => { results := [.lit (.bool false)], args := [d1, d2, d3, d4] }
  | _ => none }
def AstClosedWrongFalsely : Prop := astClosedRow.holds Tryd.pinned (OpenSpec.ofChange astClosedWrong)

/-- 'backsteplaw03.AstClone': WHATEVER THE INPUT: true; the input reads as it did. -/
def astCloneSpec : ChangeSpec := { name := "astClone", fn := fun _ => fun
  | [d1, d2] => { results := [.lit (.bool true)], args := [d1, d2] }
  | _ => none }
def astCloneRow : OpenClaim := { program := "ytcmcgmcogknpfaadoor", sum := "e437ee95701d3acc462e266e616d4b99b9b9a04c490c0cbc6bfc581fa85c6790", func := "backstep/backsteplaw03.AstClone", spec := "astClone", unfollowed := true, recurses := true, named := ["strings.asciiSpace", "unicode.White_Space"], loops := true, apart := false, laid := [("unicode.White_Space", laid_unicode_White_Space), ("strings.asciiSpace", laid_strings_asciiSpace)] }
def AstCloneSaid : Prop := astCloneRow.holds Tryd.pinned (OpenSpec.ofChange astCloneSpec)

/-- ITS FALSE NEIGHBOUR: 'it returns false'. Refute it at one input. -/
def astCloneWrong : ChangeSpec := { name := "astClone", fn := fun _ => fun
  | [d1, d2] => { results := [.lit (.bool false)], args := [d1, d2] }
  | _ => none }
def AstCloneWrongFalsely : Prop := astCloneRow.holds Tryd.pinned (OpenSpec.ofChange astCloneWrong)

/-- 'backsteplaw03.AstAt': WHATEVER THE INPUT: true; the input reads as it did. -/
def astAtSpec : ChangeSpec := { name := "astAt", fn := fun _ => fun
  | [d1, d2, d3] => { results := [.lit (.bool true)], args := [d1, d2, d3] }
  | _ => none }
def astAtRow : OpenClaim := { program := "ytcmcgmcogknpfaadoor", sum := "e437ee95701d3acc462e266e616d4b99b9b9a04c490c0cbc6bfc581fa85c6790", func := "backstep/backsteplaw03.AstAt", spec := "astAt", unfollowed := true, recurses := true, named := ["strings.asciiSpace", "unicode.White_Space"], loops := true, apart := false, laid := [("unicode.White_Space", laid_unicode_White_Space), ("strings.asciiSpace", laid_strings_asciiSpace)] }
def AstAtSaid : Prop := astAtRow.holds Tryd.pinned (OpenSpec.ofChange astAtSpec)

/-- ITS FALSE NEIGHBOUR: 'it returns false'. Refute it at one input. -/
def astAtWrong : ChangeSpec := { name := "astAt", fn := fun _ => fun
  | [d1, d2, d3] => { results := [.lit (.bool false)], args := [d1, d2, d3] }
  | _ => none }
def AstAtWrongFalsely : Prop := astAtRow.holds Tryd.pinned (OpenSpec.ofChange astAtWrong)

/-- 'backsteplaw03.AstValid': WHATEVER THE INPUT: true; the input reads as it did. -/
def astValidSpec : ChangeSpec := { name := "astValid", fn := fun _ => fun
  | [d] => { results := [.lit (.bool true)], args := [d] }
  | _ => none }
def astValidRow : OpenClaim := { program := "ytcmcgmcogknpfaadoor", sum := "e437ee95701d3acc462e266e616d4b99b9b9a04c490c0cbc6bfc581fa85c6790", func := "backstep/backsteplaw03.AstValid", spec := "astValid", unfollowed := true, recurses := true, named := ["strings.asciiSpace", "unicode.White_Space"], loops := true, apart := false, laid := [("unicode.White_Space", laid_unicode_White_Space), ("strings.asciiSpace", laid_strings_asciiSpace)] }
def AstValidSaid : Prop := astValidRow.holds Tryd.pinned (OpenSpec.ofChange astValidSpec)

/-- ITS FALSE NEIGHBOUR: 'it returns false'. Refute it at one input. -/
def astValidWrong : ChangeSpec := { name := "astValid", fn := fun _ => fun
  | [d] => { results := [.lit (.bool false)], args := [d] }
  | _ => none }
def AstValidWrongFalsely : Prop := astValidRow.holds Tryd.pinned (OpenSpec.ofChange astValidWrong)

/-- 'backsteplaw03.AstSame': WHATEVER THE INPUT: true; the input reads as it did. -/
def astSameSpec : ChangeSpec := { name := "astSame", fn := fun _ => fun
  | [d1, d2] => { results := [.lit (.bool true)], args := [d1, d2] }
  | _ => none }
def astSameRow : OpenClaim := { program := "ytcmcgmcogknpfaadoor", sum := "e437ee95701d3acc462e266e616d4b99b9b9a04c490c0cbc6bfc581fa85c6790", func := "backstep/backsteplaw03.AstSame", spec := "astSame", unfollowed := true, recurses := true, named := ["strings.asciiSpace", "unicode.White_Space"], loops := true, apart := false, laid := [("unicode.White_Space", laid_unicode_White_Space), ("strings.asciiSpace", laid_strings_asciiSpace)] }
def AstSameSaid : Prop := astSameRow.holds Tryd.pinned (OpenSpec.ofChange astSameSpec)

/-- ITS FALSE NEIGHBOUR: 'it returns false'. Refute it at one input. -/
def astSameWrong : ChangeSpec := { name := "astSame", fn := fun _ => fun
  | [d1, d2] => { results := [.lit (.bool false)], args := [d1, d2] }
  | _ => none }
def AstSameWrongFalsely : Prop := astSameRow.holds Tryd.pinned (OpenSpec.ofChange astSameWrong)

/-- 'backsteplaw03.AstReplace': WHATEVER THE INPUT: true; the input reads as it did. -/
def astReplaceSpec : ChangeSpec := { name := "astReplace", fn := fun _ => fun
  | [d1, d2, d3] => { results := [.lit (.bool true)], args := [d1, d2, d3] }
  | _ => none }
def astReplaceRow : OpenClaim := { program := "ytcmcgmcogknpfaadoor", sum := "e437ee95701d3acc462e266e616d4b99b9b9a04c490c0cbc6bfc581fa85c6790", func := "backstep/backsteplaw03.AstReplace", spec := "astReplace", unfollowed := true, recurses := true, named := ["strings.asciiSpace", "unicode.White_Space"], loops := true, apart := false, laid := [("unicode.White_Space", laid_unicode_White_Space), ("strings.asciiSpace", laid_strings_asciiSpace)] }
def AstReplaceSaid : Prop := astReplaceRow.holds Tryd.pinned (OpenSpec.ofChange astReplaceSpec)

/-- ITS FALSE NEIGHBOUR: 'it returns false'. Refute it at one input. -/
def astReplaceWrong : ChangeSpec := { name := "astReplace", fn := fun _ => fun
  | [d1, d2, d3] => { results := [.lit (.bool false)], args := [d1, d2, d3] }
  | _ => none }
def AstReplaceWrongFalsely : Prop := astReplaceRow.holds Tryd.pinned (OpenSpec.ofChange astReplaceWrong)

/-- 'backsteplaw03.AstLimits': WHATEVER THE INPUT: true; the input reads as it did. -/
def astLimitsSpec : ChangeSpec := { name := "astLimits", fn := fun _ => fun
  | [d1, d2] => { results := [.lit (.bool true)], args := [d1, d2] }
  | _ => none }
def astLimitsRow : OpenClaim := { program := "ytcmcgmcogknpfaadoor", sum := "e437ee95701d3acc462e266e616d4b99b9b9a04c490c0cbc6bfc581fa85c6790", func := "backstep/backsteplaw03.AstLimits", spec := "astLimits", unfollowed := true, recurses := true, named := ["strings.asciiSpace", "unicode.White_Space"], loops := true, apart := false, laid := [("unicode.White_Space", laid_unicode_White_Space), ("strings.asciiSpace", laid_strings_asciiSpace)] }
def AstLimitsSaid : Prop := astLimitsRow.holds Tryd.pinned (OpenSpec.ofChange astLimitsSpec)

/-- ITS FALSE NEIGHBOUR: 'it returns false'. Refute it at one input. -/
def astLimitsWrong : ChangeSpec := { name := "astLimits", fn := fun _ => fun
  | [d1, d2] => { results := [.lit (.bool false)], args := [d1, d2] }
  | _ => none }
def AstLimitsWrongFalsely : Prop := astLimitsRow.holds Tryd.pinned (OpenSpec.ofChange astLimitsWrong)

/- THE SECOND FORM. 'bulk': how many values and letters a reading holds, each counted each time it is reached (what is shared counts as often as it is met; a slice's spare places count too). A statement '..UptoSaid' is the law's where the arguments, and the package variables that the reading takes, are together of bulk at most 1048576: NARROWER than '..Said'. Prove '..Said' where nothing that the law and all that it calls make is longer than what came in: it says more and counts as full. Else prove '..UptoSaid'. A law counts once. -/
mutual
def uptoBulk {H : Type} : DataW H → Nat
  | .lit (.string bytes) => bytes.length + 1
  | .lit _ => 1
  | .nil => 1
  | .ptr d => uptoBulk d + 1
  | .slice elems spare => uptoBulkAll elems + uptoBulkAll spare + 1
  | .agg parts => uptoBulkAll parts + 1
  | .iface _ d => uptoBulk d + 1
  | .map entries => uptoBulkEntries entries + 1
  | .held _ => 1
def uptoBulkAll {H : Type} : List (DataW H) → Nat
  | [] => 0
  | d :: r => uptoBulk d + uptoBulkAll r
def uptoBulkEntries {H : Type} : List (Lit × DataW H) → Nat
  | [] => 0
  | x :: r => uptoBulkEntry x + uptoBulkEntries r
def uptoBulkEntry {H : Type} : Lit × DataW H → Nat
  | (.string bytes, d) => bytes.length + uptoBulk d + 1
  | (_, d) => uptoBulk d + 1
 end
def uptoSmall : (H : Type) → List (DataW H) → Bool := fun _ ds => decide (uptoBulkAll ds ≤ 1048576)
def OpenSpec.upto (s : _root_.Go.ChangeSpec) : _root_.Go.OpenSpec := { _root_.Go.OpenSpec.ofChange s with cond := some uptoSmall }

/-- 'backsteplaw03.AstKinds', WHERE WHAT IT READS IS OF BULK AT MOST 1048576: true; the input reads as it did. -/
def astKindsUptoRow : OpenClaim := { program := "ytcmcgmcogknpfaadoor", sum := "e437ee95701d3acc462e266e616d4b99b9b9a04c490c0cbc6bfc581fa85c6790", func := "backstep/backsteplaw03.AstKinds", spec := "astKinds", unfollowed := true, recurses := true, named := ["strings.asciiSpace", "unicode.White_Space"], loops := true, apart := false, laid := [("unicode.White_Space", laid_unicode_White_Space), ("strings.asciiSpace", laid_strings_asciiSpace)], narrowed := true }
def AstKindsUptoSaid : Prop := astKindsUptoRow.holds Tryd.pinned (OpenSpec.upto astKindsSpec)

/-- 'backsteplaw03.AstWalk', WHERE WHAT IT READS IS OF BULK AT MOST 1048576: true; the input reads as it did. -/
def astWalkUptoRow : OpenClaim := { program := "ytcmcgmcogknpfaadoor", sum := "e437ee95701d3acc462e266e616d4b99b9b9a04c490c0cbc6bfc581fa85c6790", func := "backstep/backsteplaw03.AstWalk", spec := "astWalk", unfollowed := true, recurses := true, named := ["strings.asciiSpace", "unicode.White_Space"], loops := true, apart := false, laid := [("unicode.White_Space", laid_unicode_White_Space), ("strings.asciiSpace", laid_strings_asciiSpace)], narrowed := true }
def AstWalkUptoSaid : Prop := astWalkUptoRow.holds Tryd.pinned (OpenSpec.upto astWalkSpec)

/-- 'backsteplaw03.AstEqual', WHERE WHAT IT READS IS OF BULK AT MOST 1048576: true; the input reads as it did. -/
def astEqualUptoRow : OpenClaim := { program := "ytcmcgmcogknpfaadoor", sum := "e437ee95701d3acc462e266e616d4b99b9b9a04c490c0cbc6bfc581fa85c6790", func := "backstep/backsteplaw03.AstEqual", spec := "astEqual", unfollowed := true, recurses := true, named := ["strings.asciiSpace", "unicode.White_Space"], loops := true, apart := false, laid := [("unicode.White_Space", laid_unicode_White_Space), ("strings.asciiSpace", laid_strings_asciiSpace)], narrowed := true }
def AstEqualUptoSaid : Prop := astEqualUptoRow.holds Tryd.pinned (OpenSpec.upto astEqualSpec)

/-- 'backsteplaw03.AstClosed', WHERE WHAT IT READS IS OF BULK AT MOST 1048576: true; the input reads as it did. -/
def astClosedUptoRow : OpenClaim := { program := "ytcmcgmcogknpfaadoor", sum := "e437ee95701d3acc462e266e616d4b99b9b9a04c490c0cbc6bfc581fa85c6790", func := "backstep/backsteplaw03.AstClosed", spec := "astClosed", unfollowed := true, recurses := true, named := ["strings.asciiSpace", "unicode.White_Space"], loops := true, apart := false, laid := [("unicode.White_Space", laid_unicode_White_Space), ("strings.asciiSpace", laid_strings_asciiSpace)], narrowed := true }
def AstClosedUptoSaid : Prop := astClosedUptoRow.holds Tryd.pinned (OpenSpec.upto astClosedSpec)

/-- 'backsteplaw03.AstClone', WHERE WHAT IT READS IS OF BULK AT MOST 1048576: true; the input reads as it did. -/
def astCloneUptoRow : OpenClaim := { program := "ytcmcgmcogknpfaadoor", sum := "e437ee95701d3acc462e266e616d4b99b9b9a04c490c0cbc6bfc581fa85c6790", func := "backstep/backsteplaw03.AstClone", spec := "astClone", unfollowed := true, recurses := true, named := ["strings.asciiSpace", "unicode.White_Space"], loops := true, apart := false, laid := [("unicode.White_Space", laid_unicode_White_Space), ("strings.asciiSpace", laid_strings_asciiSpace)], narrowed := true }
def AstCloneUptoSaid : Prop := astCloneUptoRow.holds Tryd.pinned (OpenSpec.upto astCloneSpec)

/-- 'backsteplaw03.AstAt', WHERE WHAT IT READS IS OF BULK AT MOST 1048576: true; the input reads as it did. -/
def astAtUptoRow : OpenClaim := { program := "ytcmcgmcogknpfaadoor", sum := "e437ee95701d3acc462e266e616d4b99b9b9a04c490c0cbc6bfc581fa85c6790", func := "backstep/backsteplaw03.AstAt", spec := "astAt", unfollowed := true, recurses := true, named := ["strings.asciiSpace", "unicode.White_Space"], loops := true, apart := false, laid := [("unicode.White_Space", laid_unicode_White_Space), ("strings.asciiSpace", laid_strings_asciiSpace)], narrowed := true }
def AstAtUptoSaid : Prop := astAtUptoRow.holds Tryd.pinned (OpenSpec.upto astAtSpec)

/-- 'backsteplaw03.AstValid', WHERE WHAT IT READS IS OF BULK AT MOST 1048576: true; the input reads as it did. -/
def astValidUptoRow : OpenClaim := { program := "ytcmcgmcogknpfaadoor", sum := "e437ee95701d3acc462e266e616d4b99b9b9a04c490c0cbc6bfc581fa85c6790", func := "backstep/backsteplaw03.AstValid", spec := "astValid", unfollowed := true, recurses := true, named := ["strings.asciiSpace", "unicode.White_Space"], loops := true, apart := false, laid := [("unicode.White_Space", laid_unicode_White_Space), ("strings.asciiSpace", laid_strings_asciiSpace)], narrowed := true }
def AstValidUptoSaid : Prop := astValidUptoRow.holds Tryd.pinned (OpenSpec.upto astValidSpec)

/-- 'backsteplaw03.AstSame', WHERE WHAT IT READS IS OF BULK AT MOST 1048576: true; the input reads as it did. -/
def astSameUptoRow : OpenClaim := { program := "ytcmcgmcogknpfaadoor", sum := "e437ee95701d3acc462e266e616d4b99b9b9a04c490c0cbc6bfc581fa85c6790", func := "backstep/backsteplaw03.AstSame", spec := "astSame", unfollowed := true, recurses := true, named := ["strings.asciiSpace", "unicode.White_Space"], loops := true, apart := false, laid := [("unicode.White_Space", laid_unicode_White_Space), ("strings.asciiSpace", laid_strings_asciiSpace)], narrowed := true }
def AstSameUptoSaid : Prop := astSameUptoRow.holds Tryd.pinned (OpenSpec.upto astSameSpec)

/-- 'backsteplaw03.AstReplace', WHERE WHAT IT READS IS OF BULK AT MOST 1048576: true; the input reads as it did. -/
def astReplaceUptoRow : OpenClaim := { program := "ytcmcgmcogknpfaadoor", sum := "e437ee95701d3acc462e266e616d4b99b9b9a04c490c0cbc6bfc581fa85c6790", func := "backstep/backsteplaw03.AstReplace", spec := "astReplace", unfollowed := true, recurses := true, named := ["strings.asciiSpace", "unicode.White_Space"], loops := true, apart := false, laid := [("unicode.White_Space", laid_unicode_White_Space), ("strings.asciiSpace", laid_strings_asciiSpace)], narrowed := true }
def AstReplaceUptoSaid : Prop := astReplaceUptoRow.holds Tryd.pinned (OpenSpec.upto astReplaceSpec)

/-- 'backsteplaw03.AstLimits', WHERE WHAT IT READS IS OF BULK AT MOST 1048576: true; the input reads as it did. -/
def astLimitsUptoRow : OpenClaim := { program := "ytcmcgmcogknpfaadoor", sum := "e437ee95701d3acc462e266e616d4b99b9b9a04c490c0cbc6bfc581fa85c6790", func := "backstep/backsteplaw03.AstLimits", spec := "astLimits", unfollowed := true, recurses := true, named := ["strings.asciiSpace", "unicode.White_Space"], loops := true, apart := false, laid := [("unicode.White_Space", laid_unicode_White_Space), ("strings.asciiSpace", laid_strings_asciiSpace)], narrowed := true }
def AstLimitsUptoSaid : Prop := astLimitsUptoRow.holds Tryd.pinned (OpenSpec.upto astLimitsSpec)

end Rows
end Go.Proofs.YtcmcgmcogknpfaaDoor
