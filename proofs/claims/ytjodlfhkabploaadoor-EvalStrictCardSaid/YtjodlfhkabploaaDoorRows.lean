/-
  NARROWER THAN 'FOR EVERY INPUT', by the rows' own cells (each row's printed sentence says how): EvalMentioned: loops, laid · EvalStrict: loops, laid · EvalItems: laid · EvalExprs: loops, laid · EvalIndex: loops, laid · EvalOwn: loops, laid · EvalConst: loops, laid · EvalFolds: loops, laid · ConstfoldConst: loops, laid · ConstfoldExpr: loops, laid · ConstfoldValue: loops, maps, laid · ConstfoldLiteral: laid · ConstfoldParts: loops, laid · ConstfoldSmaller: loops, laid · ConstfoldTwice: loops, laid.
  DERIVED. THE GIVEN ROWS OF THIS SEAT. 15 by the template 'for every input the law returns true; each argument reads behind the call as it read before'; 0 by the template 'total and deterministic' (their statements: YtjodlfhkabploaaDoorTotals.lean).
  GIVEN WITH THE SEED: the statements are not yours to turn. If you find one false, say at which input.
  Laid BY PROGRAM, IN A SANDBOX (cutbox-rows.mjs): the forced cells as the released guide's own fill.sh prints them over the translation ba74a9ecdb4c4d98… (all of the seat's roots in one cut). By AI agents, Wed Nov 11 2026. No macro, syntax, notation, axiom, sorry.
-/
import Derived.Test.YtjodlfhkabploaaDoorChecked
import GoSem.Claim
import GoSem.ClaimJoined
import GoSem.ClaimMapViews
import Derived.JoinedTies
import Derived.KernelRfl
namespace Go.Proofs.YtjodlfhkabploaaDoor
/- THE CELL 'sum', in the pinned program and in every row, IS THE sha256 OF THE DUMP (.gsa) THAT YtjodlfhkabploaaDoorProg.lean LOADS. Nothing in Lean hashes anything: it is a label: what it is worth is what the hold of that sum in a sandbox is worth. -/
noncomputable def Tryd.pinned : Pinned := { name := "ytjodlfhkabploaadoor", sum := "ba74a9ecdb4c4d98e9902cc743e37e53b5dab2024133bf4f88f45154bb99b5ec", checked := Tryd.checked }
namespace Rows
def none {H : Type} : Left H := { results := [], args := [] }

/- WHAT THE LISTED PACKAGE-LEVEL VARIABLES READ AS WHEN THE CALL BEGINS. Each datum BY PROGRAM (the guide's laid-datum.mjs) off the statement by which the dump's own 'gosem.cut.vars' lays the variable. In a bare row this is a premise. The card (YtjodlfhkabploaaDoorCards.lean) ties it to the program's text. -/
def laid_unicode_White_Space {H : Type} : DataW H := .ptr (.agg [.slice [.agg [.lit (.int .u16 9), .lit (.int .u16 13), .lit (.int .u16 1)], .agg [.lit (.int .u16 32), .lit (.int .u16 133), .lit (.int .u16 101)], .agg [.lit (.int .u16 160), .lit (.int .u16 5760), .lit (.int .u16 5600)], .agg [.lit (.int .u16 8192), .lit (.int .u16 8202), .lit (.int .u16 1)], .agg [.lit (.int .u16 8232), .lit (.int .u16 8233), .lit (.int .u16 1)], .agg [.lit (.int .u16 8239), .lit (.int .u16 8287), .lit (.int .u16 48)], .agg [.lit (.int .u16 12288), .lit (.int .u16 12288), .lit (.int .u16 1)]] [], .nil, .lit (.int .i64 2)])
def laid_strings_asciiSpace {H : Type} : DataW H := .agg [.lit (.int .u8 0), .lit (.int .u8 0), .lit (.int .u8 0), .lit (.int .u8 0), .lit (.int .u8 0), .lit (.int .u8 0), .lit (.int .u8 0), .lit (.int .u8 0), .lit (.int .u8 0), .lit (.int .u8 1), .lit (.int .u8 1), .lit (.int .u8 1), .lit (.int .u8 1), .lit (.int .u8 1), .lit (.int .u8 0), .lit (.int .u8 0), .lit (.int .u8 0), .lit (.int .u8 0), .lit (.int .u8 0), .lit (.int .u8 0), .lit (.int .u8 0), .lit (.int .u8 0), .lit (.int .u8 0), .lit (.int .u8 0), .lit (.int .u8 0), .lit (.int .u8 0), .lit (.int .u8 0), .lit (.int .u8 0), .lit (.int .u8 0), .lit (.int .u8 0), .lit (.int .u8 0), .lit (.int .u8 0), .lit (.int .u8 1), .lit (.int .u8 0), .lit (.int .u8 0), .lit (.int .u8 0), .lit (.int .u8 0), .lit (.int .u8 0), .lit (.int .u8 0), .lit (.int .u8 0), .lit (.int .u8 0), .lit (.int .u8 0), .lit (.int .u8 0), .lit (.int .u8 0), .lit (.int .u8 0), .lit (.int .u8 0), .lit (.int .u8 0), .lit (.int .u8 0), .lit (.int .u8 0), .lit (.int .u8 0), .lit (.int .u8 0), .lit (.int .u8 0), .lit (.int .u8 0), .lit (.int .u8 0), .lit (.int .u8 0), .lit (.int .u8 0), .lit (.int .u8 0), .lit (.int .u8 0), .lit (.int .u8 0), .lit (.int .u8 0), .lit (.int .u8 0), .lit (.int .u8 0), .lit (.int .u8 0), .lit (.int .u8 0), .lit (.int .u8 0), .lit (.int .u8 0), .lit (.int .u8 0), .lit (.int .u8 0), .lit (.int .u8 0), .lit (.int .u8 0), .lit (.int .u8 0), .lit (.int .u8 0), .lit (.int .u8 0), .lit (.int .u8 0), .lit (.int .u8 0), .lit (.int .u8 0), .lit (.int .u8 0), .lit (.int .u8 0), .lit (.int .u8 0), .lit (.int .u8 0), .lit (.int .u8 0), .lit (.int .u8 0), .lit (.int .u8 0), .lit (.int .u8 0), .lit (.int .u8 0), .lit (.int .u8 0), .lit (.int .u8 0), .lit (.int .u8 0), .lit (.int .u8 0), .lit (.int .u8 0), .lit (.int .u8 0), .lit (.int .u8 0), .lit (.int .u8 0), .lit (.int .u8 0), .lit (.int .u8 0), .lit (.int .u8 0), .lit (.int .u8 0), .lit (.int .u8 0), .lit (.int .u8 0), .lit (.int .u8 0), .lit (.int .u8 0), .lit (.int .u8 0), .lit (.int .u8 0), .lit (.int .u8 0), .lit (.int .u8 0), .lit (.int .u8 0), .lit (.int .u8 0), .lit (.int .u8 0), .lit (.int .u8 0), .lit (.int .u8 0), .lit (.int .u8 0), .lit (.int .u8 0), .lit (.int .u8 0), .lit (.int .u8 0), .lit (.int .u8 0), .lit (.int .u8 0), .lit (.int .u8 0), .lit (.int .u8 0), .lit (.int .u8 0), .lit (.int .u8 0), .lit (.int .u8 0), .lit (.int .u8 0), .lit (.int .u8 0), .lit (.int .u8 0), .lit (.int .u8 0), .lit (.int .u8 0), .lit (.int .u8 0), .lit (.int .u8 0), .lit (.int .u8 0), .lit (.int .u8 0), .lit (.int .u8 0), .lit (.int .u8 0), .lit (.int .u8 0), .lit (.int .u8 0), .lit (.int .u8 0), .lit (.int .u8 0), .lit (.int .u8 0), .lit (.int .u8 0), .lit (.int .u8 0), .lit (.int .u8 0), .lit (.int .u8 0), .lit (.int .u8 0), .lit (.int .u8 0), .lit (.int .u8 0), .lit (.int .u8 0), .lit (.int .u8 0), .lit (.int .u8 0), .lit (.int .u8 0), .lit (.int .u8 0), .lit (.int .u8 0), .lit (.int .u8 0), .lit (.int .u8 0), .lit (.int .u8 0), .lit (.int .u8 0), .lit (.int .u8 0), .lit (.int .u8 0), .lit (.int .u8 0), .lit (.int .u8 0), .lit (.int .u8 0), .lit (.int .u8 0), .lit (.int .u8 0), .lit (.int .u8 0), .lit (.int .u8 0), .lit (.int .u8 0), .lit (.int .u8 0), .lit (.int .u8 0), .lit (.int .u8 0), .lit (.int .u8 0), .lit (.int .u8 0), .lit (.int .u8 0), .lit (.int .u8 0), .lit (.int .u8 0), .lit (.int .u8 0), .lit (.int .u8 0), .lit (.int .u8 0), .lit (.int .u8 0), .lit (.int .u8 0), .lit (.int .u8 0), .lit (.int .u8 0), .lit (.int .u8 0), .lit (.int .u8 0), .lit (.int .u8 0), .lit (.int .u8 0), .lit (.int .u8 0), .lit (.int .u8 0), .lit (.int .u8 0), .lit (.int .u8 0), .lit (.int .u8 0), .lit (.int .u8 0), .lit (.int .u8 0), .lit (.int .u8 0), .lit (.int .u8 0), .lit (.int .u8 0), .lit (.int .u8 0), .lit (.int .u8 0), .lit (.int .u8 0), .lit (.int .u8 0), .lit (.int .u8 0), .lit (.int .u8 0), .lit (.int .u8 0), .lit (.int .u8 0), .lit (.int .u8 0), .lit (.int .u8 0), .lit (.int .u8 0), .lit (.int .u8 0), .lit (.int .u8 0), .lit (.int .u8 0), .lit (.int .u8 0), .lit (.int .u8 0), .lit (.int .u8 0), .lit (.int .u8 0), .lit (.int .u8 0), .lit (.int .u8 0), .lit (.int .u8 0), .lit (.int .u8 0), .lit (.int .u8 0), .lit (.int .u8 0), .lit (.int .u8 0), .lit (.int .u8 0), .lit (.int .u8 0), .lit (.int .u8 0), .lit (.int .u8 0), .lit (.int .u8 0), .lit (.int .u8 0), .lit (.int .u8 0), .lit (.int .u8 0), .lit (.int .u8 0), .lit (.int .u8 0), .lit (.int .u8 0), .lit (.int .u8 0), .lit (.int .u8 0), .lit (.int .u8 0), .lit (.int .u8 0), .lit (.int .u8 0), .lit (.int .u8 0), .lit (.int .u8 0), .lit (.int .u8 0), .lit (.int .u8 0), .lit (.int .u8 0), .lit (.int .u8 0), .lit (.int .u8 0), .lit (.int .u8 0), .lit (.int .u8 0), .lit (.int .u8 0), .lit (.int .u8 0), .lit (.int .u8 0), .lit (.int .u8 0), .lit (.int .u8 0), .lit (.int .u8 0), .lit (.int .u8 0), .lit (.int .u8 0), .lit (.int .u8 0), .lit (.int .u8 0), .lit (.int .u8 0), .lit (.int .u8 0), .lit (.int .u8 0)]

/-- 'backsteplaw13.EvalMentioned': WHATEVER THE INPUT: true; the input reads as it did. -/
def evalMentionedSpec : ChangeSpec := { name := "evalMentioned", fn := fun _ => fun
  | [d1, d2, d3, d4] => { results := [.lit (.bool true)], args := [d1, d2, d3, d4] }
  | _ => none }
def evalMentionedRow : OpenClaim := { program := "ytjodlfhkabploaadoor", sum := "ba74a9ecdb4c4d98e9902cc743e37e53b5dab2024133bf4f88f45154bb99b5ec", func := "backstep/backsteplaw13.EvalMentioned", spec := "evalMentioned", unfollowed := true, recurses := true, named := ["strings.asciiSpace", "unicode.White_Space"], loops := true, apart := false, laid := [("unicode.White_Space", laid_unicode_White_Space), ("strings.asciiSpace", laid_strings_asciiSpace)] }
def EvalMentionedSaid : Prop := evalMentionedRow.holds Tryd.pinned (OpenSpec.ofChange evalMentionedSpec)

/-- ITS FALSE NEIGHBOUR: 'it returns false'. Refute it at one input. -/
def evalMentionedWrong : ChangeSpec := { name := "evalMentioned", fn := fun _ => fun
  | [d1, d2, d3, d4] => { results := [.lit (.bool false)], args := [d1, d2, d3, d4] }
  | _ => none }
def EvalMentionedWrongFalsely : Prop := evalMentionedRow.holds Tryd.pinned (OpenSpec.ofChange evalMentionedWrong)

/-- 'backsteplaw13.EvalStrict': WHATEVER THE INPUT: true; the input reads as it did. -/
def evalStrictSpec : ChangeSpec := { name := "evalStrict", fn := fun _ => fun
  | [d1, d2, d3, d4] => { results := [.lit (.bool true)], args := [d1, d2, d3, d4] }
  | _ => none }
def evalStrictRow : OpenClaim := { program := "ytjodlfhkabploaadoor", sum := "ba74a9ecdb4c4d98e9902cc743e37e53b5dab2024133bf4f88f45154bb99b5ec", func := "backstep/backsteplaw13.EvalStrict", spec := "evalStrict", unfollowed := true, recurses := true, named := ["strings.asciiSpace", "unicode.White_Space"], loops := true, apart := false, laid := [("unicode.White_Space", laid_unicode_White_Space), ("strings.asciiSpace", laid_strings_asciiSpace)] }
def EvalStrictSaid : Prop := evalStrictRow.holds Tryd.pinned (OpenSpec.ofChange evalStrictSpec)

/-- ITS FALSE NEIGHBOUR: 'it returns false'. Refute it at one input. -/
def evalStrictWrong : ChangeSpec := { name := "evalStrict", fn := fun _ => fun
  | [d1, d2, d3, d4] => { results := [.lit (.bool false)], args := [d1, d2, d3, d4] }
  | _ => none }
def EvalStrictWrongFalsely : Prop := evalStrictRow.holds Tryd.pinned (OpenSpec.ofChange evalStrictWrong)

/-- 'backsteplaw13.EvalItems': WHATEVER THE INPUT: true; the input reads as it did. -/
def evalItemsSpec : ChangeSpec := { name := "evalItems", fn := fun _ => fun
  | [d1, d2] => { results := [.lit (.bool true)], args := [d1, d2] }
  | _ => none }
def evalItemsRow : OpenClaim := { program := "ytjodlfhkabploaadoor", sum := "ba74a9ecdb4c4d98e9902cc743e37e53b5dab2024133bf4f88f45154bb99b5ec", func := "backstep/backsteplaw13.EvalItems", spec := "evalItems", unfollowed := true, recurses := true, named := ["strings.asciiSpace", "unicode.White_Space"], apart := false, laid := [("unicode.White_Space", laid_unicode_White_Space), ("strings.asciiSpace", laid_strings_asciiSpace)] }
def EvalItemsSaid : Prop := evalItemsRow.holds Tryd.pinned (OpenSpec.ofChange evalItemsSpec)

/-- ITS FALSE NEIGHBOUR: 'it returns false'. Refute it at one input. -/
def evalItemsWrong : ChangeSpec := { name := "evalItems", fn := fun _ => fun
  | [d1, d2] => { results := [.lit (.bool false)], args := [d1, d2] }
  | _ => none }
def EvalItemsWrongFalsely : Prop := evalItemsRow.holds Tryd.pinned (OpenSpec.ofChange evalItemsWrong)

/-- 'backsteplaw13.EvalExprs': WHATEVER THE INPUT: true; the input reads as it did. -/
def evalExprsSpec : ChangeSpec := { name := "evalExprs", fn := fun _ => fun
  | [d1, d2] => { results := [.lit (.bool true)], args := [d1, d2] }
  | _ => none }
def evalExprsRow : OpenClaim := { program := "ytjodlfhkabploaadoor", sum := "ba74a9ecdb4c4d98e9902cc743e37e53b5dab2024133bf4f88f45154bb99b5ec", func := "backstep/backsteplaw13.EvalExprs", spec := "evalExprs", unfollowed := true, recurses := true, named := ["strings.asciiSpace", "unicode.White_Space"], loops := true, apart := false, laid := [("unicode.White_Space", laid_unicode_White_Space), ("strings.asciiSpace", laid_strings_asciiSpace)] }
def EvalExprsSaid : Prop := evalExprsRow.holds Tryd.pinned (OpenSpec.ofChange evalExprsSpec)

/-- ITS FALSE NEIGHBOUR: 'it returns false'. Refute it at one input. -/
def evalExprsWrong : ChangeSpec := { name := "evalExprs", fn := fun _ => fun
  | [d1, d2] => { results := [.lit (.bool false)], args := [d1, d2] }
  | _ => none }
def EvalExprsWrongFalsely : Prop := evalExprsRow.holds Tryd.pinned (OpenSpec.ofChange evalExprsWrong)

/-- 'backsteplaw13.EvalIndex': WHATEVER THE INPUT: true; the input reads as it did. -/
def evalIndexSpec : ChangeSpec := { name := "evalIndex", fn := fun _ => fun
  | [d1, d2] => { results := [.lit (.bool true)], args := [d1, d2] }
  | _ => none }
def evalIndexRow : OpenClaim := { program := "ytjodlfhkabploaadoor", sum := "ba74a9ecdb4c4d98e9902cc743e37e53b5dab2024133bf4f88f45154bb99b5ec", func := "backstep/backsteplaw13.EvalIndex", spec := "evalIndex", unfollowed := true, recurses := true, named := ["strings.asciiSpace", "unicode.White_Space"], loops := true, apart := false, laid := [("unicode.White_Space", laid_unicode_White_Space), ("strings.asciiSpace", laid_strings_asciiSpace)] }
def EvalIndexSaid : Prop := evalIndexRow.holds Tryd.pinned (OpenSpec.ofChange evalIndexSpec)

/-- ITS FALSE NEIGHBOUR: 'it returns false'. Refute it at one input. -/
def evalIndexWrong : ChangeSpec := { name := "evalIndex", fn := fun _ => fun
  | [d1, d2] => { results := [.lit (.bool false)], args := [d1, d2] }
  | _ => none }
def EvalIndexWrongFalsely : Prop := evalIndexRow.holds Tryd.pinned (OpenSpec.ofChange evalIndexWrong)

/-- 'backsteplaw13.EvalOwn': WHATEVER THE INPUT: true; the input reads as it did. -/
def evalOwnSpec : ChangeSpec := { name := "evalOwn", fn := fun _ => fun
  | [d1, d2] => { results := [.lit (.bool true)], args := [d1, d2] }
  | _ => none }
def evalOwnRow : OpenClaim := { program := "ytjodlfhkabploaadoor", sum := "ba74a9ecdb4c4d98e9902cc743e37e53b5dab2024133bf4f88f45154bb99b5ec", func := "backstep/backsteplaw13.EvalOwn", spec := "evalOwn", unfollowed := true, recurses := true, named := ["strings.asciiSpace", "unicode.White_Space"], loops := true, apart := false, laid := [("unicode.White_Space", laid_unicode_White_Space), ("strings.asciiSpace", laid_strings_asciiSpace)] }
def EvalOwnSaid : Prop := evalOwnRow.holds Tryd.pinned (OpenSpec.ofChange evalOwnSpec)

/-- ITS FALSE NEIGHBOUR: 'it returns false'. Refute it at one input. -/
def evalOwnWrong : ChangeSpec := { name := "evalOwn", fn := fun _ => fun
  | [d1, d2] => { results := [.lit (.bool false)], args := [d1, d2] }
  | _ => none }
def EvalOwnWrongFalsely : Prop := evalOwnRow.holds Tryd.pinned (OpenSpec.ofChange evalOwnWrong)

/-- 'backsteplaw13.EvalConst': WHATEVER THE INPUT: true; the input reads as it did. -/
def evalConstSpec : ChangeSpec := { name := "evalConst", fn := fun _ => fun
  | [d1, d2] => { results := [.lit (.bool true)], args := [d1, d2] }
  | _ => none }
def evalConstRow : OpenClaim := { program := "ytjodlfhkabploaadoor", sum := "ba74a9ecdb4c4d98e9902cc743e37e53b5dab2024133bf4f88f45154bb99b5ec", func := "backstep/backsteplaw13.EvalConst", spec := "evalConst", unfollowed := true, recurses := true, named := ["strings.asciiSpace", "unicode.White_Space"], loops := true, apart := false, laid := [("unicode.White_Space", laid_unicode_White_Space), ("strings.asciiSpace", laid_strings_asciiSpace)] }
def EvalConstSaid : Prop := evalConstRow.holds Tryd.pinned (OpenSpec.ofChange evalConstSpec)

/-- ITS FALSE NEIGHBOUR: 'it returns false'. Refute it at one input. -/
def evalConstWrong : ChangeSpec := { name := "evalConst", fn := fun _ => fun
  | [d1, d2] => { results := [.lit (.bool false)], args := [d1, d2] }
  | _ => none }
def EvalConstWrongFalsely : Prop := evalConstRow.holds Tryd.pinned (OpenSpec.ofChange evalConstWrong)

/-- 'backsteplaw13.EvalFolds': WHATEVER THE INPUT: true; the input reads as it did. -/
def evalFoldsSpec : ChangeSpec := { name := "evalFolds", fn := fun _ => fun
  | [d1, d2] => { results := [.lit (.bool true)], args := [d1, d2] }
  | _ => none }
def evalFoldsRow : OpenClaim := { program := "ytjodlfhkabploaadoor", sum := "ba74a9ecdb4c4d98e9902cc743e37e53b5dab2024133bf4f88f45154bb99b5ec", func := "backstep/backsteplaw13.EvalFolds", spec := "evalFolds", unfollowed := true, recurses := true, named := ["strings.asciiSpace", "unicode.White_Space"], loops := true, apart := false, laid := [("unicode.White_Space", laid_unicode_White_Space), ("strings.asciiSpace", laid_strings_asciiSpace)] }
def EvalFoldsSaid : Prop := evalFoldsRow.holds Tryd.pinned (OpenSpec.ofChange evalFoldsSpec)

/-- ITS FALSE NEIGHBOUR: 'it returns false'. Refute it at one input. -/
def evalFoldsWrong : ChangeSpec := { name := "evalFolds", fn := fun _ => fun
  | [d1, d2] => { results := [.lit (.bool false)], args := [d1, d2] }
  | _ => none }
def EvalFoldsWrongFalsely : Prop := evalFoldsRow.holds Tryd.pinned (OpenSpec.ofChange evalFoldsWrong)

/-- 'backsteplaw07.ConstfoldConst': WHATEVER THE INPUT: true; the input reads as it did. -/
def constfoldConstSpec : ChangeSpec := { name := "constfoldConst", fn := fun _ => fun
  | [d] => { results := [.lit (.bool true)], args := [d] }
  | _ => none }
def constfoldConstRow : OpenClaim := { program := "ytjodlfhkabploaadoor", sum := "ba74a9ecdb4c4d98e9902cc743e37e53b5dab2024133bf4f88f45154bb99b5ec", func := "backstep/backsteplaw07.ConstfoldConst", spec := "constfoldConst", unfollowed := true, recurses := true, named := ["strings.asciiSpace", "unicode.White_Space"], loops := true, apart := false, laid := [("unicode.White_Space", laid_unicode_White_Space), ("strings.asciiSpace", laid_strings_asciiSpace)] }
def ConstfoldConstSaid : Prop := constfoldConstRow.holds Tryd.pinned (OpenSpec.ofChange constfoldConstSpec)

/-- ITS FALSE NEIGHBOUR: 'it returns false'. Refute it at one input. -/
def constfoldConstWrong : ChangeSpec := { name := "constfoldConst", fn := fun _ => fun
  | [d] => { results := [.lit (.bool false)], args := [d] }
  | _ => none }
def ConstfoldConstWrongFalsely : Prop := constfoldConstRow.holds Tryd.pinned (OpenSpec.ofChange constfoldConstWrong)

/-- 'backsteplaw07.ConstfoldExpr': WHATEVER THE INPUT: true; the input reads as it did. -/
def constfoldExprSpec : ChangeSpec := { name := "constfoldExpr", fn := fun _ => fun
  | [d] => { results := [.lit (.bool true)], args := [d] }
  | _ => none }
def constfoldExprRow : OpenClaim := { program := "ytjodlfhkabploaadoor", sum := "ba74a9ecdb4c4d98e9902cc743e37e53b5dab2024133bf4f88f45154bb99b5ec", func := "backstep/backsteplaw07.ConstfoldExpr", spec := "constfoldExpr", unfollowed := true, recurses := true, named := ["strings.asciiSpace", "unicode.White_Space"], loops := true, apart := false, laid := [("unicode.White_Space", laid_unicode_White_Space), ("strings.asciiSpace", laid_strings_asciiSpace)] }
def ConstfoldExprSaid : Prop := constfoldExprRow.holds Tryd.pinned (OpenSpec.ofChange constfoldExprSpec)

/-- ITS FALSE NEIGHBOUR: 'it returns false'. Refute it at one input. -/
def constfoldExprWrong : ChangeSpec := { name := "constfoldExpr", fn := fun _ => fun
  | [d] => { results := [.lit (.bool false)], args := [d] }
  | _ => none }
def ConstfoldExprWrongFalsely : Prop := constfoldExprRow.holds Tryd.pinned (OpenSpec.ofChange constfoldExprWrong)

/-- 'backsteplaw07.ConstfoldValue': WHATEVER THE INPUT: true; the input reads as it did. -/
def constfoldValueSpec : ChangeSpec := { name := "constfoldValue", fn := fun _ => fun
  | [d1, d2] => { results := [.lit (.bool true)], args := [d1, d2] }
  | _ => none }
def constfoldValueRow : OpenClaim := { program := "ytjodlfhkabploaadoor", sum := "ba74a9ecdb4c4d98e9902cc743e37e53b5dab2024133bf4f88f45154bb99b5ec", func := "backstep/backsteplaw07.ConstfoldValue", spec := "constfoldValue", unfollowed := true, recurses := true, named := ["strings.asciiSpace", "unicode.White_Space"], maps := true, loops := true, apart := false, laid := [("unicode.White_Space", laid_unicode_White_Space), ("strings.asciiSpace", laid_strings_asciiSpace)] }
def ConstfoldValueSaid : Prop := constfoldValueRow.holds Tryd.pinned (OpenSpec.ofChange constfoldValueSpec)

/-- ITS FALSE NEIGHBOUR: 'it returns false'. Refute it at one input. -/
def constfoldValueWrong : ChangeSpec := { name := "constfoldValue", fn := fun _ => fun
  | [d1, d2] => { results := [.lit (.bool false)], args := [d1, d2] }
  | _ => none }
def ConstfoldValueWrongFalsely : Prop := constfoldValueRow.holds Tryd.pinned (OpenSpec.ofChange constfoldValueWrong)

/-- 'backsteplaw07.ConstfoldLiteral': WHATEVER THE INPUT: true; the input reads as it did. -/
def constfoldLiteralSpec : ChangeSpec := { name := "constfoldLiteral", fn := fun _ => fun
  | [d1, d2] => { results := [.lit (.bool true)], args := [d1, d2] }
  | _ => none }
def constfoldLiteralRow : OpenClaim := { program := "ytjodlfhkabploaadoor", sum := "ba74a9ecdb4c4d98e9902cc743e37e53b5dab2024133bf4f88f45154bb99b5ec", func := "backstep/backsteplaw07.ConstfoldLiteral", spec := "constfoldLiteral", unfollowed := true, recurses := true, named := ["strings.asciiSpace", "unicode.White_Space"], apart := false, laid := [("unicode.White_Space", laid_unicode_White_Space), ("strings.asciiSpace", laid_strings_asciiSpace)] }
def ConstfoldLiteralSaid : Prop := constfoldLiteralRow.holds Tryd.pinned (OpenSpec.ofChange constfoldLiteralSpec)

/-- ITS FALSE NEIGHBOUR: 'it returns false'. Refute it at one input. -/
def constfoldLiteralWrong : ChangeSpec := { name := "constfoldLiteral", fn := fun _ => fun
  | [d1, d2] => { results := [.lit (.bool false)], args := [d1, d2] }
  | _ => none }
def ConstfoldLiteralWrongFalsely : Prop := constfoldLiteralRow.holds Tryd.pinned (OpenSpec.ofChange constfoldLiteralWrong)

/-- 'backsteplaw07.ConstfoldParts': WHATEVER THE INPUT: true; the input reads as it did. -/
def constfoldPartsSpec : ChangeSpec := { name := "constfoldParts", fn := fun _ => fun
  | [d] => { results := [.lit (.bool true)], args := [d] }
  | _ => none }
def constfoldPartsRow : OpenClaim := { program := "ytjodlfhkabploaadoor", sum := "ba74a9ecdb4c4d98e9902cc743e37e53b5dab2024133bf4f88f45154bb99b5ec", func := "backstep/backsteplaw07.ConstfoldParts", spec := "constfoldParts", unfollowed := true, recurses := true, named := ["strings.asciiSpace", "unicode.White_Space"], loops := true, apart := false, laid := [("unicode.White_Space", laid_unicode_White_Space), ("strings.asciiSpace", laid_strings_asciiSpace)] }
def ConstfoldPartsSaid : Prop := constfoldPartsRow.holds Tryd.pinned (OpenSpec.ofChange constfoldPartsSpec)

/-- ITS FALSE NEIGHBOUR: 'it returns false'. Refute it at one input. -/
def constfoldPartsWrong : ChangeSpec := { name := "constfoldParts", fn := fun _ => fun
  | [d] => { results := [.lit (.bool false)], args := [d] }
  | _ => none }
def ConstfoldPartsWrongFalsely : Prop := constfoldPartsRow.holds Tryd.pinned (OpenSpec.ofChange constfoldPartsWrong)

/-- 'backsteplaw07.ConstfoldSmaller': WHATEVER THE INPUT: true; the input reads as it did. -/
def constfoldSmallerSpec : ChangeSpec := { name := "constfoldSmaller", fn := fun _ => fun
  | [d] => { results := [.lit (.bool true)], args := [d] }
  | _ => none }
def constfoldSmallerRow : OpenClaim := { program := "ytjodlfhkabploaadoor", sum := "ba74a9ecdb4c4d98e9902cc743e37e53b5dab2024133bf4f88f45154bb99b5ec", func := "backstep/backsteplaw07.ConstfoldSmaller", spec := "constfoldSmaller", unfollowed := true, recurses := true, named := ["strings.asciiSpace", "unicode.White_Space"], loops := true, apart := false, laid := [("unicode.White_Space", laid_unicode_White_Space), ("strings.asciiSpace", laid_strings_asciiSpace)] }
def ConstfoldSmallerSaid : Prop := constfoldSmallerRow.holds Tryd.pinned (OpenSpec.ofChange constfoldSmallerSpec)

/-- ITS FALSE NEIGHBOUR: 'it returns false'. Refute it at one input. -/
def constfoldSmallerWrong : ChangeSpec := { name := "constfoldSmaller", fn := fun _ => fun
  | [d] => { results := [.lit (.bool false)], args := [d] }
  | _ => none }
def ConstfoldSmallerWrongFalsely : Prop := constfoldSmallerRow.holds Tryd.pinned (OpenSpec.ofChange constfoldSmallerWrong)

/-- 'backsteplaw07.ConstfoldTwice': WHATEVER THE INPUT: true; the input reads as it did. -/
def constfoldTwiceSpec : ChangeSpec := { name := "constfoldTwice", fn := fun _ => fun
  | [d1, d2] => { results := [.lit (.bool true)], args := [d1, d2] }
  | _ => none }
def constfoldTwiceRow : OpenClaim := { program := "ytjodlfhkabploaadoor", sum := "ba74a9ecdb4c4d98e9902cc743e37e53b5dab2024133bf4f88f45154bb99b5ec", func := "backstep/backsteplaw07.ConstfoldTwice", spec := "constfoldTwice", unfollowed := true, recurses := true, named := ["strings.asciiSpace", "unicode.White_Space"], loops := true, apart := false, laid := [("unicode.White_Space", laid_unicode_White_Space), ("strings.asciiSpace", laid_strings_asciiSpace)] }
def ConstfoldTwiceSaid : Prop := constfoldTwiceRow.holds Tryd.pinned (OpenSpec.ofChange constfoldTwiceSpec)

/-- ITS FALSE NEIGHBOUR: 'it returns false'. Refute it at one input. -/
def constfoldTwiceWrong : ChangeSpec := { name := "constfoldTwice", fn := fun _ => fun
  | [d1, d2] => { results := [.lit (.bool false)], args := [d1, d2] }
  | _ => none }
def ConstfoldTwiceWrongFalsely : Prop := constfoldTwiceRow.holds Tryd.pinned (OpenSpec.ofChange constfoldTwiceWrong)

/- THE SECOND FORM. 'bulk': how many values and letters a reading holds, each counted each time it is reached (what is shared counts as often as it is met; a slice's spare places count too). A statement '..UptoSaid' is the law's where the arguments, and the package variables that the reading takes, are together of bulk at most 1048576: NARROWER than '..Said'. Prove '..Said' where nothing that the law and all that it calls make is longer than what came in: it says more and counts as full. Else prove '..UptoSaid'. A law counts once. -/
mutual
def uptoBulk {H : Type} : DataW H → Nat
  | .lit (.string bytes) => bytes.length + 1
  | .lit _ => 1
  | .nil => 1
  | .ptr d => uptoBulk d + 1
  | .slice elems spare => uptoBulkAll elems + uptoBulkAll spare + 1
  | .agg parts => uptoBulkAll parts + 1
  | .iface _ d => uptoBulk d + 1
  | .map entries => uptoBulkEntries entries + 1
  | .held _ => 1
def uptoBulkAll {H : Type} : List (DataW H) → Nat
  | [] => 0
  | d :: r => uptoBulk d + uptoBulkAll r
def uptoBulkEntries {H : Type} : List (Lit × DataW H) → Nat
  | [] => 0
  | x :: r => uptoBulkEntry x + uptoBulkEntries r
def uptoBulkEntry {H : Type} : Lit × DataW H → Nat
  | (.string bytes, d) => bytes.length + uptoBulk d + 1
  | (_, d) => uptoBulk d + 1
 end
def uptoSmall : (H : Type) → List (DataW H) → Bool := fun _ ds => decide (uptoBulkAll ds ≤ 1048576)
def OpenSpec.upto (s : _root_.Go.ChangeSpec) : _root_.Go.OpenSpec := { _root_.Go.OpenSpec.ofChange s with cond := some uptoSmall }

/-- 'backsteplaw13.EvalMentioned', WHERE WHAT IT READS IS OF BULK AT MOST 1048576: true; the input reads as it did. -/
def evalMentionedUptoRow : OpenClaim := { program := "ytjodlfhkabploaadoor", sum := "ba74a9ecdb4c4d98e9902cc743e37e53b5dab2024133bf4f88f45154bb99b5ec", func := "backstep/backsteplaw13.EvalMentioned", spec := "evalMentioned", unfollowed := true, recurses := true, named := ["strings.asciiSpace", "unicode.White_Space"], loops := true, apart := false, laid := [("unicode.White_Space", laid_unicode_White_Space), ("strings.asciiSpace", laid_strings_asciiSpace)], narrowed := true }
def EvalMentionedUptoSaid : Prop := evalMentionedUptoRow.holds Tryd.pinned (OpenSpec.upto evalMentionedSpec)

/-- 'backsteplaw13.EvalStrict', WHERE WHAT IT READS IS OF BULK AT MOST 1048576: true; the input reads as it did. -/
def evalStrictUptoRow : OpenClaim := { program := "ytjodlfhkabploaadoor", sum := "ba74a9ecdb4c4d98e9902cc743e37e53b5dab2024133bf4f88f45154bb99b5ec", func := "backstep/backsteplaw13.EvalStrict", spec := "evalStrict", unfollowed := true, recurses := true, named := ["strings.asciiSpace", "unicode.White_Space"], loops := true, apart := false, laid := [("unicode.White_Space", laid_unicode_White_Space), ("strings.asciiSpace", laid_strings_asciiSpace)], narrowed := true }
def EvalStrictUptoSaid : Prop := evalStrictUptoRow.holds Tryd.pinned (OpenSpec.upto evalStrictSpec)

/-- 'backsteplaw13.EvalItems', WHERE WHAT IT READS IS OF BULK AT MOST 1048576: true; the input reads as it did. -/
def evalItemsUptoRow : OpenClaim := { program := "ytjodlfhkabploaadoor", sum := "ba74a9ecdb4c4d98e9902cc743e37e53b5dab2024133bf4f88f45154bb99b5ec", func := "backstep/backsteplaw13.EvalItems", spec := "evalItems", unfollowed := true, recurses := true, named := ["strings.asciiSpace", "unicode.White_Space"], apart := false, laid := [("unicode.White_Space", laid_unicode_White_Space), ("strings.asciiSpace", laid_strings_asciiSpace)], narrowed := true }
def EvalItemsUptoSaid : Prop := evalItemsUptoRow.holds Tryd.pinned (OpenSpec.upto evalItemsSpec)

/-- 'backsteplaw13.EvalExprs', WHERE WHAT IT READS IS OF BULK AT MOST 1048576: true; the input reads as it did. -/
def evalExprsUptoRow : OpenClaim := { program := "ytjodlfhkabploaadoor", sum := "ba74a9ecdb4c4d98e9902cc743e37e53b5dab2024133bf4f88f45154bb99b5ec", func := "backstep/backsteplaw13.EvalExprs", spec := "evalExprs", unfollowed := true, recurses := true, named := ["strings.asciiSpace", "unicode.White_Space"], loops := true, apart := false, laid := [("unicode.White_Space", laid_unicode_White_Space), ("strings.asciiSpace", laid_strings_asciiSpace)], narrowed := true }
def EvalExprsUptoSaid : Prop := evalExprsUptoRow.holds Tryd.pinned (OpenSpec.upto evalExprsSpec)

/-- 'backsteplaw13.EvalIndex', WHERE WHAT IT READS IS OF BULK AT MOST 1048576: true; the input reads as it did. -/
def evalIndexUptoRow : OpenClaim := { program := "ytjodlfhkabploaadoor", sum := "ba74a9ecdb4c4d98e9902cc743e37e53b5dab2024133bf4f88f45154bb99b5ec", func := "backstep/backsteplaw13.EvalIndex", spec := "evalIndex", unfollowed := true, recurses := true, named := ["strings.asciiSpace", "unicode.White_Space"], loops := true, apart := false, laid := [("unicode.White_Space", laid_unicode_White_Space), ("strings.asciiSpace", laid_strings_asciiSpace)], narrowed := true }
def EvalIndexUptoSaid : Prop := evalIndexUptoRow.holds Tryd.pinned (OpenSpec.upto evalIndexSpec)

/-- 'backsteplaw13.EvalOwn', WHERE WHAT IT READS IS OF BULK AT MOST 1048576: true; the input reads as it did. -/
def evalOwnUptoRow : OpenClaim := { program := "ytjodlfhkabploaadoor", sum := "ba74a9ecdb4c4d98e9902cc743e37e53b5dab2024133bf4f88f45154bb99b5ec", func := "backstep/backsteplaw13.EvalOwn", spec := "evalOwn", unfollowed := true, recurses := true, named := ["strings.asciiSpace", "unicode.White_Space"], loops := true, apart := false, laid := [("unicode.White_Space", laid_unicode_White_Space), ("strings.asciiSpace", laid_strings_asciiSpace)], narrowed := true }
def EvalOwnUptoSaid : Prop := evalOwnUptoRow.holds Tryd.pinned (OpenSpec.upto evalOwnSpec)

/-- 'backsteplaw13.EvalConst', WHERE WHAT IT READS IS OF BULK AT MOST 1048576: true; the input reads as it did. -/
def evalConstUptoRow : OpenClaim := { program := "ytjodlfhkabploaadoor", sum := "ba74a9ecdb4c4d98e9902cc743e37e53b5dab2024133bf4f88f45154bb99b5ec", func := "backstep/backsteplaw13.EvalConst", spec := "evalConst", unfollowed := true, recurses := true, named := ["strings.asciiSpace", "unicode.White_Space"], loops := true, apart := false, laid := [("unicode.White_Space", laid_unicode_White_Space), ("strings.asciiSpace", laid_strings_asciiSpace)], narrowed := true }
def EvalConstUptoSaid : Prop := evalConstUptoRow.holds Tryd.pinned (OpenSpec.upto evalConstSpec)

/-- 'backsteplaw13.EvalFolds', WHERE WHAT IT READS IS OF BULK AT MOST 1048576: true; the input reads as it did. -/
def evalFoldsUptoRow : OpenClaim := { program := "ytjodlfhkabploaadoor", sum := "ba74a9ecdb4c4d98e9902cc743e37e53b5dab2024133bf4f88f45154bb99b5ec", func := "backstep/backsteplaw13.EvalFolds", spec := "evalFolds", unfollowed := true, recurses := true, named := ["strings.asciiSpace", "unicode.White_Space"], loops := true, apart := false, laid := [("unicode.White_Space", laid_unicode_White_Space), ("strings.asciiSpace", laid_strings_asciiSpace)], narrowed := true }
def EvalFoldsUptoSaid : Prop := evalFoldsUptoRow.holds Tryd.pinned (OpenSpec.upto evalFoldsSpec)

/-- 'backsteplaw07.ConstfoldConst', WHERE WHAT IT READS IS OF BULK AT MOST 1048576: true; the input reads as it did. -/
def constfoldConstUptoRow : OpenClaim := { program := "ytjodlfhkabploaadoor", sum := "ba74a9ecdb4c4d98e9902cc743e37e53b5dab2024133bf4f88f45154bb99b5ec", func := "backstep/backsteplaw07.ConstfoldConst", spec := "constfoldConst", unfollowed := true, recurses := true, named := ["strings.asciiSpace", "unicode.White_Space"], loops := true, apart := false, laid := [("unicode.White_Space", laid_unicode_White_Space), ("strings.asciiSpace", laid_strings_asciiSpace)], narrowed := true }
def ConstfoldConstUptoSaid : Prop := constfoldConstUptoRow.holds Tryd.pinned (OpenSpec.upto constfoldConstSpec)

/-- 'backsteplaw07.ConstfoldExpr', WHERE WHAT IT READS IS OF BULK AT MOST 1048576: true; the input reads as it did. -/
def constfoldExprUptoRow : OpenClaim := { program := "ytjodlfhkabploaadoor", sum := "ba74a9ecdb4c4d98e9902cc743e37e53b5dab2024133bf4f88f45154bb99b5ec", func := "backstep/backsteplaw07.ConstfoldExpr", spec := "constfoldExpr", unfollowed := true, recurses := true, named := ["strings.asciiSpace", "unicode.White_Space"], loops := true, apart := false, laid := [("unicode.White_Space", laid_unicode_White_Space), ("strings.asciiSpace", laid_strings_asciiSpace)], narrowed := true }
def ConstfoldExprUptoSaid : Prop := constfoldExprUptoRow.holds Tryd.pinned (OpenSpec.upto constfoldExprSpec)

/-- 'backsteplaw07.ConstfoldValue', WHERE WHAT IT READS IS OF BULK AT MOST 1048576: true; the input reads as it did. -/
def constfoldValueUptoRow : OpenClaim := { program := "ytjodlfhkabploaadoor", sum := "ba74a9ecdb4c4d98e9902cc743e37e53b5dab2024133bf4f88f45154bb99b5ec", func := "backstep/backsteplaw07.ConstfoldValue", spec := "constfoldValue", unfollowed := true, recurses := true, named := ["strings.asciiSpace", "unicode.White_Space"], maps := true, loops := true, apart := false, laid := [("unicode.White_Space", laid_unicode_White_Space), ("strings.asciiSpace", laid_strings_asciiSpace)], narrowed := true }
def ConstfoldValueUptoSaid : Prop := constfoldValueUptoRow.holds Tryd.pinned (OpenSpec.upto constfoldValueSpec)

/-- 'backsteplaw07.ConstfoldLiteral', WHERE WHAT IT READS IS OF BULK AT MOST 1048576: true; the input reads as it did. -/
def constfoldLiteralUptoRow : OpenClaim := { program := "ytjodlfhkabploaadoor", sum := "ba74a9ecdb4c4d98e9902cc743e37e53b5dab2024133bf4f88f45154bb99b5ec", func := "backstep/backsteplaw07.ConstfoldLiteral", spec := "constfoldLiteral", unfollowed := true, recurses := true, named := ["strings.asciiSpace", "unicode.White_Space"], apart := false, laid := [("unicode.White_Space", laid_unicode_White_Space), ("strings.asciiSpace", laid_strings_asciiSpace)], narrowed := true }
def ConstfoldLiteralUptoSaid : Prop := constfoldLiteralUptoRow.holds Tryd.pinned (OpenSpec.upto constfoldLiteralSpec)

/-- 'backsteplaw07.ConstfoldParts', WHERE WHAT IT READS IS OF BULK AT MOST 1048576: true; the input reads as it did. -/
def constfoldPartsUptoRow : OpenClaim := { program := "ytjodlfhkabploaadoor", sum := "ba74a9ecdb4c4d98e9902cc743e37e53b5dab2024133bf4f88f45154bb99b5ec", func := "backstep/backsteplaw07.ConstfoldParts", spec := "constfoldParts", unfollowed := true, recurses := true, named := ["strings.asciiSpace", "unicode.White_Space"], loops := true, apart := false, laid := [("unicode.White_Space", laid_unicode_White_Space), ("strings.asciiSpace", laid_strings_asciiSpace)], narrowed := true }
def ConstfoldPartsUptoSaid : Prop := constfoldPartsUptoRow.holds Tryd.pinned (OpenSpec.upto constfoldPartsSpec)

/-- 'backsteplaw07.ConstfoldSmaller', WHERE WHAT IT READS IS OF BULK AT MOST 1048576: true; the input reads as it did. -/
def constfoldSmallerUptoRow : OpenClaim := { program := "ytjodlfhkabploaadoor", sum := "ba74a9ecdb4c4d98e9902cc743e37e53b5dab2024133bf4f88f45154bb99b5ec", func := "backstep/backsteplaw07.ConstfoldSmaller", spec := "constfoldSmaller", unfollowed := true, recurses := true, named := ["strings.asciiSpace", "unicode.White_Space"], loops := true, apart := false, laid := [("unicode.White_Space", laid_unicode_White_Space), ("strings.asciiSpace", laid_strings_asciiSpace)], narrowed := true }
def ConstfoldSmallerUptoSaid : Prop := constfoldSmallerUptoRow.holds Tryd.pinned (OpenSpec.upto constfoldSmallerSpec)

/-- 'backsteplaw07.ConstfoldTwice', WHERE WHAT IT READS IS OF BULK AT MOST 1048576: true; the input reads as it did. -/
def constfoldTwiceUptoRow : OpenClaim := { program := "ytjodlfhkabploaadoor", sum := "ba74a9ecdb4c4d98e9902cc743e37e53b5dab2024133bf4f88f45154bb99b5ec", func := "backstep/backsteplaw07.ConstfoldTwice", spec := "constfoldTwice", unfollowed := true, recurses := true, named := ["strings.asciiSpace", "unicode.White_Space"], loops := true, apart := false, laid := [("unicode.White_Space", laid_unicode_White_Space), ("strings.asciiSpace", laid_strings_asciiSpace)], narrowed := true }
def ConstfoldTwiceUptoSaid : Prop := constfoldTwiceUptoRow.holds Tryd.pinned (OpenSpec.upto constfoldTwiceSpec)

end Rows
end Go.Proofs.YtjodlfhkabploaaDoor
