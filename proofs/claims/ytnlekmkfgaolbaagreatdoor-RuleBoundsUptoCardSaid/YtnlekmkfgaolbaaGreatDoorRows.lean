/-
  NARROWER THAN 'FOR EVERY INPUT', by the rows' own cells (each row's printed sentence says how): RuleRules: laid · RuleSheet: laid · RuleNests: laid · RuleBehind: laid · RuleBounds: laid · RuleDecls: laid · RuleNeighbours: laid · RuleFlat: laid · RuleRaw: loops, laid · PrintSheets: laid · PrintBack: laid · PrintTwice: laid.
  DERIVED. THE GIVEN ROWS OF THIS SEAT. 12 by the template 'for every input the law returns true; each argument reads behind the call as it read before'; 0 by the template 'total and deterministic' (their statements: YtnlekmkfgaolbaaGreatDoorTotals.lean).
  GIVEN WITH THE SEED: the statements are not yours to turn. If you find one false, say at which input.
  Laid BY PROGRAM, IN A SANDBOX (cutbox-rows.mjs): the forced cells as the released guide's own fill.sh prints them over the translation 1e162da61cade810… (all of the seat's roots in one cut). By AI agents, Wed Nov 11 2026. No macro, syntax, notation, axiom, sorry.
-/
import Derived.Test.YtnlekmkfgaolbaaGreatDoorChecked
import GoSem.PinnedTables
import GoSem.Claim
import GoSem.ClaimJoined
import GoSem.ClaimMapViews
import Derived.JoinedTies
import Derived.KernelRfl
namespace Go.Proofs.YtnlekmkfgaolbaaGreatDoor
/- THE CELL 'sum', in the pinned program and in every row, IS THE sha256 OF THE DUMP (.gsa) THAT YtnlekmkfgaolbaaGreatDoorProg.lean LOADS. Nothing in Lean hashes anything: it is a label: what it is worth is what the hold of that sum in a sandbox is worth. -/
noncomputable def Tryz.pinned : Pinned := { name := "ytnlekmkfgaolbaagreatdoor", sum := "1e162da61cade810e7d26357e7c5603cb48980b66fc61cca37813407b3797cd7", checked := Tryz.checked }
namespace Rows
def none {H : Type} : Left H := { results := [], args := [] }

/- WHAT THE LISTED PACKAGE-LEVEL VARIABLES READ AS WHEN THE CALL BEGINS. Each datum BY PROGRAM (the guide's laid-datum.mjs) off the statement by which the dump's own 'gosem.cut.vars' lays the variable. In a bare row this is a premise. The card (YtnlekmkfgaolbaaGreatDoorCards.lean) ties it to the program's text. -/
def laid_unicode_utf8_acceptRanges {H : Type} : DataW H := .agg [.agg [.lit (.int .u8 128), .lit (.int .u8 191)], .agg [.lit (.int .u8 160), .lit (.int .u8 191)], .agg [.lit (.int .u8 128), .lit (.int .u8 159)], .agg [.lit (.int .u8 144), .lit (.int .u8 191)], .agg [.lit (.int .u8 128), .lit (.int .u8 143)], .agg [.lit (.int .u8 0), .lit (.int .u8 0)], .agg [.lit (.int .u8 0), .lit (.int .u8 0)], .agg [.lit (.int .u8 0), .lit (.int .u8 0)], .agg [.lit (.int .u8 0), .lit (.int .u8 0)], .agg [.lit (.int .u8 0), .lit (.int .u8 0)], .agg [.lit (.int .u8 0), .lit (.int .u8 0)], .agg [.lit (.int .u8 0), .lit (.int .u8 0)], .agg [.lit (.int .u8 0), .lit (.int .u8 0)], .agg [.lit (.int .u8 0), .lit (.int .u8 0)], .agg [.lit (.int .u8 0), .lit (.int .u8 0)], .agg [.lit (.int .u8 0), .lit (.int .u8 0)]]
/-- One of Go's own tables, pinned by name: the form's constant. -/
def laid_unicode_utf8_first : DataW Unit := Go.Pinned.utf8First
def laid_jalousie_jalousieref3_kinds {H : Type} : DataW H := .agg [.lit (.int .i64 21), .lit (.int .i64 22), .lit (.int .i64 19), .lit (.int .i64 20), .lit (.int .i64 23), .lit (.int .i64 24), .lit (.int .i64 18), .lit (.int .i64 16), .lit (.int .i64 17)]
def laid_math_bits_deBruijn32tab {H : Type} : DataW H := .agg [.lit (.int .u8 0), .lit (.int .u8 1), .lit (.int .u8 28), .lit (.int .u8 2), .lit (.int .u8 29), .lit (.int .u8 14), .lit (.int .u8 24), .lit (.int .u8 3), .lit (.int .u8 30), .lit (.int .u8 22), .lit (.int .u8 20), .lit (.int .u8 15), .lit (.int .u8 25), .lit (.int .u8 17), .lit (.int .u8 4), .lit (.int .u8 8), .lit (.int .u8 31), .lit (.int .u8 27), .lit (.int .u8 13), .lit (.int .u8 23), .lit (.int .u8 21), .lit (.int .u8 19), .lit (.int .u8 16), .lit (.int .u8 7), .lit (.int .u8 26), .lit (.int .u8 12), .lit (.int .u8 18), .lit (.int .u8 6), .lit (.int .u8 11), .lit (.int .u8 5), .lit (.int .u8 10), .lit (.int .u8 9)]
def laid_math_bits_deBruijn64tab {H : Type} : DataW H := .agg [.lit (.int .u8 0), .lit (.int .u8 1), .lit (.int .u8 56), .lit (.int .u8 2), .lit (.int .u8 57), .lit (.int .u8 49), .lit (.int .u8 28), .lit (.int .u8 3), .lit (.int .u8 61), .lit (.int .u8 58), .lit (.int .u8 42), .lit (.int .u8 50), .lit (.int .u8 38), .lit (.int .u8 29), .lit (.int .u8 17), .lit (.int .u8 4), .lit (.int .u8 62), .lit (.int .u8 47), .lit (.int .u8 59), .lit (.int .u8 36), .lit (.int .u8 45), .lit (.int .u8 43), .lit (.int .u8 51), .lit (.int .u8 22), .lit (.int .u8 53), .lit (.int .u8 39), .lit (.int .u8 33), .lit (.int .u8 30), .lit (.int .u8 24), .lit (.int .u8 18), .lit (.int .u8 12), .lit (.int .u8 5), .lit (.int .u8 63), .lit (.int .u8 55), .lit (.int .u8 48), .lit (.int .u8 27), .lit (.int .u8 60), .lit (.int .u8 41), .lit (.int .u8 37), .lit (.int .u8 16), .lit (.int .u8 46), .lit (.int .u8 35), .lit (.int .u8 44), .lit (.int .u8 21), .lit (.int .u8 52), .lit (.int .u8 32), .lit (.int .u8 23), .lit (.int .u8 11), .lit (.int .u8 54), .lit (.int .u8 26), .lit (.int .u8 40), .lit (.int .u8 15), .lit (.int .u8 34), .lit (.int .u8 20), .lit (.int .u8 31), .lit (.int .u8 10), .lit (.int .u8 25), .lit (.int .u8 14), .lit (.int .u8 19), .lit (.int .u8 9), .lit (.int .u8 13), .lit (.int .u8 8), .lit (.int .u8 7), .lit (.int .u8 6)]
def laid_internal_strconv_uint64pow10 {H : Type} : DataW H := .agg [.lit (.int .u64 1), .lit (.int .u64 10), .lit (.int .u64 100), .lit (.int .u64 1000), .lit (.int .u64 10000), .lit (.int .u64 100000), .lit (.int .u64 1000000), .lit (.int .u64 10000000), .lit (.int .u64 100000000), .lit (.int .u64 1000000000), .lit (.int .u64 10000000000), .lit (.int .u64 100000000000), .lit (.int .u64 1000000000000), .lit (.int .u64 10000000000000), .lit (.int .u64 100000000000000), .lit (.int .u64 1000000000000000), .lit (.int .u64 10000000000000000), .lit (.int .u64 100000000000000000), .lit (.int .u64 1000000000000000000), .lit (.int .u64 10000000000000000000)]

/-- 'jalousielaw5.RuleRules': WHATEVER THE INPUT: true; the input reads as it did. -/
def ruleRulesSpec : ChangeSpec := { name := "ruleRules", fn := fun _ => fun
  | [d] => { results := [.lit (.bool true)], args := [d] }
  | _ => none }
def ruleRulesRow : OpenClaim := { program := "ytnlekmkfgaolbaagreatdoor", sum := "1e162da61cade810e7d26357e7c5603cb48980b66fc61cca37813407b3797cd7", func := "jalousie/jalousielaw5.RuleRules", spec := "ruleRules", inPlace := ["internal/bytealg.IndexByteString", "internal/bytealg.IndexString", "internal/abi.NoEscape", "internal/bytealg.MakeNoZero"], unfollowed := true, recurses := true, named := ["unicode/utf8.first", "unicode/utf8.acceptRanges", "internal/bytealg.MaxLen"], apart := false, laid := [("unicode/utf8.acceptRanges", laid_unicode_utf8_acceptRanges), ("unicode/utf8.first", laid_unicode_utf8_first)] }
def RuleRulesSaid : Prop := ruleRulesRow.holds Tryz.pinned (OpenSpec.ofChange ruleRulesSpec)

/-- ITS FALSE NEIGHBOUR: 'it returns false'. Refute it at one input. -/
def ruleRulesWrong : ChangeSpec := { name := "ruleRules", fn := fun _ => fun
  | [d] => { results := [.lit (.bool false)], args := [d] }
  | _ => none }
def RuleRulesWrongFalsely : Prop := ruleRulesRow.holds Tryz.pinned (OpenSpec.ofChange ruleRulesWrong)

/-- 'jalousielaw5.RuleSheet': WHATEVER THE INPUT: true; the input reads as it did. -/
def ruleSheetSpec : ChangeSpec := { name := "ruleSheet", fn := fun _ => fun
  | [d] => { results := [.lit (.bool true)], args := [d] }
  | _ => none }
def ruleSheetRow : OpenClaim := { program := "ytnlekmkfgaolbaagreatdoor", sum := "1e162da61cade810e7d26357e7c5603cb48980b66fc61cca37813407b3797cd7", func := "jalousie/jalousielaw5.RuleSheet", spec := "ruleSheet", inPlace := ["internal/bytealg.IndexByteString", "internal/bytealg.IndexString", "internal/abi.NoEscape", "internal/bytealg.MakeNoZero"], unfollowed := true, recurses := true, named := ["unicode/utf8.first", "unicode/utf8.acceptRanges", "jalousie/jalousieref3.kinds", "internal/bytealg.MaxLen"], apart := false, laid := [("unicode/utf8.acceptRanges", laid_unicode_utf8_acceptRanges), ("jalousie/jalousieref3.kinds", laid_jalousie_jalousieref3_kinds), ("unicode/utf8.first", laid_unicode_utf8_first)] }
def RuleSheetSaid : Prop := ruleSheetRow.holds Tryz.pinned (OpenSpec.ofChange ruleSheetSpec)

/-- ITS FALSE NEIGHBOUR: 'it returns false'. Refute it at one input. -/
def ruleSheetWrong : ChangeSpec := { name := "ruleSheet", fn := fun _ => fun
  | [d] => { results := [.lit (.bool false)], args := [d] }
  | _ => none }
def RuleSheetWrongFalsely : Prop := ruleSheetRow.holds Tryz.pinned (OpenSpec.ofChange ruleSheetWrong)

/-- 'jalousielaw5.RuleNests': WHATEVER THE INPUT: true; the input reads as it did. -/
def ruleNestsSpec : ChangeSpec := { name := "ruleNests", fn := fun _ => fun
  | [d1, d2, d3] => { results := [.lit (.bool true)], args := [d1, d2, d3] }
  | _ => none }
def ruleNestsRow : OpenClaim := { program := "ytnlekmkfgaolbaagreatdoor", sum := "1e162da61cade810e7d26357e7c5603cb48980b66fc61cca37813407b3797cd7", func := "jalousie/jalousielaw5.RuleNests", spec := "ruleNests", inPlace := ["internal/bytealg.IndexByteString", "internal/bytealg.IndexString", "internal/abi.NoEscape", "internal/bytealg.MakeNoZero"], unfollowed := true, recurses := true, named := ["unicode/utf8.first", "unicode/utf8.acceptRanges", "jalousie/jalousieref3.kinds", "internal/bytealg.MaxLen"], apart := false, laid := [("unicode/utf8.acceptRanges", laid_unicode_utf8_acceptRanges), ("jalousie/jalousieref3.kinds", laid_jalousie_jalousieref3_kinds), ("unicode/utf8.first", laid_unicode_utf8_first)] }
def RuleNestsSaid : Prop := ruleNestsRow.holds Tryz.pinned (OpenSpec.ofChange ruleNestsSpec)

/-- ITS FALSE NEIGHBOUR: 'it returns false'. Refute it at one input. -/
def ruleNestsWrong : ChangeSpec := { name := "ruleNests", fn := fun _ => fun
  | [d1, d2, d3] => { results := [.lit (.bool false)], args := [d1, d2, d3] }
  | _ => none }
def RuleNestsWrongFalsely : Prop := ruleNestsRow.holds Tryz.pinned (OpenSpec.ofChange ruleNestsWrong)

/-- 'jalousielaw5.RuleBehind': WHATEVER THE INPUT: true; the input reads as it did. -/
def ruleBehindSpec : ChangeSpec := { name := "ruleBehind", fn := fun _ => fun
  | [d1, d2, d3] => { results := [.lit (.bool true)], args := [d1, d2, d3] }
  | _ => none }
def ruleBehindRow : OpenClaim := { program := "ytnlekmkfgaolbaagreatdoor", sum := "1e162da61cade810e7d26357e7c5603cb48980b66fc61cca37813407b3797cd7", func := "jalousie/jalousielaw5.RuleBehind", spec := "ruleBehind", inPlace := ["internal/bytealg.IndexByteString", "internal/bytealg.IndexString", "internal/abi.NoEscape", "internal/bytealg.MakeNoZero"], unfollowed := true, recurses := true, named := ["unicode/utf8.first", "unicode/utf8.acceptRanges", "internal/bytealg.MaxLen"], apart := false, laid := [("unicode/utf8.acceptRanges", laid_unicode_utf8_acceptRanges), ("unicode/utf8.first", laid_unicode_utf8_first)] }
def RuleBehindSaid : Prop := ruleBehindRow.holds Tryz.pinned (OpenSpec.ofChange ruleBehindSpec)

/-- ITS FALSE NEIGHBOUR: 'it returns false'. Refute it at one input. -/
def ruleBehindWrong : ChangeSpec := { name := "ruleBehind", fn := fun _ => fun
  | [d1, d2, d3] => { results := [.lit (.bool false)], args := [d1, d2, d3] }
  | _ => none }
def RuleBehindWrongFalsely : Prop := ruleBehindRow.holds Tryz.pinned (OpenSpec.ofChange ruleBehindWrong)

/-- 'jalousielaw5.RuleBounds': WHATEVER THE INPUT: true; the input reads as it did. -/
def ruleBoundsSpec : ChangeSpec := { name := "ruleBounds", fn := fun _ => fun
  | [d] => { results := [.lit (.bool true)], args := [d] }
  | _ => none }
def ruleBoundsRow : OpenClaim := { program := "ytnlekmkfgaolbaagreatdoor", sum := "1e162da61cade810e7d26357e7c5603cb48980b66fc61cca37813407b3797cd7", func := "jalousie/jalousielaw5.RuleBounds", spec := "ruleBounds", inPlace := ["internal/bytealg.IndexByteString", "internal/bytealg.IndexString", "internal/abi.NoEscape", "internal/bytealg.MakeNoZero"], unfollowed := true, recurses := true, named := ["unicode/utf8.first", "unicode/utf8.acceptRanges", "internal/bytealg.MaxLen"], apart := false, laid := [("unicode/utf8.acceptRanges", laid_unicode_utf8_acceptRanges), ("unicode/utf8.first", laid_unicode_utf8_first)] }
def RuleBoundsSaid : Prop := ruleBoundsRow.holds Tryz.pinned (OpenSpec.ofChange ruleBoundsSpec)

/-- ITS FALSE NEIGHBOUR: 'it returns false'. Refute it at one input. -/
def ruleBoundsWrong : ChangeSpec := { name := "ruleBounds", fn := fun _ => fun
  | [d] => { results := [.lit (.bool false)], args := [d] }
  | _ => none }
def RuleBoundsWrongFalsely : Prop := ruleBoundsRow.holds Tryz.pinned (OpenSpec.ofChange ruleBoundsWrong)

/-- 'jalousielaw5.RuleDecls': WHATEVER THE INPUT: true; the input reads as it did. -/
def ruleDeclsSpec : ChangeSpec := { name := "ruleDecls", fn := fun _ => fun
  | [d] => { results := [.lit (.bool true)], args := [d] }
  | _ => none }
def ruleDeclsRow : OpenClaim := { program := "ytnlekmkfgaolbaagreatdoor", sum := "1e162da61cade810e7d26357e7c5603cb48980b66fc61cca37813407b3797cd7", func := "jalousie/jalousielaw5.RuleDecls", spec := "ruleDecls", inPlace := ["internal/bytealg.IndexByteString", "internal/bytealg.IndexString", "internal/abi.NoEscape", "internal/bytealg.MakeNoZero"], unfollowed := true, recurses := true, named := ["unicode/utf8.first", "unicode/utf8.acceptRanges", "internal/bytealg.MaxLen"], apart := false, laid := [("unicode/utf8.acceptRanges", laid_unicode_utf8_acceptRanges), ("unicode/utf8.first", laid_unicode_utf8_first)] }
def RuleDeclsSaid : Prop := ruleDeclsRow.holds Tryz.pinned (OpenSpec.ofChange ruleDeclsSpec)

/-- ITS FALSE NEIGHBOUR: 'it returns false'. Refute it at one input. -/
def ruleDeclsWrong : ChangeSpec := { name := "ruleDecls", fn := fun _ => fun
  | [d] => { results := [.lit (.bool false)], args := [d] }
  | _ => none }
def RuleDeclsWrongFalsely : Prop := ruleDeclsRow.holds Tryz.pinned (OpenSpec.ofChange ruleDeclsWrong)

/-- 'jalousielaw5.RuleNeighbours': WHATEVER THE INPUT: true; the input reads as it did. -/
def ruleNeighboursSpec : ChangeSpec := { name := "ruleNeighbours", fn := fun _ => fun
  | [d1, d2] => { results := [.lit (.bool true)], args := [d1, d2] }
  | _ => none }
def ruleNeighboursRow : OpenClaim := { program := "ytnlekmkfgaolbaagreatdoor", sum := "1e162da61cade810e7d26357e7c5603cb48980b66fc61cca37813407b3797cd7", func := "jalousie/jalousielaw5.RuleNeighbours", spec := "ruleNeighbours", inPlace := ["internal/bytealg.IndexByteString", "internal/bytealg.IndexString", "internal/abi.NoEscape", "internal/bytealg.MakeNoZero"], unfollowed := true, recurses := true, named := ["unicode/utf8.first", "unicode/utf8.acceptRanges", "internal/bytealg.MaxLen"], apart := false, laid := [("unicode/utf8.acceptRanges", laid_unicode_utf8_acceptRanges), ("unicode/utf8.first", laid_unicode_utf8_first)] }
def RuleNeighboursSaid : Prop := ruleNeighboursRow.holds Tryz.pinned (OpenSpec.ofChange ruleNeighboursSpec)

/-- ITS FALSE NEIGHBOUR: 'it returns false'. Refute it at one input. -/
def ruleNeighboursWrong : ChangeSpec := { name := "ruleNeighbours", fn := fun _ => fun
  | [d1, d2] => { results := [.lit (.bool false)], args := [d1, d2] }
  | _ => none }
def RuleNeighboursWrongFalsely : Prop := ruleNeighboursRow.holds Tryz.pinned (OpenSpec.ofChange ruleNeighboursWrong)

/-- 'jalousielaw5.RuleFlat': WHATEVER THE INPUT: true; the input reads as it did. -/
def ruleFlatSpec : ChangeSpec := { name := "ruleFlat", fn := fun _ => fun
  | [d] => { results := [.lit (.bool true)], args := [d] }
  | _ => none }
def ruleFlatRow : OpenClaim := { program := "ytnlekmkfgaolbaagreatdoor", sum := "1e162da61cade810e7d26357e7c5603cb48980b66fc61cca37813407b3797cd7", func := "jalousie/jalousielaw5.RuleFlat", spec := "ruleFlat", inPlace := ["internal/bytealg.IndexByteString", "internal/bytealg.IndexString", "internal/abi.NoEscape", "internal/bytealg.MakeNoZero"], unfollowed := true, recurses := true, named := ["unicode/utf8.first", "unicode/utf8.acceptRanges", "internal/bytealg.MaxLen"], apart := false, laid := [("unicode/utf8.acceptRanges", laid_unicode_utf8_acceptRanges), ("unicode/utf8.first", laid_unicode_utf8_first)] }
def RuleFlatSaid : Prop := ruleFlatRow.holds Tryz.pinned (OpenSpec.ofChange ruleFlatSpec)

/-- ITS FALSE NEIGHBOUR: 'it returns false'. Refute it at one input. -/
def ruleFlatWrong : ChangeSpec := { name := "ruleFlat", fn := fun _ => fun
  | [d] => { results := [.lit (.bool false)], args := [d] }
  | _ => none }
def RuleFlatWrongFalsely : Prop := ruleFlatRow.holds Tryz.pinned (OpenSpec.ofChange ruleFlatWrong)

/-- 'jalousielaw5.RuleRaw': WHATEVER THE INPUT: true; the input reads as it did. -/
def ruleRawSpec : ChangeSpec := { name := "ruleRaw", fn := fun _ => fun
  | [d] => { results := [.lit (.bool true)], args := [d] }
  | _ => none }
def ruleRawRow : OpenClaim := { program := "ytnlekmkfgaolbaagreatdoor", sum := "1e162da61cade810e7d26357e7c5603cb48980b66fc61cca37813407b3797cd7", func := "jalousie/jalousielaw5.RuleRaw", spec := "ruleRaw", inPlace := ["internal/bytealg.IndexByteString", "internal/bytealg.IndexString", "internal/abi.NoEscape", "internal/bytealg.MakeNoZero"], unfollowed := true, recurses := true, named := ["unicode/utf8.first", "unicode/utf8.acceptRanges", "internal/bytealg.MaxLen"], loops := true, apart := false, laid := [("unicode/utf8.acceptRanges", laid_unicode_utf8_acceptRanges), ("unicode/utf8.first", laid_unicode_utf8_first)] }
def RuleRawSaid : Prop := ruleRawRow.holds Tryz.pinned (OpenSpec.ofChange ruleRawSpec)

/-- ITS FALSE NEIGHBOUR: 'it returns false'. Refute it at one input. -/
def ruleRawWrong : ChangeSpec := { name := "ruleRaw", fn := fun _ => fun
  | [d] => { results := [.lit (.bool false)], args := [d] }
  | _ => none }
def RuleRawWrongFalsely : Prop := ruleRawRow.holds Tryz.pinned (OpenSpec.ofChange ruleRawWrong)

/-- 'jalousielaw6.PrintSheets': WHATEVER THE INPUT: true; the input reads as it did. -/
def printSheetsSpec : ChangeSpec := { name := "printSheets", fn := fun _ => fun
  | [d] => { results := [.lit (.bool true)], args := [d] }
  | _ => none }
def printSheetsRow : OpenClaim := { program := "ytnlekmkfgaolbaagreatdoor", sum := "1e162da61cade810e7d26357e7c5603cb48980b66fc61cca37813407b3797cd7", func := "jalousie/jalousielaw6.PrintSheets", spec := "printSheets", inPlace := ["internal/bytealg.IndexByteString", "internal/bytealg.IndexString", "internal/abi.NoEscape", "internal/bytealg.MakeNoZero"], unfollowed := true, recurses := true, named := ["jalousie/jalousieref3.kinds", "internal/bytealg.MaxLen", "math/bits.deBruijn64tab", "unicode/utf8.first", "unicode/utf8.acceptRanges", "internal/strconv.uint64pow10", "math/bits.deBruijn32tab"], apart := false, laid := [("math/bits.deBruijn32tab", laid_math_bits_deBruijn32tab), ("math/bits.deBruijn64tab", laid_math_bits_deBruijn64tab), ("internal/strconv.uint64pow10", laid_internal_strconv_uint64pow10), ("unicode/utf8.acceptRanges", laid_unicode_utf8_acceptRanges), ("jalousie/jalousieref3.kinds", laid_jalousie_jalousieref3_kinds), ("unicode/utf8.first", laid_unicode_utf8_first)] }
def PrintSheetsSaid : Prop := printSheetsRow.holds Tryz.pinned (OpenSpec.ofChange printSheetsSpec)

/-- ITS FALSE NEIGHBOUR: 'it returns false'. Refute it at one input. -/
def printSheetsWrong : ChangeSpec := { name := "printSheets", fn := fun _ => fun
  | [d] => { results := [.lit (.bool false)], args := [d] }
  | _ => none }
def PrintSheetsWrongFalsely : Prop := printSheetsRow.holds Tryz.pinned (OpenSpec.ofChange printSheetsWrong)

/-- 'jalousielaw6.PrintBack': WHATEVER THE INPUT: true; the input reads as it did. -/
def printBackSpec : ChangeSpec := { name := "printBack", fn := fun _ => fun
  | [d] => { results := [.lit (.bool true)], args := [d] }
  | _ => none }
def printBackRow : OpenClaim := { program := "ytnlekmkfgaolbaagreatdoor", sum := "1e162da61cade810e7d26357e7c5603cb48980b66fc61cca37813407b3797cd7", func := "jalousie/jalousielaw6.PrintBack", spec := "printBack", inPlace := ["internal/bytealg.IndexByteString", "internal/bytealg.IndexString", "internal/abi.NoEscape", "internal/bytealg.MakeNoZero"], unfollowed := true, recurses := true, named := ["unicode/utf8.first", "unicode/utf8.acceptRanges", "internal/bytealg.MaxLen", "math/bits.deBruijn64tab"], apart := false, laid := [("math/bits.deBruijn64tab", laid_math_bits_deBruijn64tab), ("unicode/utf8.acceptRanges", laid_unicode_utf8_acceptRanges), ("unicode/utf8.first", laid_unicode_utf8_first)] }
def PrintBackSaid : Prop := printBackRow.holds Tryz.pinned (OpenSpec.ofChange printBackSpec)

/-- ITS FALSE NEIGHBOUR: 'it returns false'. Refute it at one input. -/
def printBackWrong : ChangeSpec := { name := "printBack", fn := fun _ => fun
  | [d] => { results := [.lit (.bool false)], args := [d] }
  | _ => none }
def PrintBackWrongFalsely : Prop := printBackRow.holds Tryz.pinned (OpenSpec.ofChange printBackWrong)

/-- 'jalousielaw6.PrintTwice': WHATEVER THE INPUT: true; the input reads as it did. -/
def printTwiceSpec : ChangeSpec := { name := "printTwice", fn := fun _ => fun
  | [d] => { results := [.lit (.bool true)], args := [d] }
  | _ => none }
def printTwiceRow : OpenClaim := { program := "ytnlekmkfgaolbaagreatdoor", sum := "1e162da61cade810e7d26357e7c5603cb48980b66fc61cca37813407b3797cd7", func := "jalousie/jalousielaw6.PrintTwice", spec := "printTwice", inPlace := ["internal/bytealg.IndexByteString", "internal/bytealg.IndexString", "internal/abi.NoEscape", "internal/bytealg.MakeNoZero"], unfollowed := true, recurses := true, named := ["unicode/utf8.first", "unicode/utf8.acceptRanges", "internal/bytealg.MaxLen", "math/bits.deBruijn64tab"], apart := false, laid := [("math/bits.deBruijn64tab", laid_math_bits_deBruijn64tab), ("unicode/utf8.acceptRanges", laid_unicode_utf8_acceptRanges), ("unicode/utf8.first", laid_unicode_utf8_first)] }
def PrintTwiceSaid : Prop := printTwiceRow.holds Tryz.pinned (OpenSpec.ofChange printTwiceSpec)

/-- ITS FALSE NEIGHBOUR: 'it returns false'. Refute it at one input. -/
def printTwiceWrong : ChangeSpec := { name := "printTwice", fn := fun _ => fun
  | [d] => { results := [.lit (.bool false)], args := [d] }
  | _ => none }
def PrintTwiceWrongFalsely : Prop := printTwiceRow.holds Tryz.pinned (OpenSpec.ofChange printTwiceWrong)

/- THE SECOND FORM. 'bulk': how many values and letters a reading holds, each counted each time it is reached (what is shared counts as often as it is met; a slice's spare places count too). A statement '..UptoSaid' is the law's where the arguments, and the package variables that the reading takes, are together of bulk at most 1048576: NARROWER than '..Said'. Prove '..Said' where nothing that the law and all that it calls make is longer than what came in: it says more and counts as full. Else prove '..UptoSaid'. A law counts once. -/
mutual
def uptoBulk {H : Type} : DataW H → Nat
  | .lit (.string bytes) => bytes.length + 1
  | .lit _ => 1
  | .nil => 1
  | .ptr d => uptoBulk d + 1
  | .slice elems spare => uptoBulkAll elems + uptoBulkAll spare + 1
  | .agg parts => uptoBulkAll parts + 1
  | .iface _ d => uptoBulk d + 1
  | .map entries => uptoBulkEntries entries + 1
  | .held _ => 1
def uptoBulkAll {H : Type} : List (DataW H) → Nat
  | [] => 0
  | d :: r => uptoBulk d + uptoBulkAll r
def uptoBulkEntries {H : Type} : List (Lit × DataW H) → Nat
  | [] => 0
  | x :: r => uptoBulkEntry x + uptoBulkEntries r
def uptoBulkEntry {H : Type} : Lit × DataW H → Nat
  | (.string bytes, d) => bytes.length + uptoBulk d + 1
  | (_, d) => uptoBulk d + 1
 end
def uptoSmall : (H : Type) → List (DataW H) → Bool := fun _ ds => decide (uptoBulkAll ds ≤ 1048576)
def OpenSpec.upto (s : _root_.Go.ChangeSpec) : _root_.Go.OpenSpec := { _root_.Go.OpenSpec.ofChange s with cond := some uptoSmall }

/-- 'jalousielaw5.RuleRules', WHERE WHAT IT READS IS OF BULK AT MOST 1048576: true; the input reads as it did. -/
def ruleRulesUptoRow : OpenClaim := { program := "ytnlekmkfgaolbaagreatdoor", sum := "1e162da61cade810e7d26357e7c5603cb48980b66fc61cca37813407b3797cd7", func := "jalousie/jalousielaw5.RuleRules", spec := "ruleRules", inPlace := ["internal/bytealg.IndexByteString", "internal/bytealg.IndexString", "internal/abi.NoEscape", "internal/bytealg.MakeNoZero"], unfollowed := true, recurses := true, named := ["unicode/utf8.first", "unicode/utf8.acceptRanges", "internal/bytealg.MaxLen"], apart := false, laid := [("unicode/utf8.acceptRanges", laid_unicode_utf8_acceptRanges), ("unicode/utf8.first", laid_unicode_utf8_first)], narrowed := true }
def RuleRulesUptoSaid : Prop := ruleRulesUptoRow.holds Tryz.pinned (OpenSpec.upto ruleRulesSpec)

/-- 'jalousielaw5.RuleSheet', WHERE WHAT IT READS IS OF BULK AT MOST 1048576: true; the input reads as it did. -/
def ruleSheetUptoRow : OpenClaim := { program := "ytnlekmkfgaolbaagreatdoor", sum := "1e162da61cade810e7d26357e7c5603cb48980b66fc61cca37813407b3797cd7", func := "jalousie/jalousielaw5.RuleSheet", spec := "ruleSheet", inPlace := ["internal/bytealg.IndexByteString", "internal/bytealg.IndexString", "internal/abi.NoEscape", "internal/bytealg.MakeNoZero"], unfollowed := true, recurses := true, named := ["unicode/utf8.first", "unicode/utf8.acceptRanges", "jalousie/jalousieref3.kinds", "internal/bytealg.MaxLen"], apart := false, laid := [("unicode/utf8.acceptRanges", laid_unicode_utf8_acceptRanges), ("jalousie/jalousieref3.kinds", laid_jalousie_jalousieref3_kinds), ("unicode/utf8.first", laid_unicode_utf8_first)], narrowed := true }
def RuleSheetUptoSaid : Prop := ruleSheetUptoRow.holds Tryz.pinned (OpenSpec.upto ruleSheetSpec)

/-- 'jalousielaw5.RuleNests', WHERE WHAT IT READS IS OF BULK AT MOST 1048576: true; the input reads as it did. -/
def ruleNestsUptoRow : OpenClaim := { program := "ytnlekmkfgaolbaagreatdoor", sum := "1e162da61cade810e7d26357e7c5603cb48980b66fc61cca37813407b3797cd7", func := "jalousie/jalousielaw5.RuleNests", spec := "ruleNests", inPlace := ["internal/bytealg.IndexByteString", "internal/bytealg.IndexString", "internal/abi.NoEscape", "internal/bytealg.MakeNoZero"], unfollowed := true, recurses := true, named := ["unicode/utf8.first", "unicode/utf8.acceptRanges", "jalousie/jalousieref3.kinds", "internal/bytealg.MaxLen"], apart := false, laid := [("unicode/utf8.acceptRanges", laid_unicode_utf8_acceptRanges), ("jalousie/jalousieref3.kinds", laid_jalousie_jalousieref3_kinds), ("unicode/utf8.first", laid_unicode_utf8_first)], narrowed := true }
def RuleNestsUptoSaid : Prop := ruleNestsUptoRow.holds Tryz.pinned (OpenSpec.upto ruleNestsSpec)

/-- 'jalousielaw5.RuleBehind', WHERE WHAT IT READS IS OF BULK AT MOST 1048576: true; the input reads as it did. -/
def ruleBehindUptoRow : OpenClaim := { program := "ytnlekmkfgaolbaagreatdoor", sum := "1e162da61cade810e7d26357e7c5603cb48980b66fc61cca37813407b3797cd7", func := "jalousie/jalousielaw5.RuleBehind", spec := "ruleBehind", inPlace := ["internal/bytealg.IndexByteString", "internal/bytealg.IndexString", "internal/abi.NoEscape", "internal/bytealg.MakeNoZero"], unfollowed := true, recurses := true, named := ["unicode/utf8.first", "unicode/utf8.acceptRanges", "internal/bytealg.MaxLen"], apart := false, laid := [("unicode/utf8.acceptRanges", laid_unicode_utf8_acceptRanges), ("unicode/utf8.first", laid_unicode_utf8_first)], narrowed := true }
def RuleBehindUptoSaid : Prop := ruleBehindUptoRow.holds Tryz.pinned (OpenSpec.upto ruleBehindSpec)

/-- 'jalousielaw5.RuleBounds', WHERE WHAT IT READS IS OF BULK AT MOST 1048576: true; the input reads as it did. -/
def ruleBoundsUptoRow : OpenClaim := { program := "ytnlekmkfgaolbaagreatdoor", sum := "1e162da61cade810e7d26357e7c5603cb48980b66fc61cca37813407b3797cd7", func := "jalousie/jalousielaw5.RuleBounds", spec := "ruleBounds", inPlace := ["internal/bytealg.IndexByteString", "internal/bytealg.IndexString", "internal/abi.NoEscape", "internal/bytealg.MakeNoZero"], unfollowed := true, recurses := true, named := ["unicode/utf8.first", "unicode/utf8.acceptRanges", "internal/bytealg.MaxLen"], apart := false, laid := [("unicode/utf8.acceptRanges", laid_unicode_utf8_acceptRanges), ("unicode/utf8.first", laid_unicode_utf8_first)], narrowed := true }
def RuleBoundsUptoSaid : Prop := ruleBoundsUptoRow.holds Tryz.pinned (OpenSpec.upto ruleBoundsSpec)

/-- 'jalousielaw5.RuleDecls', WHERE WHAT IT READS IS OF BULK AT MOST 1048576: true; the input reads as it did. -/
def ruleDeclsUptoRow : OpenClaim := { program := "ytnlekmkfgaolbaagreatdoor", sum := "1e162da61cade810e7d26357e7c5603cb48980b66fc61cca37813407b3797cd7", func := "jalousie/jalousielaw5.RuleDecls", spec := "ruleDecls", inPlace := ["internal/bytealg.IndexByteString", "internal/bytealg.IndexString", "internal/abi.NoEscape", "internal/bytealg.MakeNoZero"], unfollowed := true, recurses := true, named := ["unicode/utf8.first", "unicode/utf8.acceptRanges", "internal/bytealg.MaxLen"], apart := false, laid := [("unicode/utf8.acceptRanges", laid_unicode_utf8_acceptRanges), ("unicode/utf8.first", laid_unicode_utf8_first)], narrowed := true }
def RuleDeclsUptoSaid : Prop := ruleDeclsUptoRow.holds Tryz.pinned (OpenSpec.upto ruleDeclsSpec)

/-- 'jalousielaw5.RuleNeighbours', WHERE WHAT IT READS IS OF BULK AT MOST 1048576: true; the input reads as it did. -/
def ruleNeighboursUptoRow : OpenClaim := { program := "ytnlekmkfgaolbaagreatdoor", sum := "1e162da61cade810e7d26357e7c5603cb48980b66fc61cca37813407b3797cd7", func := "jalousie/jalousielaw5.RuleNeighbours", spec := "ruleNeighbours", inPlace := ["internal/bytealg.IndexByteString", "internal/bytealg.IndexString", "internal/abi.NoEscape", "internal/bytealg.MakeNoZero"], unfollowed := true, recurses := true, named := ["unicode/utf8.first", "unicode/utf8.acceptRanges", "internal/bytealg.MaxLen"], apart := false, laid := [("unicode/utf8.acceptRanges", laid_unicode_utf8_acceptRanges), ("unicode/utf8.first", laid_unicode_utf8_first)], narrowed := true }
def RuleNeighboursUptoSaid : Prop := ruleNeighboursUptoRow.holds Tryz.pinned (OpenSpec.upto ruleNeighboursSpec)

/-- 'jalousielaw5.RuleFlat', WHERE WHAT IT READS IS OF BULK AT MOST 1048576: true; the input reads as it did. -/
def ruleFlatUptoRow : OpenClaim := { program := "ytnlekmkfgaolbaagreatdoor", sum := "1e162da61cade810e7d26357e7c5603cb48980b66fc61cca37813407b3797cd7", func := "jalousie/jalousielaw5.RuleFlat", spec := "ruleFlat", inPlace := ["internal/bytealg.IndexByteString", "internal/bytealg.IndexString", "internal/abi.NoEscape", "internal/bytealg.MakeNoZero"], unfollowed := true, recurses := true, named := ["unicode/utf8.first", "unicode/utf8.acceptRanges", "internal/bytealg.MaxLen"], apart := false, laid := [("unicode/utf8.acceptRanges", laid_unicode_utf8_acceptRanges), ("unicode/utf8.first", laid_unicode_utf8_first)], narrowed := true }
def RuleFlatUptoSaid : Prop := ruleFlatUptoRow.holds Tryz.pinned (OpenSpec.upto ruleFlatSpec)

/-- 'jalousielaw5.RuleRaw', WHERE WHAT IT READS IS OF BULK AT MOST 1048576: true; the input reads as it did. -/
def ruleRawUptoRow : OpenClaim := { program := "ytnlekmkfgaolbaagreatdoor", sum := "1e162da61cade810e7d26357e7c5603cb48980b66fc61cca37813407b3797cd7", func := "jalousie/jalousielaw5.RuleRaw", spec := "ruleRaw", inPlace := ["internal/bytealg.IndexByteString", "internal/bytealg.IndexString", "internal/abi.NoEscape", "internal/bytealg.MakeNoZero"], unfollowed := true, recurses := true, named := ["unicode/utf8.first", "unicode/utf8.acceptRanges", "internal/bytealg.MaxLen"], loops := true, apart := false, laid := [("unicode/utf8.acceptRanges", laid_unicode_utf8_acceptRanges), ("unicode/utf8.first", laid_unicode_utf8_first)], narrowed := true }
def RuleRawUptoSaid : Prop := ruleRawUptoRow.holds Tryz.pinned (OpenSpec.upto ruleRawSpec)

/-- 'jalousielaw6.PrintSheets', WHERE WHAT IT READS IS OF BULK AT MOST 1048576: true; the input reads as it did. -/
def printSheetsUptoRow : OpenClaim := { program := "ytnlekmkfgaolbaagreatdoor", sum := "1e162da61cade810e7d26357e7c5603cb48980b66fc61cca37813407b3797cd7", func := "jalousie/jalousielaw6.PrintSheets", spec := "printSheets", inPlace := ["internal/bytealg.IndexByteString", "internal/bytealg.IndexString", "internal/abi.NoEscape", "internal/bytealg.MakeNoZero"], unfollowed := true, recurses := true, named := ["jalousie/jalousieref3.kinds", "internal/bytealg.MaxLen", "math/bits.deBruijn64tab", "unicode/utf8.first", "unicode/utf8.acceptRanges", "internal/strconv.uint64pow10", "math/bits.deBruijn32tab"], apart := false, laid := [("math/bits.deBruijn32tab", laid_math_bits_deBruijn32tab), ("math/bits.deBruijn64tab", laid_math_bits_deBruijn64tab), ("internal/strconv.uint64pow10", laid_internal_strconv_uint64pow10), ("unicode/utf8.acceptRanges", laid_unicode_utf8_acceptRanges), ("jalousie/jalousieref3.kinds", laid_jalousie_jalousieref3_kinds), ("unicode/utf8.first", laid_unicode_utf8_first)], narrowed := true }
def PrintSheetsUptoSaid : Prop := printSheetsUptoRow.holds Tryz.pinned (OpenSpec.upto printSheetsSpec)

/-- 'jalousielaw6.PrintBack', WHERE WHAT IT READS IS OF BULK AT MOST 1048576: true; the input reads as it did. -/
def printBackUptoRow : OpenClaim := { program := "ytnlekmkfgaolbaagreatdoor", sum := "1e162da61cade810e7d26357e7c5603cb48980b66fc61cca37813407b3797cd7", func := "jalousie/jalousielaw6.PrintBack", spec := "printBack", inPlace := ["internal/bytealg.IndexByteString", "internal/bytealg.IndexString", "internal/abi.NoEscape", "internal/bytealg.MakeNoZero"], unfollowed := true, recurses := true, named := ["unicode/utf8.first", "unicode/utf8.acceptRanges", "internal/bytealg.MaxLen", "math/bits.deBruijn64tab"], apart := false, laid := [("math/bits.deBruijn64tab", laid_math_bits_deBruijn64tab), ("unicode/utf8.acceptRanges", laid_unicode_utf8_acceptRanges), ("unicode/utf8.first", laid_unicode_utf8_first)], narrowed := true }
def PrintBackUptoSaid : Prop := printBackUptoRow.holds Tryz.pinned (OpenSpec.upto printBackSpec)

/-- 'jalousielaw6.PrintTwice', WHERE WHAT IT READS IS OF BULK AT MOST 1048576: true; the input reads as it did. -/
def printTwiceUptoRow : OpenClaim := { program := "ytnlekmkfgaolbaagreatdoor", sum := "1e162da61cade810e7d26357e7c5603cb48980b66fc61cca37813407b3797cd7", func := "jalousie/jalousielaw6.PrintTwice", spec := "printTwice", inPlace := ["internal/bytealg.IndexByteString", "internal/bytealg.IndexString", "internal/abi.NoEscape", "internal/bytealg.MakeNoZero"], unfollowed := true, recurses := true, named := ["unicode/utf8.first", "unicode/utf8.acceptRanges", "internal/bytealg.MaxLen", "math/bits.deBruijn64tab"], apart := false, laid := [("math/bits.deBruijn64tab", laid_math_bits_deBruijn64tab), ("unicode/utf8.acceptRanges", laid_unicode_utf8_acceptRanges), ("unicode/utf8.first", laid_unicode_utf8_first)], narrowed := true }
def PrintTwiceUptoSaid : Prop := printTwiceUptoRow.holds Tryz.pinned (OpenSpec.upto printTwiceSpec)

end Rows
end Go.Proofs.YtnlekmkfgaolbaaGreatDoor
