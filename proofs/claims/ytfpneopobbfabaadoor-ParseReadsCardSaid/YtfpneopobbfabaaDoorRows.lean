/-
  NARROWER THAN 'FOR EVERY INPUT', by the rows' own cells (each row's printed sentence says how): ParseReads: laid · ParseVerbs: laid · ParseBlanks: laid · ParseBrackets: laid · ParseRight: laid · ParseLines: laid · ParseFaults: laid · ParseFlat: laid.
  DERIVED. THE GIVEN ROWS OF THIS SEAT. 8 by the template 'for every input the law returns true; each argument reads behind the call as it read before'; 0 by the template 'total and deterministic' (their statements: YtfpneopobbfabaaDoorTotals.lean).
  GIVEN WITH THE SEED: the statements are not yours to turn. If you find one false, say at which input.
  Laid BY PROGRAM, IN A SANDBOX (cutbox-rows.mjs): the forced cells as the released guide's own fill.sh prints them over the translation a3c853a8db771a2b… (all of the seat's roots in one cut). By AI agents, Wed Nov 11 2026. No macro, syntax, notation, axiom, sorry.
-/
import Derived.Test.YtfpneopobbfabaaDoorChecked
import GoSem.Claim
import GoSem.ClaimJoined
import GoSem.ClaimMapViews
import Derived.JoinedTies
import Derived.KernelRfl
namespace Go.Proofs.YtfpneopobbfabaaDoor
/- THE CELL 'sum', in the pinned program and in every row, IS THE sha256 OF THE DUMP (.gsa) THAT YtfpneopobbfabaaDoorProg.lean LOADS. Nothing in Lean hashes anything: it is a label: what it is worth is what the hold of that sum in a sandbox is worth. -/
noncomputable def Tryd.pinned : Pinned := { name := "ytfpneopobbfabaadoor", sum := "a3c853a8db771a2be2b5f8b94f7028772d0746401c71eb9208bcd0368c02002d", checked := Tryd.checked }
namespace Rows
def none {H : Type} : Left H := { results := [], args := [] }

/- WHAT THE LISTED PACKAGE-LEVEL VARIABLES READ AS WHEN THE CALL BEGINS. Each datum BY PROGRAM (the guide's laid-datum.mjs) off the statement by which the dump's own 'gosem.cut.vars' lays the variable. In a bare row this is a premise. The card (YtfpneopobbfabaaDoorCards.lean) ties it to the program's text. -/
def laid_math_bits_deBruijn32tab {H : Type} : DataW H := .agg [.lit (.int .u8 0), .lit (.int .u8 1), .lit (.int .u8 28), .lit (.int .u8 2), .lit (.int .u8 29), .lit (.int .u8 14), .lit (.int .u8 24), .lit (.int .u8 3), .lit (.int .u8 30), .lit (.int .u8 22), .lit (.int .u8 20), .lit (.int .u8 15), .lit (.int .u8 25), .lit (.int .u8 17), .lit (.int .u8 4), .lit (.int .u8 8), .lit (.int .u8 31), .lit (.int .u8 27), .lit (.int .u8 13), .lit (.int .u8 23), .lit (.int .u8 21), .lit (.int .u8 19), .lit (.int .u8 16), .lit (.int .u8 7), .lit (.int .u8 26), .lit (.int .u8 12), .lit (.int .u8 18), .lit (.int .u8 6), .lit (.int .u8 11), .lit (.int .u8 5), .lit (.int .u8 10), .lit (.int .u8 9)]
def laid_math_bits_deBruijn64tab {H : Type} : DataW H := .agg [.lit (.int .u8 0), .lit (.int .u8 1), .lit (.int .u8 56), .lit (.int .u8 2), .lit (.int .u8 57), .lit (.int .u8 49), .lit (.int .u8 28), .lit (.int .u8 3), .lit (.int .u8 61), .lit (.int .u8 58), .lit (.int .u8 42), .lit (.int .u8 50), .lit (.int .u8 38), .lit (.int .u8 29), .lit (.int .u8 17), .lit (.int .u8 4), .lit (.int .u8 62), .lit (.int .u8 47), .lit (.int .u8 59), .lit (.int .u8 36), .lit (.int .u8 45), .lit (.int .u8 43), .lit (.int .u8 51), .lit (.int .u8 22), .lit (.int .u8 53), .lit (.int .u8 39), .lit (.int .u8 33), .lit (.int .u8 30), .lit (.int .u8 24), .lit (.int .u8 18), .lit (.int .u8 12), .lit (.int .u8 5), .lit (.int .u8 63), .lit (.int .u8 55), .lit (.int .u8 48), .lit (.int .u8 27), .lit (.int .u8 60), .lit (.int .u8 41), .lit (.int .u8 37), .lit (.int .u8 16), .lit (.int .u8 46), .lit (.int .u8 35), .lit (.int .u8 44), .lit (.int .u8 21), .lit (.int .u8 52), .lit (.int .u8 32), .lit (.int .u8 23), .lit (.int .u8 11), .lit (.int .u8 54), .lit (.int .u8 26), .lit (.int .u8 40), .lit (.int .u8 15), .lit (.int .u8 34), .lit (.int .u8 20), .lit (.int .u8 31), .lit (.int .u8 10), .lit (.int .u8 25), .lit (.int .u8 14), .lit (.int .u8 19), .lit (.int .u8 9), .lit (.int .u8 13), .lit (.int .u8 8), .lit (.int .u8 7), .lit (.int .u8 6)]
def laid_internal_strconv_uint64pow10 {H : Type} : DataW H := .agg [.lit (.int .u64 1), .lit (.int .u64 10), .lit (.int .u64 100), .lit (.int .u64 1000), .lit (.int .u64 10000), .lit (.int .u64 100000), .lit (.int .u64 1000000), .lit (.int .u64 10000000), .lit (.int .u64 100000000), .lit (.int .u64 1000000000), .lit (.int .u64 10000000000), .lit (.int .u64 100000000000), .lit (.int .u64 1000000000000), .lit (.int .u64 10000000000000), .lit (.int .u64 100000000000000), .lit (.int .u64 1000000000000000), .lit (.int .u64 10000000000000000), .lit (.int .u64 100000000000000000), .lit (.int .u64 1000000000000000000), .lit (.int .u64 10000000000000000000)]
def laid_strconv_ErrRange {H : Type} : DataW H := .iface "*errors.errorString" (.ptr (.agg [.lit (.string [118, 97, 108, 117, 101, 32, 111, 117, 116, 32, 111, 102, 32, 114, 97, 110, 103, 101])]))
def laid_strconv_ErrSyntax {H : Type} : DataW H := .iface "*errors.errorString" (.ptr (.agg [.lit (.string [105, 110, 118, 97, 108, 105, 100, 32, 115, 121, 110, 116, 97, 120])]))

/-- 'windrowlaw04.ParseReads': WHATEVER THE INPUT: true; the input reads as it did. -/
def parseReadsSpec : ChangeSpec := { name := "parseReads", fn := fun _ => fun
  | [d] => { results := [.lit (.bool true)], args := [d] }
  | _ => none }
def parseReadsRow : OpenClaim := { program := "ytfpneopobbfabaadoor", sum := "a3c853a8db771a2be2b5f8b94f7028772d0746401c71eb9208bcd0368c02002d", func := "windrow/windrowlaw04.ParseReads", spec := "parseReads", inPlace := ["internal/bytealg.IndexByteString"], unfollowed := true, recurses := true, named := ["strconv.ErrSyntax", "strconv.ErrRange", "internal/strconv.uint64pow10", "math/bits.deBruijn32tab", "math/bits.deBruijn64tab"], apart := false, laid := [("math/bits.deBruijn32tab", laid_math_bits_deBruijn32tab), ("math/bits.deBruijn64tab", laid_math_bits_deBruijn64tab), ("internal/strconv.uint64pow10", laid_internal_strconv_uint64pow10), ("strconv.ErrRange", laid_strconv_ErrRange), ("strconv.ErrSyntax", laid_strconv_ErrSyntax)] }
def ParseReadsSaid : Prop := parseReadsRow.holds Tryd.pinned (OpenSpec.ofChange parseReadsSpec)

/-- ITS FALSE NEIGHBOUR: 'it returns false'. Refute it at one input. -/
def parseReadsWrong : ChangeSpec := { name := "parseReads", fn := fun _ => fun
  | [d] => { results := [.lit (.bool false)], args := [d] }
  | _ => none }
def ParseReadsWrongFalsely : Prop := parseReadsRow.holds Tryd.pinned (OpenSpec.ofChange parseReadsWrong)

/-- 'windrowlaw04.ParseVerbs': WHATEVER THE INPUT: true; the input reads as it did. -/
def parseVerbsSpec : ChangeSpec := { name := "parseVerbs", fn := fun _ => fun
  | [d1, d2] => { results := [.lit (.bool true)], args := [d1, d2] }
  | _ => none }
def parseVerbsRow : OpenClaim := { program := "ytfpneopobbfabaadoor", sum := "a3c853a8db771a2be2b5f8b94f7028772d0746401c71eb9208bcd0368c02002d", func := "windrow/windrowlaw04.ParseVerbs", spec := "parseVerbs", inPlace := ["internal/bytealg.IndexByteString"], unfollowed := true, recurses := true, named := ["strconv.ErrSyntax", "strconv.ErrRange", "internal/strconv.uint64pow10", "math/bits.deBruijn32tab", "math/bits.deBruijn64tab"], apart := false, laid := [("math/bits.deBruijn32tab", laid_math_bits_deBruijn32tab), ("math/bits.deBruijn64tab", laid_math_bits_deBruijn64tab), ("internal/strconv.uint64pow10", laid_internal_strconv_uint64pow10), ("strconv.ErrRange", laid_strconv_ErrRange), ("strconv.ErrSyntax", laid_strconv_ErrSyntax)] }
def ParseVerbsSaid : Prop := parseVerbsRow.holds Tryd.pinned (OpenSpec.ofChange parseVerbsSpec)

/-- ITS FALSE NEIGHBOUR: 'it returns false'. Refute it at one input. -/
def parseVerbsWrong : ChangeSpec := { name := "parseVerbs", fn := fun _ => fun
  | [d1, d2] => { results := [.lit (.bool false)], args := [d1, d2] }
  | _ => none }
def ParseVerbsWrongFalsely : Prop := parseVerbsRow.holds Tryd.pinned (OpenSpec.ofChange parseVerbsWrong)

/-- 'windrowlaw04.ParseBlanks': WHATEVER THE INPUT: true; the input reads as it did. -/
def parseBlanksSpec : ChangeSpec := { name := "parseBlanks", fn := fun _ => fun
  | [d] => { results := [.lit (.bool true)], args := [d] }
  | _ => none }
def parseBlanksRow : OpenClaim := { program := "ytfpneopobbfabaadoor", sum := "a3c853a8db771a2be2b5f8b94f7028772d0746401c71eb9208bcd0368c02002d", func := "windrow/windrowlaw04.ParseBlanks", spec := "parseBlanks", inPlace := ["internal/bytealg.IndexByteString"], unfollowed := true, recurses := true, named := ["strconv.ErrSyntax", "strconv.ErrRange", "internal/strconv.uint64pow10", "math/bits.deBruijn32tab", "math/bits.deBruijn64tab"], apart := false, laid := [("math/bits.deBruijn32tab", laid_math_bits_deBruijn32tab), ("math/bits.deBruijn64tab", laid_math_bits_deBruijn64tab), ("internal/strconv.uint64pow10", laid_internal_strconv_uint64pow10), ("strconv.ErrRange", laid_strconv_ErrRange), ("strconv.ErrSyntax", laid_strconv_ErrSyntax)] }
def ParseBlanksSaid : Prop := parseBlanksRow.holds Tryd.pinned (OpenSpec.ofChange parseBlanksSpec)

/-- ITS FALSE NEIGHBOUR: 'it returns false'. Refute it at one input. -/
def parseBlanksWrong : ChangeSpec := { name := "parseBlanks", fn := fun _ => fun
  | [d] => { results := [.lit (.bool false)], args := [d] }
  | _ => none }
def ParseBlanksWrongFalsely : Prop := parseBlanksRow.holds Tryd.pinned (OpenSpec.ofChange parseBlanksWrong)

/-- 'windrowlaw04.ParseBrackets': WHATEVER THE INPUT: true; the input reads as it did. -/
def parseBracketsSpec : ChangeSpec := { name := "parseBrackets", fn := fun _ => fun
  | [d] => { results := [.lit (.bool true)], args := [d] }
  | _ => none }
def parseBracketsRow : OpenClaim := { program := "ytfpneopobbfabaadoor", sum := "a3c853a8db771a2be2b5f8b94f7028772d0746401c71eb9208bcd0368c02002d", func := "windrow/windrowlaw04.ParseBrackets", spec := "parseBrackets", inPlace := ["internal/bytealg.IndexByteString"], unfollowed := true, recurses := true, named := ["strconv.ErrSyntax", "strconv.ErrRange", "internal/strconv.uint64pow10", "math/bits.deBruijn32tab", "math/bits.deBruijn64tab"], apart := false, laid := [("math/bits.deBruijn32tab", laid_math_bits_deBruijn32tab), ("math/bits.deBruijn64tab", laid_math_bits_deBruijn64tab), ("internal/strconv.uint64pow10", laid_internal_strconv_uint64pow10), ("strconv.ErrRange", laid_strconv_ErrRange), ("strconv.ErrSyntax", laid_strconv_ErrSyntax)] }
def ParseBracketsSaid : Prop := parseBracketsRow.holds Tryd.pinned (OpenSpec.ofChange parseBracketsSpec)

/-- ITS FALSE NEIGHBOUR: 'it returns false'. Refute it at one input. -/
def parseBracketsWrong : ChangeSpec := { name := "parseBrackets", fn := fun _ => fun
  | [d] => { results := [.lit (.bool false)], args := [d] }
  | _ => none }
def ParseBracketsWrongFalsely : Prop := parseBracketsRow.holds Tryd.pinned (OpenSpec.ofChange parseBracketsWrong)

/-- 'windrowlaw04.ParseRight': WHATEVER THE INPUT: true; the input reads as it did. -/
def parseRightSpec : ChangeSpec := { name := "parseRight", fn := fun _ => fun
  | [d1, d2] => { results := [.lit (.bool true)], args := [d1, d2] }
  | _ => none }
def parseRightRow : OpenClaim := { program := "ytfpneopobbfabaadoor", sum := "a3c853a8db771a2be2b5f8b94f7028772d0746401c71eb9208bcd0368c02002d", func := "windrow/windrowlaw04.ParseRight", spec := "parseRight", inPlace := ["internal/bytealg.IndexByteString"], unfollowed := true, recurses := true, named := ["strconv.ErrSyntax", "strconv.ErrRange", "internal/strconv.uint64pow10", "math/bits.deBruijn32tab", "math/bits.deBruijn64tab"], apart := false, laid := [("math/bits.deBruijn32tab", laid_math_bits_deBruijn32tab), ("math/bits.deBruijn64tab", laid_math_bits_deBruijn64tab), ("internal/strconv.uint64pow10", laid_internal_strconv_uint64pow10), ("strconv.ErrRange", laid_strconv_ErrRange), ("strconv.ErrSyntax", laid_strconv_ErrSyntax)] }
def ParseRightSaid : Prop := parseRightRow.holds Tryd.pinned (OpenSpec.ofChange parseRightSpec)

/-- ITS FALSE NEIGHBOUR: 'it returns false'. Refute it at one input. -/
def parseRightWrong : ChangeSpec := { name := "parseRight", fn := fun _ => fun
  | [d1, d2] => { results := [.lit (.bool false)], args := [d1, d2] }
  | _ => none }
def ParseRightWrongFalsely : Prop := parseRightRow.holds Tryd.pinned (OpenSpec.ofChange parseRightWrong)

/-- 'windrowlaw04.ParseLines': WHATEVER THE INPUT: true; the input reads as it did. -/
def parseLinesSpec : ChangeSpec := { name := "parseLines", fn := fun _ => fun
  | [d] => { results := [.lit (.bool true)], args := [d] }
  | _ => none }
def parseLinesRow : OpenClaim := { program := "ytfpneopobbfabaadoor", sum := "a3c853a8db771a2be2b5f8b94f7028772d0746401c71eb9208bcd0368c02002d", func := "windrow/windrowlaw04.ParseLines", spec := "parseLines", inPlace := ["internal/bytealg.IndexByteString"], unfollowed := true, recurses := true, named := ["strconv.ErrSyntax", "strconv.ErrRange", "internal/strconv.uint64pow10", "math/bits.deBruijn32tab", "math/bits.deBruijn64tab"], apart := false, laid := [("math/bits.deBruijn32tab", laid_math_bits_deBruijn32tab), ("math/bits.deBruijn64tab", laid_math_bits_deBruijn64tab), ("internal/strconv.uint64pow10", laid_internal_strconv_uint64pow10), ("strconv.ErrRange", laid_strconv_ErrRange), ("strconv.ErrSyntax", laid_strconv_ErrSyntax)] }
def ParseLinesSaid : Prop := parseLinesRow.holds Tryd.pinned (OpenSpec.ofChange parseLinesSpec)

/-- ITS FALSE NEIGHBOUR: 'it returns false'. Refute it at one input. -/
def parseLinesWrong : ChangeSpec := { name := "parseLines", fn := fun _ => fun
  | [d] => { results := [.lit (.bool false)], args := [d] }
  | _ => none }
def ParseLinesWrongFalsely : Prop := parseLinesRow.holds Tryd.pinned (OpenSpec.ofChange parseLinesWrong)

/-- 'windrowlaw04.ParseFaults': WHATEVER THE INPUT: true; the input reads as it did. -/
def parseFaultsSpec : ChangeSpec := { name := "parseFaults", fn := fun _ => fun
  | [d] => { results := [.lit (.bool true)], args := [d] }
  | _ => none }
def parseFaultsRow : OpenClaim := { program := "ytfpneopobbfabaadoor", sum := "a3c853a8db771a2be2b5f8b94f7028772d0746401c71eb9208bcd0368c02002d", func := "windrow/windrowlaw04.ParseFaults", spec := "parseFaults", inPlace := ["internal/bytealg.IndexByteString"], unfollowed := true, recurses := true, named := ["strconv.ErrSyntax", "strconv.ErrRange", "internal/strconv.uint64pow10", "math/bits.deBruijn32tab", "math/bits.deBruijn64tab"], apart := false, laid := [("math/bits.deBruijn32tab", laid_math_bits_deBruijn32tab), ("math/bits.deBruijn64tab", laid_math_bits_deBruijn64tab), ("internal/strconv.uint64pow10", laid_internal_strconv_uint64pow10), ("strconv.ErrRange", laid_strconv_ErrRange), ("strconv.ErrSyntax", laid_strconv_ErrSyntax)] }
def ParseFaultsSaid : Prop := parseFaultsRow.holds Tryd.pinned (OpenSpec.ofChange parseFaultsSpec)

/-- ITS FALSE NEIGHBOUR: 'it returns false'. Refute it at one input. -/
def parseFaultsWrong : ChangeSpec := { name := "parseFaults", fn := fun _ => fun
  | [d] => { results := [.lit (.bool false)], args := [d] }
  | _ => none }
def ParseFaultsWrongFalsely : Prop := parseFaultsRow.holds Tryd.pinned (OpenSpec.ofChange parseFaultsWrong)

/-- 'windrowlaw04.ParseFlat': WHATEVER THE INPUT: true; the input reads as it did. -/
def parseFlatSpec : ChangeSpec := { name := "parseFlat", fn := fun _ => fun
  | [d] => { results := [.lit (.bool true)], args := [d] }
  | _ => none }
def parseFlatRow : OpenClaim := { program := "ytfpneopobbfabaadoor", sum := "a3c853a8db771a2be2b5f8b94f7028772d0746401c71eb9208bcd0368c02002d", func := "windrow/windrowlaw04.ParseFlat", spec := "parseFlat", inPlace := ["internal/bytealg.IndexByteString"], unfollowed := true, recurses := true, named := ["strconv.ErrSyntax", "strconv.ErrRange", "internal/strconv.uint64pow10", "math/bits.deBruijn32tab", "math/bits.deBruijn64tab"], apart := false, laid := [("math/bits.deBruijn32tab", laid_math_bits_deBruijn32tab), ("math/bits.deBruijn64tab", laid_math_bits_deBruijn64tab), ("internal/strconv.uint64pow10", laid_internal_strconv_uint64pow10), ("strconv.ErrRange", laid_strconv_ErrRange), ("strconv.ErrSyntax", laid_strconv_ErrSyntax)] }
def ParseFlatSaid : Prop := parseFlatRow.holds Tryd.pinned (OpenSpec.ofChange parseFlatSpec)

/-- ITS FALSE NEIGHBOUR: 'it returns false'. Refute it at one input. -/
def parseFlatWrong : ChangeSpec := { name := "parseFlat", fn := fun _ => fun
  | [d] => { results := [.lit (.bool false)], args := [d] }
  | _ => none }
def ParseFlatWrongFalsely : Prop := parseFlatRow.holds Tryd.pinned (OpenSpec.ofChange parseFlatWrong)

/- THE SECOND FORM. 'bulk': how many values and letters a reading holds, each counted each time it is reached (what is shared counts as often as it is met; a slice's spare places count too). A statement '..UptoSaid' is the law's where the arguments, and the package variables that the reading takes, are together of bulk at most 1048576: NARROWER than '..Said'. Prove '..Said' where nothing that the law and all that it calls make is longer than what came in: it says more and counts as full. Else prove '..UptoSaid'. A law counts once. -/
mutual
def uptoBulk {H : Type} : DataW H → Nat
  | .lit (.string bytes) => bytes.length + 1
  | .lit _ => 1
  | .nil => 1
  | .ptr d => uptoBulk d + 1
  | .slice elems spare => uptoBulkAll elems + uptoBulkAll spare + 1
  | .agg parts => uptoBulkAll parts + 1
  | .iface _ d => uptoBulk d + 1
  | .map entries => uptoBulkEntries entries + 1
  | .held _ => 1
def uptoBulkAll {H : Type} : List (DataW H) → Nat
  | [] => 0
  | d :: r => uptoBulk d + uptoBulkAll r
def uptoBulkEntries {H : Type} : List (Lit × DataW H) → Nat
  | [] => 0
  | x :: r => uptoBulkEntry x + uptoBulkEntries r
def uptoBulkEntry {H : Type} : Lit × DataW H → Nat
  | (.string bytes, d) => bytes.length + uptoBulk d + 1
  | (_, d) => uptoBulk d + 1
 end
def uptoSmall : (H : Type) → List (DataW H) → Bool := fun _ ds => decide (uptoBulkAll ds ≤ 1048576)
def OpenSpec.upto (s : _root_.Go.ChangeSpec) : _root_.Go.OpenSpec := { _root_.Go.OpenSpec.ofChange s with cond := some uptoSmall }

/-- 'windrowlaw04.ParseReads', WHERE WHAT IT READS IS OF BULK AT MOST 1048576: true; the input reads as it did. -/
def parseReadsUptoRow : OpenClaim := { program := "ytfpneopobbfabaadoor", sum := "a3c853a8db771a2be2b5f8b94f7028772d0746401c71eb9208bcd0368c02002d", func := "windrow/windrowlaw04.ParseReads", spec := "parseReads", inPlace := ["internal/bytealg.IndexByteString"], unfollowed := true, recurses := true, named := ["strconv.ErrSyntax", "strconv.ErrRange", "internal/strconv.uint64pow10", "math/bits.deBruijn32tab", "math/bits.deBruijn64tab"], apart := false, laid := [("math/bits.deBruijn32tab", laid_math_bits_deBruijn32tab), ("math/bits.deBruijn64tab", laid_math_bits_deBruijn64tab), ("internal/strconv.uint64pow10", laid_internal_strconv_uint64pow10), ("strconv.ErrRange", laid_strconv_ErrRange), ("strconv.ErrSyntax", laid_strconv_ErrSyntax)], narrowed := true }
def ParseReadsUptoSaid : Prop := parseReadsUptoRow.holds Tryd.pinned (OpenSpec.upto parseReadsSpec)

/-- 'windrowlaw04.ParseVerbs', WHERE WHAT IT READS IS OF BULK AT MOST 1048576: true; the input reads as it did. -/
def parseVerbsUptoRow : OpenClaim := { program := "ytfpneopobbfabaadoor", sum := "a3c853a8db771a2be2b5f8b94f7028772d0746401c71eb9208bcd0368c02002d", func := "windrow/windrowlaw04.ParseVerbs", spec := "parseVerbs", inPlace := ["internal/bytealg.IndexByteString"], unfollowed := true, recurses := true, named := ["strconv.ErrSyntax", "strconv.ErrRange", "internal/strconv.uint64pow10", "math/bits.deBruijn32tab", "math/bits.deBruijn64tab"], apart := false, laid := [("math/bits.deBruijn32tab", laid_math_bits_deBruijn32tab), ("math/bits.deBruijn64tab", laid_math_bits_deBruijn64tab), ("internal/strconv.uint64pow10", laid_internal_strconv_uint64pow10), ("strconv.ErrRange", laid_strconv_ErrRange), ("strconv.ErrSyntax", laid_strconv_ErrSyntax)], narrowed := true }
def ParseVerbsUptoSaid : Prop := parseVerbsUptoRow.holds Tryd.pinned (OpenSpec.upto parseVerbsSpec)

/-- 'windrowlaw04.ParseBlanks', WHERE WHAT IT READS IS OF BULK AT MOST 1048576: true; the input reads as it did. -/
def parseBlanksUptoRow : OpenClaim := { program := "ytfpneopobbfabaadoor", sum := "a3c853a8db771a2be2b5f8b94f7028772d0746401c71eb9208bcd0368c02002d", func := "windrow/windrowlaw04.ParseBlanks", spec := "parseBlanks", inPlace := ["internal/bytealg.IndexByteString"], unfollowed := true, recurses := true, named := ["strconv.ErrSyntax", "strconv.ErrRange", "internal/strconv.uint64pow10", "math/bits.deBruijn32tab", "math/bits.deBruijn64tab"], apart := false, laid := [("math/bits.deBruijn32tab", laid_math_bits_deBruijn32tab), ("math/bits.deBruijn64tab", laid_math_bits_deBruijn64tab), ("internal/strconv.uint64pow10", laid_internal_strconv_uint64pow10), ("strconv.ErrRange", laid_strconv_ErrRange), ("strconv.ErrSyntax", laid_strconv_ErrSyntax)], narrowed := true }
def ParseBlanksUptoSaid : Prop := parseBlanksUptoRow.holds Tryd.pinned (OpenSpec.upto parseBlanksSpec)

/-- 'windrowlaw04.ParseBrackets', WHERE WHAT IT READS IS OF BULK AT MOST 1048576: true; the input reads as it did. -/
def parseBracketsUptoRow : OpenClaim := { program := "ytfpneopobbfabaadoor", sum := "a3c853a8db771a2be2b5f8b94f7028772d0746401c71eb9208bcd0368c02002d", func := "windrow/windrowlaw04.ParseBrackets", spec := "parseBrackets", inPlace := ["internal/bytealg.IndexByteString"], unfollowed := true, recurses := true, named := ["strconv.ErrSyntax", "strconv.ErrRange", "internal/strconv.uint64pow10", "math/bits.deBruijn32tab", "math/bits.deBruijn64tab"], apart := false, laid := [("math/bits.deBruijn32tab", laid_math_bits_deBruijn32tab), ("math/bits.deBruijn64tab", laid_math_bits_deBruijn64tab), ("internal/strconv.uint64pow10", laid_internal_strconv_uint64pow10), ("strconv.ErrRange", laid_strconv_ErrRange), ("strconv.ErrSyntax", laid_strconv_ErrSyntax)], narrowed := true }
def ParseBracketsUptoSaid : Prop := parseBracketsUptoRow.holds Tryd.pinned (OpenSpec.upto parseBracketsSpec)

/-- 'windrowlaw04.ParseRight', WHERE WHAT IT READS IS OF BULK AT MOST 1048576: true; the input reads as it did. -/
def parseRightUptoRow : OpenClaim := { program := "ytfpneopobbfabaadoor", sum := "a3c853a8db771a2be2b5f8b94f7028772d0746401c71eb9208bcd0368c02002d", func := "windrow/windrowlaw04.ParseRight", spec := "parseRight", inPlace := ["internal/bytealg.IndexByteString"], unfollowed := true, recurses := true, named := ["strconv.ErrSyntax", "strconv.ErrRange", "internal/strconv.uint64pow10", "math/bits.deBruijn32tab", "math/bits.deBruijn64tab"], apart := false, laid := [("math/bits.deBruijn32tab", laid_math_bits_deBruijn32tab), ("math/bits.deBruijn64tab", laid_math_bits_deBruijn64tab), ("internal/strconv.uint64pow10", laid_internal_strconv_uint64pow10), ("strconv.ErrRange", laid_strconv_ErrRange), ("strconv.ErrSyntax", laid_strconv_ErrSyntax)], narrowed := true }
def ParseRightUptoSaid : Prop := parseRightUptoRow.holds Tryd.pinned (OpenSpec.upto parseRightSpec)

/-- 'windrowlaw04.ParseLines', WHERE WHAT IT READS IS OF BULK AT MOST 1048576: true; the input reads as it did. -/
def parseLinesUptoRow : OpenClaim := { program := "ytfpneopobbfabaadoor", sum := "a3c853a8db771a2be2b5f8b94f7028772d0746401c71eb9208bcd0368c02002d", func := "windrow/windrowlaw04.ParseLines", spec := "parseLines", inPlace := ["internal/bytealg.IndexByteString"], unfollowed := true, recurses := true, named := ["strconv.ErrSyntax", "strconv.ErrRange", "internal/strconv.uint64pow10", "math/bits.deBruijn32tab", "math/bits.deBruijn64tab"], apart := false, laid := [("math/bits.deBruijn32tab", laid_math_bits_deBruijn32tab), ("math/bits.deBruijn64tab", laid_math_bits_deBruijn64tab), ("internal/strconv.uint64pow10", laid_internal_strconv_uint64pow10), ("strconv.ErrRange", laid_strconv_ErrRange), ("strconv.ErrSyntax", laid_strconv_ErrSyntax)], narrowed := true }
def ParseLinesUptoSaid : Prop := parseLinesUptoRow.holds Tryd.pinned (OpenSpec.upto parseLinesSpec)

/-- 'windrowlaw04.ParseFaults', WHERE WHAT IT READS IS OF BULK AT MOST 1048576: true; the input reads as it did. -/
def parseFaultsUptoRow : OpenClaim := { program := "ytfpneopobbfabaadoor", sum := "a3c853a8db771a2be2b5f8b94f7028772d0746401c71eb9208bcd0368c02002d", func := "windrow/windrowlaw04.ParseFaults", spec := "parseFaults", inPlace := ["internal/bytealg.IndexByteString"], unfollowed := true, recurses := true, named := ["strconv.ErrSyntax", "strconv.ErrRange", "internal/strconv.uint64pow10", "math/bits.deBruijn32tab", "math/bits.deBruijn64tab"], apart := false, laid := [("math/bits.deBruijn32tab", laid_math_bits_deBruijn32tab), ("math/bits.deBruijn64tab", laid_math_bits_deBruijn64tab), ("internal/strconv.uint64pow10", laid_internal_strconv_uint64pow10), ("strconv.ErrRange", laid_strconv_ErrRange), ("strconv.ErrSyntax", laid_strconv_ErrSyntax)], narrowed := true }
def ParseFaultsUptoSaid : Prop := parseFaultsUptoRow.holds Tryd.pinned (OpenSpec.upto parseFaultsSpec)

/-- 'windrowlaw04.ParseFlat', WHERE WHAT IT READS IS OF BULK AT MOST 1048576: true; the input reads as it did. -/
def parseFlatUptoRow : OpenClaim := { program := "ytfpneopobbfabaadoor", sum := "a3c853a8db771a2be2b5f8b94f7028772d0746401c71eb9208bcd0368c02002d", func := "windrow/windrowlaw04.ParseFlat", spec := "parseFlat", inPlace := ["internal/bytealg.IndexByteString"], unfollowed := true, recurses := true, named := ["strconv.ErrSyntax", "strconv.ErrRange", "internal/strconv.uint64pow10", "math/bits.deBruijn32tab", "math/bits.deBruijn64tab"], apart := false, laid := [("math/bits.deBruijn32tab", laid_math_bits_deBruijn32tab), ("math/bits.deBruijn64tab", laid_math_bits_deBruijn64tab), ("internal/strconv.uint64pow10", laid_internal_strconv_uint64pow10), ("strconv.ErrRange", laid_strconv_ErrRange), ("strconv.ErrSyntax", laid_strconv_ErrSyntax)], narrowed := true }
def ParseFlatUptoSaid : Prop := parseFlatUptoRow.holds Tryd.pinned (OpenSpec.upto parseFlatSpec)

end Rows
end Go.Proofs.YtfpneopobbfabaaDoor
