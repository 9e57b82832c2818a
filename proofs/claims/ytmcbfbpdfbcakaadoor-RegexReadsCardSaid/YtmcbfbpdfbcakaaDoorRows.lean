/-
  NARROWER THAN 'FOR EVERY INPUT', by the rows' own cells (each row's printed sentence says how): RegexReads: loops, laid · RegexRight: loops, laid · RegexKnown: laid · RegexErrs: laid · RegexDeep: laid · RegexLong: laid · RegexAgain: laid · RegexParts: loops, laid · RegexBack: loops, laid · RegexSets: laid.
  DERIVED. THE GIVEN ROWS OF THIS SEAT. 10 by the template 'for every input the law returns true; each argument reads behind the call as it read before'; 0 by the template 'total and deterministic' (their statements: YtmcbfbpdfbcakaaDoorTotals.lean).
  GIVEN WITH THE SEED: the statements are not yours to turn. If you find one false, say at which input.
  Laid BY PROGRAM, IN A SANDBOX (cutbox-rows.mjs): the forced cells as the released guide's own fill.sh prints them over the translation eece465fd728dfc9… (all of the seat's roots in one cut). By AI agents, Wed Nov 11 2026. No macro, syntax, notation, axiom, sorry.
-/
import Derived.Test.YtmcbfbpdfbcakaaDoorChecked
import GoSem.Claim
import GoSem.ClaimJoined
import GoSem.ClaimMapViews
import Derived.JoinedTies
import Derived.KernelRfl
namespace Go.Proofs.YtmcbfbpdfbcakaaDoor
/- THE CELL 'sum', in the pinned program and in every row, IS THE sha256 OF THE DUMP (.gsa) THAT YtmcbfbpdfbcakaaDoorProg.lean LOADS. Nothing in Lean hashes anything: it is a label: what it is worth is what the hold of that sum in a sandbox is worth. -/
noncomputable def Tryd.pinned : Pinned := { name := "ytmcbfbpdfbcakaadoor", sum := "eece465fd728dfc90f21a3dc17838d5c957cd189847d6b830a496c81a48b4282", checked := Tryd.checked }
namespace Rows
def none {H : Type} : Left H := { results := [], args := [] }

/- WHAT THE LISTED PACKAGE-LEVEL VARIABLES READ AS WHEN THE CALL BEGINS. Each datum BY PROGRAM (the guide's laid-datum.mjs) off the statement by which the dump's own 'gosem.cut.vars' lays the variable. In a bare row this is a premise. The card (YtmcbfbpdfbcakaaDoorCards.lean) ties it to the program's text. -/
def laid_math_bits_deBruijn32tab {H : Type} : DataW H := .agg [.lit (.int .u8 0), .lit (.int .u8 1), .lit (.int .u8 28), .lit (.int .u8 2), .lit (.int .u8 29), .lit (.int .u8 14), .lit (.int .u8 24), .lit (.int .u8 3), .lit (.int .u8 30), .lit (.int .u8 22), .lit (.int .u8 20), .lit (.int .u8 15), .lit (.int .u8 25), .lit (.int .u8 17), .lit (.int .u8 4), .lit (.int .u8 8), .lit (.int .u8 31), .lit (.int .u8 27), .lit (.int .u8 13), .lit (.int .u8 23), .lit (.int .u8 21), .lit (.int .u8 19), .lit (.int .u8 16), .lit (.int .u8 7), .lit (.int .u8 26), .lit (.int .u8 12), .lit (.int .u8 18), .lit (.int .u8 6), .lit (.int .u8 11), .lit (.int .u8 5), .lit (.int .u8 10), .lit (.int .u8 9)]
def laid_math_bits_deBruijn64tab {H : Type} : DataW H := .agg [.lit (.int .u8 0), .lit (.int .u8 1), .lit (.int .u8 56), .lit (.int .u8 2), .lit (.int .u8 57), .lit (.int .u8 49), .lit (.int .u8 28), .lit (.int .u8 3), .lit (.int .u8 61), .lit (.int .u8 58), .lit (.int .u8 42), .lit (.int .u8 50), .lit (.int .u8 38), .lit (.int .u8 29), .lit (.int .u8 17), .lit (.int .u8 4), .lit (.int .u8 62), .lit (.int .u8 47), .lit (.int .u8 59), .lit (.int .u8 36), .lit (.int .u8 45), .lit (.int .u8 43), .lit (.int .u8 51), .lit (.int .u8 22), .lit (.int .u8 53), .lit (.int .u8 39), .lit (.int .u8 33), .lit (.int .u8 30), .lit (.int .u8 24), .lit (.int .u8 18), .lit (.int .u8 12), .lit (.int .u8 5), .lit (.int .u8 63), .lit (.int .u8 55), .lit (.int .u8 48), .lit (.int .u8 27), .lit (.int .u8 60), .lit (.int .u8 41), .lit (.int .u8 37), .lit (.int .u8 16), .lit (.int .u8 46), .lit (.int .u8 35), .lit (.int .u8 44), .lit (.int .u8 21), .lit (.int .u8 52), .lit (.int .u8 32), .lit (.int .u8 23), .lit (.int .u8 11), .lit (.int .u8 54), .lit (.int .u8 26), .lit (.int .u8 40), .lit (.int .u8 15), .lit (.int .u8 34), .lit (.int .u8 20), .lit (.int .u8 31), .lit (.int .u8 10), .lit (.int .u8 25), .lit (.int .u8 14), .lit (.int .u8 19), .lit (.int .u8 9), .lit (.int .u8 13), .lit (.int .u8 8), .lit (.int .u8 7), .lit (.int .u8 6)]
def laid_internal_strconv_uint64pow10 {H : Type} : DataW H := .agg [.lit (.int .u64 1), .lit (.int .u64 10), .lit (.int .u64 100), .lit (.int .u64 1000), .lit (.int .u64 10000), .lit (.int .u64 100000), .lit (.int .u64 1000000), .lit (.int .u64 10000000), .lit (.int .u64 100000000), .lit (.int .u64 1000000000), .lit (.int .u64 10000000000), .lit (.int .u64 100000000000), .lit (.int .u64 1000000000000), .lit (.int .u64 10000000000000), .lit (.int .u64 100000000000000), .lit (.int .u64 1000000000000000), .lit (.int .u64 10000000000000000), .lit (.int .u64 100000000000000000), .lit (.int .u64 1000000000000000000), .lit (.int .u64 10000000000000000000)]

/-- 'milestonelaw4.RegexReads': WHATEVER THE INPUT: true; the input reads as it did. -/
def regexReadsSpec : ChangeSpec := { name := "regexReads", fn := fun _ => fun
  | [d1, d2, d3, d4, d5, d6] => { results := [.lit (.bool true)], args := [d1, d2, d3, d4, d5, d6] }
  | _ => none }
def regexReadsRow : OpenClaim := { program := "ytmcbfbpdfbcakaadoor", sum := "eece465fd728dfc90f21a3dc17838d5c957cd189847d6b830a496c81a48b4282", func := "milestone/milestonelaw4.RegexReads", spec := "regexReads", inPlace := ["internal/bytealg.IndexByteString", "internal/abi.NoEscape", "internal/bytealg.MakeNoZero"], unfollowed := true, recurses := true, named := ["internal/strconv.uint64pow10", "math/bits.deBruijn32tab", "math/bits.deBruijn64tab"], loops := true, apart := false, laid := [("math/bits.deBruijn32tab", laid_math_bits_deBruijn32tab), ("math/bits.deBruijn64tab", laid_math_bits_deBruijn64tab), ("internal/strconv.uint64pow10", laid_internal_strconv_uint64pow10)] }
def RegexReadsSaid : Prop := regexReadsRow.holds Tryd.pinned (OpenSpec.ofChange regexReadsSpec)

/-- ITS FALSE NEIGHBOUR: 'it returns false'. Refute it at one input. -/
def regexReadsWrong : ChangeSpec := { name := "regexReads", fn := fun _ => fun
  | [d1, d2, d3, d4, d5, d6] => { results := [.lit (.bool false)], args := [d1, d2, d3, d4, d5, d6] }
  | _ => none }
def RegexReadsWrongFalsely : Prop := regexReadsRow.holds Tryd.pinned (OpenSpec.ofChange regexReadsWrong)

/-- 'milestonelaw4.RegexRight': WHATEVER THE INPUT: true; the input reads as it did. -/
def regexRightSpec : ChangeSpec := { name := "regexRight", fn := fun _ => fun
  | [d1, d2, d3, d4, d5] => { results := [.lit (.bool true)], args := [d1, d2, d3, d4, d5] }
  | _ => none }
def regexRightRow : OpenClaim := { program := "ytmcbfbpdfbcakaadoor", sum := "eece465fd728dfc90f21a3dc17838d5c957cd189847d6b830a496c81a48b4282", func := "milestone/milestonelaw4.RegexRight", spec := "regexRight", inPlace := ["internal/bytealg.IndexByteString", "internal/abi.NoEscape", "internal/bytealg.MakeNoZero"], unfollowed := true, recurses := true, named := ["internal/strconv.uint64pow10", "math/bits.deBruijn32tab", "math/bits.deBruijn64tab"], loops := true, apart := false, laid := [("math/bits.deBruijn32tab", laid_math_bits_deBruijn32tab), ("math/bits.deBruijn64tab", laid_math_bits_deBruijn64tab), ("internal/strconv.uint64pow10", laid_internal_strconv_uint64pow10)] }
def RegexRightSaid : Prop := regexRightRow.holds Tryd.pinned (OpenSpec.ofChange regexRightSpec)

/-- ITS FALSE NEIGHBOUR: 'it returns false'. Refute it at one input. -/
def regexRightWrong : ChangeSpec := { name := "regexRight", fn := fun _ => fun
  | [d1, d2, d3, d4, d5] => { results := [.lit (.bool false)], args := [d1, d2, d3, d4, d5] }
  | _ => none }
def RegexRightWrongFalsely : Prop := regexRightRow.holds Tryd.pinned (OpenSpec.ofChange regexRightWrong)

/-- 'milestonelaw4.RegexKnown': WHATEVER THE INPUT: true; the input reads as it did. -/
def regexKnownSpec : ChangeSpec := { name := "regexKnown", fn := fun _ => fun
  | [d] => { results := [.lit (.bool true)], args := [d] }
  | _ => none }
def regexKnownRow : OpenClaim := { program := "ytmcbfbpdfbcakaadoor", sum := "eece465fd728dfc90f21a3dc17838d5c957cd189847d6b830a496c81a48b4282", func := "milestone/milestonelaw4.RegexKnown", spec := "regexKnown", inPlace := ["internal/bytealg.IndexByteString", "internal/abi.NoEscape", "internal/bytealg.MakeNoZero"], unfollowed := true, recurses := true, named := ["internal/strconv.uint64pow10", "math/bits.deBruijn32tab", "math/bits.deBruijn64tab"], apart := false, laid := [("math/bits.deBruijn32tab", laid_math_bits_deBruijn32tab), ("math/bits.deBruijn64tab", laid_math_bits_deBruijn64tab), ("internal/strconv.uint64pow10", laid_internal_strconv_uint64pow10)] }
def RegexKnownSaid : Prop := regexKnownRow.holds Tryd.pinned (OpenSpec.ofChange regexKnownSpec)

/-- ITS FALSE NEIGHBOUR: 'it returns false'. Refute it at one input. -/
def regexKnownWrong : ChangeSpec := { name := "regexKnown", fn := fun _ => fun
  | [d] => { results := [.lit (.bool false)], args := [d] }
  | _ => none }
def RegexKnownWrongFalsely : Prop := regexKnownRow.holds Tryd.pinned (OpenSpec.ofChange regexKnownWrong)

/-- 'milestonelaw4.RegexErrs': WHATEVER THE INPUT: true; the input reads as it did. -/
def regexErrsSpec : ChangeSpec := { name := "regexErrs", fn := fun _ => fun
  | [d] => { results := [.lit (.bool true)], args := [d] }
  | _ => none }
def regexErrsRow : OpenClaim := { program := "ytmcbfbpdfbcakaadoor", sum := "eece465fd728dfc90f21a3dc17838d5c957cd189847d6b830a496c81a48b4282", func := "milestone/milestonelaw4.RegexErrs", spec := "regexErrs", inPlace := ["internal/bytealg.IndexByteString", "internal/abi.NoEscape", "internal/bytealg.MakeNoZero"], unfollowed := true, recurses := true, named := ["internal/strconv.uint64pow10", "math/bits.deBruijn32tab", "math/bits.deBruijn64tab"], apart := false, laid := [("math/bits.deBruijn32tab", laid_math_bits_deBruijn32tab), ("math/bits.deBruijn64tab", laid_math_bits_deBruijn64tab), ("internal/strconv.uint64pow10", laid_internal_strconv_uint64pow10)] }
def RegexErrsSaid : Prop := regexErrsRow.holds Tryd.pinned (OpenSpec.ofChange regexErrsSpec)

/-- ITS FALSE NEIGHBOUR: 'it returns false'. Refute it at one input. -/
def regexErrsWrong : ChangeSpec := { name := "regexErrs", fn := fun _ => fun
  | [d] => { results := [.lit (.bool false)], args := [d] }
  | _ => none }
def RegexErrsWrongFalsely : Prop := regexErrsRow.holds Tryd.pinned (OpenSpec.ofChange regexErrsWrong)

/-- 'milestonelaw4.RegexDeep': WHATEVER THE INPUT: true; the input reads as it did. -/
def regexDeepSpec : ChangeSpec := { name := "regexDeep", fn := fun _ => fun
  | [d] => { results := [.lit (.bool true)], args := [d] }
  | _ => none }
def regexDeepRow : OpenClaim := { program := "ytmcbfbpdfbcakaadoor", sum := "eece465fd728dfc90f21a3dc17838d5c957cd189847d6b830a496c81a48b4282", func := "milestone/milestonelaw4.RegexDeep", spec := "regexDeep", inPlace := ["internal/bytealg.IndexByteString", "internal/abi.NoEscape", "internal/bytealg.MakeNoZero"], unfollowed := true, recurses := true, named := ["internal/strconv.uint64pow10", "math/bits.deBruijn32tab", "math/bits.deBruijn64tab"], apart := false, laid := [("math/bits.deBruijn32tab", laid_math_bits_deBruijn32tab), ("math/bits.deBruijn64tab", laid_math_bits_deBruijn64tab), ("internal/strconv.uint64pow10", laid_internal_strconv_uint64pow10)] }
def RegexDeepSaid : Prop := regexDeepRow.holds Tryd.pinned (OpenSpec.ofChange regexDeepSpec)

/-- ITS FALSE NEIGHBOUR: 'it returns false'. Refute it at one input. -/
def regexDeepWrong : ChangeSpec := { name := "regexDeep", fn := fun _ => fun
  | [d] => { results := [.lit (.bool false)], args := [d] }
  | _ => none }
def RegexDeepWrongFalsely : Prop := regexDeepRow.holds Tryd.pinned (OpenSpec.ofChange regexDeepWrong)

/-- 'milestonelaw4.RegexLong': WHATEVER THE INPUT: true; the input reads as it did. -/
def regexLongSpec : ChangeSpec := { name := "regexLong", fn := fun _ => fun
  | [d1, d2] => { results := [.lit (.bool true)], args := [d1, d2] }
  | _ => none }
def regexLongRow : OpenClaim := { program := "ytmcbfbpdfbcakaadoor", sum := "eece465fd728dfc90f21a3dc17838d5c957cd189847d6b830a496c81a48b4282", func := "milestone/milestonelaw4.RegexLong", spec := "regexLong", inPlace := ["internal/bytealg.IndexByteString", "internal/abi.NoEscape", "internal/bytealg.MakeNoZero"], unfollowed := true, recurses := true, named := ["internal/strconv.uint64pow10", "math/bits.deBruijn32tab", "math/bits.deBruijn64tab"], apart := false, laid := [("math/bits.deBruijn32tab", laid_math_bits_deBruijn32tab), ("math/bits.deBruijn64tab", laid_math_bits_deBruijn64tab), ("internal/strconv.uint64pow10", laid_internal_strconv_uint64pow10)] }
def RegexLongSaid : Prop := regexLongRow.holds Tryd.pinned (OpenSpec.ofChange regexLongSpec)

/-- ITS FALSE NEIGHBOUR: 'it returns false'. Refute it at one input. -/
def regexLongWrong : ChangeSpec := { name := "regexLong", fn := fun _ => fun
  | [d1, d2] => { results := [.lit (.bool false)], args := [d1, d2] }
  | _ => none }
def RegexLongWrongFalsely : Prop := regexLongRow.holds Tryd.pinned (OpenSpec.ofChange regexLongWrong)

/-- 'milestonelaw4.RegexAgain': WHATEVER THE INPUT: true; the input reads as it did. -/
def regexAgainSpec : ChangeSpec := { name := "regexAgain", fn := fun _ => fun
  | [d] => { results := [.lit (.bool true)], args := [d] }
  | _ => none }
def regexAgainRow : OpenClaim := { program := "ytmcbfbpdfbcakaadoor", sum := "eece465fd728dfc90f21a3dc17838d5c957cd189847d6b830a496c81a48b4282", func := "milestone/milestonelaw4.RegexAgain", spec := "regexAgain", inPlace := ["internal/bytealg.IndexByteString", "internal/abi.NoEscape", "internal/bytealg.MakeNoZero"], unfollowed := true, recurses := true, named := ["internal/strconv.uint64pow10", "math/bits.deBruijn32tab", "math/bits.deBruijn64tab"], apart := false, laid := [("math/bits.deBruijn32tab", laid_math_bits_deBruijn32tab), ("math/bits.deBruijn64tab", laid_math_bits_deBruijn64tab), ("internal/strconv.uint64pow10", laid_internal_strconv_uint64pow10)] }
def RegexAgainSaid : Prop := regexAgainRow.holds Tryd.pinned (OpenSpec.ofChange regexAgainSpec)

/-- ITS FALSE NEIGHBOUR: 'it returns false'. Refute it at one input. -/
def regexAgainWrong : ChangeSpec := { name := "regexAgain", fn := fun _ => fun
  | [d] => { results := [.lit (.bool false)], args := [d] }
  | _ => none }
def RegexAgainWrongFalsely : Prop := regexAgainRow.holds Tryd.pinned (OpenSpec.ofChange regexAgainWrong)

/-- 'milestonelaw4.RegexParts': WHATEVER THE INPUT: true; the input reads as it did. -/
def regexPartsSpec : ChangeSpec := { name := "regexParts", fn := fun _ => fun
  | [d1, d2] => { results := [.lit (.bool true)], args := [d1, d2] }
  | _ => none }
def regexPartsRow : OpenClaim := { program := "ytmcbfbpdfbcakaadoor", sum := "eece465fd728dfc90f21a3dc17838d5c957cd189847d6b830a496c81a48b4282", func := "milestone/milestonelaw4.RegexParts", spec := "regexParts", inPlace := ["internal/bytealg.IndexByteString", "internal/abi.NoEscape", "internal/bytealg.MakeNoZero"], unfollowed := true, recurses := true, named := ["internal/strconv.uint64pow10", "math/bits.deBruijn32tab", "math/bits.deBruijn64tab"], loops := true, apart := false, laid := [("math/bits.deBruijn32tab", laid_math_bits_deBruijn32tab), ("math/bits.deBruijn64tab", laid_math_bits_deBruijn64tab), ("internal/strconv.uint64pow10", laid_internal_strconv_uint64pow10)] }
def RegexPartsSaid : Prop := regexPartsRow.holds Tryd.pinned (OpenSpec.ofChange regexPartsSpec)

/-- ITS FALSE NEIGHBOUR: 'it returns false'. Refute it at one input. -/
def regexPartsWrong : ChangeSpec := { name := "regexParts", fn := fun _ => fun
  | [d1, d2] => { results := [.lit (.bool false)], args := [d1, d2] }
  | _ => none }
def RegexPartsWrongFalsely : Prop := regexPartsRow.holds Tryd.pinned (OpenSpec.ofChange regexPartsWrong)

/-- 'milestonelaw4.RegexBack': WHATEVER THE INPUT: true; the input reads as it did. -/
def regexBackSpec : ChangeSpec := { name := "regexBack", fn := fun _ => fun
  | [d] => { results := [.lit (.bool true)], args := [d] }
  | _ => none }
def regexBackRow : OpenClaim := { program := "ytmcbfbpdfbcakaadoor", sum := "eece465fd728dfc90f21a3dc17838d5c957cd189847d6b830a496c81a48b4282", func := "milestone/milestonelaw4.RegexBack", spec := "regexBack", inPlace := ["internal/bytealg.IndexByteString", "internal/abi.NoEscape", "internal/bytealg.MakeNoZero"], unfollowed := true, recurses := true, named := ["internal/strconv.uint64pow10", "math/bits.deBruijn32tab", "math/bits.deBruijn64tab"], loops := true, apart := false, laid := [("math/bits.deBruijn32tab", laid_math_bits_deBruijn32tab), ("math/bits.deBruijn64tab", laid_math_bits_deBruijn64tab), ("internal/strconv.uint64pow10", laid_internal_strconv_uint64pow10)] }
def RegexBackSaid : Prop := regexBackRow.holds Tryd.pinned (OpenSpec.ofChange regexBackSpec)

/-- ITS FALSE NEIGHBOUR: 'it returns false'. Refute it at one input. -/
def regexBackWrong : ChangeSpec := { name := "regexBack", fn := fun _ => fun
  | [d] => { results := [.lit (.bool false)], args := [d] }
  | _ => none }
def RegexBackWrongFalsely : Prop := regexBackRow.holds Tryd.pinned (OpenSpec.ofChange regexBackWrong)

/-- 'milestonelaw4.RegexSets': WHATEVER THE INPUT: true; the input reads as it did. -/
def regexSetsSpec : ChangeSpec := { name := "regexSets", fn := fun _ => fun
  | [d1, d2] => { results := [.lit (.bool true)], args := [d1, d2] }
  | _ => none }
def regexSetsRow : OpenClaim := { program := "ytmcbfbpdfbcakaadoor", sum := "eece465fd728dfc90f21a3dc17838d5c957cd189847d6b830a496c81a48b4282", func := "milestone/milestonelaw4.RegexSets", spec := "regexSets", inPlace := ["internal/bytealg.IndexByteString", "internal/abi.NoEscape", "internal/bytealg.MakeNoZero"], unfollowed := true, recurses := true, named := ["internal/strconv.uint64pow10", "math/bits.deBruijn32tab", "math/bits.deBruijn64tab"], apart := false, laid := [("math/bits.deBruijn32tab", laid_math_bits_deBruijn32tab), ("math/bits.deBruijn64tab", laid_math_bits_deBruijn64tab), ("internal/strconv.uint64pow10", laid_internal_strconv_uint64pow10)] }
def RegexSetsSaid : Prop := regexSetsRow.holds Tryd.pinned (OpenSpec.ofChange regexSetsSpec)

/-- ITS FALSE NEIGHBOUR: 'it returns false'. Refute it at one input. -/
def regexSetsWrong : ChangeSpec := { name := "regexSets", fn := fun _ => fun
  | [d1, d2] => { results := [.lit (.bool false)], args := [d1, d2] }
  | _ => none }
def RegexSetsWrongFalsely : Prop := regexSetsRow.holds Tryd.pinned (OpenSpec.ofChange regexSetsWrong)

/- THE SECOND FORM. 'bulk': how many values and letters a reading holds, each counted each time it is reached (what is shared counts as often as it is met; a slice's spare places count too). A statement '..UptoSaid' is the law's where the arguments, and the package variables that the reading takes, are together of bulk at most 1048576: NARROWER than '..Said'. Prove '..Said' where nothing that the law and all that it calls make is longer than what came in: it says more and counts as full. Else prove '..UptoSaid'. A law counts once. -/
mutual
def uptoBulk {H : Type} : DataW H → Nat
  | .lit (.string bytes) => bytes.length + 1
  | .lit _ => 1
  | .nil => 1
  | .ptr d => uptoBulk d + 1
  | .slice elems spare => uptoBulkAll elems + uptoBulkAll spare + 1
  | .agg parts => uptoBulkAll parts + 1
  | .iface _ d => uptoBulk d + 1
  | .map entries => uptoBulkEntries entries + 1
  | .held _ => 1
def uptoBulkAll {H : Type} : List (DataW H) → Nat
  | [] => 0
  | d :: r => uptoBulk d + uptoBulkAll r
def uptoBulkEntries {H : Type} : List (Lit × DataW H) → Nat
  | [] => 0
  | x :: r => uptoBulkEntry x + uptoBulkEntries r
def uptoBulkEntry {H : Type} : Lit × DataW H → Nat
  | (.string bytes, d) => bytes.length + uptoBulk d + 1
  | (_, d) => uptoBulk d + 1
 end
def uptoSmall : (H : Type) → List (DataW H) → Bool := fun _ ds => decide (uptoBulkAll ds ≤ 1048576)
def OpenSpec.upto (s : _root_.Go.ChangeSpec) : _root_.Go.OpenSpec := { _root_.Go.OpenSpec.ofChange s with cond := some uptoSmall }

/-- 'milestonelaw4.RegexReads', WHERE WHAT IT READS IS OF BULK AT MOST 1048576: true; the input reads as it did. -/
def regexReadsUptoRow : OpenClaim := { program := "ytmcbfbpdfbcakaadoor", sum := "eece465fd728dfc90f21a3dc17838d5c957cd189847d6b830a496c81a48b4282", func := "milestone/milestonelaw4.RegexReads", spec := "regexReads", inPlace := ["internal/bytealg.IndexByteString", "internal/abi.NoEscape", "internal/bytealg.MakeNoZero"], unfollowed := true, recurses := true, named := ["internal/strconv.uint64pow10", "math/bits.deBruijn32tab", "math/bits.deBruijn64tab"], loops := true, apart := false, laid := [("math/bits.deBruijn32tab", laid_math_bits_deBruijn32tab), ("math/bits.deBruijn64tab", laid_math_bits_deBruijn64tab), ("internal/strconv.uint64pow10", laid_internal_strconv_uint64pow10)], narrowed := true }
def RegexReadsUptoSaid : Prop := regexReadsUptoRow.holds Tryd.pinned (OpenSpec.upto regexReadsSpec)

/-- 'milestonelaw4.RegexRight', WHERE WHAT IT READS IS OF BULK AT MOST 1048576: true; the input reads as it did. -/
def regexRightUptoRow : OpenClaim := { program := "ytmcbfbpdfbcakaadoor", sum := "eece465fd728dfc90f21a3dc17838d5c957cd189847d6b830a496c81a48b4282", func := "milestone/milestonelaw4.RegexRight", spec := "regexRight", inPlace := ["internal/bytealg.IndexByteString", "internal/abi.NoEscape", "internal/bytealg.MakeNoZero"], unfollowed := true, recurses := true, named := ["internal/strconv.uint64pow10", "math/bits.deBruijn32tab", "math/bits.deBruijn64tab"], loops := true, apart := false, laid := [("math/bits.deBruijn32tab", laid_math_bits_deBruijn32tab), ("math/bits.deBruijn64tab", laid_math_bits_deBruijn64tab), ("internal/strconv.uint64pow10", laid_internal_strconv_uint64pow10)], narrowed := true }
def RegexRightUptoSaid : Prop := regexRightUptoRow.holds Tryd.pinned (OpenSpec.upto regexRightSpec)

/-- 'milestonelaw4.RegexKnown', WHERE WHAT IT READS IS OF BULK AT MOST 1048576: true; the input reads as it did. -/
def regexKnownUptoRow : OpenClaim := { program := "ytmcbfbpdfbcakaadoor", sum := "eece465fd728dfc90f21a3dc17838d5c957cd189847d6b830a496c81a48b4282", func := "milestone/milestonelaw4.RegexKnown", spec := "regexKnown", inPlace := ["internal/bytealg.IndexByteString", "internal/abi.NoEscape", "internal/bytealg.MakeNoZero"], unfollowed := true, recurses := true, named := ["internal/strconv.uint64pow10", "math/bits.deBruijn32tab", "math/bits.deBruijn64tab"], apart := false, laid := [("math/bits.deBruijn32tab", laid_math_bits_deBruijn32tab), ("math/bits.deBruijn64tab", laid_math_bits_deBruijn64tab), ("internal/strconv.uint64pow10", laid_internal_strconv_uint64pow10)], narrowed := true }
def RegexKnownUptoSaid : Prop := regexKnownUptoRow.holds Tryd.pinned (OpenSpec.upto regexKnownSpec)

/-- 'milestonelaw4.RegexErrs', WHERE WHAT IT READS IS OF BULK AT MOST 1048576: true; the input reads as it did. -/
def regexErrsUptoRow : OpenClaim := { program := "ytmcbfbpdfbcakaadoor", sum := "eece465fd728dfc90f21a3dc17838d5c957cd189847d6b830a496c81a48b4282", func := "milestone/milestonelaw4.RegexErrs", spec := "regexErrs", inPlace := ["internal/bytealg.IndexByteString", "internal/abi.NoEscape", "internal/bytealg.MakeNoZero"], unfollowed := true, recurses := true, named := ["internal/strconv.uint64pow10", "math/bits.deBruijn32tab", "math/bits.deBruijn64tab"], apart := false, laid := [("math/bits.deBruijn32tab", laid_math_bits_deBruijn32tab), ("math/bits.deBruijn64tab", laid_math_bits_deBruijn64tab), ("internal/strconv.uint64pow10", laid_internal_strconv_uint64pow10)], narrowed := true }
def RegexErrsUptoSaid : Prop := regexErrsUptoRow.holds Tryd.pinned (OpenSpec.upto regexErrsSpec)

/-- 'milestonelaw4.RegexDeep', WHERE WHAT IT READS IS OF BULK AT MOST 1048576: true; the input reads as it did. -/
def regexDeepUptoRow : OpenClaim := { program := "ytmcbfbpdfbcakaadoor", sum := "eece465fd728dfc90f21a3dc17838d5c957cd189847d6b830a496c81a48b4282", func := "milestone/milestonelaw4.RegexDeep", spec := "regexDeep", inPlace := ["internal/bytealg.IndexByteString", "internal/abi.NoEscape", "internal/bytealg.MakeNoZero"], unfollowed := true, recurses := true, named := ["internal/strconv.uint64pow10", "math/bits.deBruijn32tab", "math/bits.deBruijn64tab"], apart := false, laid := [("math/bits.deBruijn32tab", laid_math_bits_deBruijn32tab), ("math/bits.deBruijn64tab", laid_math_bits_deBruijn64tab), ("internal/strconv.uint64pow10", laid_internal_strconv_uint64pow10)], narrowed := true }
def RegexDeepUptoSaid : Prop := regexDeepUptoRow.holds Tryd.pinned (OpenSpec.upto regexDeepSpec)

/-- 'milestonelaw4.RegexLong', WHERE WHAT IT READS IS OF BULK AT MOST 1048576: true; the input reads as it did. -/
def regexLongUptoRow : OpenClaim := { program := "ytmcbfbpdfbcakaadoor", sum := "eece465fd728dfc90f21a3dc17838d5c957cd189847d6b830a496c81a48b4282", func := "milestone/milestonelaw4.RegexLong", spec := "regexLong", inPlace := ["internal/bytealg.IndexByteString", "internal/abi.NoEscape", "internal/bytealg.MakeNoZero"], unfollowed := true, recurses := true, named := ["internal/strconv.uint64pow10", "math/bits.deBruijn32tab", "math/bits.deBruijn64tab"], apart := false, laid := [("math/bits.deBruijn32tab", laid_math_bits_deBruijn32tab), ("math/bits.deBruijn64tab", laid_math_bits_deBruijn64tab), ("internal/strconv.uint64pow10", laid_internal_strconv_uint64pow10)], narrowed := true }
def RegexLongUptoSaid : Prop := regexLongUptoRow.holds Tryd.pinned (OpenSpec.upto regexLongSpec)

/-- 'milestonelaw4.RegexAgain', WHERE WHAT IT READS IS OF BULK AT MOST 1048576: true; the input reads as it did. -/
def regexAgainUptoRow : OpenClaim := { program := "ytmcbfbpdfbcakaadoor", sum := "eece465fd728dfc90f21a3dc17838d5c957cd189847d6b830a496c81a48b4282", func := "milestone/milestonelaw4.RegexAgain", spec := "regexAgain", inPlace := ["internal/bytealg.IndexByteString", "internal/abi.NoEscape", "internal/bytealg.MakeNoZero"], unfollowed := true, recurses := true, named := ["internal/strconv.uint64pow10", "math/bits.deBruijn32tab", "math/bits.deBruijn64tab"], apart := false, laid := [("math/bits.deBruijn32tab", laid_math_bits_deBruijn32tab), ("math/bits.deBruijn64tab", laid_math_bits_deBruijn64tab), ("internal/strconv.uint64pow10", laid_internal_strconv_uint64pow10)], narrowed := true }
def RegexAgainUptoSaid : Prop := regexAgainUptoRow.holds Tryd.pinned (OpenSpec.upto regexAgainSpec)

/-- 'milestonelaw4.RegexParts', WHERE WHAT IT READS IS OF BULK AT MOST 1048576: true; the input reads as it did. -/
def regexPartsUptoRow : OpenClaim := { program := "ytmcbfbpdfbcakaadoor", sum := "eece465fd728dfc90f21a3dc17838d5c957cd189847d6b830a496c81a48b4282", func := "milestone/milestonelaw4.RegexParts", spec := "regexParts", inPlace := ["internal/bytealg.IndexByteString", "internal/abi.NoEscape", "internal/bytealg.MakeNoZero"], unfollowed := true, recurses := true, named := ["internal/strconv.uint64pow10", "math/bits.deBruijn32tab", "math/bits.deBruijn64tab"], loops := true, apart := false, laid := [("math/bits.deBruijn32tab", laid_math_bits_deBruijn32tab), ("math/bits.deBruijn64tab", laid_math_bits_deBruijn64tab), ("internal/strconv.uint64pow10", laid_internal_strconv_uint64pow10)], narrowed := true }
def RegexPartsUptoSaid : Prop := regexPartsUptoRow.holds Tryd.pinned (OpenSpec.upto regexPartsSpec)

/-- 'milestonelaw4.RegexBack', WHERE WHAT IT READS IS OF BULK AT MOST 1048576: true; the input reads as it did. -/
def regexBackUptoRow : OpenClaim := { program := "ytmcbfbpdfbcakaadoor", sum := "eece465fd728dfc90f21a3dc17838d5c957cd189847d6b830a496c81a48b4282", func := "milestone/milestonelaw4.RegexBack", spec := "regexBack", inPlace := ["internal/bytealg.IndexByteString", "internal/abi.NoEscape", "internal/bytealg.MakeNoZero"], unfollowed := true, recurses := true, named := ["internal/strconv.uint64pow10", "math/bits.deBruijn32tab", "math/bits.deBruijn64tab"], loops := true, apart := false, laid := [("math/bits.deBruijn32tab", laid_math_bits_deBruijn32tab), ("math/bits.deBruijn64tab", laid_math_bits_deBruijn64tab), ("internal/strconv.uint64pow10", laid_internal_strconv_uint64pow10)], narrowed := true }
def RegexBackUptoSaid : Prop := regexBackUptoRow.holds Tryd.pinned (OpenSpec.upto regexBackSpec)

/-- 'milestonelaw4.RegexSets', WHERE WHAT IT READS IS OF BULK AT MOST 1048576: true; the input reads as it did. -/
def regexSetsUptoRow : OpenClaim := { program := "ytmcbfbpdfbcakaadoor", sum := "eece465fd728dfc90f21a3dc17838d5c957cd189847d6b830a496c81a48b4282", func := "milestone/milestonelaw4.RegexSets", spec := "regexSets", inPlace := ["internal/bytealg.IndexByteString", "internal/abi.NoEscape", "internal/bytealg.MakeNoZero"], unfollowed := true, recurses := true, named := ["internal/strconv.uint64pow10", "math/bits.deBruijn32tab", "math/bits.deBruijn64tab"], apart := false, laid := [("math/bits.deBruijn32tab", laid_math_bits_deBruijn32tab), ("math/bits.deBruijn64tab", laid_math_bits_deBruijn64tab), ("internal/strconv.uint64pow10", laid_internal_strconv_uint64pow10)], narrowed := true }
def RegexSetsUptoSaid : Prop := regexSetsUptoRow.holds Tryd.pinned (OpenSpec.upto regexSetsSpec)

end Rows
end Go.Proofs.YtmcbfbpdfbcakaaDoor
