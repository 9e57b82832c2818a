/-
  NARROWER THAN 'FOR EVERY INPUT', by the rows' own cells (each row's printed sentence says how): MiniAll: laid · MiniOne: loops, laid · MiniLaws: loops, laid · MiniKnown: laid · MiniSteady: laid · MiniNumbers: laid · MiniTakes: laid · MiniApart: laid · MiniTwice: laid · MiniFirst: laid · MiniOther: loops, laid.
  DERIVED. THE GIVEN ROWS OF THIS SEAT. 11 by the template 'for every input the law returns true; each argument reads behind the call as it read before'; 0 by the template 'total and deterministic' (their statements: YtpmjpogcaglphaaDoorTotals.lean).
  GIVEN WITH THE SEED: the statements are not yours to turn. If you find one false, say at which input.
  Laid BY PROGRAM, IN A SANDBOX (cutbox-rows.mjs): the forced cells as the released guide's own fill.sh prints them over the translation 01c40726385500a9… (all of the seat's roots in one cut). By AI agents, Wed Nov 11 2026. No macro, syntax, notation, axiom, sorry.
-/
import Derived.Test.YtpmjpogcaglphaaDoorChecked
import GoSem.Claim
import GoSem.ClaimJoined
import GoSem.ClaimMapViews
import Derived.JoinedTies
import Derived.KernelRfl
namespace Go.Proofs.YtpmjpogcaglphaaDoor
/- THE CELL 'sum', in the pinned program and in every row, IS THE sha256 OF THE DUMP (.gsa) THAT YtpmjpogcaglphaaDoorProg.lean LOADS. Nothing in Lean hashes anything: it is a label: what it is worth is what the hold of that sum in a sandbox is worth. -/
noncomputable def Tryd.pinned : Pinned := { name := "ytpmjpogcaglphaadoor", sum := "01c40726385500a97549ae770ae744496f0975d0f108b0bae20f4135992769f0", checked := Tryd.checked }
namespace Rows
def none {H : Type} : Left H := { results := [], args := [] }

/- WHAT THE LISTED PACKAGE-LEVEL VARIABLES READ AS WHEN THE CALL BEGINS. Each datum BY PROGRAM (the guide's laid-datum.mjs) off the statement by which the dump's own 'gosem.cut.vars' lays the variable. In a bare row this is a premise. The card (YtpmjpogcaglphaaDoorCards.lean) ties it to the program's text. -/
def laid_math_bits_deBruijn32tab {H : Type} : DataW H := .agg [.lit (.int .u8 0), .lit (.int .u8 1), .lit (.int .u8 28), .lit (.int .u8 2), .lit (.int .u8 29), .lit (.int .u8 14), .lit (.int .u8 24), .lit (.int .u8 3), .lit (.int .u8 30), .lit (.int .u8 22), .lit (.int .u8 20), .lit (.int .u8 15), .lit (.int .u8 25), .lit (.int .u8 17), .lit (.int .u8 4), .lit (.int .u8 8), .lit (.int .u8 31), .lit (.int .u8 27), .lit (.int .u8 13), .lit (.int .u8 23), .lit (.int .u8 21), .lit (.int .u8 19), .lit (.int .u8 16), .lit (.int .u8 7), .lit (.int .u8 26), .lit (.int .u8 12), .lit (.int .u8 18), .lit (.int .u8 6), .lit (.int .u8 11), .lit (.int .u8 5), .lit (.int .u8 10), .lit (.int .u8 9)]
def laid_math_bits_deBruijn64tab {H : Type} : DataW H := .agg [.lit (.int .u8 0), .lit (.int .u8 1), .lit (.int .u8 56), .lit (.int .u8 2), .lit (.int .u8 57), .lit (.int .u8 49), .lit (.int .u8 28), .lit (.int .u8 3), .lit (.int .u8 61), .lit (.int .u8 58), .lit (.int .u8 42), .lit (.int .u8 50), .lit (.int .u8 38), .lit (.int .u8 29), .lit (.int .u8 17), .lit (.int .u8 4), .lit (.int .u8 62), .lit (.int .u8 47), .lit (.int .u8 59), .lit (.int .u8 36), .lit (.int .u8 45), .lit (.int .u8 43), .lit (.int .u8 51), .lit (.int .u8 22), .lit (.int .u8 53), .lit (.int .u8 39), .lit (.int .u8 33), .lit (.int .u8 30), .lit (.int .u8 24), .lit (.int .u8 18), .lit (.int .u8 12), .lit (.int .u8 5), .lit (.int .u8 63), .lit (.int .u8 55), .lit (.int .u8 48), .lit (.int .u8 27), .lit (.int .u8 60), .lit (.int .u8 41), .lit (.int .u8 37), .lit (.int .u8 16), .lit (.int .u8 46), .lit (.int .u8 35), .lit (.int .u8 44), .lit (.int .u8 21), .lit (.int .u8 52), .lit (.int .u8 32), .lit (.int .u8 23), .lit (.int .u8 11), .lit (.int .u8 54), .lit (.int .u8 26), .lit (.int .u8 40), .lit (.int .u8 15), .lit (.int .u8 34), .lit (.int .u8 20), .lit (.int .u8 31), .lit (.int .u8 10), .lit (.int .u8 25), .lit (.int .u8 14), .lit (.int .u8 19), .lit (.int .u8 9), .lit (.int .u8 13), .lit (.int .u8 8), .lit (.int .u8 7), .lit (.int .u8 6)]
def laid_internal_strconv_uint64pow10 {H : Type} : DataW H := .agg [.lit (.int .u64 1), .lit (.int .u64 10), .lit (.int .u64 100), .lit (.int .u64 1000), .lit (.int .u64 10000), .lit (.int .u64 100000), .lit (.int .u64 1000000), .lit (.int .u64 10000000), .lit (.int .u64 100000000), .lit (.int .u64 1000000000), .lit (.int .u64 10000000000), .lit (.int .u64 100000000000), .lit (.int .u64 1000000000000), .lit (.int .u64 10000000000000), .lit (.int .u64 100000000000000), .lit (.int .u64 1000000000000000), .lit (.int .u64 10000000000000000), .lit (.int .u64 100000000000000000), .lit (.int .u64 1000000000000000000), .lit (.int .u64 10000000000000000000)]

/-- 'milestonelaw8.MiniAll': WHATEVER THE INPUT: true; the input reads as it did. -/
def miniAllSpec : ChangeSpec := { name := "miniAll", fn := fun _ => fun
  | [d1, d2, d3] => { results := [.lit (.bool true)], args := [d1, d2, d3] }
  | _ => none }
def miniAllRow : OpenClaim := { program := "ytpmjpogcaglphaadoor", sum := "01c40726385500a97549ae770ae744496f0975d0f108b0bae20f4135992769f0", func := "milestone/milestonelaw8.MiniAll", spec := "miniAll", inPlace := ["internal/bytealg.IndexByteString"], unfollowed := true, recurses := true, named := ["internal/strconv.uint64pow10", "math/bits.deBruijn32tab", "math/bits.deBruijn64tab"], plainKeys := false, apart := false, laid := [("math/bits.deBruijn32tab", laid_math_bits_deBruijn32tab), ("math/bits.deBruijn64tab", laid_math_bits_deBruijn64tab), ("internal/strconv.uint64pow10", laid_internal_strconv_uint64pow10)] }
def MiniAllSaid : Prop := miniAllRow.holds Tryd.pinned (OpenSpec.ofChange miniAllSpec)

/-- ITS FALSE NEIGHBOUR: 'it returns false'. Refute it at one input. -/
def miniAllWrong : ChangeSpec := { name := "miniAll", fn := fun _ => fun
  | [d1, d2, d3] => { results := [.lit (.bool false)], args := [d1, d2, d3] }
  | _ => none }
def MiniAllWrongFalsely : Prop := miniAllRow.holds Tryd.pinned (OpenSpec.ofChange miniAllWrong)

/-- 'milestonelaw8.MiniOne': WHATEVER THE INPUT: true; the input reads as it did. -/
def miniOneSpec : ChangeSpec := { name := "miniOne", fn := fun _ => fun
  | [d1, d2, d3] => { results := [.lit (.bool true)], args := [d1, d2, d3] }
  | _ => none }
def miniOneRow : OpenClaim := { program := "ytpmjpogcaglphaadoor", sum := "01c40726385500a97549ae770ae744496f0975d0f108b0bae20f4135992769f0", func := "milestone/milestonelaw8.MiniOne", spec := "miniOne", inPlace := ["internal/bytealg.IndexByteString"], unfollowed := true, recurses := true, named := ["internal/strconv.uint64pow10", "math/bits.deBruijn32tab", "math/bits.deBruijn64tab"], loops := true, plainKeys := false, apart := false, laid := [("math/bits.deBruijn32tab", laid_math_bits_deBruijn32tab), ("math/bits.deBruijn64tab", laid_math_bits_deBruijn64tab), ("internal/strconv.uint64pow10", laid_internal_strconv_uint64pow10)] }
def MiniOneSaid : Prop := miniOneRow.holds Tryd.pinned (OpenSpec.ofChange miniOneSpec)

/-- ITS FALSE NEIGHBOUR: 'it returns false'. Refute it at one input. -/
def miniOneWrong : ChangeSpec := { name := "miniOne", fn := fun _ => fun
  | [d1, d2, d3] => { results := [.lit (.bool false)], args := [d1, d2, d3] }
  | _ => none }
def MiniOneWrongFalsely : Prop := miniOneRow.holds Tryd.pinned (OpenSpec.ofChange miniOneWrong)

/-- 'milestonelaw8.MiniLaws': WHATEVER THE INPUT: true; the input reads as it did. -/
def miniLawsSpec : ChangeSpec := { name := "miniLaws", fn := fun _ => fun
  | [d1, d2, d3] => { results := [.lit (.bool true)], args := [d1, d2, d3] }
  | _ => none }
def miniLawsRow : OpenClaim := { program := "ytpmjpogcaglphaadoor", sum := "01c40726385500a97549ae770ae744496f0975d0f108b0bae20f4135992769f0", func := "milestone/milestonelaw8.MiniLaws", spec := "miniLaws", inPlace := ["internal/bytealg.IndexByteString"], unfollowed := true, recurses := true, named := ["internal/strconv.uint64pow10", "math/bits.deBruijn32tab", "math/bits.deBruijn64tab"], loops := true, plainKeys := false, apart := false, laid := [("math/bits.deBruijn32tab", laid_math_bits_deBruijn32tab), ("math/bits.deBruijn64tab", laid_math_bits_deBruijn64tab), ("internal/strconv.uint64pow10", laid_internal_strconv_uint64pow10)] }
def MiniLawsSaid : Prop := miniLawsRow.holds Tryd.pinned (OpenSpec.ofChange miniLawsSpec)

/-- ITS FALSE NEIGHBOUR: 'it returns false'. Refute it at one input. -/
def miniLawsWrong : ChangeSpec := { name := "miniLaws", fn := fun _ => fun
  | [d1, d2, d3] => { results := [.lit (.bool false)], args := [d1, d2, d3] }
  | _ => none }
def MiniLawsWrongFalsely : Prop := miniLawsRow.holds Tryd.pinned (OpenSpec.ofChange miniLawsWrong)

/-- 'milestonelaw8.MiniKnown': WHATEVER THE INPUT: true; the input reads as it did. -/
def miniKnownSpec : ChangeSpec := { name := "miniKnown", fn := fun _ => fun
  | [d] => { results := [.lit (.bool true)], args := [d] }
  | _ => none }
def miniKnownRow : OpenClaim := { program := "ytpmjpogcaglphaadoor", sum := "01c40726385500a97549ae770ae744496f0975d0f108b0bae20f4135992769f0", func := "milestone/milestonelaw8.MiniKnown", spec := "miniKnown", inPlace := ["internal/bytealg.IndexByteString"], unfollowed := true, recurses := true, named := ["internal/strconv.uint64pow10", "math/bits.deBruijn32tab", "math/bits.deBruijn64tab"], plainKeys := false, apart := false, laid := [("math/bits.deBruijn32tab", laid_math_bits_deBruijn32tab), ("math/bits.deBruijn64tab", laid_math_bits_deBruijn64tab), ("internal/strconv.uint64pow10", laid_internal_strconv_uint64pow10)] }
def MiniKnownSaid : Prop := miniKnownRow.holds Tryd.pinned (OpenSpec.ofChange miniKnownSpec)

/-- ITS FALSE NEIGHBOUR: 'it returns false'. Refute it at one input. -/
def miniKnownWrong : ChangeSpec := { name := "miniKnown", fn := fun _ => fun
  | [d] => { results := [.lit (.bool false)], args := [d] }
  | _ => none }
def MiniKnownWrongFalsely : Prop := miniKnownRow.holds Tryd.pinned (OpenSpec.ofChange miniKnownWrong)

/-- 'milestonelaw8.MiniSteady': WHATEVER THE INPUT: true; the input reads as it did. -/
def miniSteadySpec : ChangeSpec := { name := "miniSteady", fn := fun _ => fun
  | [d1, d2, d3, d4] => { results := [.lit (.bool true)], args := [d1, d2, d3, d4] }
  | _ => none }
def miniSteadyRow : OpenClaim := { program := "ytpmjpogcaglphaadoor", sum := "01c40726385500a97549ae770ae744496f0975d0f108b0bae20f4135992769f0", func := "milestone/milestonelaw8.MiniSteady", spec := "miniSteady", inPlace := ["internal/bytealg.IndexByteString"], unfollowed := true, recurses := true, named := ["internal/strconv.uint64pow10", "math/bits.deBruijn32tab", "math/bits.deBruijn64tab"], plainKeys := false, apart := false, laid := [("math/bits.deBruijn32tab", laid_math_bits_deBruijn32tab), ("math/bits.deBruijn64tab", laid_math_bits_deBruijn64tab), ("internal/strconv.uint64pow10", laid_internal_strconv_uint64pow10)] }
def MiniSteadySaid : Prop := miniSteadyRow.holds Tryd.pinned (OpenSpec.ofChange miniSteadySpec)

/-- ITS FALSE NEIGHBOUR: 'it returns false'. Refute it at one input. -/
def miniSteadyWrong : ChangeSpec := { name := "miniSteady", fn := fun _ => fun
  | [d1, d2, d3, d4] => { results := [.lit (.bool false)], args := [d1, d2, d3, d4] }
  | _ => none }
def MiniSteadyWrongFalsely : Prop := miniSteadyRow.holds Tryd.pinned (OpenSpec.ofChange miniSteadyWrong)

/-- 'milestonelaw8.MiniNumbers': WHATEVER THE INPUT: true; the input reads as it did. -/
def miniNumbersSpec : ChangeSpec := { name := "miniNumbers", fn := fun _ => fun
  | [d1, d2, d3, d4] => { results := [.lit (.bool true)], args := [d1, d2, d3, d4] }
  | _ => none }
def miniNumbersRow : OpenClaim := { program := "ytpmjpogcaglphaadoor", sum := "01c40726385500a97549ae770ae744496f0975d0f108b0bae20f4135992769f0", func := "milestone/milestonelaw8.MiniNumbers", spec := "miniNumbers", inPlace := ["internal/bytealg.IndexByteString"], unfollowed := true, recurses := true, named := ["internal/strconv.uint64pow10", "math/bits.deBruijn32tab", "math/bits.deBruijn64tab"], plainKeys := false, apart := false, laid := [("math/bits.deBruijn32tab", laid_math_bits_deBruijn32tab), ("math/bits.deBruijn64tab", laid_math_bits_deBruijn64tab), ("internal/strconv.uint64pow10", laid_internal_strconv_uint64pow10)] }
def MiniNumbersSaid : Prop := miniNumbersRow.holds Tryd.pinned (OpenSpec.ofChange miniNumbersSpec)

/-- ITS FALSE NEIGHBOUR: 'it returns false'. Refute it at one input. -/
def miniNumbersWrong : ChangeSpec := { name := "miniNumbers", fn := fun _ => fun
  | [d1, d2, d3, d4] => { results := [.lit (.bool false)], args := [d1, d2, d3, d4] }
  | _ => none }
def MiniNumbersWrongFalsely : Prop := miniNumbersRow.holds Tryd.pinned (OpenSpec.ofChange miniNumbersWrong)

/-- 'milestonelaw8.MiniTakes': WHATEVER THE INPUT: true; the input reads as it did. -/
def miniTakesSpec : ChangeSpec := { name := "miniTakes", fn := fun _ => fun
  | [d1, d2, d3, d4] => { results := [.lit (.bool true)], args := [d1, d2, d3, d4] }
  | _ => none }
def miniTakesRow : OpenClaim := { program := "ytpmjpogcaglphaadoor", sum := "01c40726385500a97549ae770ae744496f0975d0f108b0bae20f4135992769f0", func := "milestone/milestonelaw8.MiniTakes", spec := "miniTakes", inPlace := ["internal/bytealg.IndexByteString"], unfollowed := true, recurses := true, named := ["internal/strconv.uint64pow10", "math/bits.deBruijn32tab", "math/bits.deBruijn64tab"], plainKeys := false, apart := false, laid := [("math/bits.deBruijn32tab", laid_math_bits_deBruijn32tab), ("math/bits.deBruijn64tab", laid_math_bits_deBruijn64tab), ("internal/strconv.uint64pow10", laid_internal_strconv_uint64pow10)] }
def MiniTakesSaid : Prop := miniTakesRow.holds Tryd.pinned (OpenSpec.ofChange miniTakesSpec)

/-- ITS FALSE NEIGHBOUR: 'it returns false'. Refute it at one input. -/
def miniTakesWrong : ChangeSpec := { name := "miniTakes", fn := fun _ => fun
  | [d1, d2, d3, d4] => { results := [.lit (.bool false)], args := [d1, d2, d3, d4] }
  | _ => none }
def MiniTakesWrongFalsely : Prop := miniTakesRow.holds Tryd.pinned (OpenSpec.ofChange miniTakesWrong)

/-- 'milestonelaw8.MiniApart': WHATEVER THE INPUT: true; the input reads as it did. -/
def miniApartSpec : ChangeSpec := { name := "miniApart", fn := fun _ => fun
  | [d1, d2, d3, d4, d5, d6, d7] => { results := [.lit (.bool true)], args := [d1, d2, d3, d4, d5, d6, d7] }
  | _ => none }
def miniApartRow : OpenClaim := { program := "ytpmjpogcaglphaadoor", sum := "01c40726385500a97549ae770ae744496f0975d0f108b0bae20f4135992769f0", func := "milestone/milestonelaw8.MiniApart", spec := "miniApart", inPlace := ["internal/bytealg.IndexByteString"], unfollowed := true, recurses := true, named := ["internal/strconv.uint64pow10", "math/bits.deBruijn32tab", "math/bits.deBruijn64tab"], plainKeys := false, apart := false, laid := [("math/bits.deBruijn32tab", laid_math_bits_deBruijn32tab), ("math/bits.deBruijn64tab", laid_math_bits_deBruijn64tab), ("internal/strconv.uint64pow10", laid_internal_strconv_uint64pow10)] }
def MiniApartSaid : Prop := miniApartRow.holds Tryd.pinned (OpenSpec.ofChange miniApartSpec)

/-- ITS FALSE NEIGHBOUR: 'it returns false'. Refute it at one input. -/
def miniApartWrong : ChangeSpec := { name := "miniApart", fn := fun _ => fun
  | [d1, d2, d3, d4, d5, d6, d7] => { results := [.lit (.bool false)], args := [d1, d2, d3, d4, d5, d6, d7] }
  | _ => none }
def MiniApartWrongFalsely : Prop := miniApartRow.holds Tryd.pinned (OpenSpec.ofChange miniApartWrong)

/-- 'milestonelaw8.MiniTwice': WHATEVER THE INPUT: true; the input reads as it did. -/
def miniTwiceSpec : ChangeSpec := { name := "miniTwice", fn := fun _ => fun
  | [d1, d2, d3, d4] => { results := [.lit (.bool true)], args := [d1, d2, d3, d4] }
  | _ => none }
def miniTwiceRow : OpenClaim := { program := "ytpmjpogcaglphaadoor", sum := "01c40726385500a97549ae770ae744496f0975d0f108b0bae20f4135992769f0", func := "milestone/milestonelaw8.MiniTwice", spec := "miniTwice", inPlace := ["internal/bytealg.IndexByteString"], unfollowed := true, recurses := true, named := ["internal/strconv.uint64pow10", "math/bits.deBruijn32tab", "math/bits.deBruijn64tab"], plainKeys := false, apart := false, laid := [("math/bits.deBruijn32tab", laid_math_bits_deBruijn32tab), ("math/bits.deBruijn64tab", laid_math_bits_deBruijn64tab), ("internal/strconv.uint64pow10", laid_internal_strconv_uint64pow10)] }
def MiniTwiceSaid : Prop := miniTwiceRow.holds Tryd.pinned (OpenSpec.ofChange miniTwiceSpec)

/-- ITS FALSE NEIGHBOUR: 'it returns false'. Refute it at one input. -/
def miniTwiceWrong : ChangeSpec := { name := "miniTwice", fn := fun _ => fun
  | [d1, d2, d3, d4] => { results := [.lit (.bool false)], args := [d1, d2, d3, d4] }
  | _ => none }
def MiniTwiceWrongFalsely : Prop := miniTwiceRow.holds Tryd.pinned (OpenSpec.ofChange miniTwiceWrong)

/-- 'milestonelaw8.MiniFirst': WHATEVER THE INPUT: true; the input reads as it did. -/
def miniFirstSpec : ChangeSpec := { name := "miniFirst", fn := fun _ => fun
  | [d1, d2, d3, d4, d5, d6] => { results := [.lit (.bool true)], args := [d1, d2, d3, d4, d5, d6] }
  | _ => none }
def miniFirstRow : OpenClaim := { program := "ytpmjpogcaglphaadoor", sum := "01c40726385500a97549ae770ae744496f0975d0f108b0bae20f4135992769f0", func := "milestone/milestonelaw8.MiniFirst", spec := "miniFirst", inPlace := ["internal/bytealg.IndexByteString"], unfollowed := true, recurses := true, named := ["internal/strconv.uint64pow10", "math/bits.deBruijn32tab", "math/bits.deBruijn64tab"], plainKeys := false, apart := false, laid := [("math/bits.deBruijn32tab", laid_math_bits_deBruijn32tab), ("math/bits.deBruijn64tab", laid_math_bits_deBruijn64tab), ("internal/strconv.uint64pow10", laid_internal_strconv_uint64pow10)] }
def MiniFirstSaid : Prop := miniFirstRow.holds Tryd.pinned (OpenSpec.ofChange miniFirstSpec)

/-- ITS FALSE NEIGHBOUR: 'it returns false'. Refute it at one input. -/
def miniFirstWrong : ChangeSpec := { name := "miniFirst", fn := fun _ => fun
  | [d1, d2, d3, d4, d5, d6] => { results := [.lit (.bool false)], args := [d1, d2, d3, d4, d5, d6] }
  | _ => none }
def MiniFirstWrongFalsely : Prop := miniFirstRow.holds Tryd.pinned (OpenSpec.ofChange miniFirstWrong)

/-- 'milestonelaw8.MiniOther': WHATEVER THE INPUT: true; the input reads as it did. -/
def miniOtherSpec : ChangeSpec := { name := "miniOther", fn := fun _ => fun
  | [d1, d2] => { results := [.lit (.bool true)], args := [d1, d2] }
  | _ => none }
def miniOtherRow : OpenClaim := { program := "ytpmjpogcaglphaadoor", sum := "01c40726385500a97549ae770ae744496f0975d0f108b0bae20f4135992769f0", func := "milestone/milestonelaw8.MiniOther", spec := "miniOther", inPlace := ["internal/bytealg.IndexByteString"], unfollowed := true, recurses := true, named := ["internal/strconv.uint64pow10", "math/bits.deBruijn32tab", "math/bits.deBruijn64tab"], loops := true, plainKeys := false, apart := false, laid := [("math/bits.deBruijn32tab", laid_math_bits_deBruijn32tab), ("math/bits.deBruijn64tab", laid_math_bits_deBruijn64tab), ("internal/strconv.uint64pow10", laid_internal_strconv_uint64pow10)] }
def MiniOtherSaid : Prop := miniOtherRow.holds Tryd.pinned (OpenSpec.ofChange miniOtherSpec)

/-- ITS FALSE NEIGHBOUR: 'it returns false'. Refute it at one input. -/
def miniOtherWrong : ChangeSpec := { name := "miniOther", fn := fun _ => fun
  | [d1, d2] => { results := [.lit (.bool false)], args := [d1, d2] }
  | _ => none }
def MiniOtherWrongFalsely : Prop := miniOtherRow.holds Tryd.pinned (OpenSpec.ofChange miniOtherWrong)

/- THE SECOND FORM. 'bulk': how many values and letters a reading holds, each counted each time it is reached (what is shared counts as often as it is met; a slice's spare places count too). A statement '..UptoSaid' is the law's where the arguments, and the package variables that the reading takes, are together of bulk at most 1048576: NARROWER than '..Said'. Prove '..Said' where nothing that the law and all that it calls make is longer than what came in: it says more and counts as full. Else prove '..UptoSaid'. A law counts once. -/
mutual
def uptoBulk {H : Type} : DataW H → Nat
  | .lit (.string bytes) => bytes.length + 1
  | .lit _ => 1
  | .nil => 1
  | .ptr d => uptoBulk d + 1
  | .slice elems spare => uptoBulkAll elems + uptoBulkAll spare + 1
  | .agg parts => uptoBulkAll parts + 1
  | .iface _ d => uptoBulk d + 1
  | .map entries => uptoBulkEntries entries + 1
  | .held _ => 1
def uptoBulkAll {H : Type} : List (DataW H) → Nat
  | [] => 0
  | d :: r => uptoBulk d + uptoBulkAll r
def uptoBulkEntries {H : Type} : List (Lit × DataW H) → Nat
  | [] => 0
  | x :: r => uptoBulkEntry x + uptoBulkEntries r
def uptoBulkEntry {H : Type} : Lit × DataW H → Nat
  | (.string bytes, d) => bytes.length + uptoBulk d + 1
  | (_, d) => uptoBulk d + 1
 end
def uptoSmall : (H : Type) → List (DataW H) → Bool := fun _ ds => decide (uptoBulkAll ds ≤ 1048576)
def OpenSpec.upto (s : _root_.Go.ChangeSpec) : _root_.Go.OpenSpec := { _root_.Go.OpenSpec.ofChange s with cond := some uptoSmall }

/-- 'milestonelaw8.MiniAll', WHERE WHAT IT READS IS OF BULK AT MOST 1048576: true; the input reads as it did. -/
def miniAllUptoRow : OpenClaim := { program := "ytpmjpogcaglphaadoor", sum := "01c40726385500a97549ae770ae744496f0975d0f108b0bae20f4135992769f0", func := "milestone/milestonelaw8.MiniAll", spec := "miniAll", inPlace := ["internal/bytealg.IndexByteString"], unfollowed := true, recurses := true, named := ["internal/strconv.uint64pow10", "math/bits.deBruijn32tab", "math/bits.deBruijn64tab"], plainKeys := false, apart := false, laid := [("math/bits.deBruijn32tab", laid_math_bits_deBruijn32tab), ("math/bits.deBruijn64tab", laid_math_bits_deBruijn64tab), ("internal/strconv.uint64pow10", laid_internal_strconv_uint64pow10)], narrowed := true }
def MiniAllUptoSaid : Prop := miniAllUptoRow.holds Tryd.pinned (OpenSpec.upto miniAllSpec)

/-- 'milestonelaw8.MiniOne', WHERE WHAT IT READS IS OF BULK AT MOST 1048576: true; the input reads as it did. -/
def miniOneUptoRow : OpenClaim := { program := "ytpmjpogcaglphaadoor", sum := "01c40726385500a97549ae770ae744496f0975d0f108b0bae20f4135992769f0", func := "milestone/milestonelaw8.MiniOne", spec := "miniOne", inPlace := ["internal/bytealg.IndexByteString"], unfollowed := true, recurses := true, named := ["internal/strconv.uint64pow10", "math/bits.deBruijn32tab", "math/bits.deBruijn64tab"], loops := true, plainKeys := false, apart := false, laid := [("math/bits.deBruijn32tab", laid_math_bits_deBruijn32tab), ("math/bits.deBruijn64tab", laid_math_bits_deBruijn64tab), ("internal/strconv.uint64pow10", laid_internal_strconv_uint64pow10)], narrowed := true }
def MiniOneUptoSaid : Prop := miniOneUptoRow.holds Tryd.pinned (OpenSpec.upto miniOneSpec)

/-- 'milestonelaw8.MiniLaws', WHERE WHAT IT READS IS OF BULK AT MOST 1048576: true; the input reads as it did. -/
def miniLawsUptoRow : OpenClaim := { program := "ytpmjpogcaglphaadoor", sum := "01c40726385500a97549ae770ae744496f0975d0f108b0bae20f4135992769f0", func := "milestone/milestonelaw8.MiniLaws", spec := "miniLaws", inPlace := ["internal/bytealg.IndexByteString"], unfollowed := true, recurses := true, named := ["internal/strconv.uint64pow10", "math/bits.deBruijn32tab", "math/bits.deBruijn64tab"], loops := true, plainKeys := false, apart := false, laid := [("math/bits.deBruijn32tab", laid_math_bits_deBruijn32tab), ("math/bits.deBruijn64tab", laid_math_bits_deBruijn64tab), ("internal/strconv.uint64pow10", laid_internal_strconv_uint64pow10)], narrowed := true }
def MiniLawsUptoSaid : Prop := miniLawsUptoRow.holds Tryd.pinned (OpenSpec.upto miniLawsSpec)

/-- 'milestonelaw8.MiniKnown', WHERE WHAT IT READS IS OF BULK AT MOST 1048576: true; the input reads as it did. -/
def miniKnownUptoRow : OpenClaim := { program := "ytpmjpogcaglphaadoor", sum := "01c40726385500a97549ae770ae744496f0975d0f108b0bae20f4135992769f0", func := "milestone/milestonelaw8.MiniKnown", spec := "miniKnown", inPlace := ["internal/bytealg.IndexByteString"], unfollowed := true, recurses := true, named := ["internal/strconv.uint64pow10", "math/bits.deBruijn32tab", "math/bits.deBruijn64tab"], plainKeys := false, apart := false, laid := [("math/bits.deBruijn32tab", laid_math_bits_deBruijn32tab), ("math/bits.deBruijn64tab", laid_math_bits_deBruijn64tab), ("internal/strconv.uint64pow10", laid_internal_strconv_uint64pow10)], narrowed := true }
def MiniKnownUptoSaid : Prop := miniKnownUptoRow.holds Tryd.pinned (OpenSpec.upto miniKnownSpec)

/-- 'milestonelaw8.MiniSteady', WHERE WHAT IT READS IS OF BULK AT MOST 1048576: true; the input reads as it did. -/
def miniSteadyUptoRow : OpenClaim := { program := "ytpmjpogcaglphaadoor", sum := "01c40726385500a97549ae770ae744496f0975d0f108b0bae20f4135992769f0", func := "milestone/milestonelaw8.MiniSteady", spec := "miniSteady", inPlace := ["internal/bytealg.IndexByteString"], unfollowed := true, recurses := true, named := ["internal/strconv.uint64pow10", "math/bits.deBruijn32tab", "math/bits.deBruijn64tab"], plainKeys := false, apart := false, laid := [("math/bits.deBruijn32tab", laid_math_bits_deBruijn32tab), ("math/bits.deBruijn64tab", laid_math_bits_deBruijn64tab), ("internal/strconv.uint64pow10", laid_internal_strconv_uint64pow10)], narrowed := true }
def MiniSteadyUptoSaid : Prop := miniSteadyUptoRow.holds Tryd.pinned (OpenSpec.upto miniSteadySpec)

/-- 'milestonelaw8.MiniNumbers', WHERE WHAT IT READS IS OF BULK AT MOST 1048576: true; the input reads as it did. -/
def miniNumbersUptoRow : OpenClaim := { program := "ytpmjpogcaglphaadoor", sum := "01c40726385500a97549ae770ae744496f0975d0f108b0bae20f4135992769f0", func := "milestone/milestonelaw8.MiniNumbers", spec := "miniNumbers", inPlace := ["internal/bytealg.IndexByteString"], unfollowed := true, recurses := true, named := ["internal/strconv.uint64pow10", "math/bits.deBruijn32tab", "math/bits.deBruijn64tab"], plainKeys := false, apart := false, laid := [("math/bits.deBruijn32tab", laid_math_bits_deBruijn32tab), ("math/bits.deBruijn64tab", laid_math_bits_deBruijn64tab), ("internal/strconv.uint64pow10", laid_internal_strconv_uint64pow10)], narrowed := true }
def MiniNumbersUptoSaid : Prop := miniNumbersUptoRow.holds Tryd.pinned (OpenSpec.upto miniNumbersSpec)

/-- 'milestonelaw8.MiniTakes', WHERE WHAT IT READS IS OF BULK AT MOST 1048576: true; the input reads as it did. -/
def miniTakesUptoRow : OpenClaim := { program := "ytpmjpogcaglphaadoor", sum := "01c40726385500a97549ae770ae744496f0975d0f108b0bae20f4135992769f0", func := "milestone/milestonelaw8.MiniTakes", spec := "miniTakes", inPlace := ["internal/bytealg.IndexByteString"], unfollowed := true, recurses := true, named := ["internal/strconv.uint64pow10", "math/bits.deBruijn32tab", "math/bits.deBruijn64tab"], plainKeys := false, apart := false, laid := [("math/bits.deBruijn32tab", laid_math_bits_deBruijn32tab), ("math/bits.deBruijn64tab", laid_math_bits_deBruijn64tab), ("internal/strconv.uint64pow10", laid_internal_strconv_uint64pow10)], narrowed := true }
def MiniTakesUptoSaid : Prop := miniTakesUptoRow.holds Tryd.pinned (OpenSpec.upto miniTakesSpec)

/-- 'milestonelaw8.MiniApart', WHERE WHAT IT READS IS OF BULK AT MOST 1048576: true; the input reads as it did. -/
def miniApartUptoRow : OpenClaim := { program := "ytpmjpogcaglphaadoor", sum := "01c40726385500a97549ae770ae744496f0975d0f108b0bae20f4135992769f0", func := "milestone/milestonelaw8.MiniApart", spec := "miniApart", inPlace := ["internal/bytealg.IndexByteString"], unfollowed := true, recurses := true, named := ["internal/strconv.uint64pow10", "math/bits.deBruijn32tab", "math/bits.deBruijn64tab"], plainKeys := false, apart := false, laid := [("math/bits.deBruijn32tab", laid_math_bits_deBruijn32tab), ("math/bits.deBruijn64tab", laid_math_bits_deBruijn64tab), ("internal/strconv.uint64pow10", laid_internal_strconv_uint64pow10)], narrowed := true }
def MiniApartUptoSaid : Prop := miniApartUptoRow.holds Tryd.pinned (OpenSpec.upto miniApartSpec)

/-- 'milestonelaw8.MiniTwice', WHERE WHAT IT READS IS OF BULK AT MOST 1048576: true; the input reads as it did. -/
def miniTwiceUptoRow : OpenClaim := { program := "ytpmjpogcaglphaadoor", sum := "01c40726385500a97549ae770ae744496f0975d0f108b0bae20f4135992769f0", func := "milestone/milestonelaw8.MiniTwice", spec := "miniTwice", inPlace := ["internal/bytealg.IndexByteString"], unfollowed := true, recurses := true, named := ["internal/strconv.uint64pow10", "math/bits.deBruijn32tab", "math/bits.deBruijn64tab"], plainKeys := false, apart := false, laid := [("math/bits.deBruijn32tab", laid_math_bits_deBruijn32tab), ("math/bits.deBruijn64tab", laid_math_bits_deBruijn64tab), ("internal/strconv.uint64pow10", laid_internal_strconv_uint64pow10)], narrowed := true }
def MiniTwiceUptoSaid : Prop := miniTwiceUptoRow.holds Tryd.pinned (OpenSpec.upto miniTwiceSpec)

/-- 'milestonelaw8.MiniFirst', WHERE WHAT IT READS IS OF BULK AT MOST 1048576: true; the input reads as it did. -/
def miniFirstUptoRow : OpenClaim := { program := "ytpmjpogcaglphaadoor", sum := "01c40726385500a97549ae770ae744496f0975d0f108b0bae20f4135992769f0", func := "milestone/milestonelaw8.MiniFirst", spec := "miniFirst", inPlace := ["internal/bytealg.IndexByteString"], unfollowed := true, recurses := true, named := ["internal/strconv.uint64pow10", "math/bits.deBruijn32tab", "math/bits.deBruijn64tab"], plainKeys := false, apart := false, laid := [("math/bits.deBruijn32tab", laid_math_bits_deBruijn32tab), ("math/bits.deBruijn64tab", laid_math_bits_deBruijn64tab), ("internal/strconv.uint64pow10", laid_internal_strconv_uint64pow10)], narrowed := true }
def MiniFirstUptoSaid : Prop := miniFirstUptoRow.holds Tryd.pinned (OpenSpec.upto miniFirstSpec)

/-- 'milestonelaw8.MiniOther', WHERE WHAT IT READS IS OF BULK AT MOST 1048576: true; the input reads as it did. -/
def miniOtherUptoRow : OpenClaim := { program := "ytpmjpogcaglphaadoor", sum := "01c40726385500a97549ae770ae744496f0975d0f108b0bae20f4135992769f0", func := "milestone/milestonelaw8.MiniOther", spec := "miniOther", inPlace := ["internal/bytealg.IndexByteString"], unfollowed := true, recurses := true, named := ["internal/strconv.uint64pow10", "math/bits.deBruijn32tab", "math/bits.deBruijn64tab"], loops := true, plainKeys := false, apart := false, laid := [("math/bits.deBruijn32tab", laid_math_bits_deBruijn32tab), ("math/bits.deBruijn64tab", laid_math_bits_deBruijn64tab), ("internal/strconv.uint64pow10", laid_internal_strconv_uint64pow10)], narrowed := true }
def MiniOtherUptoSaid : Prop := miniOtherUptoRow.holds Tryd.pinned (OpenSpec.upto miniOtherSpec)

end Rows
end Go.Proofs.YtpmjpogcaglphaaDoor
