/-
  NARROWER THAN 'FOR EVERY INPUT', by the rows' own cells (each row's printed sentence says how): TopOverrides: laid · TopGone: laid · TopDoubles: laid · TopLeaves: laid · TopDowns: laid · TopGuards: laid · TopSweeps: laid · TopTwice: laid · TopQueues: laid · TopClocks: laid · TopRejoins: laid · TopLate: laid · TopFull: laid.
  DERIVED. THE GIVEN ROWS OF THIS SEAT. 13 by the template 'for every input the law returns true; each argument reads behind the call as it read before'; 0 by the template 'total and deterministic' (their statements: YtinkiihdnepfjaaGreatDoorTotals.lean).
  GIVEN WITH THE SEED: the statements are not yours to turn. If you find one false, say at which input.
  Laid BY PROGRAM, IN A SANDBOX (cutbox-rows.mjs): the forced cells as the released guide's own fill.sh prints them over the translation c067e89fa85d27aa… (all of the seat's roots in one cut). By AI agents, Wed Nov 11 2026. No macro, syntax, notation, axiom, sorry.
-/
import Derived.Test.YtinkiihdnepfjaaGreatDoorChecked
import GoSem.Claim
import GoSem.ClaimJoined
import GoSem.ClaimMapViews
import Derived.JoinedTies
import Derived.KernelRfl
namespace Go.Proofs.YtinkiihdnepfjaaGreatDoor
/- THE CELL 'sum', in the pinned program and in every row, IS THE sha256 OF THE DUMP (.gsa) THAT YtinkiihdnepfjaaGreatDoorProg.lean LOADS. Nothing in Lean hashes anything: it is a label: what it is worth is what the hold of that sum in a sandbox is worth. -/
noncomputable def Tryz.pinned : Pinned := { name := "ytinkiihdnepfjaagreatdoor", sum := "c067e89fa85d27aa213cc346607b7a09adf3fc4ec7a61122d806cc55ba689ecf", checked := Tryz.checked }
namespace Rows
def none {H : Type} : Left H := { results := [], args := [] }

/- WHAT THE LISTED PACKAGE-LEVEL VARIABLES READ AS WHEN THE CALL BEGINS. Each datum BY PROGRAM (the guide's laid-datum.mjs) off the statement by which the dump's own 'gosem.cut.vars' lays the variable. In a bare row this is a premise. The card (YtinkiihdnepfjaaGreatDoorCards.lean) ties it to the program's text. -/
def laid_math_bits_deBruijn32tab {H : Type} : DataW H := .agg [.lit (.int .u8 0), .lit (.int .u8 1), .lit (.int .u8 28), .lit (.int .u8 2), .lit (.int .u8 29), .lit (.int .u8 14), .lit (.int .u8 24), .lit (.int .u8 3), .lit (.int .u8 30), .lit (.int .u8 22), .lit (.int .u8 20), .lit (.int .u8 15), .lit (.int .u8 25), .lit (.int .u8 17), .lit (.int .u8 4), .lit (.int .u8 8), .lit (.int .u8 31), .lit (.int .u8 27), .lit (.int .u8 13), .lit (.int .u8 23), .lit (.int .u8 21), .lit (.int .u8 19), .lit (.int .u8 16), .lit (.int .u8 7), .lit (.int .u8 26), .lit (.int .u8 12), .lit (.int .u8 18), .lit (.int .u8 6), .lit (.int .u8 11), .lit (.int .u8 5), .lit (.int .u8 10), .lit (.int .u8 9)]
def laid_math_bits_deBruijn64tab {H : Type} : DataW H := .agg [.lit (.int .u8 0), .lit (.int .u8 1), .lit (.int .u8 56), .lit (.int .u8 2), .lit (.int .u8 57), .lit (.int .u8 49), .lit (.int .u8 28), .lit (.int .u8 3), .lit (.int .u8 61), .lit (.int .u8 58), .lit (.int .u8 42), .lit (.int .u8 50), .lit (.int .u8 38), .lit (.int .u8 29), .lit (.int .u8 17), .lit (.int .u8 4), .lit (.int .u8 62), .lit (.int .u8 47), .lit (.int .u8 59), .lit (.int .u8 36), .lit (.int .u8 45), .lit (.int .u8 43), .lit (.int .u8 51), .lit (.int .u8 22), .lit (.int .u8 53), .lit (.int .u8 39), .lit (.int .u8 33), .lit (.int .u8 30), .lit (.int .u8 24), .lit (.int .u8 18), .lit (.int .u8 12), .lit (.int .u8 5), .lit (.int .u8 63), .lit (.int .u8 55), .lit (.int .u8 48), .lit (.int .u8 27), .lit (.int .u8 60), .lit (.int .u8 41), .lit (.int .u8 37), .lit (.int .u8 16), .lit (.int .u8 46), .lit (.int .u8 35), .lit (.int .u8 44), .lit (.int .u8 21), .lit (.int .u8 52), .lit (.int .u8 32), .lit (.int .u8 23), .lit (.int .u8 11), .lit (.int .u8 54), .lit (.int .u8 26), .lit (.int .u8 40), .lit (.int .u8 15), .lit (.int .u8 34), .lit (.int .u8 20), .lit (.int .u8 31), .lit (.int .u8 10), .lit (.int .u8 25), .lit (.int .u8 14), .lit (.int .u8 19), .lit (.int .u8 9), .lit (.int .u8 13), .lit (.int .u8 8), .lit (.int .u8 7), .lit (.int .u8 6)]
def laid_internal_strconv_uint64pow10 {H : Type} : DataW H := .agg [.lit (.int .u64 1), .lit (.int .u64 10), .lit (.int .u64 100), .lit (.int .u64 1000), .lit (.int .u64 10000), .lit (.int .u64 100000), .lit (.int .u64 1000000), .lit (.int .u64 10000000), .lit (.int .u64 100000000), .lit (.int .u64 1000000000), .lit (.int .u64 10000000000), .lit (.int .u64 100000000000), .lit (.int .u64 1000000000000), .lit (.int .u64 10000000000000), .lit (.int .u64 100000000000000), .lit (.int .u64 1000000000000000), .lit (.int .u64 10000000000000000), .lit (.int .u64 100000000000000000), .lit (.int .u64 1000000000000000000), .lit (.int .u64 10000000000000000000)]

/-- 'frankpledgetop.TopOverrides': WHATEVER THE INPUT: true; the input reads as it did. -/
def topOverridesSpec : ChangeSpec := { name := "topOverrides", fn := fun _ => fun
  | [d] => { results := [.lit (.bool true)], args := [d] }
  | _ => none }
def topOverridesRow : OpenClaim := { program := "ytinkiihdnepfjaagreatdoor", sum := "c067e89fa85d27aa213cc346607b7a09adf3fc4ec7a61122d806cc55ba689ecf", func := "frankpledge/frankpledgetop.TopOverrides", spec := "topOverrides", inPlace := ["slices.overlaps[frankpledge/lease.Entry]"], unfollowed := true, recurses := true, named := ["internal/strconv.uint64pow10", "math/bits.deBruijn32tab", "math/bits.deBruijn64tab"], apart := false, laid := [("math/bits.deBruijn32tab", laid_math_bits_deBruijn32tab), ("math/bits.deBruijn64tab", laid_math_bits_deBruijn64tab), ("internal/strconv.uint64pow10", laid_internal_strconv_uint64pow10)] }
def TopOverridesSaid : Prop := topOverridesRow.holds Tryz.pinned (OpenSpec.ofChange topOverridesSpec)

/-- ITS FALSE NEIGHBOUR: 'it returns false'. Refute it at one input. -/
def topOverridesWrong : ChangeSpec := { name := "topOverrides", fn := fun _ => fun
  | [d] => { results := [.lit (.bool false)], args := [d] }
  | _ => none }
def TopOverridesWrongFalsely : Prop := topOverridesRow.holds Tryz.pinned (OpenSpec.ofChange topOverridesWrong)

/-- 'frankpledgetop.TopGone': WHATEVER THE INPUT: true; the input reads as it did. -/
def topGoneSpec : ChangeSpec := { name := "topGone", fn := fun _ => fun
  | [d] => { results := [.lit (.bool true)], args := [d] }
  | _ => none }
def topGoneRow : OpenClaim := { program := "ytinkiihdnepfjaagreatdoor", sum := "c067e89fa85d27aa213cc346607b7a09adf3fc4ec7a61122d806cc55ba689ecf", func := "frankpledge/frankpledgetop.TopGone", spec := "topGone", inPlace := ["slices.overlaps[frankpledge/lease.Entry]"], unfollowed := true, recurses := true, named := ["internal/strconv.uint64pow10", "math/bits.deBruijn32tab", "math/bits.deBruijn64tab"], apart := false, laid := [("math/bits.deBruijn32tab", laid_math_bits_deBruijn32tab), ("math/bits.deBruijn64tab", laid_math_bits_deBruijn64tab), ("internal/strconv.uint64pow10", laid_internal_strconv_uint64pow10)] }
def TopGoneSaid : Prop := topGoneRow.holds Tryz.pinned (OpenSpec.ofChange topGoneSpec)

/-- ITS FALSE NEIGHBOUR: 'it returns false'. Refute it at one input. -/
def topGoneWrong : ChangeSpec := { name := "topGone", fn := fun _ => fun
  | [d] => { results := [.lit (.bool false)], args := [d] }
  | _ => none }
def TopGoneWrongFalsely : Prop := topGoneRow.holds Tryz.pinned (OpenSpec.ofChange topGoneWrong)

/-- 'frankpledgetop.TopDoubles': WHATEVER THE INPUT: true; the input reads as it did. -/
def topDoublesSpec : ChangeSpec := { name := "topDoubles", fn := fun _ => fun
  | [d] => { results := [.lit (.bool true)], args := [d] }
  | _ => none }
def topDoublesRow : OpenClaim := { program := "ytinkiihdnepfjaagreatdoor", sum := "c067e89fa85d27aa213cc346607b7a09adf3fc4ec7a61122d806cc55ba689ecf", func := "frankpledge/frankpledgetop.TopDoubles", spec := "topDoubles", inPlace := ["slices.overlaps[frankpledge/lease.Entry]"], unfollowed := true, recurses := true, named := ["internal/strconv.uint64pow10", "math/bits.deBruijn32tab", "math/bits.deBruijn64tab"], apart := false, laid := [("math/bits.deBruijn32tab", laid_math_bits_deBruijn32tab), ("math/bits.deBruijn64tab", laid_math_bits_deBruijn64tab), ("internal/strconv.uint64pow10", laid_internal_strconv_uint64pow10)] }
def TopDoublesSaid : Prop := topDoublesRow.holds Tryz.pinned (OpenSpec.ofChange topDoublesSpec)

/-- ITS FALSE NEIGHBOUR: 'it returns false'. Refute it at one input. -/
def topDoublesWrong : ChangeSpec := { name := "topDoubles", fn := fun _ => fun
  | [d] => { results := [.lit (.bool false)], args := [d] }
  | _ => none }
def TopDoublesWrongFalsely : Prop := topDoublesRow.holds Tryz.pinned (OpenSpec.ofChange topDoublesWrong)

/-- 'frankpledgetop.TopLeaves': WHATEVER THE INPUT: true; the input reads as it did. -/
def topLeavesSpec : ChangeSpec := { name := "topLeaves", fn := fun _ => fun
  | [d1, d2] => { results := [.lit (.bool true)], args := [d1, d2] }
  | _ => none }
def topLeavesRow : OpenClaim := { program := "ytinkiihdnepfjaagreatdoor", sum := "c067e89fa85d27aa213cc346607b7a09adf3fc4ec7a61122d806cc55ba689ecf", func := "frankpledge/frankpledgetop.TopLeaves", spec := "topLeaves", inPlace := ["slices.overlaps[frankpledge/lease.Entry]"], unfollowed := true, recurses := true, named := ["internal/strconv.uint64pow10", "math/bits.deBruijn32tab", "math/bits.deBruijn64tab"], apart := false, laid := [("math/bits.deBruijn32tab", laid_math_bits_deBruijn32tab), ("math/bits.deBruijn64tab", laid_math_bits_deBruijn64tab), ("internal/strconv.uint64pow10", laid_internal_strconv_uint64pow10)] }
def TopLeavesSaid : Prop := topLeavesRow.holds Tryz.pinned (OpenSpec.ofChange topLeavesSpec)

/-- ITS FALSE NEIGHBOUR: 'it returns false'. Refute it at one input. -/
def topLeavesWrong : ChangeSpec := { name := "topLeaves", fn := fun _ => fun
  | [d1, d2] => { results := [.lit (.bool false)], args := [d1, d2] }
  | _ => none }
def TopLeavesWrongFalsely : Prop := topLeavesRow.holds Tryz.pinned (OpenSpec.ofChange topLeavesWrong)

/-- 'frankpledgetop.TopDowns': WHATEVER THE INPUT: true; the input reads as it did. -/
def topDownsSpec : ChangeSpec := { name := "topDowns", fn := fun _ => fun
  | [d] => { results := [.lit (.bool true)], args := [d] }
  | _ => none }
def topDownsRow : OpenClaim := { program := "ytinkiihdnepfjaagreatdoor", sum := "c067e89fa85d27aa213cc346607b7a09adf3fc4ec7a61122d806cc55ba689ecf", func := "frankpledge/frankpledgetop.TopDowns", spec := "topDowns", inPlace := ["slices.overlaps[frankpledge/lease.Entry]"], unfollowed := true, recurses := true, named := ["internal/strconv.uint64pow10", "math/bits.deBruijn32tab", "math/bits.deBruijn64tab"], apart := false, laid := [("math/bits.deBruijn32tab", laid_math_bits_deBruijn32tab), ("math/bits.deBruijn64tab", laid_math_bits_deBruijn64tab), ("internal/strconv.uint64pow10", laid_internal_strconv_uint64pow10)] }
def TopDownsSaid : Prop := topDownsRow.holds Tryz.pinned (OpenSpec.ofChange topDownsSpec)

/-- ITS FALSE NEIGHBOUR: 'it returns false'. Refute it at one input. -/
def topDownsWrong : ChangeSpec := { name := "topDowns", fn := fun _ => fun
  | [d] => { results := [.lit (.bool false)], args := [d] }
  | _ => none }
def TopDownsWrongFalsely : Prop := topDownsRow.holds Tryz.pinned (OpenSpec.ofChange topDownsWrong)

/-- 'frankpledgetop.TopGuards': WHATEVER THE INPUT: true; the input reads as it did. -/
def topGuardsSpec : ChangeSpec := { name := "topGuards", fn := fun _ => fun
  | [d1, d2] => { results := [.lit (.bool true)], args := [d1, d2] }
  | _ => none }
def topGuardsRow : OpenClaim := { program := "ytinkiihdnepfjaagreatdoor", sum := "c067e89fa85d27aa213cc346607b7a09adf3fc4ec7a61122d806cc55ba689ecf", func := "frankpledge/frankpledgetop.TopGuards", spec := "topGuards", inPlace := ["slices.overlaps[frankpledge/lease.Entry]"], unfollowed := true, recurses := true, named := ["internal/strconv.uint64pow10", "math/bits.deBruijn32tab", "math/bits.deBruijn64tab"], apart := false, laid := [("math/bits.deBruijn32tab", laid_math_bits_deBruijn32tab), ("math/bits.deBruijn64tab", laid_math_bits_deBruijn64tab), ("internal/strconv.uint64pow10", laid_internal_strconv_uint64pow10)] }
def TopGuardsSaid : Prop := topGuardsRow.holds Tryz.pinned (OpenSpec.ofChange topGuardsSpec)

/-- ITS FALSE NEIGHBOUR: 'it returns false'. Refute it at one input. -/
def topGuardsWrong : ChangeSpec := { name := "topGuards", fn := fun _ => fun
  | [d1, d2] => { results := [.lit (.bool false)], args := [d1, d2] }
  | _ => none }
def TopGuardsWrongFalsely : Prop := topGuardsRow.holds Tryz.pinned (OpenSpec.ofChange topGuardsWrong)

/-- 'frankpledgetop.TopSweeps': WHATEVER THE INPUT: true; the input reads as it did. -/
def topSweepsSpec : ChangeSpec := { name := "topSweeps", fn := fun _ => fun
  | [d] => { results := [.lit (.bool true)], args := [d] }
  | _ => none }
def topSweepsRow : OpenClaim := { program := "ytinkiihdnepfjaagreatdoor", sum := "c067e89fa85d27aa213cc346607b7a09adf3fc4ec7a61122d806cc55ba689ecf", func := "frankpledge/frankpledgetop.TopSweeps", spec := "topSweeps", inPlace := ["slices.overlaps[frankpledge/lease.Entry]"], unfollowed := true, recurses := true, named := ["internal/strconv.uint64pow10", "math/bits.deBruijn32tab", "math/bits.deBruijn64tab"], apart := false, laid := [("math/bits.deBruijn32tab", laid_math_bits_deBruijn32tab), ("math/bits.deBruijn64tab", laid_math_bits_deBruijn64tab), ("internal/strconv.uint64pow10", laid_internal_strconv_uint64pow10)] }
def TopSweepsSaid : Prop := topSweepsRow.holds Tryz.pinned (OpenSpec.ofChange topSweepsSpec)

/-- ITS FALSE NEIGHBOUR: 'it returns false'. Refute it at one input. -/
def topSweepsWrong : ChangeSpec := { name := "topSweeps", fn := fun _ => fun
  | [d] => { results := [.lit (.bool false)], args := [d] }
  | _ => none }
def TopSweepsWrongFalsely : Prop := topSweepsRow.holds Tryz.pinned (OpenSpec.ofChange topSweepsWrong)

/-- 'frankpledgetop.TopTwice': WHATEVER THE INPUT: true; the input reads as it did. -/
def topTwiceSpec : ChangeSpec := { name := "topTwice", fn := fun _ => fun
  | [d] => { results := [.lit (.bool true)], args := [d] }
  | _ => none }
def topTwiceRow : OpenClaim := { program := "ytinkiihdnepfjaagreatdoor", sum := "c067e89fa85d27aa213cc346607b7a09adf3fc4ec7a61122d806cc55ba689ecf", func := "frankpledge/frankpledgetop.TopTwice", spec := "topTwice", inPlace := ["slices.overlaps[frankpledge/lease.Entry]"], unfollowed := true, recurses := true, named := ["internal/strconv.uint64pow10", "math/bits.deBruijn32tab", "math/bits.deBruijn64tab"], apart := false, laid := [("math/bits.deBruijn32tab", laid_math_bits_deBruijn32tab), ("math/bits.deBruijn64tab", laid_math_bits_deBruijn64tab), ("internal/strconv.uint64pow10", laid_internal_strconv_uint64pow10)] }
def TopTwiceSaid : Prop := topTwiceRow.holds Tryz.pinned (OpenSpec.ofChange topTwiceSpec)

/-- ITS FALSE NEIGHBOUR: 'it returns false'. Refute it at one input. -/
def topTwiceWrong : ChangeSpec := { name := "topTwice", fn := fun _ => fun
  | [d] => { results := [.lit (.bool false)], args := [d] }
  | _ => none }
def TopTwiceWrongFalsely : Prop := topTwiceRow.holds Tryz.pinned (OpenSpec.ofChange topTwiceWrong)

/-- 'frankpledgetop.TopQueues': WHATEVER THE INPUT: true; the input reads as it did. -/
def topQueuesSpec : ChangeSpec := { name := "topQueues", fn := fun _ => fun
  | [d] => { results := [.lit (.bool true)], args := [d] }
  | _ => none }
def topQueuesRow : OpenClaim := { program := "ytinkiihdnepfjaagreatdoor", sum := "c067e89fa85d27aa213cc346607b7a09adf3fc4ec7a61122d806cc55ba689ecf", func := "frankpledge/frankpledgetop.TopQueues", spec := "topQueues", inPlace := ["slices.overlaps[frankpledge/lease.Entry]"], unfollowed := true, recurses := true, named := ["internal/strconv.uint64pow10", "math/bits.deBruijn32tab", "math/bits.deBruijn64tab"], apart := false, laid := [("math/bits.deBruijn32tab", laid_math_bits_deBruijn32tab), ("math/bits.deBruijn64tab", laid_math_bits_deBruijn64tab), ("internal/strconv.uint64pow10", laid_internal_strconv_uint64pow10)] }
def TopQueuesSaid : Prop := topQueuesRow.holds Tryz.pinned (OpenSpec.ofChange topQueuesSpec)

/-- ITS FALSE NEIGHBOUR: 'it returns false'. Refute it at one input. -/
def topQueuesWrong : ChangeSpec := { name := "topQueues", fn := fun _ => fun
  | [d] => { results := [.lit (.bool false)], args := [d] }
  | _ => none }
def TopQueuesWrongFalsely : Prop := topQueuesRow.holds Tryz.pinned (OpenSpec.ofChange topQueuesWrong)

/-- 'frankpledgetop.TopClocks': WHATEVER THE INPUT: true; the input reads as it did. -/
def topClocksSpec : ChangeSpec := { name := "topClocks", fn := fun _ => fun
  | [d] => { results := [.lit (.bool true)], args := [d] }
  | _ => none }
def topClocksRow : OpenClaim := { program := "ytinkiihdnepfjaagreatdoor", sum := "c067e89fa85d27aa213cc346607b7a09adf3fc4ec7a61122d806cc55ba689ecf", func := "frankpledge/frankpledgetop.TopClocks", spec := "topClocks", inPlace := ["slices.overlaps[frankpledge/lease.Entry]"], unfollowed := true, recurses := true, named := ["internal/strconv.uint64pow10", "math/bits.deBruijn32tab", "math/bits.deBruijn64tab"], apart := false, laid := [("math/bits.deBruijn32tab", laid_math_bits_deBruijn32tab), ("math/bits.deBruijn64tab", laid_math_bits_deBruijn64tab), ("internal/strconv.uint64pow10", laid_internal_strconv_uint64pow10)] }
def TopClocksSaid : Prop := topClocksRow.holds Tryz.pinned (OpenSpec.ofChange topClocksSpec)

/-- ITS FALSE NEIGHBOUR: 'it returns false'. Refute it at one input. -/
def topClocksWrong : ChangeSpec := { name := "topClocks", fn := fun _ => fun
  | [d] => { results := [.lit (.bool false)], args := [d] }
  | _ => none }
def TopClocksWrongFalsely : Prop := topClocksRow.holds Tryz.pinned (OpenSpec.ofChange topClocksWrong)

/-- 'frankpledgetop.TopRejoins': WHATEVER THE INPUT: true; the input reads as it did. -/
def topRejoinsSpec : ChangeSpec := { name := "topRejoins", fn := fun _ => fun
  | [d] => { results := [.lit (.bool true)], args := [d] }
  | _ => none }
def topRejoinsRow : OpenClaim := { program := "ytinkiihdnepfjaagreatdoor", sum := "c067e89fa85d27aa213cc346607b7a09adf3fc4ec7a61122d806cc55ba689ecf", func := "frankpledge/frankpledgetop.TopRejoins", spec := "topRejoins", inPlace := ["slices.overlaps[frankpledge/lease.Entry]"], unfollowed := true, recurses := true, named := ["internal/strconv.uint64pow10", "math/bits.deBruijn32tab", "math/bits.deBruijn64tab"], apart := false, laid := [("math/bits.deBruijn32tab", laid_math_bits_deBruijn32tab), ("math/bits.deBruijn64tab", laid_math_bits_deBruijn64tab), ("internal/strconv.uint64pow10", laid_internal_strconv_uint64pow10)] }
def TopRejoinsSaid : Prop := topRejoinsRow.holds Tryz.pinned (OpenSpec.ofChange topRejoinsSpec)

/-- ITS FALSE NEIGHBOUR: 'it returns false'. Refute it at one input. -/
def topRejoinsWrong : ChangeSpec := { name := "topRejoins", fn := fun _ => fun
  | [d] => { results := [.lit (.bool false)], args := [d] }
  | _ => none }
def TopRejoinsWrongFalsely : Prop := topRejoinsRow.holds Tryz.pinned (OpenSpec.ofChange topRejoinsWrong)

/-- 'frankpledgetop.TopLate': WHATEVER THE INPUT: true; the input reads as it did. -/
def topLateSpec : ChangeSpec := { name := "topLate", fn := fun _ => fun
  | [d] => { results := [.lit (.bool true)], args := [d] }
  | _ => none }
def topLateRow : OpenClaim := { program := "ytinkiihdnepfjaagreatdoor", sum := "c067e89fa85d27aa213cc346607b7a09adf3fc4ec7a61122d806cc55ba689ecf", func := "frankpledge/frankpledgetop.TopLate", spec := "topLate", inPlace := ["slices.overlaps[frankpledge/lease.Entry]"], unfollowed := true, recurses := true, named := ["internal/strconv.uint64pow10", "math/bits.deBruijn32tab", "math/bits.deBruijn64tab"], apart := false, laid := [("math/bits.deBruijn32tab", laid_math_bits_deBruijn32tab), ("math/bits.deBruijn64tab", laid_math_bits_deBruijn64tab), ("internal/strconv.uint64pow10", laid_internal_strconv_uint64pow10)] }
def TopLateSaid : Prop := topLateRow.holds Tryz.pinned (OpenSpec.ofChange topLateSpec)

/-- ITS FALSE NEIGHBOUR: 'it returns false'. Refute it at one input. -/
def topLateWrong : ChangeSpec := { name := "topLate", fn := fun _ => fun
  | [d] => { results := [.lit (.bool false)], args := [d] }
  | _ => none }
def TopLateWrongFalsely : Prop := topLateRow.holds Tryz.pinned (OpenSpec.ofChange topLateWrong)

/-- 'frankpledgetop.TopFull': WHATEVER THE INPUT: true; the input reads as it did. -/
def topFullSpec : ChangeSpec := { name := "topFull", fn := fun _ => fun
  | [d] => { results := [.lit (.bool true)], args := [d] }
  | _ => none }
def topFullRow : OpenClaim := { program := "ytinkiihdnepfjaagreatdoor", sum := "c067e89fa85d27aa213cc346607b7a09adf3fc4ec7a61122d806cc55ba689ecf", func := "frankpledge/frankpledgetop.TopFull", spec := "topFull", inPlace := ["slices.overlaps[frankpledge/lease.Entry]"], unfollowed := true, recurses := true, named := ["internal/strconv.uint64pow10", "math/bits.deBruijn32tab", "math/bits.deBruijn64tab"], apart := false, laid := [("math/bits.deBruijn32tab", laid_math_bits_deBruijn32tab), ("math/bits.deBruijn64tab", laid_math_bits_deBruijn64tab), ("internal/strconv.uint64pow10", laid_internal_strconv_uint64pow10)] }
def TopFullSaid : Prop := topFullRow.holds Tryz.pinned (OpenSpec.ofChange topFullSpec)

/-- ITS FALSE NEIGHBOUR: 'it returns false'. Refute it at one input. -/
def topFullWrong : ChangeSpec := { name := "topFull", fn := fun _ => fun
  | [d] => { results := [.lit (.bool false)], args := [d] }
  | _ => none }
def TopFullWrongFalsely : Prop := topFullRow.holds Tryz.pinned (OpenSpec.ofChange topFullWrong)

/- THE SECOND FORM. 'bulk': how many values and letters a reading holds, each counted each time it is reached (what is shared counts as often as it is met; a slice's spare places count too). A statement '..UptoSaid' is the law's where the arguments, and the package variables that the reading takes, are together of bulk at most 1048576: NARROWER than '..Said'. Prove '..Said' where nothing that the law and all that it calls make is longer than what came in: it says more and counts as full. Else prove '..UptoSaid'. A law counts once. -/
mutual
def uptoBulk {H : Type} : DataW H → Nat
  | .lit (.string bytes) => bytes.length + 1
  | .lit _ => 1
  | .nil => 1
  | .ptr d => uptoBulk d + 1
  | .slice elems spare => uptoBulkAll elems + uptoBulkAll spare + 1
  | .agg parts => uptoBulkAll parts + 1
  | .iface _ d => uptoBulk d + 1
  | .map entries => uptoBulkEntries entries + 1
  | .held _ => 1
def uptoBulkAll {H : Type} : List (DataW H) → Nat
  | [] => 0
  | d :: r => uptoBulk d + uptoBulkAll r
def uptoBulkEntries {H : Type} : List (Lit × DataW H) → Nat
  | [] => 0
  | x :: r => uptoBulkEntry x + uptoBulkEntries r
def uptoBulkEntry {H : Type} : Lit × DataW H → Nat
  | (.string bytes, d) => bytes.length + uptoBulk d + 1
  | (_, d) => uptoBulk d + 1
 end
def uptoSmall : (H : Type) → List (DataW H) → Bool := fun _ ds => decide (uptoBulkAll ds ≤ 1048576)
def OpenSpec.upto (s : _root_.Go.ChangeSpec) : _root_.Go.OpenSpec := { _root_.Go.OpenSpec.ofChange s with cond := some uptoSmall }

/-- 'frankpledgetop.TopOverrides', WHERE WHAT IT READS IS OF BULK AT MOST 1048576: true; the input reads as it did. -/
def topOverridesUptoRow : OpenClaim := { program := "ytinkiihdnepfjaagreatdoor", sum := "c067e89fa85d27aa213cc346607b7a09adf3fc4ec7a61122d806cc55ba689ecf", func := "frankpledge/frankpledgetop.TopOverrides", spec := "topOverrides", inPlace := ["slices.overlaps[frankpledge/lease.Entry]"], unfollowed := true, recurses := true, named := ["internal/strconv.uint64pow10", "math/bits.deBruijn32tab", "math/bits.deBruijn64tab"], apart := false, laid := [("math/bits.deBruijn32tab", laid_math_bits_deBruijn32tab), ("math/bits.deBruijn64tab", laid_math_bits_deBruijn64tab), ("internal/strconv.uint64pow10", laid_internal_strconv_uint64pow10)], narrowed := true }
def TopOverridesUptoSaid : Prop := topOverridesUptoRow.holds Tryz.pinned (OpenSpec.upto topOverridesSpec)

/-- 'frankpledgetop.TopGone', WHERE WHAT IT READS IS OF BULK AT MOST 1048576: true; the input reads as it did. -/
def topGoneUptoRow : OpenClaim := { program := "ytinkiihdnepfjaagreatdoor", sum := "c067e89fa85d27aa213cc346607b7a09adf3fc4ec7a61122d806cc55ba689ecf", func := "frankpledge/frankpledgetop.TopGone", spec := "topGone", inPlace := ["slices.overlaps[frankpledge/lease.Entry]"], unfollowed := true, recurses := true, named := ["internal/strconv.uint64pow10", "math/bits.deBruijn32tab", "math/bits.deBruijn64tab"], apart := false, laid := [("math/bits.deBruijn32tab", laid_math_bits_deBruijn32tab), ("math/bits.deBruijn64tab", laid_math_bits_deBruijn64tab), ("internal/strconv.uint64pow10", laid_internal_strconv_uint64pow10)], narrowed := true }
def TopGoneUptoSaid : Prop := topGoneUptoRow.holds Tryz.pinned (OpenSpec.upto topGoneSpec)

/-- 'frankpledgetop.TopDoubles', WHERE WHAT IT READS IS OF BULK AT MOST 1048576: true; the input reads as it did. -/
def topDoublesUptoRow : OpenClaim := { program := "ytinkiihdnepfjaagreatdoor", sum := "c067e89fa85d27aa213cc346607b7a09adf3fc4ec7a61122d806cc55ba689ecf", func := "frankpledge/frankpledgetop.TopDoubles", spec := "topDoubles", inPlace := ["slices.overlaps[frankpledge/lease.Entry]"], unfollowed := true, recurses := true, named := ["internal/strconv.uint64pow10", "math/bits.deBruijn32tab", "math/bits.deBruijn64tab"], apart := false, laid := [("math/bits.deBruijn32tab", laid_math_bits_deBruijn32tab), ("math/bits.deBruijn64tab", laid_math_bits_deBruijn64tab), ("internal/strconv.uint64pow10", laid_internal_strconv_uint64pow10)], narrowed := true }
def TopDoublesUptoSaid : Prop := topDoublesUptoRow.holds Tryz.pinned (OpenSpec.upto topDoublesSpec)

/-- 'frankpledgetop.TopLeaves', WHERE WHAT IT READS IS OF BULK AT MOST 1048576: true; the input reads as it did. -/
def topLeavesUptoRow : OpenClaim := { program := "ytinkiihdnepfjaagreatdoor", sum := "c067e89fa85d27aa213cc346607b7a09adf3fc4ec7a61122d806cc55ba689ecf", func := "frankpledge/frankpledgetop.TopLeaves", spec := "topLeaves", inPlace := ["slices.overlaps[frankpledge/lease.Entry]"], unfollowed := true, recurses := true, named := ["internal/strconv.uint64pow10", "math/bits.deBruijn32tab", "math/bits.deBruijn64tab"], apart := false, laid := [("math/bits.deBruijn32tab", laid_math_bits_deBruijn32tab), ("math/bits.deBruijn64tab", laid_math_bits_deBruijn64tab), ("internal/strconv.uint64pow10", laid_internal_strconv_uint64pow10)], narrowed := true }
def TopLeavesUptoSaid : Prop := topLeavesUptoRow.holds Tryz.pinned (OpenSpec.upto topLeavesSpec)

/-- 'frankpledgetop.TopDowns', WHERE WHAT IT READS IS OF BULK AT MOST 1048576: true; the input reads as it did. -/
def topDownsUptoRow : OpenClaim := { program := "ytinkiihdnepfjaagreatdoor", sum := "c067e89fa85d27aa213cc346607b7a09adf3fc4ec7a61122d806cc55ba689ecf", func := "frankpledge/frankpledgetop.TopDowns", spec := "topDowns", inPlace := ["slices.overlaps[frankpledge/lease.Entry]"], unfollowed := true, recurses := true, named := ["internal/strconv.uint64pow10", "math/bits.deBruijn32tab", "math/bits.deBruijn64tab"], apart := false, laid := [("math/bits.deBruijn32tab", laid_math_bits_deBruijn32tab), ("math/bits.deBruijn64tab", laid_math_bits_deBruijn64tab), ("internal/strconv.uint64pow10", laid_internal_strconv_uint64pow10)], narrowed := true }
def TopDownsUptoSaid : Prop := topDownsUptoRow.holds Tryz.pinned (OpenSpec.upto topDownsSpec)

/-- 'frankpledgetop.TopGuards', WHERE WHAT IT READS IS OF BULK AT MOST 1048576: true; the input reads as it did. -/
def topGuardsUptoRow : OpenClaim := { program := "ytinkiihdnepfjaagreatdoor", sum := "c067e89fa85d27aa213cc346607b7a09adf3fc4ec7a61122d806cc55ba689ecf", func := "frankpledge/frankpledgetop.TopGuards", spec := "topGuards", inPlace := ["slices.overlaps[frankpledge/lease.Entry]"], unfollowed := true, recurses := true, named := ["internal/strconv.uint64pow10", "math/bits.deBruijn32tab", "math/bits.deBruijn64tab"], apart := false, laid := [("math/bits.deBruijn32tab", laid_math_bits_deBruijn32tab), ("math/bits.deBruijn64tab", laid_math_bits_deBruijn64tab), ("internal/strconv.uint64pow10", laid_internal_strconv_uint64pow10)], narrowed := true }
def TopGuardsUptoSaid : Prop := topGuardsUptoRow.holds Tryz.pinned (OpenSpec.upto topGuardsSpec)

/-- 'frankpledgetop.TopSweeps', WHERE WHAT IT READS IS OF BULK AT MOST 1048576: true; the input reads as it did. -/
def topSweepsUptoRow : OpenClaim := { program := "ytinkiihdnepfjaagreatdoor", sum := "c067e89fa85d27aa213cc346607b7a09adf3fc4ec7a61122d806cc55ba689ecf", func := "frankpledge/frankpledgetop.TopSweeps", spec := "topSweeps", inPlace := ["slices.overlaps[frankpledge/lease.Entry]"], unfollowed := true, recurses := true, named := ["internal/strconv.uint64pow10", "math/bits.deBruijn32tab", "math/bits.deBruijn64tab"], apart := false, laid := [("math/bits.deBruijn32tab", laid_math_bits_deBruijn32tab), ("math/bits.deBruijn64tab", laid_math_bits_deBruijn64tab), ("internal/strconv.uint64pow10", laid_internal_strconv_uint64pow10)], narrowed := true }
def TopSweepsUptoSaid : Prop := topSweepsUptoRow.holds Tryz.pinned (OpenSpec.upto topSweepsSpec)

/-- 'frankpledgetop.TopTwice', WHERE WHAT IT READS IS OF BULK AT MOST 1048576: true; the input reads as it did. -/
def topTwiceUptoRow : OpenClaim := { program := "ytinkiihdnepfjaagreatdoor", sum := "c067e89fa85d27aa213cc346607b7a09adf3fc4ec7a61122d806cc55ba689ecf", func := "frankpledge/frankpledgetop.TopTwice", spec := "topTwice", inPlace := ["slices.overlaps[frankpledge/lease.Entry]"], unfollowed := true, recurses := true, named := ["internal/strconv.uint64pow10", "math/bits.deBruijn32tab", "math/bits.deBruijn64tab"], apart := false, laid := [("math/bits.deBruijn32tab", laid_math_bits_deBruijn32tab), ("math/bits.deBruijn64tab", laid_math_bits_deBruijn64tab), ("internal/strconv.uint64pow10", laid_internal_strconv_uint64pow10)], narrowed := true }
def TopTwiceUptoSaid : Prop := topTwiceUptoRow.holds Tryz.pinned (OpenSpec.upto topTwiceSpec)

/-- 'frankpledgetop.TopQueues', WHERE WHAT IT READS IS OF BULK AT MOST 1048576: true; the input reads as it did. -/
def topQueuesUptoRow : OpenClaim := { program := "ytinkiihdnepfjaagreatdoor", sum := "c067e89fa85d27aa213cc346607b7a09adf3fc4ec7a61122d806cc55ba689ecf", func := "frankpledge/frankpledgetop.TopQueues", spec := "topQueues", inPlace := ["slices.overlaps[frankpledge/lease.Entry]"], unfollowed := true, recurses := true, named := ["internal/strconv.uint64pow10", "math/bits.deBruijn32tab", "math/bits.deBruijn64tab"], apart := false, laid := [("math/bits.deBruijn32tab", laid_math_bits_deBruijn32tab), ("math/bits.deBruijn64tab", laid_math_bits_deBruijn64tab), ("internal/strconv.uint64pow10", laid_internal_strconv_uint64pow10)], narrowed := true }
def TopQueuesUptoSaid : Prop := topQueuesUptoRow.holds Tryz.pinned (OpenSpec.upto topQueuesSpec)

/-- 'frankpledgetop.TopClocks', WHERE WHAT IT READS IS OF BULK AT MOST 1048576: true; the input reads as it did. -/
def topClocksUptoRow : OpenClaim := { program := "ytinkiihdnepfjaagreatdoor", sum := "c067e89fa85d27aa213cc346607b7a09adf3fc4ec7a61122d806cc55ba689ecf", func := "frankpledge/frankpledgetop.TopClocks", spec := "topClocks", inPlace := ["slices.overlaps[frankpledge/lease.Entry]"], unfollowed := true, recurses := true, named := ["internal/strconv.uint64pow10", "math/bits.deBruijn32tab", "math/bits.deBruijn64tab"], apart := false, laid := [("math/bits.deBruijn32tab", laid_math_bits_deBruijn32tab), ("math/bits.deBruijn64tab", laid_math_bits_deBruijn64tab), ("internal/strconv.uint64pow10", laid_internal_strconv_uint64pow10)], narrowed := true }
def TopClocksUptoSaid : Prop := topClocksUptoRow.holds Tryz.pinned (OpenSpec.upto topClocksSpec)

/-- 'frankpledgetop.TopRejoins', WHERE WHAT IT READS IS OF BULK AT MOST 1048576: true; the input reads as it did. -/
def topRejoinsUptoRow : OpenClaim := { program := "ytinkiihdnepfjaagreatdoor", sum := "c067e89fa85d27aa213cc346607b7a09adf3fc4ec7a61122d806cc55ba689ecf", func := "frankpledge/frankpledgetop.TopRejoins", spec := "topRejoins", inPlace := ["slices.overlaps[frankpledge/lease.Entry]"], unfollowed := true, recurses := true, named := ["internal/strconv.uint64pow10", "math/bits.deBruijn32tab", "math/bits.deBruijn64tab"], apart := false, laid := [("math/bits.deBruijn32tab", laid_math_bits_deBruijn32tab), ("math/bits.deBruijn64tab", laid_math_bits_deBruijn64tab), ("internal/strconv.uint64pow10", laid_internal_strconv_uint64pow10)], narrowed := true }
def TopRejoinsUptoSaid : Prop := topRejoinsUptoRow.holds Tryz.pinned (OpenSpec.upto topRejoinsSpec)

/-- 'frankpledgetop.TopLate', WHERE WHAT IT READS IS OF BULK AT MOST 1048576: true; the input reads as it did. -/
def topLateUptoRow : OpenClaim := { program := "ytinkiihdnepfjaagreatdoor", sum := "c067e89fa85d27aa213cc346607b7a09adf3fc4ec7a61122d806cc55ba689ecf", func := "frankpledge/frankpledgetop.TopLate", spec := "topLate", inPlace := ["slices.overlaps[frankpledge/lease.Entry]"], unfollowed := true, recurses := true, named := ["internal/strconv.uint64pow10", "math/bits.deBruijn32tab", "math/bits.deBruijn64tab"], apart := false, laid := [("math/bits.deBruijn32tab", laid_math_bits_deBruijn32tab), ("math/bits.deBruijn64tab", laid_math_bits_deBruijn64tab), ("internal/strconv.uint64pow10", laid_internal_strconv_uint64pow10)], narrowed := true }
def TopLateUptoSaid : Prop := topLateUptoRow.holds Tryz.pinned (OpenSpec.upto topLateSpec)

/-- 'frankpledgetop.TopFull', WHERE WHAT IT READS IS OF BULK AT MOST 1048576: true; the input reads as it did. -/
def topFullUptoRow : OpenClaim := { program := "ytinkiihdnepfjaagreatdoor", sum := "c067e89fa85d27aa213cc346607b7a09adf3fc4ec7a61122d806cc55ba689ecf", func := "frankpledge/frankpledgetop.TopFull", spec := "topFull", inPlace := ["slices.overlaps[frankpledge/lease.Entry]"], unfollowed := true, recurses := true, named := ["internal/strconv.uint64pow10", "math/bits.deBruijn32tab", "math/bits.deBruijn64tab"], apart := false, laid := [("math/bits.deBruijn32tab", laid_math_bits_deBruijn32tab), ("math/bits.deBruijn64tab", laid_math_bits_deBruijn64tab), ("internal/strconv.uint64pow10", laid_internal_strconv_uint64pow10)], narrowed := true }
def TopFullUptoSaid : Prop := topFullUptoRow.holds Tryz.pinned (OpenSpec.upto topFullSpec)

end Rows
end Go.Proofs.YtinkiihdnepfjaaGreatDoor
