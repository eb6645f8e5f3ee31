/-
  NARROWER THAN 'FOR EVERY INPUT', by the rows' own cells (each row's printed sentence says how): FollowGone: laid · FollowWorks: laid · FollowLong: laid · FollowNothing: laid · ApplyWorks: laid · ApplyBack: laid · ApplyTwice: laid · ComposeWorks: laid · ComposeLong: laid · ComposeNothing: laid · ComposeThree: laid · ApplyBetween: laid · ApplyNothing: laid · ApplyAhead: laid · ApplyParts: laid · ApplyAsks: laid · FollowDocuments: laid · FollowMany: laid · ComposeDoes: laid · FollowMeets: laid · ComposeBack: laid.
  DERIVED. THE GIVEN ROWS OF THIS SEAT. 21 by the template 'for every input the law returns true; each argument reads behind the call as it read before'; 0 by the template 'total and deterministic' (their statements: YtaemajcpgmaapaaDoorTotals.lean).
  GIVEN WITH THE SEED: the statements are not yours to turn. If you find one false, say at which input.
  Laid BY PROGRAM, IN A SANDBOX (cutbox-rows.mjs): the forced cells as the released guide's own fill.sh prints them over the translation 22b9e6e89c4ef344… (all of the seat's roots in one cut). By AI agents, Wed Nov 11 2026. No macro, syntax, notation, axiom, sorry.
-/
import Derived.Test.YtaemajcpgmaapaaDoorChecked
import GoSem.PinnedTables
import GoSem.Claim
import GoSem.ClaimJoined
import GoSem.ClaimMapViews
import Derived.JoinedTies
import Derived.KernelRfl
namespace Go.Proofs.YtaemajcpgmaapaaDoor
/- THE CELL 'sum', in the pinned program and in every row, IS THE sha256 OF THE DUMP (.gsa) THAT YtaemajcpgmaapaaDoorProg.lean LOADS. Nothing in Lean hashes anything: it is a label: what it is worth is what the hold of that sum in a sandbox is worth. -/
noncomputable def Tryd.pinned : Pinned := { name := "ytaemajcpgmaapaadoor", sum := "22b9e6e89c4ef3442f49c8141bb5c592a5ff33b1b61f133426260dd9c2c1bedd", checked := Tryd.checked }
namespace Rows
def none {H : Type} : Left H := { results := [], args := [] }

/- WHAT THE LISTED PACKAGE-LEVEL VARIABLES READ AS WHEN THE CALL BEGINS. Each datum BY PROGRAM (the guide's laid-datum.mjs) off the statement by which the dump's own 'gosem.cut.vars' lays the variable. In a bare row this is a premise. The card (YtaemajcpgmaapaaDoorCards.lean) ties it to the program's text. -/
def laid_unicode_utf8_acceptRanges {H : Type} : DataW H := .agg [.agg [.lit (.int .u8 128), .lit (.int .u8 191)], .agg [.lit (.int .u8 160), .lit (.int .u8 191)], .agg [.lit (.int .u8 128), .lit (.int .u8 159)], .agg [.lit (.int .u8 144), .lit (.int .u8 191)], .agg [.lit (.int .u8 128), .lit (.int .u8 143)], .agg [.lit (.int .u8 0), .lit (.int .u8 0)], .agg [.lit (.int .u8 0), .lit (.int .u8 0)], .agg [.lit (.int .u8 0), .lit (.int .u8 0)], .agg [.lit (.int .u8 0), .lit (.int .u8 0)], .agg [.lit (.int .u8 0), .lit (.int .u8 0)], .agg [.lit (.int .u8 0), .lit (.int .u8 0)], .agg [.lit (.int .u8 0), .lit (.int .u8 0)], .agg [.lit (.int .u8 0), .lit (.int .u8 0)], .agg [.lit (.int .u8 0), .lit (.int .u8 0)], .agg [.lit (.int .u8 0), .lit (.int .u8 0)], .agg [.lit (.int .u8 0), .lit (.int .u8 0)]]
/-- One of Go's own tables, pinned by name: the form's constant. -/
def laid_unicode_utf8_first : DataW Unit := Go.Pinned.utf8First

/-- 'blotterlaw07.FollowGone': WHATEVER THE INPUT: true; the input reads as it did. -/
def followGoneSpec : ChangeSpec := { name := "followGone", fn := fun _ => fun
  | [d1, d2] => { results := [.lit (.bool true)], args := [d1, d2] }
  | _ => none }
def followGoneRow : OpenClaim := { program := "ytaemajcpgmaapaadoor", sum := "22b9e6e89c4ef3442f49c8141bb5c592a5ff33b1b61f133426260dd9c2c1bedd", func := "blotter/blotterlaw07.FollowGone", spec := "followGone", inPlace := ["internal/bytealg.IndexByteString"], unfollowed := true, recurses := true, named := ["unicode/utf8.first", "unicode/utf8.acceptRanges"], apart := false, laid := [("unicode/utf8.acceptRanges", laid_unicode_utf8_acceptRanges), ("unicode/utf8.first", laid_unicode_utf8_first)] }
def FollowGoneSaid : Prop := followGoneRow.holds Tryd.pinned (OpenSpec.ofChange followGoneSpec)

/-- ITS FALSE NEIGHBOUR: 'it returns false'. Refute it at one input. -/
def followGoneWrong : ChangeSpec := { name := "followGone", fn := fun _ => fun
  | [d1, d2] => { results := [.lit (.bool false)], args := [d1, d2] }
  | _ => none }
def FollowGoneWrongFalsely : Prop := followGoneRow.holds Tryd.pinned (OpenSpec.ofChange followGoneWrong)

/-- 'blotterlaw07.FollowWorks': WHATEVER THE INPUT: true; the input reads as it did. -/
def followWorksSpec : ChangeSpec := { name := "followWorks", fn := fun _ => fun
  | [d1, d2, d3, d4] => { results := [.lit (.bool true)], args := [d1, d2, d3, d4] }
  | _ => none }
def followWorksRow : OpenClaim := { program := "ytaemajcpgmaapaadoor", sum := "22b9e6e89c4ef3442f49c8141bb5c592a5ff33b1b61f133426260dd9c2c1bedd", func := "blotter/blotterlaw07.FollowWorks", spec := "followWorks", inPlace := ["internal/bytealg.IndexByteString"], unfollowed := true, recurses := true, named := ["unicode/utf8.first", "unicode/utf8.acceptRanges"], apart := false, laid := [("unicode/utf8.acceptRanges", laid_unicode_utf8_acceptRanges), ("unicode/utf8.first", laid_unicode_utf8_first)] }
def FollowWorksSaid : Prop := followWorksRow.holds Tryd.pinned (OpenSpec.ofChange followWorksSpec)

/-- ITS FALSE NEIGHBOUR: 'it returns false'. Refute it at one input. -/
def followWorksWrong : ChangeSpec := { name := "followWorks", fn := fun _ => fun
  | [d1, d2, d3, d4] => { results := [.lit (.bool false)], args := [d1, d2, d3, d4] }
  | _ => none }
def FollowWorksWrongFalsely : Prop := followWorksRow.holds Tryd.pinned (OpenSpec.ofChange followWorksWrong)

/-- 'blotterlaw07.FollowLong': WHATEVER THE INPUT: true; the input reads as it did. -/
def followLongSpec : ChangeSpec := { name := "followLong", fn := fun _ => fun
  | [d1, d2, d3] => { results := [.lit (.bool true)], args := [d1, d2, d3] }
  | _ => none }
def followLongRow : OpenClaim := { program := "ytaemajcpgmaapaadoor", sum := "22b9e6e89c4ef3442f49c8141bb5c592a5ff33b1b61f133426260dd9c2c1bedd", func := "blotter/blotterlaw07.FollowLong", spec := "followLong", inPlace := ["internal/bytealg.IndexByteString"], unfollowed := true, recurses := true, named := ["unicode/utf8.first", "unicode/utf8.acceptRanges"], apart := false, laid := [("unicode/utf8.acceptRanges", laid_unicode_utf8_acceptRanges), ("unicode/utf8.first", laid_unicode_utf8_first)] }
def FollowLongSaid : Prop := followLongRow.holds Tryd.pinned (OpenSpec.ofChange followLongSpec)

/-- ITS FALSE NEIGHBOUR: 'it returns false'. Refute it at one input. -/
def followLongWrong : ChangeSpec := { name := "followLong", fn := fun _ => fun
  | [d1, d2, d3] => { results := [.lit (.bool false)], args := [d1, d2, d3] }
  | _ => none }
def FollowLongWrongFalsely : Prop := followLongRow.holds Tryd.pinned (OpenSpec.ofChange followLongWrong)

/-- 'blotterlaw07.FollowNothing': WHATEVER THE INPUT: true; the input reads as it did. -/
def followNothingSpec : ChangeSpec := { name := "followNothing", fn := fun _ => fun
  | [d1, d2] => { results := [.lit (.bool true)], args := [d1, d2] }
  | _ => none }
def followNothingRow : OpenClaim := { program := "ytaemajcpgmaapaadoor", sum := "22b9e6e89c4ef3442f49c8141bb5c592a5ff33b1b61f133426260dd9c2c1bedd", func := "blotter/blotterlaw07.FollowNothing", spec := "followNothing", inPlace := ["internal/bytealg.IndexByteString"], unfollowed := true, recurses := true, named := ["unicode/utf8.first", "unicode/utf8.acceptRanges"], apart := false, laid := [("unicode/utf8.acceptRanges", laid_unicode_utf8_acceptRanges), ("unicode/utf8.first", laid_unicode_utf8_first)] }
def FollowNothingSaid : Prop := followNothingRow.holds Tryd.pinned (OpenSpec.ofChange followNothingSpec)

/-- ITS FALSE NEIGHBOUR: 'it returns false'. Refute it at one input. -/
def followNothingWrong : ChangeSpec := { name := "followNothing", fn := fun _ => fun
  | [d1, d2] => { results := [.lit (.bool false)], args := [d1, d2] }
  | _ => none }
def FollowNothingWrongFalsely : Prop := followNothingRow.holds Tryd.pinned (OpenSpec.ofChange followNothingWrong)

/-- 'blotterlaw05.ApplyWorks': WHATEVER THE INPUT: true; the input reads as it did. -/
def applyWorksSpec : ChangeSpec := { name := "applyWorks", fn := fun _ => fun
  | [d1, d2] => { results := [.lit (.bool true)], args := [d1, d2] }
  | _ => none }
def applyWorksRow : OpenClaim := { program := "ytaemajcpgmaapaadoor", sum := "22b9e6e89c4ef3442f49c8141bb5c592a5ff33b1b61f133426260dd9c2c1bedd", func := "blotter/blotterlaw05.ApplyWorks", spec := "applyWorks", inPlace := ["internal/bytealg.IndexByteString", "internal/abi.NoEscape"], unfollowed := true, recurses := true, named := ["unicode/utf8.first", "unicode/utf8.acceptRanges"], apart := false, laid := [("unicode/utf8.acceptRanges", laid_unicode_utf8_acceptRanges), ("unicode/utf8.first", laid_unicode_utf8_first)] }
def ApplyWorksSaid : Prop := applyWorksRow.holds Tryd.pinned (OpenSpec.ofChange applyWorksSpec)

/-- ITS FALSE NEIGHBOUR: 'it returns false'. Refute it at one input. -/
def applyWorksWrong : ChangeSpec := { name := "applyWorks", fn := fun _ => fun
  | [d1, d2] => { results := [.lit (.bool false)], args := [d1, d2] }
  | _ => none }
def ApplyWorksWrongFalsely : Prop := applyWorksRow.holds Tryd.pinned (OpenSpec.ofChange applyWorksWrong)

/-- 'blotterlaw05.ApplyBack': WHATEVER THE INPUT: true; the input reads as it did. -/
def applyBackSpec : ChangeSpec := { name := "applyBack", fn := fun _ => fun
  | [d1, d2] => { results := [.lit (.bool true)], args := [d1, d2] }
  | _ => none }
def applyBackRow : OpenClaim := { program := "ytaemajcpgmaapaadoor", sum := "22b9e6e89c4ef3442f49c8141bb5c592a5ff33b1b61f133426260dd9c2c1bedd", func := "blotter/blotterlaw05.ApplyBack", spec := "applyBack", inPlace := ["internal/bytealg.IndexByteString", "internal/abi.NoEscape"], unfollowed := true, recurses := true, named := ["unicode/utf8.first", "unicode/utf8.acceptRanges"], apart := false, laid := [("unicode/utf8.acceptRanges", laid_unicode_utf8_acceptRanges), ("unicode/utf8.first", laid_unicode_utf8_first)] }
def ApplyBackSaid : Prop := applyBackRow.holds Tryd.pinned (OpenSpec.ofChange applyBackSpec)

/-- ITS FALSE NEIGHBOUR: 'it returns false'. Refute it at one input. -/
def applyBackWrong : ChangeSpec := { name := "applyBack", fn := fun _ => fun
  | [d1, d2] => { results := [.lit (.bool false)], args := [d1, d2] }
  | _ => none }
def ApplyBackWrongFalsely : Prop := applyBackRow.holds Tryd.pinned (OpenSpec.ofChange applyBackWrong)

/-- 'blotterlaw05.ApplyTwice': WHATEVER THE INPUT: true; the input reads as it did. -/
def applyTwiceSpec : ChangeSpec := { name := "applyTwice", fn := fun _ => fun
  | [d1, d2] => { results := [.lit (.bool true)], args := [d1, d2] }
  | _ => none }
def applyTwiceRow : OpenClaim := { program := "ytaemajcpgmaapaadoor", sum := "22b9e6e89c4ef3442f49c8141bb5c592a5ff33b1b61f133426260dd9c2c1bedd", func := "blotter/blotterlaw05.ApplyTwice", spec := "applyTwice", inPlace := ["internal/bytealg.IndexByteString", "internal/abi.NoEscape"], unfollowed := true, recurses := true, named := ["unicode/utf8.first", "unicode/utf8.acceptRanges"], apart := false, laid := [("unicode/utf8.acceptRanges", laid_unicode_utf8_acceptRanges), ("unicode/utf8.first", laid_unicode_utf8_first)] }
def ApplyTwiceSaid : Prop := applyTwiceRow.holds Tryd.pinned (OpenSpec.ofChange applyTwiceSpec)

/-- ITS FALSE NEIGHBOUR: 'it returns false'. Refute it at one input. -/
def applyTwiceWrong : ChangeSpec := { name := "applyTwice", fn := fun _ => fun
  | [d1, d2] => { results := [.lit (.bool false)], args := [d1, d2] }
  | _ => none }
def ApplyTwiceWrongFalsely : Prop := applyTwiceRow.holds Tryd.pinned (OpenSpec.ofChange applyTwiceWrong)

/-- 'blotterlaw06.ComposeWorks': WHATEVER THE INPUT: true; the input reads as it did. -/
def composeWorksSpec : ChangeSpec := { name := "composeWorks", fn := fun _ => fun
  | [d1, d2, d3] => { results := [.lit (.bool true)], args := [d1, d2, d3] }
  | _ => none }
def composeWorksRow : OpenClaim := { program := "ytaemajcpgmaapaadoor", sum := "22b9e6e89c4ef3442f49c8141bb5c592a5ff33b1b61f133426260dd9c2c1bedd", func := "blotter/blotterlaw06.ComposeWorks", spec := "composeWorks", inPlace := ["internal/bytealg.IndexByteString"], unfollowed := true, recurses := true, named := ["unicode/utf8.first", "unicode/utf8.acceptRanges"], apart := false, laid := [("unicode/utf8.acceptRanges", laid_unicode_utf8_acceptRanges), ("unicode/utf8.first", laid_unicode_utf8_first)] }
def ComposeWorksSaid : Prop := composeWorksRow.holds Tryd.pinned (OpenSpec.ofChange composeWorksSpec)

/-- ITS FALSE NEIGHBOUR: 'it returns false'. Refute it at one input. -/
def composeWorksWrong : ChangeSpec := { name := "composeWorks", fn := fun _ => fun
  | [d1, d2, d3] => { results := [.lit (.bool false)], args := [d1, d2, d3] }
  | _ => none }
def ComposeWorksWrongFalsely : Prop := composeWorksRow.holds Tryd.pinned (OpenSpec.ofChange composeWorksWrong)

/-- 'blotterlaw06.ComposeLong': WHATEVER THE INPUT: true; the input reads as it did. -/
def composeLongSpec : ChangeSpec := { name := "composeLong", fn := fun _ => fun
  | [d1, d2] => { results := [.lit (.bool true)], args := [d1, d2] }
  | _ => none }
def composeLongRow : OpenClaim := { program := "ytaemajcpgmaapaadoor", sum := "22b9e6e89c4ef3442f49c8141bb5c592a5ff33b1b61f133426260dd9c2c1bedd", func := "blotter/blotterlaw06.ComposeLong", spec := "composeLong", inPlace := ["internal/bytealg.IndexByteString"], unfollowed := true, recurses := true, named := ["unicode/utf8.first", "unicode/utf8.acceptRanges"], apart := false, laid := [("unicode/utf8.acceptRanges", laid_unicode_utf8_acceptRanges), ("unicode/utf8.first", laid_unicode_utf8_first)] }
def ComposeLongSaid : Prop := composeLongRow.holds Tryd.pinned (OpenSpec.ofChange composeLongSpec)

/-- ITS FALSE NEIGHBOUR: 'it returns false'. Refute it at one input. -/
def composeLongWrong : ChangeSpec := { name := "composeLong", fn := fun _ => fun
  | [d1, d2] => { results := [.lit (.bool false)], args := [d1, d2] }
  | _ => none }
def ComposeLongWrongFalsely : Prop := composeLongRow.holds Tryd.pinned (OpenSpec.ofChange composeLongWrong)

/-- 'blotterlaw06.ComposeNothing': WHATEVER THE INPUT: true; the input reads as it did. -/
def composeNothingSpec : ChangeSpec := { name := "composeNothing", fn := fun _ => fun
  | [d] => { results := [.lit (.bool true)], args := [d] }
  | _ => none }
def composeNothingRow : OpenClaim := { program := "ytaemajcpgmaapaadoor", sum := "22b9e6e89c4ef3442f49c8141bb5c592a5ff33b1b61f133426260dd9c2c1bedd", func := "blotter/blotterlaw06.ComposeNothing", spec := "composeNothing", inPlace := ["internal/bytealg.IndexByteString"], unfollowed := true, recurses := true, named := ["unicode/utf8.first", "unicode/utf8.acceptRanges"], apart := false, laid := [("unicode/utf8.acceptRanges", laid_unicode_utf8_acceptRanges), ("unicode/utf8.first", laid_unicode_utf8_first)] }
def ComposeNothingSaid : Prop := composeNothingRow.holds Tryd.pinned (OpenSpec.ofChange composeNothingSpec)

/-- ITS FALSE NEIGHBOUR: 'it returns false'. Refute it at one input. -/
def composeNothingWrong : ChangeSpec := { name := "composeNothing", fn := fun _ => fun
  | [d] => { results := [.lit (.bool false)], args := [d] }
  | _ => none }
def ComposeNothingWrongFalsely : Prop := composeNothingRow.holds Tryd.pinned (OpenSpec.ofChange composeNothingWrong)

/-- 'blotterlaw06.ComposeThree': WHATEVER THE INPUT: true; the input reads as it did. -/
def composeThreeSpec : ChangeSpec := { name := "composeThree", fn := fun _ => fun
  | [d1, d2, d3] => { results := [.lit (.bool true)], args := [d1, d2, d3] }
  | _ => none }
def composeThreeRow : OpenClaim := { program := "ytaemajcpgmaapaadoor", sum := "22b9e6e89c4ef3442f49c8141bb5c592a5ff33b1b61f133426260dd9c2c1bedd", func := "blotter/blotterlaw06.ComposeThree", spec := "composeThree", inPlace := ["internal/bytealg.IndexByteString"], unfollowed := true, recurses := true, named := ["unicode/utf8.first", "unicode/utf8.acceptRanges"], apart := false, laid := [("unicode/utf8.acceptRanges", laid_unicode_utf8_acceptRanges), ("unicode/utf8.first", laid_unicode_utf8_first)] }
def ComposeThreeSaid : Prop := composeThreeRow.holds Tryd.pinned (OpenSpec.ofChange composeThreeSpec)

/-- ITS FALSE NEIGHBOUR: 'it returns false'. Refute it at one input. -/
def composeThreeWrong : ChangeSpec := { name := "composeThree", fn := fun _ => fun
  | [d1, d2, d3] => { results := [.lit (.bool false)], args := [d1, d2, d3] }
  | _ => none }
def ComposeThreeWrongFalsely : Prop := composeThreeRow.holds Tryd.pinned (OpenSpec.ofChange composeThreeWrong)

/-- 'blotterlaw05.ApplyBetween': WHATEVER THE INPUT: true; the input reads as it did. -/
def applyBetweenSpec : ChangeSpec := { name := "applyBetween", fn := fun _ => fun
  | [d1, d2] => { results := [.lit (.bool true)], args := [d1, d2] }
  | _ => none }
def applyBetweenRow : OpenClaim := { program := "ytaemajcpgmaapaadoor", sum := "22b9e6e89c4ef3442f49c8141bb5c592a5ff33b1b61f133426260dd9c2c1bedd", func := "blotter/blotterlaw05.ApplyBetween", spec := "applyBetween", inPlace := ["internal/bytealg.IndexByteString", "internal/abi.NoEscape"], unfollowed := true, recurses := true, named := ["unicode/utf8.first", "unicode/utf8.acceptRanges"], apart := false, laid := [("unicode/utf8.acceptRanges", laid_unicode_utf8_acceptRanges), ("unicode/utf8.first", laid_unicode_utf8_first)] }
def ApplyBetweenSaid : Prop := applyBetweenRow.holds Tryd.pinned (OpenSpec.ofChange applyBetweenSpec)

/-- ITS FALSE NEIGHBOUR: 'it returns false'. Refute it at one input. -/
def applyBetweenWrong : ChangeSpec := { name := "applyBetween", fn := fun _ => fun
  | [d1, d2] => { results := [.lit (.bool false)], args := [d1, d2] }
  | _ => none }
def ApplyBetweenWrongFalsely : Prop := applyBetweenRow.holds Tryd.pinned (OpenSpec.ofChange applyBetweenWrong)

/-- 'blotterlaw05.ApplyNothing': WHATEVER THE INPUT: true; the input reads as it did. -/
def applyNothingSpec : ChangeSpec := { name := "applyNothing", fn := fun _ => fun
  | [d] => { results := [.lit (.bool true)], args := [d] }
  | _ => none }
def applyNothingRow : OpenClaim := { program := "ytaemajcpgmaapaadoor", sum := "22b9e6e89c4ef3442f49c8141bb5c592a5ff33b1b61f133426260dd9c2c1bedd", func := "blotter/blotterlaw05.ApplyNothing", spec := "applyNothing", inPlace := ["internal/bytealg.IndexByteString", "internal/abi.NoEscape"], unfollowed := true, recurses := true, named := ["unicode/utf8.first", "unicode/utf8.acceptRanges"], apart := false, laid := [("unicode/utf8.acceptRanges", laid_unicode_utf8_acceptRanges), ("unicode/utf8.first", laid_unicode_utf8_first)] }
def ApplyNothingSaid : Prop := applyNothingRow.holds Tryd.pinned (OpenSpec.ofChange applyNothingSpec)

/-- ITS FALSE NEIGHBOUR: 'it returns false'. Refute it at one input. -/
def applyNothingWrong : ChangeSpec := { name := "applyNothing", fn := fun _ => fun
  | [d] => { results := [.lit (.bool false)], args := [d] }
  | _ => none }
def ApplyNothingWrongFalsely : Prop := applyNothingRow.holds Tryd.pinned (OpenSpec.ofChange applyNothingWrong)

/-- 'blotterlaw05.ApplyAhead': WHATEVER THE INPUT: true; the input reads as it did. -/
def applyAheadSpec : ChangeSpec := { name := "applyAhead", fn := fun _ => fun
  | [d1, d2] => { results := [.lit (.bool true)], args := [d1, d2] }
  | _ => none }
def applyAheadRow : OpenClaim := { program := "ytaemajcpgmaapaadoor", sum := "22b9e6e89c4ef3442f49c8141bb5c592a5ff33b1b61f133426260dd9c2c1bedd", func := "blotter/blotterlaw05.ApplyAhead", spec := "applyAhead", inPlace := ["internal/bytealg.IndexByteString", "internal/abi.NoEscape"], unfollowed := true, recurses := true, named := ["unicode/utf8.first", "unicode/utf8.acceptRanges"], apart := false, laid := [("unicode/utf8.acceptRanges", laid_unicode_utf8_acceptRanges), ("unicode/utf8.first", laid_unicode_utf8_first)] }
def ApplyAheadSaid : Prop := applyAheadRow.holds Tryd.pinned (OpenSpec.ofChange applyAheadSpec)

/-- ITS FALSE NEIGHBOUR: 'it returns false'. Refute it at one input. -/
def applyAheadWrong : ChangeSpec := { name := "applyAhead", fn := fun _ => fun
  | [d1, d2] => { results := [.lit (.bool false)], args := [d1, d2] }
  | _ => none }
def ApplyAheadWrongFalsely : Prop := applyAheadRow.holds Tryd.pinned (OpenSpec.ofChange applyAheadWrong)

/-- 'blotterlaw05.ApplyParts': WHATEVER THE INPUT: true; the input reads as it did. -/
def applyPartsSpec : ChangeSpec := { name := "applyParts", fn := fun _ => fun
  | [d1, d2] => { results := [.lit (.bool true)], args := [d1, d2] }
  | _ => none }
def applyPartsRow : OpenClaim := { program := "ytaemajcpgmaapaadoor", sum := "22b9e6e89c4ef3442f49c8141bb5c592a5ff33b1b61f133426260dd9c2c1bedd", func := "blotter/blotterlaw05.ApplyParts", spec := "applyParts", inPlace := ["internal/bytealg.IndexByteString", "internal/abi.NoEscape"], unfollowed := true, recurses := true, named := ["unicode/utf8.first", "unicode/utf8.acceptRanges"], apart := false, laid := [("unicode/utf8.acceptRanges", laid_unicode_utf8_acceptRanges), ("unicode/utf8.first", laid_unicode_utf8_first)] }
def ApplyPartsSaid : Prop := applyPartsRow.holds Tryd.pinned (OpenSpec.ofChange applyPartsSpec)

/-- ITS FALSE NEIGHBOUR: 'it returns false'. Refute it at one input. -/
def applyPartsWrong : ChangeSpec := { name := "applyParts", fn := fun _ => fun
  | [d1, d2] => { results := [.lit (.bool false)], args := [d1, d2] }
  | _ => none }
def ApplyPartsWrongFalsely : Prop := applyPartsRow.holds Tryd.pinned (OpenSpec.ofChange applyPartsWrong)

/-- 'blotterlaw05.ApplyAsks': WHATEVER THE INPUT: true; the input reads as it did. -/
def applyAsksSpec : ChangeSpec := { name := "applyAsks", fn := fun _ => fun
  | [d1, d2, d3, d4, d5] => { results := [.lit (.bool true)], args := [d1, d2, d3, d4, d5] }
  | _ => none }
def applyAsksRow : OpenClaim := { program := "ytaemajcpgmaapaadoor", sum := "22b9e6e89c4ef3442f49c8141bb5c592a5ff33b1b61f133426260dd9c2c1bedd", func := "blotter/blotterlaw05.ApplyAsks", spec := "applyAsks", inPlace := ["internal/bytealg.IndexByteString", "internal/abi.NoEscape"], unfollowed := true, recurses := true, named := ["unicode/utf8.first", "unicode/utf8.acceptRanges"], apart := false, laid := [("unicode/utf8.acceptRanges", laid_unicode_utf8_acceptRanges), ("unicode/utf8.first", laid_unicode_utf8_first)] }
def ApplyAsksSaid : Prop := applyAsksRow.holds Tryd.pinned (OpenSpec.ofChange applyAsksSpec)

/-- ITS FALSE NEIGHBOUR: 'it returns false'. Refute it at one input. -/
def applyAsksWrong : ChangeSpec := { name := "applyAsks", fn := fun _ => fun
  | [d1, d2, d3, d4, d5] => { results := [.lit (.bool false)], args := [d1, d2, d3, d4, d5] }
  | _ => none }
def ApplyAsksWrongFalsely : Prop := applyAsksRow.holds Tryd.pinned (OpenSpec.ofChange applyAsksWrong)

/-- 'blotterlaw07.FollowDocuments': WHATEVER THE INPUT: true; the input reads as it did. -/
def followDocumentsSpec : ChangeSpec := { name := "followDocuments", fn := fun _ => fun
  | [d1, d2, d3, d4] => { results := [.lit (.bool true)], args := [d1, d2, d3, d4] }
  | _ => none }
def followDocumentsRow : OpenClaim := { program := "ytaemajcpgmaapaadoor", sum := "22b9e6e89c4ef3442f49c8141bb5c592a5ff33b1b61f133426260dd9c2c1bedd", func := "blotter/blotterlaw07.FollowDocuments", spec := "followDocuments", inPlace := ["internal/bytealg.IndexByteString"], unfollowed := true, recurses := true, named := ["unicode/utf8.first", "unicode/utf8.acceptRanges"], apart := false, laid := [("unicode/utf8.acceptRanges", laid_unicode_utf8_acceptRanges), ("unicode/utf8.first", laid_unicode_utf8_first)] }
def FollowDocumentsSaid : Prop := followDocumentsRow.holds Tryd.pinned (OpenSpec.ofChange followDocumentsSpec)

/-- ITS FALSE NEIGHBOUR: 'it returns false'. Refute it at one input. -/
def followDocumentsWrong : ChangeSpec := { name := "followDocuments", fn := fun _ => fun
  | [d1, d2, d3, d4] => { results := [.lit (.bool false)], args := [d1, d2, d3, d4] }
  | _ => none }
def FollowDocumentsWrongFalsely : Prop := followDocumentsRow.holds Tryd.pinned (OpenSpec.ofChange followDocumentsWrong)

/-- 'blotterlaw07.FollowMany': WHATEVER THE INPUT: true; the input reads as it did. -/
def followManySpec : ChangeSpec := { name := "followMany", fn := fun _ => fun
  | [d1, d2, d3] => { results := [.lit (.bool true)], args := [d1, d2, d3] }
  | _ => none }
def followManyRow : OpenClaim := { program := "ytaemajcpgmaapaadoor", sum := "22b9e6e89c4ef3442f49c8141bb5c592a5ff33b1b61f133426260dd9c2c1bedd", func := "blotter/blotterlaw07.FollowMany", spec := "followMany", inPlace := ["internal/bytealg.IndexByteString"], unfollowed := true, recurses := true, named := ["unicode/utf8.first", "unicode/utf8.acceptRanges"], apart := false, laid := [("unicode/utf8.acceptRanges", laid_unicode_utf8_acceptRanges), ("unicode/utf8.first", laid_unicode_utf8_first)] }
def FollowManySaid : Prop := followManyRow.holds Tryd.pinned (OpenSpec.ofChange followManySpec)

/-- ITS FALSE NEIGHBOUR: 'it returns false'. Refute it at one input. -/
def followManyWrong : ChangeSpec := { name := "followMany", fn := fun _ => fun
  | [d1, d2, d3] => { results := [.lit (.bool false)], args := [d1, d2, d3] }
  | _ => none }
def FollowManyWrongFalsely : Prop := followManyRow.holds Tryd.pinned (OpenSpec.ofChange followManyWrong)

/-- 'blotterlaw06.ComposeDoes': WHATEVER THE INPUT: true; the input reads as it did. -/
def composeDoesSpec : ChangeSpec := { name := "composeDoes", fn := fun _ => fun
  | [d1, d2, d3] => { results := [.lit (.bool true)], args := [d1, d2, d3] }
  | _ => none }
def composeDoesRow : OpenClaim := { program := "ytaemajcpgmaapaadoor", sum := "22b9e6e89c4ef3442f49c8141bb5c592a5ff33b1b61f133426260dd9c2c1bedd", func := "blotter/blotterlaw06.ComposeDoes", spec := "composeDoes", inPlace := ["internal/bytealg.IndexByteString"], unfollowed := true, recurses := true, named := ["unicode/utf8.first", "unicode/utf8.acceptRanges"], apart := false, laid := [("unicode/utf8.acceptRanges", laid_unicode_utf8_acceptRanges), ("unicode/utf8.first", laid_unicode_utf8_first)] }
def ComposeDoesSaid : Prop := composeDoesRow.holds Tryd.pinned (OpenSpec.ofChange composeDoesSpec)

/-- ITS FALSE NEIGHBOUR: 'it returns false'. Refute it at one input. -/
def composeDoesWrong : ChangeSpec := { name := "composeDoes", fn := fun _ => fun
  | [d1, d2, d3] => { results := [.lit (.bool false)], args := [d1, d2, d3] }
  | _ => none }
def ComposeDoesWrongFalsely : Prop := composeDoesRow.holds Tryd.pinned (OpenSpec.ofChange composeDoesWrong)

/-- 'blotterlaw07.FollowMeets': WHATEVER THE INPUT: true; the input reads as it did. -/
def followMeetsSpec : ChangeSpec := { name := "followMeets", fn := fun _ => fun
  | [d1, d2, d3] => { results := [.lit (.bool true)], args := [d1, d2, d3] }
  | _ => none }
def followMeetsRow : OpenClaim := { program := "ytaemajcpgmaapaadoor", sum := "22b9e6e89c4ef3442f49c8141bb5c592a5ff33b1b61f133426260dd9c2c1bedd", func := "blotter/blotterlaw07.FollowMeets", spec := "followMeets", inPlace := ["internal/bytealg.IndexByteString"], unfollowed := true, recurses := true, named := ["unicode/utf8.first", "unicode/utf8.acceptRanges"], apart := false, laid := [("unicode/utf8.acceptRanges", laid_unicode_utf8_acceptRanges), ("unicode/utf8.first", laid_unicode_utf8_first)] }
def FollowMeetsSaid : Prop := followMeetsRow.holds Tryd.pinned (OpenSpec.ofChange followMeetsSpec)

/-- ITS FALSE NEIGHBOUR: 'it returns false'. Refute it at one input. -/
def followMeetsWrong : ChangeSpec := { name := "followMeets", fn := fun _ => fun
  | [d1, d2, d3] => { results := [.lit (.bool false)], args := [d1, d2, d3] }
  | _ => none }
def FollowMeetsWrongFalsely : Prop := followMeetsRow.holds Tryd.pinned (OpenSpec.ofChange followMeetsWrong)

/-- 'blotterlaw06.ComposeBack': WHATEVER THE INPUT: true; the input reads as it did. -/
def composeBackSpec : ChangeSpec := { name := "composeBack", fn := fun _ => fun
  | [d1, d2] => { results := [.lit (.bool true)], args := [d1, d2] }
  | _ => none }
def composeBackRow : OpenClaim := { program := "ytaemajcpgmaapaadoor", sum := "22b9e6e89c4ef3442f49c8141bb5c592a5ff33b1b61f133426260dd9c2c1bedd", func := "blotter/blotterlaw06.ComposeBack", spec := "composeBack", inPlace := ["internal/bytealg.IndexByteString"], unfollowed := true, recurses := true, named := ["unicode/utf8.first", "unicode/utf8.acceptRanges"], apart := false, laid := [("unicode/utf8.acceptRanges", laid_unicode_utf8_acceptRanges), ("unicode/utf8.first", laid_unicode_utf8_first)] }
def ComposeBackSaid : Prop := composeBackRow.holds Tryd.pinned (OpenSpec.ofChange composeBackSpec)

/-- ITS FALSE NEIGHBOUR: 'it returns false'. Refute it at one input. -/
def composeBackWrong : ChangeSpec := { name := "composeBack", fn := fun _ => fun
  | [d1, d2] => { results := [.lit (.bool false)], args := [d1, d2] }
  | _ => none }
def ComposeBackWrongFalsely : Prop := composeBackRow.holds Tryd.pinned (OpenSpec.ofChange composeBackWrong)

/- THE SECOND FORM. 'bulk': how many values and letters a reading holds, each counted each time it is reached (what is shared counts as often as it is met; a slice's spare places count too). A statement '..UptoSaid' is the law's where the arguments, and the package variables that the reading takes, are together of bulk at most 1048576: NARROWER than '..Said'. Prove '..Said' where nothing that the law and all that it calls make is longer than what came in: it says more and counts as full. Else prove '..UptoSaid'. A law counts once. -/
mutual
def uptoBulk {H : Type} : DataW H → Nat
  | .lit (.string bytes) => bytes.length + 1
  | .lit _ => 1
  | .nil => 1
  | .ptr d => uptoBulk d + 1
  | .slice elems spare => uptoBulkAll elems + uptoBulkAll spare + 1
  | .agg parts => uptoBulkAll parts + 1
  | .iface _ d => uptoBulk d + 1
  | .map entries => uptoBulkEntries entries + 1
  | .held _ => 1
def uptoBulkAll {H : Type} : List (DataW H) → Nat
  | [] => 0
  | d :: r => uptoBulk d + uptoBulkAll r
def uptoBulkEntries {H : Type} : List (Lit × DataW H) → Nat
  | [] => 0
  | x :: r => uptoBulkEntry x + uptoBulkEntries r
def uptoBulkEntry {H : Type} : Lit × DataW H → Nat
  | (.string bytes, d) => bytes.length + uptoBulk d + 1
  | (_, d) => uptoBulk d + 1
 end
def uptoSmall : (H : Type) → List (DataW H) → Bool := fun _ ds => decide (uptoBulkAll ds ≤ 1048576)
def OpenSpec.upto (s : _root_.Go.ChangeSpec) : _root_.Go.OpenSpec := { _root_.Go.OpenSpec.ofChange s with cond := some uptoSmall }

/-- 'blotterlaw07.FollowGone', WHERE WHAT IT READS IS OF BULK AT MOST 1048576: true; the input reads as it did. -/
def followGoneUptoRow : OpenClaim := { program := "ytaemajcpgmaapaadoor", sum := "22b9e6e89c4ef3442f49c8141bb5c592a5ff33b1b61f133426260dd9c2c1bedd", func := "blotter/blotterlaw07.FollowGone", spec := "followGone", inPlace := ["internal/bytealg.IndexByteString"], unfollowed := true, recurses := true, named := ["unicode/utf8.first", "unicode/utf8.acceptRanges"], apart := false, laid := [("unicode/utf8.acceptRanges", laid_unicode_utf8_acceptRanges), ("unicode/utf8.first", laid_unicode_utf8_first)], narrowed := true }
def FollowGoneUptoSaid : Prop := followGoneUptoRow.holds Tryd.pinned (OpenSpec.upto followGoneSpec)

/-- 'blotterlaw07.FollowWorks', WHERE WHAT IT READS IS OF BULK AT MOST 1048576: true; the input reads as it did. -/
def followWorksUptoRow : OpenClaim := { program := "ytaemajcpgmaapaadoor", sum := "22b9e6e89c4ef3442f49c8141bb5c592a5ff33b1b61f133426260dd9c2c1bedd", func := "blotter/blotterlaw07.FollowWorks", spec := "followWorks", inPlace := ["internal/bytealg.IndexByteString"], unfollowed := true, recurses := true, named := ["unicode/utf8.first", "unicode/utf8.acceptRanges"], apart := false, laid := [("unicode/utf8.acceptRanges", laid_unicode_utf8_acceptRanges), ("unicode/utf8.first", laid_unicode_utf8_first)], narrowed := true }
def FollowWorksUptoSaid : Prop := followWorksUptoRow.holds Tryd.pinned (OpenSpec.upto followWorksSpec)

/-- 'blotterlaw07.FollowLong', WHERE WHAT IT READS IS OF BULK AT MOST 1048576: true; the input reads as it did. -/
def followLongUptoRow : OpenClaim := { program := "ytaemajcpgmaapaadoor", sum := "22b9e6e89c4ef3442f49c8141bb5c592a5ff33b1b61f133426260dd9c2c1bedd", func := "blotter/blotterlaw07.FollowLong", spec := "followLong", inPlace := ["internal/bytealg.IndexByteString"], unfollowed := true, recurses := true, named := ["unicode/utf8.first", "unicode/utf8.acceptRanges"], apart := false, laid := [("unicode/utf8.acceptRanges", laid_unicode_utf8_acceptRanges), ("unicode/utf8.first", laid_unicode_utf8_first)], narrowed := true }
def FollowLongUptoSaid : Prop := followLongUptoRow.holds Tryd.pinned (OpenSpec.upto followLongSpec)

/-- 'blotterlaw07.FollowNothing', WHERE WHAT IT READS IS OF BULK AT MOST 1048576: true; the input reads as it did. -/
def followNothingUptoRow : OpenClaim := { program := "ytaemajcpgmaapaadoor", sum := "22b9e6e89c4ef3442f49c8141bb5c592a5ff33b1b61f133426260dd9c2c1bedd", func := "blotter/blotterlaw07.FollowNothing", spec := "followNothing", inPlace := ["internal/bytealg.IndexByteString"], unfollowed := true, recurses := true, named := ["unicode/utf8.first", "unicode/utf8.acceptRanges"], apart := false, laid := [("unicode/utf8.acceptRanges", laid_unicode_utf8_acceptRanges), ("unicode/utf8.first", laid_unicode_utf8_first)], narrowed := true }
def FollowNothingUptoSaid : Prop := followNothingUptoRow.holds Tryd.pinned (OpenSpec.upto followNothingSpec)

/-- 'blotterlaw05.ApplyWorks', WHERE WHAT IT READS IS OF BULK AT MOST 1048576: true; the input reads as it did. -/
def applyWorksUptoRow : OpenClaim := { program := "ytaemajcpgmaapaadoor", sum := "22b9e6e89c4ef3442f49c8141bb5c592a5ff33b1b61f133426260dd9c2c1bedd", func := "blotter/blotterlaw05.ApplyWorks", spec := "applyWorks", inPlace := ["internal/bytealg.IndexByteString", "internal/abi.NoEscape"], unfollowed := true, recurses := true, named := ["unicode/utf8.first", "unicode/utf8.acceptRanges"], apart := false, laid := [("unicode/utf8.acceptRanges", laid_unicode_utf8_acceptRanges), ("unicode/utf8.first", laid_unicode_utf8_first)], narrowed := true }
def ApplyWorksUptoSaid : Prop := applyWorksUptoRow.holds Tryd.pinned (OpenSpec.upto applyWorksSpec)

/-- 'blotterlaw05.ApplyBack', WHERE WHAT IT READS IS OF BULK AT MOST 1048576: true; the input reads as it did. -/
def applyBackUptoRow : OpenClaim := { program := "ytaemajcpgmaapaadoor", sum := "22b9e6e89c4ef3442f49c8141bb5c592a5ff33b1b61f133426260dd9c2c1bedd", func := "blotter/blotterlaw05.ApplyBack", spec := "applyBack", inPlace := ["internal/bytealg.IndexByteString", "internal/abi.NoEscape"], unfollowed := true, recurses := true, named := ["unicode/utf8.first", "unicode/utf8.acceptRanges"], apart := false, laid := [("unicode/utf8.acceptRanges", laid_unicode_utf8_acceptRanges), ("unicode/utf8.first", laid_unicode_utf8_first)], narrowed := true }
def ApplyBackUptoSaid : Prop := applyBackUptoRow.holds Tryd.pinned (OpenSpec.upto applyBackSpec)

/-- 'blotterlaw05.ApplyTwice', WHERE WHAT IT READS IS OF BULK AT MOST 1048576: true; the input reads as it did. -/
def applyTwiceUptoRow : OpenClaim := { program := "ytaemajcpgmaapaadoor", sum := "22b9e6e89c4ef3442f49c8141bb5c592a5ff33b1b61f133426260dd9c2c1bedd", func := "blotter/blotterlaw05.ApplyTwice", spec := "applyTwice", inPlace := ["internal/bytealg.IndexByteString", "internal/abi.NoEscape"], unfollowed := true, recurses := true, named := ["unicode/utf8.first", "unicode/utf8.acceptRanges"], apart := false, laid := [("unicode/utf8.acceptRanges", laid_unicode_utf8_acceptRanges), ("unicode/utf8.first", laid_unicode_utf8_first)], narrowed := true }
def ApplyTwiceUptoSaid : Prop := applyTwiceUptoRow.holds Tryd.pinned (OpenSpec.upto applyTwiceSpec)

/-- 'blotterlaw06.ComposeWorks', WHERE WHAT IT READS IS OF BULK AT MOST 1048576: true; the input reads as it did. -/
def composeWorksUptoRow : OpenClaim := { program := "ytaemajcpgmaapaadoor", sum := "22b9e6e89c4ef3442f49c8141bb5c592a5ff33b1b61f133426260dd9c2c1bedd", func := "blotter/blotterlaw06.ComposeWorks", spec := "composeWorks", inPlace := ["internal/bytealg.IndexByteString"], unfollowed := true, recurses := true, named := ["unicode/utf8.first", "unicode/utf8.acceptRanges"], apart := false, laid := [("unicode/utf8.acceptRanges", laid_unicode_utf8_acceptRanges), ("unicode/utf8.first", laid_unicode_utf8_first)], narrowed := true }
def ComposeWorksUptoSaid : Prop := composeWorksUptoRow.holds Tryd.pinned (OpenSpec.upto composeWorksSpec)

/-- 'blotterlaw06.ComposeLong', WHERE WHAT IT READS IS OF BULK AT MOST 1048576: true; the input reads as it did. -/
def composeLongUptoRow : OpenClaim := { program := "ytaemajcpgmaapaadoor", sum := "22b9e6e89c4ef3442f49c8141bb5c592a5ff33b1b61f133426260dd9c2c1bedd", func := "blotter/blotterlaw06.ComposeLong", spec := "composeLong", inPlace := ["internal/bytealg.IndexByteString"], unfollowed := true, recurses := true, named := ["unicode/utf8.first", "unicode/utf8.acceptRanges"], apart := false, laid := [("unicode/utf8.acceptRanges", laid_unicode_utf8_acceptRanges), ("unicode/utf8.first", laid_unicode_utf8_first)], narrowed := true }
def ComposeLongUptoSaid : Prop := composeLongUptoRow.holds Tryd.pinned (OpenSpec.upto composeLongSpec)

/-- 'blotterlaw06.ComposeNothing', WHERE WHAT IT READS IS OF BULK AT MOST 1048576: true; the input reads as it did. -/
def composeNothingUptoRow : OpenClaim := { program := "ytaemajcpgmaapaadoor", sum := "22b9e6e89c4ef3442f49c8141bb5c592a5ff33b1b61f133426260dd9c2c1bedd", func := "blotter/blotterlaw06.ComposeNothing", spec := "composeNothing", inPlace := ["internal/bytealg.IndexByteString"], unfollowed := true, recurses := true, named := ["unicode/utf8.first", "unicode/utf8.acceptRanges"], apart := false, laid := [("unicode/utf8.acceptRanges", laid_unicode_utf8_acceptRanges), ("unicode/utf8.first", laid_unicode_utf8_first)], narrowed := true }
def ComposeNothingUptoSaid : Prop := composeNothingUptoRow.holds Tryd.pinned (OpenSpec.upto composeNothingSpec)

/-- 'blotterlaw06.ComposeThree', WHERE WHAT IT READS IS OF BULK AT MOST 1048576: true; the input reads as it did. -/
def composeThreeUptoRow : OpenClaim := { program := "ytaemajcpgmaapaadoor", sum := "22b9e6e89c4ef3442f49c8141bb5c592a5ff33b1b61f133426260dd9c2c1bedd", func := "blotter/blotterlaw06.ComposeThree", spec := "composeThree", inPlace := ["internal/bytealg.IndexByteString"], unfollowed := true, recurses := true, named := ["unicode/utf8.first", "unicode/utf8.acceptRanges"], apart := false, laid := [("unicode/utf8.acceptRanges", laid_unicode_utf8_acceptRanges), ("unicode/utf8.first", laid_unicode_utf8_first)], narrowed := true }
def ComposeThreeUptoSaid : Prop := composeThreeUptoRow.holds Tryd.pinned (OpenSpec.upto composeThreeSpec)

/-- 'blotterlaw05.ApplyBetween', WHERE WHAT IT READS IS OF BULK AT MOST 1048576: true; the input reads as it did. -/
def applyBetweenUptoRow : OpenClaim := { program := "ytaemajcpgmaapaadoor", sum := "22b9e6e89c4ef3442f49c8141bb5c592a5ff33b1b61f133426260dd9c2c1bedd", func := "blotter/blotterlaw05.ApplyBetween", spec := "applyBetween", inPlace := ["internal/bytealg.IndexByteString", "internal/abi.NoEscape"], unfollowed := true, recurses := true, named := ["unicode/utf8.first", "unicode/utf8.acceptRanges"], apart := false, laid := [("unicode/utf8.acceptRanges", laid_unicode_utf8_acceptRanges), ("unicode/utf8.first", laid_unicode_utf8_first)], narrowed := true }
def ApplyBetweenUptoSaid : Prop := applyBetweenUptoRow.holds Tryd.pinned (OpenSpec.upto applyBetweenSpec)

/-- 'blotterlaw05.ApplyNothing', WHERE WHAT IT READS IS OF BULK AT MOST 1048576: true; the input reads as it did. -/
def applyNothingUptoRow : OpenClaim := { program := "ytaemajcpgmaapaadoor", sum := "22b9e6e89c4ef3442f49c8141bb5c592a5ff33b1b61f133426260dd9c2c1bedd", func := "blotter/blotterlaw05.ApplyNothing", spec := "applyNothing", inPlace := ["internal/bytealg.IndexByteString", "internal/abi.NoEscape"], unfollowed := true, recurses := true, named := ["unicode/utf8.first", "unicode/utf8.acceptRanges"], apart := false, laid := [("unicode/utf8.acceptRanges", laid_unicode_utf8_acceptRanges), ("unicode/utf8.first", laid_unicode_utf8_first)], narrowed := true }
def ApplyNothingUptoSaid : Prop := applyNothingUptoRow.holds Tryd.pinned (OpenSpec.upto applyNothingSpec)

/-- 'blotterlaw05.ApplyAhead', WHERE WHAT IT READS IS OF BULK AT MOST 1048576: true; the input reads as it did. -/
def applyAheadUptoRow : OpenClaim := { program := "ytaemajcpgmaapaadoor", sum := "22b9e6e89c4ef3442f49c8141bb5c592a5ff33b1b61f133426260dd9c2c1bedd", func := "blotter/blotterlaw05.ApplyAhead", spec := "applyAhead", inPlace := ["internal/bytealg.IndexByteString", "internal/abi.NoEscape"], unfollowed := true, recurses := true, named := ["unicode/utf8.first", "unicode/utf8.acceptRanges"], apart := false, laid := [("unicode/utf8.acceptRanges", laid_unicode_utf8_acceptRanges), ("unicode/utf8.first", laid_unicode_utf8_first)], narrowed := true }
def ApplyAheadUptoSaid : Prop := applyAheadUptoRow.holds Tryd.pinned (OpenSpec.upto applyAheadSpec)

/-- 'blotterlaw05.ApplyParts', WHERE WHAT IT READS IS OF BULK AT MOST 1048576: true; the input reads as it did. -/
def applyPartsUptoRow : OpenClaim := { program := "ytaemajcpgmaapaadoor", sum := "22b9e6e89c4ef3442f49c8141bb5c592a5ff33b1b61f133426260dd9c2c1bedd", func := "blotter/blotterlaw05.ApplyParts", spec := "applyParts", inPlace := ["internal/bytealg.IndexByteString", "internal/abi.NoEscape"], unfollowed := true, recurses := true, named := ["unicode/utf8.first", "unicode/utf8.acceptRanges"], apart := false, laid := [("unicode/utf8.acceptRanges", laid_unicode_utf8_acceptRanges), ("unicode/utf8.first", laid_unicode_utf8_first)], narrowed := true }
def ApplyPartsUptoSaid : Prop := applyPartsUptoRow.holds Tryd.pinned (OpenSpec.upto applyPartsSpec)

/-- 'blotterlaw05.ApplyAsks', WHERE WHAT IT READS IS OF BULK AT MOST 1048576: true; the input reads as it did. -/
def applyAsksUptoRow : OpenClaim := { program := "ytaemajcpgmaapaadoor", sum := "22b9e6e89c4ef3442f49c8141bb5c592a5ff33b1b61f133426260dd9c2c1bedd", func := "blotter/blotterlaw05.ApplyAsks", spec := "applyAsks", inPlace := ["internal/bytealg.IndexByteString", "internal/abi.NoEscape"], unfollowed := true, recurses := true, named := ["unicode/utf8.first", "unicode/utf8.acceptRanges"], apart := false, laid := [("unicode/utf8.acceptRanges", laid_unicode_utf8_acceptRanges), ("unicode/utf8.first", laid_unicode_utf8_first)], narrowed := true }
def ApplyAsksUptoSaid : Prop := applyAsksUptoRow.holds Tryd.pinned (OpenSpec.upto applyAsksSpec)

/-- 'blotterlaw07.FollowDocuments', WHERE WHAT IT READS IS OF BULK AT MOST 1048576: true; the input reads as it did. -/
def followDocumentsUptoRow : OpenClaim := { program := "ytaemajcpgmaapaadoor", sum := "22b9e6e89c4ef3442f49c8141bb5c592a5ff33b1b61f133426260dd9c2c1bedd", func := "blotter/blotterlaw07.FollowDocuments", spec := "followDocuments", inPlace := ["internal/bytealg.IndexByteString"], unfollowed := true, recurses := true, named := ["unicode/utf8.first", "unicode/utf8.acceptRanges"], apart := false, laid := [("unicode/utf8.acceptRanges", laid_unicode_utf8_acceptRanges), ("unicode/utf8.first", laid_unicode_utf8_first)], narrowed := true }
def FollowDocumentsUptoSaid : Prop := followDocumentsUptoRow.holds Tryd.pinned (OpenSpec.upto followDocumentsSpec)

/-- 'blotterlaw07.FollowMany', WHERE WHAT IT READS IS OF BULK AT MOST 1048576: true; the input reads as it did. -/
def followManyUptoRow : OpenClaim := { program := "ytaemajcpgmaapaadoor", sum := "22b9e6e89c4ef3442f49c8141bb5c592a5ff33b1b61f133426260dd9c2c1bedd", func := "blotter/blotterlaw07.FollowMany", spec := "followMany", inPlace := ["internal/bytealg.IndexByteString"], unfollowed := true, recurses := true, named := ["unicode/utf8.first", "unicode/utf8.acceptRanges"], apart := false, laid := [("unicode/utf8.acceptRanges", laid_unicode_utf8_acceptRanges), ("unicode/utf8.first", laid_unicode_utf8_first)], narrowed := true }
def FollowManyUptoSaid : Prop := followManyUptoRow.holds Tryd.pinned (OpenSpec.upto followManySpec)

/-- 'blotterlaw06.ComposeDoes', WHERE WHAT IT READS IS OF BULK AT MOST 1048576: true; the input reads as it did. -/
def composeDoesUptoRow : OpenClaim := { program := "ytaemajcpgmaapaadoor", sum := "22b9e6e89c4ef3442f49c8141bb5c592a5ff33b1b61f133426260dd9c2c1bedd", func := "blotter/blotterlaw06.ComposeDoes", spec := "composeDoes", inPlace := ["internal/bytealg.IndexByteString"], unfollowed := true, recurses := true, named := ["unicode/utf8.first", "unicode/utf8.acceptRanges"], apart := false, laid := [("unicode/utf8.acceptRanges", laid_unicode_utf8_acceptRanges), ("unicode/utf8.first", laid_unicode_utf8_first)], narrowed := true }
def ComposeDoesUptoSaid : Prop := composeDoesUptoRow.holds Tryd.pinned (OpenSpec.upto composeDoesSpec)

/-- 'blotterlaw07.FollowMeets', WHERE WHAT IT READS IS OF BULK AT MOST 1048576: true; the input reads as it did. -/
def followMeetsUptoRow : OpenClaim := { program := "ytaemajcpgmaapaadoor", sum := "22b9e6e89c4ef3442f49c8141bb5c592a5ff33b1b61f133426260dd9c2c1bedd", func := "blotter/blotterlaw07.FollowMeets", spec := "followMeets", inPlace := ["internal/bytealg.IndexByteString"], unfollowed := true, recurses := true, named := ["unicode/utf8.first", "unicode/utf8.acceptRanges"], apart := false, laid := [("unicode/utf8.acceptRanges", laid_unicode_utf8_acceptRanges), ("unicode/utf8.first", laid_unicode_utf8_first)], narrowed := true }
def FollowMeetsUptoSaid : Prop := followMeetsUptoRow.holds Tryd.pinned (OpenSpec.upto followMeetsSpec)

/-- 'blotterlaw06.ComposeBack', WHERE WHAT IT READS IS OF BULK AT MOST 1048576: true; the input reads as it did. -/
def composeBackUptoRow : OpenClaim := { program := "ytaemajcpgmaapaadoor", sum := "22b9e6e89c4ef3442f49c8141bb5c592a5ff33b1b61f133426260dd9c2c1bedd", func := "blotter/blotterlaw06.ComposeBack", spec := "composeBack", inPlace := ["internal/bytealg.IndexByteString"], unfollowed := true, recurses := true, named := ["unicode/utf8.first", "unicode/utf8.acceptRanges"], apart := false, laid := [("unicode/utf8.acceptRanges", laid_unicode_utf8_acceptRanges), ("unicode/utf8.first", laid_unicode_utf8_first)], narrowed := true }
def ComposeBackUptoSaid : Prop := composeBackUptoRow.holds Tryd.pinned (OpenSpec.upto composeBackSpec)

end Rows
end Go.Proofs.YtaemajcpgmaapaaDoor
