/-
  DERIVED. GIVEN WITH THE SEED: THE CARDS: each row of YtaemajcpgmaapaaDoorRows.lean that lists a variable, with what it lists TIED to the program's text (the seventh form; the later family's looks); each row that meets fmt, with fmt's text TOLD by the authors' own Lean function (tested against real Go, not proved from fmt's source: count such statements apart). THE CARD IS WHAT COUNTS. Prove the row's statement (the work); the ties are given (YtaemajcpgmaapaaDoorTie.lean); close each card by the builder's one call (the guide's Derived/Test/ToyasCard.lean, 'card_holds'). Laid BY PROGRAM, IN A SANDBOX (cutbox-door.mjs). By AI agents, Wed Nov 11 2026. No macro, syntax, notation, axiom, sorry.
-/
import Derived.Test.YtaemajcpgmaapaaDoorRows
import GoSem.ClaimSeven
namespace Go.Proofs.YtaemajcpgmaapaaDoor
namespace Rows

/-- THE TIED CARD OF 'blotterlaw07.FollowGone'. -/
def followGoneCard : Claim7 := { stood := { row := followGoneRow, standIns := [], harness := (true, "daf9803696d209ce3b12a1ac7aefe3ce281c34514b6fe61ef00d83084b194523"), looks := false }, kinds := [], alts := [], laidByText := true, laidKinds := [.data, .pinned], laidTests := true, laidLooks := .later }
def FollowGoneCardSaid : Prop := Claim7.holds Tryd.pinned (.plain (OpenSpec.ofChange followGoneSpec)) followGoneCard

/-- THE TIED CARD OF 'blotterlaw07.FollowWorks'. -/
def followWorksCard : Claim7 := { stood := { row := followWorksRow, standIns := [], harness := (true, "daf9803696d209ce3b12a1ac7aefe3ce281c34514b6fe61ef00d83084b194523"), looks := false }, kinds := [], alts := [], laidByText := true, laidKinds := [.data, .pinned], laidTests := true, laidLooks := .later }
def FollowWorksCardSaid : Prop := Claim7.holds Tryd.pinned (.plain (OpenSpec.ofChange followWorksSpec)) followWorksCard

/-- THE TIED CARD OF 'blotterlaw07.FollowLong'. -/
def followLongCard : Claim7 := { stood := { row := followLongRow, standIns := [], harness := (true, "daf9803696d209ce3b12a1ac7aefe3ce281c34514b6fe61ef00d83084b194523"), looks := false }, kinds := [], alts := [], laidByText := true, laidKinds := [.data, .pinned], laidTests := true, laidLooks := .later }
def FollowLongCardSaid : Prop := Claim7.holds Tryd.pinned (.plain (OpenSpec.ofChange followLongSpec)) followLongCard

/-- THE TIED CARD OF 'blotterlaw07.FollowNothing'. -/
def followNothingCard : Claim7 := { stood := { row := followNothingRow, standIns := [], harness := (true, "daf9803696d209ce3b12a1ac7aefe3ce281c34514b6fe61ef00d83084b194523"), looks := false }, kinds := [], alts := [], laidByText := true, laidKinds := [.data, .pinned], laidTests := true, laidLooks := .later }
def FollowNothingCardSaid : Prop := Claim7.holds Tryd.pinned (.plain (OpenSpec.ofChange followNothingSpec)) followNothingCard

/-- THE TIED CARD OF 'blotterlaw05.ApplyWorks'. -/
def applyWorksCard : Claim7 := { stood := { row := applyWorksRow, standIns := [], harness := (true, "daf9803696d209ce3b12a1ac7aefe3ce281c34514b6fe61ef00d83084b194523"), looks := false }, kinds := [], alts := [], laidByText := true, laidKinds := [.data, .pinned], laidTests := true, laidLooks := .later }
def ApplyWorksCardSaid : Prop := Claim7.holds Tryd.pinned (.plain (OpenSpec.ofChange applyWorksSpec)) applyWorksCard

/-- THE TIED CARD OF 'blotterlaw05.ApplyBack'. -/
def applyBackCard : Claim7 := { stood := { row := applyBackRow, standIns := [], harness := (true, "daf9803696d209ce3b12a1ac7aefe3ce281c34514b6fe61ef00d83084b194523"), looks := false }, kinds := [], alts := [], laidByText := true, laidKinds := [.data, .pinned], laidTests := true, laidLooks := .later }
def ApplyBackCardSaid : Prop := Claim7.holds Tryd.pinned (.plain (OpenSpec.ofChange applyBackSpec)) applyBackCard

/-- THE TIED CARD OF 'blotterlaw05.ApplyTwice'. -/
def applyTwiceCard : Claim7 := { stood := { row := applyTwiceRow, standIns := [], harness := (true, "daf9803696d209ce3b12a1ac7aefe3ce281c34514b6fe61ef00d83084b194523"), looks := false }, kinds := [], alts := [], laidByText := true, laidKinds := [.data, .pinned], laidTests := true, laidLooks := .later }
def ApplyTwiceCardSaid : Prop := Claim7.holds Tryd.pinned (.plain (OpenSpec.ofChange applyTwiceSpec)) applyTwiceCard

/-- THE TIED CARD OF 'blotterlaw06.ComposeWorks'. -/
def composeWorksCard : Claim7 := { stood := { row := composeWorksRow, standIns := [], harness := (true, "daf9803696d209ce3b12a1ac7aefe3ce281c34514b6fe61ef00d83084b194523"), looks := false }, kinds := [], alts := [], laidByText := true, laidKinds := [.data, .pinned], laidTests := true, laidLooks := .later }
def ComposeWorksCardSaid : Prop := Claim7.holds Tryd.pinned (.plain (OpenSpec.ofChange composeWorksSpec)) composeWorksCard

/-- THE TIED CARD OF 'blotterlaw06.ComposeLong'. -/
def composeLongCard : Claim7 := { stood := { row := composeLongRow, standIns := [], harness := (true, "daf9803696d209ce3b12a1ac7aefe3ce281c34514b6fe61ef00d83084b194523"), looks := false }, kinds := [], alts := [], laidByText := true, laidKinds := [.data, .pinned], laidTests := true, laidLooks := .later }
def ComposeLongCardSaid : Prop := Claim7.holds Tryd.pinned (.plain (OpenSpec.ofChange composeLongSpec)) composeLongCard

/-- THE TIED CARD OF 'blotterlaw06.ComposeNothing'. -/
def composeNothingCard : Claim7 := { stood := { row := composeNothingRow, standIns := [], harness := (true, "daf9803696d209ce3b12a1ac7aefe3ce281c34514b6fe61ef00d83084b194523"), looks := false }, kinds := [], alts := [], laidByText := true, laidKinds := [.data, .pinned], laidTests := true, laidLooks := .later }
def ComposeNothingCardSaid : Prop := Claim7.holds Tryd.pinned (.plain (OpenSpec.ofChange composeNothingSpec)) composeNothingCard

/-- THE TIED CARD OF 'blotterlaw06.ComposeThree'. -/
def composeThreeCard : Claim7 := { stood := { row := composeThreeRow, standIns := [], harness := (true, "daf9803696d209ce3b12a1ac7aefe3ce281c34514b6fe61ef00d83084b194523"), looks := false }, kinds := [], alts := [], laidByText := true, laidKinds := [.data, .pinned], laidTests := true, laidLooks := .later }
def ComposeThreeCardSaid : Prop := Claim7.holds Tryd.pinned (.plain (OpenSpec.ofChange composeThreeSpec)) composeThreeCard

/-- THE TIED CARD OF 'blotterlaw05.ApplyBetween'. -/
def applyBetweenCard : Claim7 := { stood := { row := applyBetweenRow, standIns := [], harness := (true, "daf9803696d209ce3b12a1ac7aefe3ce281c34514b6fe61ef00d83084b194523"), looks := false }, kinds := [], alts := [], laidByText := true, laidKinds := [.data, .pinned], laidTests := true, laidLooks := .later }
def ApplyBetweenCardSaid : Prop := Claim7.holds Tryd.pinned (.plain (OpenSpec.ofChange applyBetweenSpec)) applyBetweenCard

/-- THE TIED CARD OF 'blotterlaw05.ApplyNothing'. -/
def applyNothingCard : Claim7 := { stood := { row := applyNothingRow, standIns := [], harness := (true, "daf9803696d209ce3b12a1ac7aefe3ce281c34514b6fe61ef00d83084b194523"), looks := false }, kinds := [], alts := [], laidByText := true, laidKinds := [.data, .pinned], laidTests := true, laidLooks := .later }
def ApplyNothingCardSaid : Prop := Claim7.holds Tryd.pinned (.plain (OpenSpec.ofChange applyNothingSpec)) applyNothingCard

/-- THE TIED CARD OF 'blotterlaw05.ApplyAhead'. -/
def applyAheadCard : Claim7 := { stood := { row := applyAheadRow, standIns := [], harness := (true, "daf9803696d209ce3b12a1ac7aefe3ce281c34514b6fe61ef00d83084b194523"), looks := false }, kinds := [], alts := [], laidByText := true, laidKinds := [.data, .pinned], laidTests := true, laidLooks := .later }
def ApplyAheadCardSaid : Prop := Claim7.holds Tryd.pinned (.plain (OpenSpec.ofChange applyAheadSpec)) applyAheadCard

/-- THE TIED CARD OF 'blotterlaw05.ApplyParts'. -/
def applyPartsCard : Claim7 := { stood := { row := applyPartsRow, standIns := [], harness := (true, "daf9803696d209ce3b12a1ac7aefe3ce281c34514b6fe61ef00d83084b194523"), looks := false }, kinds := [], alts := [], laidByText := true, laidKinds := [.data, .pinned], laidTests := true, laidLooks := .later }
def ApplyPartsCardSaid : Prop := Claim7.holds Tryd.pinned (.plain (OpenSpec.ofChange applyPartsSpec)) applyPartsCard

/-- THE TIED CARD OF 'blotterlaw05.ApplyAsks'. -/
def applyAsksCard : Claim7 := { stood := { row := applyAsksRow, standIns := [], harness := (true, "daf9803696d209ce3b12a1ac7aefe3ce281c34514b6fe61ef00d83084b194523"), looks := false }, kinds := [], alts := [], laidByText := true, laidKinds := [.data, .pinned], laidTests := true, laidLooks := .later }
def ApplyAsksCardSaid : Prop := Claim7.holds Tryd.pinned (.plain (OpenSpec.ofChange applyAsksSpec)) applyAsksCard

/-- THE TIED CARD OF 'blotterlaw07.FollowDocuments'. -/
def followDocumentsCard : Claim7 := { stood := { row := followDocumentsRow, standIns := [], harness := (true, "daf9803696d209ce3b12a1ac7aefe3ce281c34514b6fe61ef00d83084b194523"), looks := false }, kinds := [], alts := [], laidByText := true, laidKinds := [.data, .pinned], laidTests := true, laidLooks := .later }
def FollowDocumentsCardSaid : Prop := Claim7.holds Tryd.pinned (.plain (OpenSpec.ofChange followDocumentsSpec)) followDocumentsCard

/-- THE TIED CARD OF 'blotterlaw07.FollowMany'. -/
def followManyCard : Claim7 := { stood := { row := followManyRow, standIns := [], harness := (true, "daf9803696d209ce3b12a1ac7aefe3ce281c34514b6fe61ef00d83084b194523"), looks := false }, kinds := [], alts := [], laidByText := true, laidKinds := [.data, .pinned], laidTests := true, laidLooks := .later }
def FollowManyCardSaid : Prop := Claim7.holds Tryd.pinned (.plain (OpenSpec.ofChange followManySpec)) followManyCard

/-- THE TIED CARD OF 'blotterlaw06.ComposeDoes'. -/
def composeDoesCard : Claim7 := { stood := { row := composeDoesRow, standIns := [], harness := (true, "daf9803696d209ce3b12a1ac7aefe3ce281c34514b6fe61ef00d83084b194523"), looks := false }, kinds := [], alts := [], laidByText := true, laidKinds := [.data, .pinned], laidTests := true, laidLooks := .later }
def ComposeDoesCardSaid : Prop := Claim7.holds Tryd.pinned (.plain (OpenSpec.ofChange composeDoesSpec)) composeDoesCard

/-- THE TIED CARD OF 'blotterlaw07.FollowMeets'. -/
def followMeetsCard : Claim7 := { stood := { row := followMeetsRow, standIns := [], harness := (true, "daf9803696d209ce3b12a1ac7aefe3ce281c34514b6fe61ef00d83084b194523"), looks := false }, kinds := [], alts := [], laidByText := true, laidKinds := [.data, .pinned], laidTests := true, laidLooks := .later }
def FollowMeetsCardSaid : Prop := Claim7.holds Tryd.pinned (.plain (OpenSpec.ofChange followMeetsSpec)) followMeetsCard

/-- THE TIED CARD OF 'blotterlaw06.ComposeBack'. -/
def composeBackCard : Claim7 := { stood := { row := composeBackRow, standIns := [], harness := (true, "daf9803696d209ce3b12a1ac7aefe3ce281c34514b6fe61ef00d83084b194523"), looks := false }, kinds := [], alts := [], laidByText := true, laidKinds := [.data, .pinned], laidTests := true, laidLooks := .later }
def ComposeBackCardSaid : Prop := Claim7.holds Tryd.pinned (.plain (OpenSpec.ofChange composeBackSpec)) composeBackCard

/-- THE SECOND FORM's CARD OF 'blotterlaw07.FollowGone'. -/
def followGoneUptoCard : Claim7 := { stood := { row := followGoneUptoRow, standIns := [], harness := (true, "daf9803696d209ce3b12a1ac7aefe3ce281c34514b6fe61ef00d83084b194523"), looks := false }, kinds := [], alts := [], laidByText := true, laidKinds := [.data, .pinned], laidTests := true, laidLooks := .later }
def FollowGoneUptoCardSaid : Prop := Claim7.holds Tryd.pinned (.plain (OpenSpec.upto followGoneSpec)) followGoneUptoCard

/-- THE SECOND FORM's CARD OF 'blotterlaw07.FollowWorks'. -/
def followWorksUptoCard : Claim7 := { stood := { row := followWorksUptoRow, standIns := [], harness := (true, "daf9803696d209ce3b12a1ac7aefe3ce281c34514b6fe61ef00d83084b194523"), looks := false }, kinds := [], alts := [], laidByText := true, laidKinds := [.data, .pinned], laidTests := true, laidLooks := .later }
def FollowWorksUptoCardSaid : Prop := Claim7.holds Tryd.pinned (.plain (OpenSpec.upto followWorksSpec)) followWorksUptoCard

/-- THE SECOND FORM's CARD OF 'blotterlaw07.FollowLong'. -/
def followLongUptoCard : Claim7 := { stood := { row := followLongUptoRow, standIns := [], harness := (true, "daf9803696d209ce3b12a1ac7aefe3ce281c34514b6fe61ef00d83084b194523"), looks := false }, kinds := [], alts := [], laidByText := true, laidKinds := [.data, .pinned], laidTests := true, laidLooks := .later }
def FollowLongUptoCardSaid : Prop := Claim7.holds Tryd.pinned (.plain (OpenSpec.upto followLongSpec)) followLongUptoCard

/-- THE SECOND FORM's CARD OF 'blotterlaw07.FollowNothing'. -/
def followNothingUptoCard : Claim7 := { stood := { row := followNothingUptoRow, standIns := [], harness := (true, "daf9803696d209ce3b12a1ac7aefe3ce281c34514b6fe61ef00d83084b194523"), looks := false }, kinds := [], alts := [], laidByText := true, laidKinds := [.data, .pinned], laidTests := true, laidLooks := .later }
def FollowNothingUptoCardSaid : Prop := Claim7.holds Tryd.pinned (.plain (OpenSpec.upto followNothingSpec)) followNothingUptoCard

/-- THE SECOND FORM's CARD OF 'blotterlaw05.ApplyWorks'. -/
def applyWorksUptoCard : Claim7 := { stood := { row := applyWorksUptoRow, standIns := [], harness := (true, "daf9803696d209ce3b12a1ac7aefe3ce281c34514b6fe61ef00d83084b194523"), looks := false }, kinds := [], alts := [], laidByText := true, laidKinds := [.data, .pinned], laidTests := true, laidLooks := .later }
def ApplyWorksUptoCardSaid : Prop := Claim7.holds Tryd.pinned (.plain (OpenSpec.upto applyWorksSpec)) applyWorksUptoCard

/-- THE SECOND FORM's CARD OF 'blotterlaw05.ApplyBack'. -/
def applyBackUptoCard : Claim7 := { stood := { row := applyBackUptoRow, standIns := [], harness := (true, "daf9803696d209ce3b12a1ac7aefe3ce281c34514b6fe61ef00d83084b194523"), looks := false }, kinds := [], alts := [], laidByText := true, laidKinds := [.data, .pinned], laidTests := true, laidLooks := .later }
def ApplyBackUptoCardSaid : Prop := Claim7.holds Tryd.pinned (.plain (OpenSpec.upto applyBackSpec)) applyBackUptoCard

/-- THE SECOND FORM's CARD OF 'blotterlaw05.ApplyTwice'. -/
def applyTwiceUptoCard : Claim7 := { stood := { row := applyTwiceUptoRow, standIns := [], harness := (true, "daf9803696d209ce3b12a1ac7aefe3ce281c34514b6fe61ef00d83084b194523"), looks := false }, kinds := [], alts := [], laidByText := true, laidKinds := [.data, .pinned], laidTests := true, laidLooks := .later }
def ApplyTwiceUptoCardSaid : Prop := Claim7.holds Tryd.pinned (.plain (OpenSpec.upto applyTwiceSpec)) applyTwiceUptoCard

/-- THE SECOND FORM's CARD OF 'blotterlaw06.ComposeWorks'. -/
def composeWorksUptoCard : Claim7 := { stood := { row := composeWorksUptoRow, standIns := [], harness := (true, "daf9803696d209ce3b12a1ac7aefe3ce281c34514b6fe61ef00d83084b194523"), looks := false }, kinds := [], alts := [], laidByText := true, laidKinds := [.data, .pinned], laidTests := true, laidLooks := .later }
def ComposeWorksUptoCardSaid : Prop := Claim7.holds Tryd.pinned (.plain (OpenSpec.upto composeWorksSpec)) composeWorksUptoCard

/-- THE SECOND FORM's CARD OF 'blotterlaw06.ComposeLong'. -/
def composeLongUptoCard : Claim7 := { stood := { row := composeLongUptoRow, standIns := [], harness := (true, "daf9803696d209ce3b12a1ac7aefe3ce281c34514b6fe61ef00d83084b194523"), looks := false }, kinds := [], alts := [], laidByText := true, laidKinds := [.data, .pinned], laidTests := true, laidLooks := .later }
def ComposeLongUptoCardSaid : Prop := Claim7.holds Tryd.pinned (.plain (OpenSpec.upto composeLongSpec)) composeLongUptoCard

/-- THE SECOND FORM's CARD OF 'blotterlaw06.ComposeNothing'. -/
def composeNothingUptoCard : Claim7 := { stood := { row := composeNothingUptoRow, standIns := [], harness := (true, "daf9803696d209ce3b12a1ac7aefe3ce281c34514b6fe61ef00d83084b194523"), looks := false }, kinds := [], alts := [], laidByText := true, laidKinds := [.data, .pinned], laidTests := true, laidLooks := .later }
def ComposeNothingUptoCardSaid : Prop := Claim7.holds Tryd.pinned (.plain (OpenSpec.upto composeNothingSpec)) composeNothingUptoCard

/-- THE SECOND FORM's CARD OF 'blotterlaw06.ComposeThree'. -/
def composeThreeUptoCard : Claim7 := { stood := { row := composeThreeUptoRow, standIns := [], harness := (true, "daf9803696d209ce3b12a1ac7aefe3ce281c34514b6fe61ef00d83084b194523"), looks := false }, kinds := [], alts := [], laidByText := true, laidKinds := [.data, .pinned], laidTests := true, laidLooks := .later }
def ComposeThreeUptoCardSaid : Prop := Claim7.holds Tryd.pinned (.plain (OpenSpec.upto composeThreeSpec)) composeThreeUptoCard

/-- THE SECOND FORM's CARD OF 'blotterlaw05.ApplyBetween'. -/
def applyBetweenUptoCard : Claim7 := { stood := { row := applyBetweenUptoRow, standIns := [], harness := (true, "daf9803696d209ce3b12a1ac7aefe3ce281c34514b6fe61ef00d83084b194523"), looks := false }, kinds := [], alts := [], laidByText := true, laidKinds := [.data, .pinned], laidTests := true, laidLooks := .later }
def ApplyBetweenUptoCardSaid : Prop := Claim7.holds Tryd.pinned (.plain (OpenSpec.upto applyBetweenSpec)) applyBetweenUptoCard

/-- THE SECOND FORM's CARD OF 'blotterlaw05.ApplyNothing'. -/
def applyNothingUptoCard : Claim7 := { stood := { row := applyNothingUptoRow, standIns := [], harness := (true, "daf9803696d209ce3b12a1ac7aefe3ce281c34514b6fe61ef00d83084b194523"), looks := false }, kinds := [], alts := [], laidByText := true, laidKinds := [.data, .pinned], laidTests := true, laidLooks := .later }
def ApplyNothingUptoCardSaid : Prop := Claim7.holds Tryd.pinned (.plain (OpenSpec.upto applyNothingSpec)) applyNothingUptoCard

/-- THE SECOND FORM's CARD OF 'blotterlaw05.ApplyAhead'. -/
def applyAheadUptoCard : Claim7 := { stood := { row := applyAheadUptoRow, standIns := [], harness := (true, "daf9803696d209ce3b12a1ac7aefe3ce281c34514b6fe61ef00d83084b194523"), looks := false }, kinds := [], alts := [], laidByText := true, laidKinds := [.data, .pinned], laidTests := true, laidLooks := .later }
def ApplyAheadUptoCardSaid : Prop := Claim7.holds Tryd.pinned (.plain (OpenSpec.upto applyAheadSpec)) applyAheadUptoCard

/-- THE SECOND FORM's CARD OF 'blotterlaw05.ApplyParts'. -/
def applyPartsUptoCard : Claim7 := { stood := { row := applyPartsUptoRow, standIns := [], harness := (true, "daf9803696d209ce3b12a1ac7aefe3ce281c34514b6fe61ef00d83084b194523"), looks := false }, kinds := [], alts := [], laidByText := true, laidKinds := [.data, .pinned], laidTests := true, laidLooks := .later }
def ApplyPartsUptoCardSaid : Prop := Claim7.holds Tryd.pinned (.plain (OpenSpec.upto applyPartsSpec)) applyPartsUptoCard

/-- THE SECOND FORM's CARD OF 'blotterlaw05.ApplyAsks'. -/
def applyAsksUptoCard : Claim7 := { stood := { row := applyAsksUptoRow, standIns := [], harness := (true, "daf9803696d209ce3b12a1ac7aefe3ce281c34514b6fe61ef00d83084b194523"), looks := false }, kinds := [], alts := [], laidByText := true, laidKinds := [.data, .pinned], laidTests := true, laidLooks := .later }
def ApplyAsksUptoCardSaid : Prop := Claim7.holds Tryd.pinned (.plain (OpenSpec.upto applyAsksSpec)) applyAsksUptoCard

/-- THE SECOND FORM's CARD OF 'blotterlaw07.FollowDocuments'. -/
def followDocumentsUptoCard : Claim7 := { stood := { row := followDocumentsUptoRow, standIns := [], harness := (true, "daf9803696d209ce3b12a1ac7aefe3ce281c34514b6fe61ef00d83084b194523"), looks := false }, kinds := [], alts := [], laidByText := true, laidKinds := [.data, .pinned], laidTests := true, laidLooks := .later }
def FollowDocumentsUptoCardSaid : Prop := Claim7.holds Tryd.pinned (.plain (OpenSpec.upto followDocumentsSpec)) followDocumentsUptoCard

/-- THE SECOND FORM's CARD OF 'blotterlaw07.FollowMany'. -/
def followManyUptoCard : Claim7 := { stood := { row := followManyUptoRow, standIns := [], harness := (true, "daf9803696d209ce3b12a1ac7aefe3ce281c34514b6fe61ef00d83084b194523"), looks := false }, kinds := [], alts := [], laidByText := true, laidKinds := [.data, .pinned], laidTests := true, laidLooks := .later }
def FollowManyUptoCardSaid : Prop := Claim7.holds Tryd.pinned (.plain (OpenSpec.upto followManySpec)) followManyUptoCard

/-- THE SECOND FORM's CARD OF 'blotterlaw06.ComposeDoes'. -/
def composeDoesUptoCard : Claim7 := { stood := { row := composeDoesUptoRow, standIns := [], harness := (true, "daf9803696d209ce3b12a1ac7aefe3ce281c34514b6fe61ef00d83084b194523"), looks := false }, kinds := [], alts := [], laidByText := true, laidKinds := [.data, .pinned], laidTests := true, laidLooks := .later }
def ComposeDoesUptoCardSaid : Prop := Claim7.holds Tryd.pinned (.plain (OpenSpec.upto composeDoesSpec)) composeDoesUptoCard

/-- THE SECOND FORM's CARD OF 'blotterlaw07.FollowMeets'. -/
def followMeetsUptoCard : Claim7 := { stood := { row := followMeetsUptoRow, standIns := [], harness := (true, "daf9803696d209ce3b12a1ac7aefe3ce281c34514b6fe61ef00d83084b194523"), looks := false }, kinds := [], alts := [], laidByText := true, laidKinds := [.data, .pinned], laidTests := true, laidLooks := .later }
def FollowMeetsUptoCardSaid : Prop := Claim7.holds Tryd.pinned (.plain (OpenSpec.upto followMeetsSpec)) followMeetsUptoCard

/-- THE SECOND FORM's CARD OF 'blotterlaw06.ComposeBack'. -/
def composeBackUptoCard : Claim7 := { stood := { row := composeBackUptoRow, standIns := [], harness := (true, "daf9803696d209ce3b12a1ac7aefe3ce281c34514b6fe61ef00d83084b194523"), looks := false }, kinds := [], alts := [], laidByText := true, laidKinds := [.data, .pinned], laidTests := true, laidLooks := .later }
def ComposeBackUptoCardSaid : Prop := Claim7.holds Tryd.pinned (.plain (OpenSpec.upto composeBackSpec)) composeBackUptoCard
end Rows
end Go.Proofs.YtaemajcpgmaapaaDoor
