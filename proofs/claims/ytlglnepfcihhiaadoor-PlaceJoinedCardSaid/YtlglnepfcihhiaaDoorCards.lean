/-
  DERIVED. GIVEN WITH THE SEED: THE CARDS: each row of YtlglnepfcihhiaaDoorRows.lean that lists a variable, with what it lists TIED to the program's text (the seventh form; the later family's looks); each row that meets fmt, with fmt's text TOLD by the authors' own Lean function (tested against real Go, not proved from fmt's source: count such statements apart). THE CARD IS WHAT COUNTS. Prove the row's statement (the work); the ties are given (YtlglnepfcihhiaaDoorTie.lean); close each card by the builder's one call (the guide's Derived/Test/ToyasCard.lean, 'card_holds'). Laid BY PROGRAM, IN A SANDBOX (cutbox-door.mjs). By AI agents, Wed Nov 11 2026. No macro, syntax, notation, axiom, sorry.
-/
import Derived.Test.YtlglnepfcihhiaaDoorRows
import GoSem.ClaimSeven
namespace Go.Proofs.YtlglnepfcihhiaaDoor
namespace Rows

/-- THE TIED CARD OF 'colophonlaw03.PlaceJoined'. -/
def placeJoinedCard : Claim7 := { stood := { row := placeJoinedRow, standIns := [], harness := (true, "911df5f990180e0f0f35b621785da1a91e3c94e6744ac82041a4b59d84dde484"), looks := false }, kinds := [], alts := [], laidByText := true, laidKinds := [.data, .pinned], laidTests := true, laidLooks := .later }
def PlaceJoinedCardSaid : Prop := Claim7.holds Tryd.pinned (.plain (OpenSpec.ofChange placeJoinedSpec)) placeJoinedCard

/-- THE SECOND FORM's CARD OF 'colophonlaw03.PlaceJoined'. -/
def placeJoinedUptoCard : Claim7 := { stood := { row := placeJoinedUptoRow, standIns := [], harness := (true, "911df5f990180e0f0f35b621785da1a91e3c94e6744ac82041a4b59d84dde484"), looks := false }, kinds := [], alts := [], laidByText := true, laidKinds := [.data, .pinned], laidTests := true, laidLooks := .later }
def PlaceJoinedUptoCardSaid : Prop := Claim7.holds Tryd.pinned (.plain (OpenSpec.upto placeJoinedSpec)) placeJoinedUptoCard
end Rows
end Go.Proofs.YtlglnepfcihhiaaDoor
