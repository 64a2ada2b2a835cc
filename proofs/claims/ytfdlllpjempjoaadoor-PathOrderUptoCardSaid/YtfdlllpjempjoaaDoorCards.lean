/-
  DERIVED. GIVEN WITH THE SEED: THE CARDS: each row of YtfdlllpjempjoaaDoorRows.lean that lists a variable, with what it lists TIED to the program's text (the seventh form; the later family's looks); each row that meets fmt, with fmt's text TOLD by the authors' own Lean function (tested against real Go, not proved from fmt's source: count such statements apart). THE CARD IS WHAT COUNTS. Prove the row's statement (the work); the ties are given (YtfdlllpjempjoaaDoorTie.lean); close each card by the builder's one call (the guide's Derived/Test/ToyasCard.lean, 'card_holds'). Laid BY PROGRAM, IN A SANDBOX (cutbox-door.mjs). By AI agents, Wed Nov 11 2026. No macro, syntax, notation, axiom, sorry.
-/
import Derived.Test.YtfdlllpjempjoaaDoorRows
import GoSem.ClaimSeven
namespace Go.Proofs.YtfdlllpjempjoaaDoor
namespace Rows

/-- THE TIED CARD OF 'arboretumlaw05.PathChecks'. -/
def pathChecksCard : Claim7 := { stood := { row := pathChecksRow, standIns := [], harness := (true, "9805b81beb115f092113bec040b1032b0d812aa7958e3d983d2b514b2447c855"), looks := false }, kinds := [], alts := [], laidByText := true, laidKinds := [.data, .data, .data, .data, .pinned], laidTests := true, laidLooks := .later }
def PathChecksCardSaid : Prop := Claim7.holds Tryd.pinned (.plain (OpenSpec.ofChange pathChecksSpec)) pathChecksCard

/-- THE TIED CARD OF 'arboretumlaw05.PathParts'. -/
def pathPartsCard : Claim7 := { stood := { row := pathPartsRow, standIns := [], harness := (true, "9805b81beb115f092113bec040b1032b0d812aa7958e3d983d2b514b2447c855"), looks := false }, kinds := [], alts := [], laidByText := true, laidKinds := [.data, .data, .data, .data, .pinned], laidTests := true, laidLooks := .later }
def PathPartsCardSaid : Prop := Claim7.holds Tryd.pinned (.plain (OpenSpec.ofChange pathPartsSpec)) pathPartsCard

/-- THE TIED CARD OF 'arboretumlaw05.PathClimbs'. -/
def pathClimbsCard : Claim7 := { stood := { row := pathClimbsRow, standIns := [], harness := (true, "9805b81beb115f092113bec040b1032b0d812aa7958e3d983d2b514b2447c855"), looks := false }, kinds := [], alts := [], laidByText := true, laidKinds := [.data, .data, .data, .data, .pinned], laidTests := true, laidLooks := .later }
def PathClimbsCardSaid : Prop := Claim7.holds Tryd.pinned (.plain (OpenSpec.ofChange pathClimbsSpec)) pathClimbsCard

/-- THE TIED CARD OF 'arboretumlaw05.PathOrder'. -/
def pathOrderCard : Claim7 := { stood := { row := pathOrderRow, standIns := [], harness := (true, "9805b81beb115f092113bec040b1032b0d812aa7958e3d983d2b514b2447c855"), looks := false }, kinds := [], alts := [], laidByText := true, laidKinds := [.data, .data, .data, .data, .pinned], laidTests := true, laidLooks := .later }
def PathOrderCardSaid : Prop := Claim7.holds Tryd.pinned (.plain (OpenSpec.ofChange pathOrderSpec)) pathOrderCard

/-- THE TIED CARD OF 'arboretumlaw05.PathNames'. -/
def pathNamesCard : Claim7 := { stood := { row := pathNamesRow, standIns := [], harness := (true, "9805b81beb115f092113bec040b1032b0d812aa7958e3d983d2b514b2447c855"), looks := false }, kinds := [], alts := [], laidByText := true, laidKinds := [.data, .data, .data, .data, .pinned], laidTests := true, laidLooks := .later }
def PathNamesCardSaid : Prop := Claim7.holds Tryd.pinned (.plain (OpenSpec.ofChange pathNamesSpec)) pathNamesCard

/-- THE SECOND FORM's CARD OF 'arboretumlaw05.PathChecks'. -/
def pathChecksUptoCard : Claim7 := { stood := { row := pathChecksUptoRow, standIns := [], harness := (true, "9805b81beb115f092113bec040b1032b0d812aa7958e3d983d2b514b2447c855"), looks := false }, kinds := [], alts := [], laidByText := true, laidKinds := [.data, .data, .data, .data, .pinned], laidTests := true, laidLooks := .later }
def PathChecksUptoCardSaid : Prop := Claim7.holds Tryd.pinned (.plain (OpenSpec.upto pathChecksSpec)) pathChecksUptoCard

/-- THE SECOND FORM's CARD OF 'arboretumlaw05.PathParts'. -/
def pathPartsUptoCard : Claim7 := { stood := { row := pathPartsUptoRow, standIns := [], harness := (true, "9805b81beb115f092113bec040b1032b0d812aa7958e3d983d2b514b2447c855"), looks := false }, kinds := [], alts := [], laidByText := true, laidKinds := [.data, .data, .data, .data, .pinned], laidTests := true, laidLooks := .later }
def PathPartsUptoCardSaid : Prop := Claim7.holds Tryd.pinned (.plain (OpenSpec.upto pathPartsSpec)) pathPartsUptoCard

/-- THE SECOND FORM's CARD OF 'arboretumlaw05.PathClimbs'. -/
def pathClimbsUptoCard : Claim7 := { stood := { row := pathClimbsUptoRow, standIns := [], harness := (true, "9805b81beb115f092113bec040b1032b0d812aa7958e3d983d2b514b2447c855"), looks := false }, kinds := [], alts := [], laidByText := true, laidKinds := [.data, .data, .data, .data, .pinned], laidTests := true, laidLooks := .later }
def PathClimbsUptoCardSaid : Prop := Claim7.holds Tryd.pinned (.plain (OpenSpec.upto pathClimbsSpec)) pathClimbsUptoCard

/-- THE SECOND FORM's CARD OF 'arboretumlaw05.PathOrder'. -/
def pathOrderUptoCard : Claim7 := { stood := { row := pathOrderUptoRow, standIns := [], harness := (true, "9805b81beb115f092113bec040b1032b0d812aa7958e3d983d2b514b2447c855"), looks := false }, kinds := [], alts := [], laidByText := true, laidKinds := [.data, .data, .data, .data, .pinned], laidTests := true, laidLooks := .later }
def PathOrderUptoCardSaid : Prop := Claim7.holds Tryd.pinned (.plain (OpenSpec.upto pathOrderSpec)) pathOrderUptoCard

/-- THE SECOND FORM's CARD OF 'arboretumlaw05.PathNames'. -/
def pathNamesUptoCard : Claim7 := { stood := { row := pathNamesUptoRow, standIns := [], harness := (true, "9805b81beb115f092113bec040b1032b0d812aa7958e3d983d2b514b2447c855"), looks := false }, kinds := [], alts := [], laidByText := true, laidKinds := [.data, .data, .data, .data, .pinned], laidTests := true, laidLooks := .later }
def PathNamesUptoCardSaid : Prop := Claim7.holds Tryd.pinned (.plain (OpenSpec.upto pathNamesSpec)) pathNamesUptoCard
end Rows
end Go.Proofs.YtfdlllpjempjoaaDoor
