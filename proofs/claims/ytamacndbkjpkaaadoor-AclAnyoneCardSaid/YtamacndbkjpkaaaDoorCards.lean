/-
  DERIVED. GIVEN WITH THE SEED: THE CARDS: each row of YtamacndbkjpkaaaDoorRows.lean that lists a variable, with what it lists TIED to the program's text (the seventh form; the later family's looks); each row that meets fmt, with fmt's text TOLD by the authors' own Lean function (tested against real Go, not proved from fmt's source: count such statements apart). THE CARD IS WHAT COUNTS. Prove the row's statement (the work); the ties are given (YtamacndbkjpkaaaDoorTie.lean); close each card by the builder's one call (the guide's Derived/Test/ToyasCard.lean, 'card_holds'). Laid BY PROGRAM, IN A SANDBOX (cutbox-door.mjs). By AI agents, Wed Nov 11 2026. No macro, syntax, notation, axiom, sorry.
-/
import Derived.Test.YtamacndbkjpkaaaDoorRows
import GoSem.ClaimSeven
namespace Go.Proofs.YtamacndbkjpkaaaDoor
namespace Rows

/-- THE TIED CARD OF 'arboretumlaw06.AclRights'. -/
def aclRightsCard : Claim7 := { stood := { row := aclRightsRow, standIns := [], harness := (true, "b20de8f6940b7e87900e5293efc7669074c10179e0b60b21f01e2394790db89c"), looks := false }, kinds := [], alts := [], laidByText := true, laidKinds := [.data, .data, .data], laidTests := true, laidLooks := .later }
def AclRightsCardSaid : Prop := Claim7.holds Tryd.pinned (.plain (OpenSpec.ofChange aclRightsSpec)) aclRightsCard

/-- THE TIED CARD OF 'arboretumlaw06.AclMays'. -/
def aclMaysCard : Claim7 := { stood := { row := aclMaysRow, standIns := [], harness := (true, "b20de8f6940b7e87900e5293efc7669074c10179e0b60b21f01e2394790db89c"), looks := false }, kinds := [], alts := [], laidByText := true, laidKinds := [.data, .data, .data], laidTests := true, laidLooks := .later }
def AclMaysCardSaid : Prop := Claim7.holds Tryd.pinned (.plain (OpenSpec.ofChange aclMaysSpec)) aclMaysCard

/-- THE TIED CARD OF 'arboretumlaw06.AclDigests'. -/
def aclDigestsCard : Claim7 := { stood := { row := aclDigestsRow, standIns := [], harness := (true, "b20de8f6940b7e87900e5293efc7669074c10179e0b60b21f01e2394790db89c"), looks := false }, kinds := [], alts := [], laidByText := true, laidKinds := [.data, .data, .data], laidTests := true, laidLooks := .later }
def AclDigestsCardSaid : Prop := Claim7.holds Tryd.pinned (.plain (OpenSpec.ofChange aclDigestsSpec)) aclDigestsCard

/-- THE TIED CARD OF 'arboretumlaw06.AclGrows'. -/
def aclGrowsCard : Claim7 := { stood := { row := aclGrowsRow, standIns := [], harness := (true, "b20de8f6940b7e87900e5293efc7669074c10179e0b60b21f01e2394790db89c"), looks := false }, kinds := [], alts := [], laidByText := true, laidKinds := [.data, .data, .data], laidTests := true, laidLooks := .later }
def AclGrowsCardSaid : Prop := Claim7.holds Tryd.pinned (.plain (OpenSpec.ofChange aclGrowsSpec)) aclGrowsCard

/-- THE TIED CARD OF 'arboretumlaw06.AclAnyone'. -/
def aclAnyoneCard : Claim7 := { stood := { row := aclAnyoneRow, standIns := [], harness := (true, "b20de8f6940b7e87900e5293efc7669074c10179e0b60b21f01e2394790db89c"), looks := false }, kinds := [], alts := [], laidByText := true, laidKinds := [.data, .data, .data], laidTests := true, laidLooks := .later }
def AclAnyoneCardSaid : Prop := Claim7.holds Tryd.pinned (.plain (OpenSpec.ofChange aclAnyoneSpec)) aclAnyoneCard

/-- THE SECOND FORM's CARD OF 'arboretumlaw06.AclRights'. -/
def aclRightsUptoCard : Claim7 := { stood := { row := aclRightsUptoRow, standIns := [], harness := (true, "b20de8f6940b7e87900e5293efc7669074c10179e0b60b21f01e2394790db89c"), looks := false }, kinds := [], alts := [], laidByText := true, laidKinds := [.data, .data, .data], laidTests := true, laidLooks := .later }
def AclRightsUptoCardSaid : Prop := Claim7.holds Tryd.pinned (.plain (OpenSpec.upto aclRightsSpec)) aclRightsUptoCard

/-- THE SECOND FORM's CARD OF 'arboretumlaw06.AclMays'. -/
def aclMaysUptoCard : Claim7 := { stood := { row := aclMaysUptoRow, standIns := [], harness := (true, "b20de8f6940b7e87900e5293efc7669074c10179e0b60b21f01e2394790db89c"), looks := false }, kinds := [], alts := [], laidByText := true, laidKinds := [.data, .data, .data], laidTests := true, laidLooks := .later }
def AclMaysUptoCardSaid : Prop := Claim7.holds Tryd.pinned (.plain (OpenSpec.upto aclMaysSpec)) aclMaysUptoCard

/-- THE SECOND FORM's CARD OF 'arboretumlaw06.AclDigests'. -/
def aclDigestsUptoCard : Claim7 := { stood := { row := aclDigestsUptoRow, standIns := [], harness := (true, "b20de8f6940b7e87900e5293efc7669074c10179e0b60b21f01e2394790db89c"), looks := false }, kinds := [], alts := [], laidByText := true, laidKinds := [.data, .data, .data], laidTests := true, laidLooks := .later }
def AclDigestsUptoCardSaid : Prop := Claim7.holds Tryd.pinned (.plain (OpenSpec.upto aclDigestsSpec)) aclDigestsUptoCard

/-- THE SECOND FORM's CARD OF 'arboretumlaw06.AclGrows'. -/
def aclGrowsUptoCard : Claim7 := { stood := { row := aclGrowsUptoRow, standIns := [], harness := (true, "b20de8f6940b7e87900e5293efc7669074c10179e0b60b21f01e2394790db89c"), looks := false }, kinds := [], alts := [], laidByText := true, laidKinds := [.data, .data, .data], laidTests := true, laidLooks := .later }
def AclGrowsUptoCardSaid : Prop := Claim7.holds Tryd.pinned (.plain (OpenSpec.upto aclGrowsSpec)) aclGrowsUptoCard

/-- THE SECOND FORM's CARD OF 'arboretumlaw06.AclAnyone'. -/
def aclAnyoneUptoCard : Claim7 := { stood := { row := aclAnyoneUptoRow, standIns := [], harness := (true, "b20de8f6940b7e87900e5293efc7669074c10179e0b60b21f01e2394790db89c"), looks := false }, kinds := [], alts := [], laidByText := true, laidKinds := [.data, .data, .data], laidTests := true, laidLooks := .later }
def AclAnyoneUptoCardSaid : Prop := Claim7.holds Tryd.pinned (.plain (OpenSpec.upto aclAnyoneSpec)) aclAnyoneUptoCard
end Rows
end Go.Proofs.YtamacndbkjpkaaaDoor
