/-
  DERIVED. GIVEN WITH THE SEED: THE CARDS: each row of YtonnbkebjeoflaaGreatDoorRows.lean that lists a variable, with what it lists TIED to the program's text (the seventh form; the later family's looks); each row that meets fmt, with fmt's text TOLD by the authors' own Lean function (tested against real Go, not proved from fmt's source: count such statements apart). THE CARD IS WHAT COUNTS. Prove the row's statement (the work); the ties are given (YtonnbkebjeoflaaGreatDoorTie.lean); close each card by the builder's one call (the guide's Derived/Test/ToyasCard.lean, 'card_holds'). Laid BY PROGRAM, IN A SANDBOX (cutbox-door.mjs). By AI agents, Wed Nov 11 2026. No macro, syntax, notation, axiom, sorry.
-/
import Derived.Test.YtonnbkebjeoflaaGreatDoorRows
import GoSem.ClaimSeven
namespace Go.Proofs.YtonnbkebjeoflaaGreatDoor
namespace Rows

/-- THE TIED CARD OF 'arboretumtop.TopRaces'. -/
def topRacesCard : Claim7 := { stood := { row := topRacesRow, standIns := [], harness := (true, "f3bf294bca36ffbe63c720d4c4763ab2d5cffc111189c1c52b1d66f4c781907b"), looks := true }, kinds := [], alts := [], laidByText := true, laidKinds := [.data, .data, .data, .data, .pinned], laidTests := true, laidLooks := .later }
def TopRacesCardSaid : Prop := Claim7.holds Tryz.pinned (.plain (OpenSpec.ofChange topRacesSpec)) topRacesCard

/-- THE TIED CARD OF 'arboretumtop.TopProved'. -/
def topProvedCard : Claim7 := { stood := { row := topProvedRow, standIns := [], harness := (true, "f3bf294bca36ffbe63c720d4c4763ab2d5cffc111189c1c52b1d66f4c781907b"), looks := true }, kinds := [], alts := [], laidByText := true, laidKinds := [.data, .data, .data, .data, .pinned], laidTests := true, laidLooks := .later }
def TopProvedCardSaid : Prop := Claim7.holds Tryz.pinned (.plain (OpenSpec.ofChange topProvedSpec)) topProvedCard

/-- THE TIED CARD OF 'arboretumtop.TopReplays'. -/
def topReplaysCard : Claim7 := { stood := { row := topReplaysRow, standIns := [], harness := (true, "f3bf294bca36ffbe63c720d4c4763ab2d5cffc111189c1c52b1d66f4c781907b"), looks := true }, kinds := [], alts := [], laidByText := true, laidKinds := [.data, .data, .data, .data, .pinned], laidTests := true, laidLooks := .later }
def TopReplaysCardSaid : Prop := Claim7.holds Tryz.pinned (.plain (OpenSpec.ofChange topReplaysSpec)) topReplaysCard

/-- THE TIED CARD OF 'arboretumtop.TopQuiet'. -/
def topQuietCard : Claim7 := { stood := { row := topQuietRow, standIns := [], harness := (true, "f3bf294bca36ffbe63c720d4c4763ab2d5cffc111189c1c52b1d66f4c781907b"), looks := true }, kinds := [], alts := [], laidByText := true, laidKinds := [.data, .data, .data, .data, .pinned], laidTests := true, laidLooks := .later }
def TopQuietCardSaid : Prop := Claim7.holds Tryz.pinned (.plain (OpenSpec.ofChange topQuietSpec)) topQuietCard

/-- THE SECOND FORM's CARD OF 'arboretumtop.TopRaces'. -/
def topRacesUptoCard : Claim7 := { stood := { row := topRacesUptoRow, standIns := [], harness := (true, "f3bf294bca36ffbe63c720d4c4763ab2d5cffc111189c1c52b1d66f4c781907b"), looks := true }, kinds := [], alts := [], laidByText := true, laidKinds := [.data, .data, .data, .data, .pinned], laidTests := true, laidLooks := .later }
def TopRacesUptoCardSaid : Prop := Claim7.holds Tryz.pinned (.plain (OpenSpec.upto topRacesSpec)) topRacesUptoCard

/-- THE SECOND FORM's CARD OF 'arboretumtop.TopProved'. -/
def topProvedUptoCard : Claim7 := { stood := { row := topProvedUptoRow, standIns := [], harness := (true, "f3bf294bca36ffbe63c720d4c4763ab2d5cffc111189c1c52b1d66f4c781907b"), looks := true }, kinds := [], alts := [], laidByText := true, laidKinds := [.data, .data, .data, .data, .pinned], laidTests := true, laidLooks := .later }
def TopProvedUptoCardSaid : Prop := Claim7.holds Tryz.pinned (.plain (OpenSpec.upto topProvedSpec)) topProvedUptoCard

/-- THE SECOND FORM's CARD OF 'arboretumtop.TopReplays'. -/
def topReplaysUptoCard : Claim7 := { stood := { row := topReplaysUptoRow, standIns := [], harness := (true, "f3bf294bca36ffbe63c720d4c4763ab2d5cffc111189c1c52b1d66f4c781907b"), looks := true }, kinds := [], alts := [], laidByText := true, laidKinds := [.data, .data, .data, .data, .pinned], laidTests := true, laidLooks := .later }
def TopReplaysUptoCardSaid : Prop := Claim7.holds Tryz.pinned (.plain (OpenSpec.upto topReplaysSpec)) topReplaysUptoCard

/-- THE SECOND FORM's CARD OF 'arboretumtop.TopQuiet'. -/
def topQuietUptoCard : Claim7 := { stood := { row := topQuietUptoRow, standIns := [], harness := (true, "f3bf294bca36ffbe63c720d4c4763ab2d5cffc111189c1c52b1d66f4c781907b"), looks := true }, kinds := [], alts := [], laidByText := true, laidKinds := [.data, .data, .data, .data, .pinned], laidTests := true, laidLooks := .later }
def TopQuietUptoCardSaid : Prop := Claim7.holds Tryz.pinned (.plain (OpenSpec.upto topQuietSpec)) topQuietUptoCard
end Rows
end Go.Proofs.YtonnbkebjeoflaaGreatDoor
