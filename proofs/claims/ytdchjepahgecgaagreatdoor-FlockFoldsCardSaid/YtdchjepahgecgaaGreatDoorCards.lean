/-
  DERIVED. GIVEN WITH THE SEED: THE CARDS: each row of YtdchjepahgecgaaGreatDoorRows.lean that lists a variable, with what it lists TIED to the program's text (the seventh form; the later family's looks); each row that meets fmt, with fmt's text TOLD by the authors' own Lean function (tested against real Go, not proved from fmt's source: count such statements apart). THE CARD IS WHAT COUNTS. Prove the row's statement (the work); the ties are given (YtdchjepahgecgaaGreatDoorTie.lean); close each card by the builder's one call (the guide's Derived/Test/ToyasCard.lean, 'card_holds'). Laid BY PROGRAM, IN A SANDBOX (cutbox-door.mjs). By AI agents, Wed Nov 11 2026. No macro, syntax, notation, axiom, sorry.
-/
import Derived.Test.YtdchjepahgecgaaGreatDoorRows
import GoSem.ClaimSeven
namespace Go.Proofs.YtdchjepahgecgaaGreatDoor
namespace Rows

/-- THE TIED CARD OF 'heliographlaw11.FlockFolds'. -/
def flockFoldsCard : Claim7 := { stood := { row := flockFoldsRow, standIns := [], harness := (true, "9a89842702f9972be19ae8a0baaed0d32f54383a7606e6784b349b3ad92207d0"), looks := true }, kinds := [], alts := [], laidByText := true, laidKinds := [.data, .data, .data, .data, .sentinel, .sentinel, .pinned], laidTests := true, laidLooks := .later }
def FlockFoldsCardSaid : Prop := Claim7.holds Tryz.pinned (.plain (OpenSpec.ofChange flockFoldsSpec)) flockFoldsCard

/-- THE TIED CARD OF 'heliographlaw11.FlockTurns'. -/
def flockTurnsCard : Claim7 := { stood := { row := flockTurnsRow, standIns := [], harness := (true, "9a89842702f9972be19ae8a0baaed0d32f54383a7606e6784b349b3ad92207d0"), looks := true }, kinds := [], alts := [], laidByText := true, laidKinds := [.data, .data, .data, .data, .sentinel, .sentinel, .pinned], laidTests := true, laidLooks := .later }
def FlockTurnsCardSaid : Prop := Claim7.holds Tryz.pinned (.plain (OpenSpec.ofChange flockTurnsSpec)) flockTurnsCard

/-- THE TIED CARD OF 'heliographlaw11.FlockCommits'. -/
def flockCommitsCard : Claim7 := { stood := { row := flockCommitsRow, standIns := [], harness := (true, "9a89842702f9972be19ae8a0baaed0d32f54383a7606e6784b349b3ad92207d0"), looks := true }, kinds := [], alts := [], laidByText := true, laidKinds := [.data, .data, .data, .data, .sentinel, .sentinel, .pinned], laidTests := true, laidLooks := .later }
def FlockCommitsCardSaid : Prop := Claim7.holds Tryz.pinned (.plain (OpenSpec.ofChange flockCommitsSpec)) flockCommitsCard

/-- THE TIED CARD OF 'heliographlaw11.FlockSame'. -/
def flockSameCard : Claim7 := { stood := { row := flockSameRow, standIns := [], harness := (true, "9a89842702f9972be19ae8a0baaed0d32f54383a7606e6784b349b3ad92207d0"), looks := true }, kinds := [], alts := [], laidByText := true, laidKinds := [.data, .data, .data, .data, .sentinel, .sentinel, .pinned], laidTests := true, laidLooks := .later }
def FlockSameCardSaid : Prop := Claim7.holds Tryz.pinned (.plain (OpenSpec.ofChange flockSameSpec)) flockSameCard

/-- THE TIED CARD OF 'heliographlaw11.FlockLooks'. -/
def flockLooksCard : Claim7 := { stood := { row := flockLooksRow, standIns := [], harness := (true, "9a89842702f9972be19ae8a0baaed0d32f54383a7606e6784b349b3ad92207d0"), looks := true }, kinds := [], alts := [], laidByText := true, laidKinds := [.data, .data, .data, .data, .sentinel, .sentinel, .pinned], laidTests := true, laidLooks := .later }
def FlockLooksCardSaid : Prop := Claim7.holds Tryz.pinned (.plain (OpenSpec.ofChange flockLooksSpec)) flockLooksCard

/-- THE SECOND FORM's CARD OF 'heliographlaw11.FlockFolds'. -/
def flockFoldsUptoCard : Claim7 := { stood := { row := flockFoldsUptoRow, standIns := [], harness := (true, "9a89842702f9972be19ae8a0baaed0d32f54383a7606e6784b349b3ad92207d0"), looks := true }, kinds := [], alts := [], laidByText := true, laidKinds := [.data, .data, .data, .data, .sentinel, .sentinel, .pinned], laidTests := true, laidLooks := .later }
def FlockFoldsUptoCardSaid : Prop := Claim7.holds Tryz.pinned (.plain (OpenSpec.upto flockFoldsSpec)) flockFoldsUptoCard

/-- THE SECOND FORM's CARD OF 'heliographlaw11.FlockTurns'. -/
def flockTurnsUptoCard : Claim7 := { stood := { row := flockTurnsUptoRow, standIns := [], harness := (true, "9a89842702f9972be19ae8a0baaed0d32f54383a7606e6784b349b3ad92207d0"), looks := true }, kinds := [], alts := [], laidByText := true, laidKinds := [.data, .data, .data, .data, .sentinel, .sentinel, .pinned], laidTests := true, laidLooks := .later }
def FlockTurnsUptoCardSaid : Prop := Claim7.holds Tryz.pinned (.plain (OpenSpec.upto flockTurnsSpec)) flockTurnsUptoCard

/-- THE SECOND FORM's CARD OF 'heliographlaw11.FlockCommits'. -/
def flockCommitsUptoCard : Claim7 := { stood := { row := flockCommitsUptoRow, standIns := [], harness := (true, "9a89842702f9972be19ae8a0baaed0d32f54383a7606e6784b349b3ad92207d0"), looks := true }, kinds := [], alts := [], laidByText := true, laidKinds := [.data, .data, .data, .data, .sentinel, .sentinel, .pinned], laidTests := true, laidLooks := .later }
def FlockCommitsUptoCardSaid : Prop := Claim7.holds Tryz.pinned (.plain (OpenSpec.upto flockCommitsSpec)) flockCommitsUptoCard

/-- THE SECOND FORM's CARD OF 'heliographlaw11.FlockSame'. -/
def flockSameUptoCard : Claim7 := { stood := { row := flockSameUptoRow, standIns := [], harness := (true, "9a89842702f9972be19ae8a0baaed0d32f54383a7606e6784b349b3ad92207d0"), looks := true }, kinds := [], alts := [], laidByText := true, laidKinds := [.data, .data, .data, .data, .sentinel, .sentinel, .pinned], laidTests := true, laidLooks := .later }
def FlockSameUptoCardSaid : Prop := Claim7.holds Tryz.pinned (.plain (OpenSpec.upto flockSameSpec)) flockSameUptoCard

/-- THE SECOND FORM's CARD OF 'heliographlaw11.FlockLooks'. -/
def flockLooksUptoCard : Claim7 := { stood := { row := flockLooksUptoRow, standIns := [], harness := (true, "9a89842702f9972be19ae8a0baaed0d32f54383a7606e6784b349b3ad92207d0"), looks := true }, kinds := [], alts := [], laidByText := true, laidKinds := [.data, .data, .data, .data, .sentinel, .sentinel, .pinned], laidTests := true, laidLooks := .later }
def FlockLooksUptoCardSaid : Prop := Claim7.holds Tryz.pinned (.plain (OpenSpec.upto flockLooksSpec)) flockLooksUptoCard
end Rows
end Go.Proofs.YtdchjepahgecgaaGreatDoor
