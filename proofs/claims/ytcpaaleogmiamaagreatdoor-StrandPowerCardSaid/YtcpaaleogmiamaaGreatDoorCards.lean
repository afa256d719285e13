/-
  DERIVED. GIVEN WITH THE SEED: THE CARDS: each row of YtcpaaleogmiamaaGreatDoorRows.lean that lists a variable, with what it lists TIED to the program's text (the seventh form; the later family's looks); each row that meets fmt, with fmt's text TOLD by the authors' own Lean function (tested against real Go, not proved from fmt's source: count such statements apart). THE CARD IS WHAT COUNTS. Prove the row's statement (the work); the ties are given (YtcpaaleogmiamaaGreatDoorTie.lean); close each card by the builder's one call (the guide's Derived/Test/ToyasCard.lean, 'card_holds'). Laid BY PROGRAM, IN A SANDBOX (cutbox-door.mjs). By AI agents, Wed Nov 11 2026. No macro, syntax, notation, axiom, sorry.
-/
import Derived.Test.YtcpaaleogmiamaaGreatDoorRows
import GoSem.ClaimSeven
namespace Go.Proofs.YtcpaaleogmiamaaGreatDoor
namespace Rows

/-- THE TIED CARD OF 'heliographlaw13.HelmHears'. -/
def helmHearsCard : Claim7 := { stood := { row := helmHearsRow, standIns := [], harness := (true, "7f6b0e856d0550668561e607e803d9228ac11092588cd794b5e64811bcdf8e08"), looks := true }, kinds := [], alts := [], laidByText := true, laidKinds := [.data, .data, .data, .sentinel, .sentinel], laidTests := true, laidLooks := .later }
def HelmHearsCardSaid : Prop := Claim7.holds Tryz.pinned (.plain (OpenSpec.ofChange helmHearsSpec)) helmHearsCard

/-- THE TIED CARD OF 'heliographlaw13.HelmPower'. -/
def helmPowerCard : Claim7 := { stood := { row := helmPowerRow, standIns := [], harness := (true, "7f6b0e856d0550668561e607e803d9228ac11092588cd794b5e64811bcdf8e08"), looks := true }, kinds := [], alts := [], laidByText := true, laidKinds := [.data, .data, .data, .sentinel, .sentinel], laidTests := true, laidLooks := .later }
def HelmPowerCardSaid : Prop := Claim7.holds Tryz.pinned (.plain (OpenSpec.ofChange helmPowerSpec)) helmPowerCard

/-- THE TIED CARD OF 'heliographlaw07.StrandReadsOn'. -/
def strandReadsOnCard : Claim7 := { stood := { row := strandReadsOnRow, standIns := [], harness := (true, "7f6b0e856d0550668561e607e803d9228ac11092588cd794b5e64811bcdf8e08"), looks := true }, kinds := [], alts := [], laidByText := true, laidKinds := [.data, .data, .data, .data, .sentinel, .sentinel, .pinned], laidTests := true, laidLooks := .later }
def StrandReadsOnCardSaid : Prop := Claim7.holds Tryz.pinned (.plain (OpenSpec.ofChange strandReadsOnSpec)) strandReadsOnCard

/-- THE TIED CARD OF 'heliographlaw07.StrandPower'. -/
def strandPowerCard : Claim7 := { stood := { row := strandPowerRow, standIns := [], harness := (true, "7f6b0e856d0550668561e607e803d9228ac11092588cd794b5e64811bcdf8e08"), looks := true }, kinds := [], alts := [], laidByText := true, laidKinds := [.data, .data, .data, .data, .sentinel, .sentinel, .pinned], laidTests := true, laidLooks := .later }
def StrandPowerCardSaid : Prop := Claim7.holds Tryz.pinned (.plain (OpenSpec.ofChange strandPowerSpec)) strandPowerCard

/-- THE TIED CARD OF 'heliographlaw07.StrandReads'. -/
def strandReadsCard : Claim7 := { stood := { row := strandReadsRow, standIns := [], harness := (true, "7f6b0e856d0550668561e607e803d9228ac11092588cd794b5e64811bcdf8e08"), looks := true }, kinds := [], alts := [], laidByText := true, laidKinds := [.data, .data, .data, .data, .sentinel, .sentinel, .pinned], laidTests := true, laidLooks := .later }
def StrandReadsCardSaid : Prop := Claim7.holds Tryz.pinned (.plain (OpenSpec.ofChange strandReadsSpec)) strandReadsCard

/-- THE TIED CARD OF 'heliographlaw07.StrandResets'. -/
def strandResetsCard : Claim7 := { stood := { row := strandResetsRow, standIns := [], harness := (true, "7f6b0e856d0550668561e607e803d9228ac11092588cd794b5e64811bcdf8e08"), looks := true }, kinds := [], alts := [], laidByText := true, laidKinds := [.data, .data, .data, .data, .sentinel, .sentinel, .pinned], laidTests := true, laidLooks := .later }
def StrandResetsCardSaid : Prop := Claim7.holds Tryz.pinned (.plain (OpenSpec.ofChange strandResetsSpec)) strandResetsCard

/-- THE TIED CARD OF 'heliographlaw07.StrandDrops'. -/
def strandDropsCard : Claim7 := { stood := { row := strandDropsRow, standIns := [], harness := (true, "7f6b0e856d0550668561e607e803d9228ac11092588cd794b5e64811bcdf8e08"), looks := true }, kinds := [], alts := [], laidByText := true, laidKinds := [.data, .data, .data, .data, .sentinel, .sentinel, .pinned], laidTests := true, laidLooks := .later }
def StrandDropsCardSaid : Prop := Claim7.holds Tryz.pinned (.plain (OpenSpec.ofChange strandDropsSpec)) strandDropsCard

/-- THE TIED CARD OF 'heliographlaw07.StrandCuts'. -/
def strandCutsCard : Claim7 := { stood := { row := strandCutsRow, standIns := [], harness := (true, "7f6b0e856d0550668561e607e803d9228ac11092588cd794b5e64811bcdf8e08"), looks := true }, kinds := [], alts := [], laidByText := true, laidKinds := [.data, .data, .data, .data, .sentinel, .sentinel, .pinned], laidTests := true, laidLooks := .later }
def StrandCutsCardSaid : Prop := Claim7.holds Tryz.pinned (.plain (OpenSpec.ofChange strandCutsSpec)) strandCutsCard

/-- THE TIED CARD OF 'heliographlaw07.StrandPuts'. -/
def strandPutsCard : Claim7 := { stood := { row := strandPutsRow, standIns := [], harness := (true, "7f6b0e856d0550668561e607e803d9228ac11092588cd794b5e64811bcdf8e08"), looks := true }, kinds := [], alts := [], laidByText := true, laidKinds := [.data, .data, .data, .data, .sentinel, .sentinel, .pinned], laidTests := true, laidLooks := .later }
def StrandPutsCardSaid : Prop := Claim7.holds Tryz.pinned (.plain (OpenSpec.ofChange strandPutsSpec)) strandPutsCard

/-- THE TIED CARD OF 'heliographlaw07.StrandCleans'. -/
def strandCleansCard : Claim7 := { stood := { row := strandCleansRow, standIns := [], harness := (true, "7f6b0e856d0550668561e607e803d9228ac11092588cd794b5e64811bcdf8e08"), looks := true }, kinds := [], alts := [], laidByText := true, laidKinds := [.data, .data, .data, .data, .sentinel, .sentinel, .pinned], laidTests := true, laidLooks := .later }
def StrandCleansCardSaid : Prop := Claim7.holds Tryz.pinned (.plain (OpenSpec.ofChange strandCleansSpec)) strandCleansCard

/-- THE SECOND FORM's CARD OF 'heliographlaw13.HelmHears'. -/
def helmHearsUptoCard : Claim7 := { stood := { row := helmHearsUptoRow, standIns := [], harness := (true, "7f6b0e856d0550668561e607e803d9228ac11092588cd794b5e64811bcdf8e08"), looks := true }, kinds := [], alts := [], laidByText := true, laidKinds := [.data, .data, .data, .sentinel, .sentinel], laidTests := true, laidLooks := .later }
def HelmHearsUptoCardSaid : Prop := Claim7.holds Tryz.pinned (.plain (OpenSpec.upto helmHearsSpec)) helmHearsUptoCard

/-- THE SECOND FORM's CARD OF 'heliographlaw13.HelmPower'. -/
def helmPowerUptoCard : Claim7 := { stood := { row := helmPowerUptoRow, standIns := [], harness := (true, "7f6b0e856d0550668561e607e803d9228ac11092588cd794b5e64811bcdf8e08"), looks := true }, kinds := [], alts := [], laidByText := true, laidKinds := [.data, .data, .data, .sentinel, .sentinel], laidTests := true, laidLooks := .later }
def HelmPowerUptoCardSaid : Prop := Claim7.holds Tryz.pinned (.plain (OpenSpec.upto helmPowerSpec)) helmPowerUptoCard

/-- THE SECOND FORM's CARD OF 'heliographlaw07.StrandReadsOn'. -/
def strandReadsOnUptoCard : Claim7 := { stood := { row := strandReadsOnUptoRow, standIns := [], harness := (true, "7f6b0e856d0550668561e607e803d9228ac11092588cd794b5e64811bcdf8e08"), looks := true }, kinds := [], alts := [], laidByText := true, laidKinds := [.data, .data, .data, .data, .sentinel, .sentinel, .pinned], laidTests := true, laidLooks := .later }
def StrandReadsOnUptoCardSaid : Prop := Claim7.holds Tryz.pinned (.plain (OpenSpec.upto strandReadsOnSpec)) strandReadsOnUptoCard

/-- THE SECOND FORM's CARD OF 'heliographlaw07.StrandPower'. -/
def strandPowerUptoCard : Claim7 := { stood := { row := strandPowerUptoRow, standIns := [], harness := (true, "7f6b0e856d0550668561e607e803d9228ac11092588cd794b5e64811bcdf8e08"), looks := true }, kinds := [], alts := [], laidByText := true, laidKinds := [.data, .data, .data, .data, .sentinel, .sentinel, .pinned], laidTests := true, laidLooks := .later }
def StrandPowerUptoCardSaid : Prop := Claim7.holds Tryz.pinned (.plain (OpenSpec.upto strandPowerSpec)) strandPowerUptoCard

/-- THE SECOND FORM's CARD OF 'heliographlaw07.StrandReads'. -/
def strandReadsUptoCard : Claim7 := { stood := { row := strandReadsUptoRow, standIns := [], harness := (true, "7f6b0e856d0550668561e607e803d9228ac11092588cd794b5e64811bcdf8e08"), looks := true }, kinds := [], alts := [], laidByText := true, laidKinds := [.data, .data, .data, .data, .sentinel, .sentinel, .pinned], laidTests := true, laidLooks := .later }
def StrandReadsUptoCardSaid : Prop := Claim7.holds Tryz.pinned (.plain (OpenSpec.upto strandReadsSpec)) strandReadsUptoCard

/-- THE SECOND FORM's CARD OF 'heliographlaw07.StrandResets'. -/
def strandResetsUptoCard : Claim7 := { stood := { row := strandResetsUptoRow, standIns := [], harness := (true, "7f6b0e856d0550668561e607e803d9228ac11092588cd794b5e64811bcdf8e08"), looks := true }, kinds := [], alts := [], laidByText := true, laidKinds := [.data, .data, .data, .data, .sentinel, .sentinel, .pinned], laidTests := true, laidLooks := .later }
def StrandResetsUptoCardSaid : Prop := Claim7.holds Tryz.pinned (.plain (OpenSpec.upto strandResetsSpec)) strandResetsUptoCard

/-- THE SECOND FORM's CARD OF 'heliographlaw07.StrandDrops'. -/
def strandDropsUptoCard : Claim7 := { stood := { row := strandDropsUptoRow, standIns := [], harness := (true, "7f6b0e856d0550668561e607e803d9228ac11092588cd794b5e64811bcdf8e08"), looks := true }, kinds := [], alts := [], laidByText := true, laidKinds := [.data, .data, .data, .data, .sentinel, .sentinel, .pinned], laidTests := true, laidLooks := .later }
def StrandDropsUptoCardSaid : Prop := Claim7.holds Tryz.pinned (.plain (OpenSpec.upto strandDropsSpec)) strandDropsUptoCard

/-- THE SECOND FORM's CARD OF 'heliographlaw07.StrandCuts'. -/
def strandCutsUptoCard : Claim7 := { stood := { row := strandCutsUptoRow, standIns := [], harness := (true, "7f6b0e856d0550668561e607e803d9228ac11092588cd794b5e64811bcdf8e08"), looks := true }, kinds := [], alts := [], laidByText := true, laidKinds := [.data, .data, .data, .data, .sentinel, .sentinel, .pinned], laidTests := true, laidLooks := .later }
def StrandCutsUptoCardSaid : Prop := Claim7.holds Tryz.pinned (.plain (OpenSpec.upto strandCutsSpec)) strandCutsUptoCard

/-- THE SECOND FORM's CARD OF 'heliographlaw07.StrandPuts'. -/
def strandPutsUptoCard : Claim7 := { stood := { row := strandPutsUptoRow, standIns := [], harness := (true, "7f6b0e856d0550668561e607e803d9228ac11092588cd794b5e64811bcdf8e08"), looks := true }, kinds := [], alts := [], laidByText := true, laidKinds := [.data, .data, .data, .data, .sentinel, .sentinel, .pinned], laidTests := true, laidLooks := .later }
def StrandPutsUptoCardSaid : Prop := Claim7.holds Tryz.pinned (.plain (OpenSpec.upto strandPutsSpec)) strandPutsUptoCard

/-- THE SECOND FORM's CARD OF 'heliographlaw07.StrandCleans'. -/
def strandCleansUptoCard : Claim7 := { stood := { row := strandCleansUptoRow, standIns := [], harness := (true, "7f6b0e856d0550668561e607e803d9228ac11092588cd794b5e64811bcdf8e08"), looks := true }, kinds := [], alts := [], laidByText := true, laidKinds := [.data, .data, .data, .data, .sentinel, .sentinel, .pinned], laidTests := true, laidLooks := .later }
def StrandCleansUptoCardSaid : Prop := Claim7.holds Tryz.pinned (.plain (OpenSpec.upto strandCleansSpec)) strandCleansUptoCard
end Rows
end Go.Proofs.YtcpaaleogmiamaaGreatDoor
