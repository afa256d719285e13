/-
  DERIVED. GIVEN WITH THE SEED: THE CARDS: each row of YtjkobbmdemooaaaGreatDoorRows.lean that lists a variable, with what it lists TIED to the program's text (the seventh form; the later family's looks); each row that meets fmt, with fmt's text TOLD by the authors' own Lean function (tested against real Go, not proved from fmt's source: count such statements apart). THE CARD IS WHAT COUNTS. Prove the row's statement (the work); the ties are given (YtjkobbmdemooaaaGreatDoorTie.lean); close each card by the builder's one call (the guide's Derived/Test/ToyasCard.lean, 'card_holds'). Laid BY PROGRAM, IN A SANDBOX (cutbox-door.mjs). By AI agents, Wed Nov 11 2026. No macro, syntax, notation, axiom, sorry.
-/
import Derived.Test.YtjkobbmdemooaaaGreatDoorRows
import GoSem.ClaimSeven
namespace Go.Proofs.YtjkobbmdemooaaaGreatDoor
namespace Rows

/-- THE TIED CARD OF 'heliographlaw12.PlanExact'. -/
def planExactCard : Claim7 := { stood := { row := planExactRow, standIns := [], harness := (true, "4581293f752d771538a5ab635250aaf6e026629627802ff7d8f6965b258771e6"), looks := true }, kinds := [], alts := [], laidByText := true, laidKinds := [.data, .data, .data, .sentinel, .sentinel], laidTests := true, laidLooks := .later }
def PlanExactCardSaid : Prop := Claim7.holds Tryz.pinned (.plain (OpenSpec.ofChange planExactSpec)) planExactCard

/-- THE TIED CARD OF 'heliographlaw12.PlanWrites'. -/
def planWritesCard : Claim7 := { stood := { row := planWritesRow, standIns := [], harness := (true, "4581293f752d771538a5ab635250aaf6e026629627802ff7d8f6965b258771e6"), looks := true }, kinds := [], alts := [], laidByText := true, laidKinds := [.data, .data, .data, .sentinel, .sentinel], laidTests := true, laidLooks := .later }
def PlanWritesCardSaid : Prop := Claim7.holds Tryz.pinned (.plain (OpenSpec.ofChange planWritesSpec)) planWritesCard

/-- THE TIED CARD OF 'heliographlaw06.LedgerWrites'. -/
def ledgerWritesCard : Claim7 := { stood := { row := ledgerWritesRow, standIns := [], harness := (true, "4581293f752d771538a5ab635250aaf6e026629627802ff7d8f6965b258771e6"), looks := true }, kinds := [], alts := [], laidByText := true, laidKinds := [.data, .data, .data, .sentinel, .sentinel], laidTests := true, laidLooks := .later }
def LedgerWritesCardSaid : Prop := Claim7.holds Tryz.pinned (.plain (OpenSpec.ofChange ledgerWritesSpec)) ledgerWritesCard

/-- THE TIED CARD OF 'heliographlaw06.LedgerBack'. -/
def ledgerBackCard : Claim7 := { stood := { row := ledgerBackRow, standIns := [], harness := (true, "4581293f752d771538a5ab635250aaf6e026629627802ff7d8f6965b258771e6"), looks := true }, kinds := [], alts := [], laidByText := true, laidKinds := [.data, .data, .data, .sentinel, .sentinel], laidTests := true, laidLooks := .later }
def LedgerBackCardSaid : Prop := Claim7.holds Tryz.pinned (.plain (OpenSpec.ofChange ledgerBackSpec)) ledgerBackCard

/-- THE SECOND FORM's CARD OF 'heliographlaw12.PlanExact'. -/
def planExactUptoCard : Claim7 := { stood := { row := planExactUptoRow, standIns := [], harness := (true, "4581293f752d771538a5ab635250aaf6e026629627802ff7d8f6965b258771e6"), looks := true }, kinds := [], alts := [], laidByText := true, laidKinds := [.data, .data, .data, .sentinel, .sentinel], laidTests := true, laidLooks := .later }
def PlanExactUptoCardSaid : Prop := Claim7.holds Tryz.pinned (.plain (OpenSpec.upto planExactSpec)) planExactUptoCard

/-- THE SECOND FORM's CARD OF 'heliographlaw12.PlanWrites'. -/
def planWritesUptoCard : Claim7 := { stood := { row := planWritesUptoRow, standIns := [], harness := (true, "4581293f752d771538a5ab635250aaf6e026629627802ff7d8f6965b258771e6"), looks := true }, kinds := [], alts := [], laidByText := true, laidKinds := [.data, .data, .data, .sentinel, .sentinel], laidTests := true, laidLooks := .later }
def PlanWritesUptoCardSaid : Prop := Claim7.holds Tryz.pinned (.plain (OpenSpec.upto planWritesSpec)) planWritesUptoCard

/-- THE SECOND FORM's CARD OF 'heliographlaw06.LedgerWrites'. -/
def ledgerWritesUptoCard : Claim7 := { stood := { row := ledgerWritesUptoRow, standIns := [], harness := (true, "4581293f752d771538a5ab635250aaf6e026629627802ff7d8f6965b258771e6"), looks := true }, kinds := [], alts := [], laidByText := true, laidKinds := [.data, .data, .data, .sentinel, .sentinel], laidTests := true, laidLooks := .later }
def LedgerWritesUptoCardSaid : Prop := Claim7.holds Tryz.pinned (.plain (OpenSpec.upto ledgerWritesSpec)) ledgerWritesUptoCard

/-- THE SECOND FORM's CARD OF 'heliographlaw06.LedgerBack'. -/
def ledgerBackUptoCard : Claim7 := { stood := { row := ledgerBackUptoRow, standIns := [], harness := (true, "4581293f752d771538a5ab635250aaf6e026629627802ff7d8f6965b258771e6"), looks := true }, kinds := [], alts := [], laidByText := true, laidKinds := [.data, .data, .data, .sentinel, .sentinel], laidTests := true, laidLooks := .later }
def LedgerBackUptoCardSaid : Prop := Claim7.holds Tryz.pinned (.plain (OpenSpec.upto ledgerBackSpec)) ledgerBackUptoCard
end Rows
end Go.Proofs.YtjkobbmdemooaaaGreatDoor
