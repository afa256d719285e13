/-
  DERIVED. GIVEN WITH THE SEED: THE CARDS: each row of YtjkobbmdemooaaaDoorRows.lean that lists a variable, with what it lists TIED to the program's text (the seventh form; the later family's looks); each row that meets fmt, with fmt's text TOLD by the authors' own Lean function (tested against real Go, not proved from fmt's source: count such statements apart). THE CARD IS WHAT COUNTS. Prove the row's statement (the work); the ties are given (YtjkobbmdemooaaaDoorTie.lean); close each card by the builder's one call (the guide's Derived/Test/ToyasCard.lean, 'card_holds'). Laid BY PROGRAM, IN A SANDBOX (cutbox-door.mjs). By AI agents, Wed Nov 11 2026. No macro, syntax, notation, axiom, sorry.
-/
import Derived.Test.YtjkobbmdemooaaaDoorRows
import GoSem.ClaimSeven
namespace Go.Proofs.YtjkobbmdemooaaaDoor
namespace Rows

/-- THE TIED CARD OF 'heliographlaw12.PlanSafe'. -/
def planSafeCard : Claim7 := { stood := { row := planSafeRow, standIns := [], harness := (true, "1647b3fa3342109400221ea2debd6bd3592928dc9cbe178f156e9367f5e10761"), looks := true }, kinds := [], alts := [], laidByText := true, laidKinds := [.data, .data, .data, .sentinel, .sentinel], laidTests := true, laidLooks := .later }
def PlanSafeCardSaid : Prop := Claim7.holds Tryd.pinned (.plain (OpenSpec.ofChange planSafeSpec)) planSafeCard

/-- THE TIED CARD OF 'heliographlaw12.PlanBack'. -/
def planBackCard : Claim7 := { stood := { row := planBackRow, standIns := [], harness := (true, "1647b3fa3342109400221ea2debd6bd3592928dc9cbe178f156e9367f5e10761"), looks := true }, kinds := [], alts := [], laidByText := true, laidKinds := [.data, .data, .data, .sentinel, .sentinel], laidTests := true, laidLooks := .later }
def PlanBackCardSaid : Prop := Claim7.holds Tryd.pinned (.plain (OpenSpec.ofChange planBackSpec)) planBackCard

/-- THE TIED CARD OF 'heliographlaw12.PlanBrings'. -/
def planBringsCard : Claim7 := { stood := { row := planBringsRow, standIns := [], harness := (true, "1647b3fa3342109400221ea2debd6bd3592928dc9cbe178f156e9367f5e10761"), looks := true }, kinds := [], alts := [], laidByText := true, laidKinds := [.data, .data, .data, .sentinel, .sentinel], laidTests := true, laidLooks := .later }
def PlanBringsCardSaid : Prop := Claim7.holds Tryd.pinned (.plain (OpenSpec.ofChange planBringsSpec)) planBringsCard

/-- THE TIED CARD OF 'heliographlaw12.PlanLeaves'. -/
def planLeavesCard : Claim7 := { stood := { row := planLeavesRow, standIns := [], harness := (true, "1647b3fa3342109400221ea2debd6bd3592928dc9cbe178f156e9367f5e10761"), looks := true }, kinds := [], alts := [], laidByText := true, laidKinds := [.data, .data, .data, .sentinel, .sentinel], laidTests := true, laidLooks := .later }
def PlanLeavesCardSaid : Prop := Claim7.holds Tryd.pinned (.plain (OpenSpec.ofChange planLeavesSpec)) planLeavesCard

/-- THE TIED CARD OF 'heliographlaw12.PlanKeeps'. -/
def planKeepsCard : Claim7 := { stood := { row := planKeepsRow, standIns := [], harness := (true, "1647b3fa3342109400221ea2debd6bd3592928dc9cbe178f156e9367f5e10761"), looks := true }, kinds := [], alts := [], laidByText := true, laidKinds := [.data, .data, .data, .sentinel, .sentinel], laidTests := true, laidLooks := .later }
def PlanKeepsCardSaid : Prop := Claim7.holds Tryd.pinned (.plain (OpenSpec.ofChange planKeepsSpec)) planKeepsCard

/-- THE SECOND FORM's CARD OF 'heliographlaw12.PlanSafe'. -/
def planSafeUptoCard : Claim7 := { stood := { row := planSafeUptoRow, standIns := [], harness := (true, "1647b3fa3342109400221ea2debd6bd3592928dc9cbe178f156e9367f5e10761"), looks := true }, kinds := [], alts := [], laidByText := true, laidKinds := [.data, .data, .data, .sentinel, .sentinel], laidTests := true, laidLooks := .later }
def PlanSafeUptoCardSaid : Prop := Claim7.holds Tryd.pinned (.plain (OpenSpec.upto planSafeSpec)) planSafeUptoCard

/-- THE SECOND FORM's CARD OF 'heliographlaw12.PlanBack'. -/
def planBackUptoCard : Claim7 := { stood := { row := planBackUptoRow, standIns := [], harness := (true, "1647b3fa3342109400221ea2debd6bd3592928dc9cbe178f156e9367f5e10761"), looks := true }, kinds := [], alts := [], laidByText := true, laidKinds := [.data, .data, .data, .sentinel, .sentinel], laidTests := true, laidLooks := .later }
def PlanBackUptoCardSaid : Prop := Claim7.holds Tryd.pinned (.plain (OpenSpec.upto planBackSpec)) planBackUptoCard

/-- THE SECOND FORM's CARD OF 'heliographlaw12.PlanBrings'. -/
def planBringsUptoCard : Claim7 := { stood := { row := planBringsUptoRow, standIns := [], harness := (true, "1647b3fa3342109400221ea2debd6bd3592928dc9cbe178f156e9367f5e10761"), looks := true }, kinds := [], alts := [], laidByText := true, laidKinds := [.data, .data, .data, .sentinel, .sentinel], laidTests := true, laidLooks := .later }
def PlanBringsUptoCardSaid : Prop := Claim7.holds Tryd.pinned (.plain (OpenSpec.upto planBringsSpec)) planBringsUptoCard

/-- THE SECOND FORM's CARD OF 'heliographlaw12.PlanLeaves'. -/
def planLeavesUptoCard : Claim7 := { stood := { row := planLeavesUptoRow, standIns := [], harness := (true, "1647b3fa3342109400221ea2debd6bd3592928dc9cbe178f156e9367f5e10761"), looks := true }, kinds := [], alts := [], laidByText := true, laidKinds := [.data, .data, .data, .sentinel, .sentinel], laidTests := true, laidLooks := .later }
def PlanLeavesUptoCardSaid : Prop := Claim7.holds Tryd.pinned (.plain (OpenSpec.upto planLeavesSpec)) planLeavesUptoCard

/-- THE SECOND FORM's CARD OF 'heliographlaw12.PlanKeeps'. -/
def planKeepsUptoCard : Claim7 := { stood := { row := planKeepsUptoRow, standIns := [], harness := (true, "1647b3fa3342109400221ea2debd6bd3592928dc9cbe178f156e9367f5e10761"), looks := true }, kinds := [], alts := [], laidByText := true, laidKinds := [.data, .data, .data, .sentinel, .sentinel], laidTests := true, laidLooks := .later }
def PlanKeepsUptoCardSaid : Prop := Claim7.holds Tryd.pinned (.plain (OpenSpec.upto planKeepsSpec)) planKeepsUptoCard
end Rows
end Go.Proofs.YtjkobbmdemooaaaDoor
