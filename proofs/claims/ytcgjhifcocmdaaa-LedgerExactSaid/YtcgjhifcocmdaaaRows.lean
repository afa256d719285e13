/-
  No cell of these rows narrows 'for every input' (looked for: loops, veiled, ifaces, maps, wideKeys, modest, calm, conditions, laid).
  DERIVED. THE GIVEN ROWS OF THIS SEAT. 4 by the template 'for every input the law returns true; each argument reads behind the call as it read before'; 0 by the template 'total and deterministic' (their statements: YtcgjhifcocmdaaaTotals.lean).
  GIVEN WITH THE SEED: the statements are not yours to turn. If you find one false, say at which input.
  Laid BY PROGRAM, IN A SANDBOX (cutbox-rows.mjs): the forced cells as the released guide's own fill.sh prints them over the translation ac8a7a237aec9de0… (all of the seat's roots in one cut). By AI agents, Wed Nov 11 2026. No macro, syntax, notation, axiom, sorry.
-/
import Derived.Test.YtcgjhifcocmdaaaChecked
import GoSem.Claim
import GoSem.ClaimJoined
import GoSem.ClaimMapViews
import Derived.JoinedTies
import Derived.KernelRfl
namespace Go.Proofs.Ytcgjhifcocmdaaa
/- THE CELL 'sum', in the pinned program and in every row, IS THE sha256 OF THE DUMP (.gsa) THAT YtcgjhifcocmdaaaProg.lean LOADS. Nothing in Lean hashes anything: it is a label: what it is worth is what the hold of that sum in a sandbox is worth. -/
noncomputable def Try.pinned : Pinned := { name := "ytcgjhifcocmdaaa", sum := "ac8a7a237aec9de07c67b47cd01098e791b3578da56076789c70e9d7520e8a68", checked := Try.checked }
namespace Rows
def none {H : Type} : Left H := { results := [], args := [] }

/-- 'heliographlaw06.LedgerOnce': WHATEVER THE INPUT: true; the input reads as it did. -/
def ledgerOnceSpec : ChangeSpec := { name := "ledgerOnce", fn := fun _ => fun
  | [d] => { results := [.lit (.bool true)], args := [d] }
  | _ => none }
def ledgerOnceRow : OpenClaim := { program := "ytcgjhifcocmdaaa", sum := "ac8a7a237aec9de07c67b47cd01098e791b3578da56076789c70e9d7520e8a68", func := "heliograph/heliographlaw06.LedgerOnce", spec := "ledgerOnce", unfollowed := true, recurses := true, apart := false }
def LedgerOnceSaid : Prop := ledgerOnceRow.holds Try.pinned (OpenSpec.ofChange ledgerOnceSpec)

/-- ITS FALSE NEIGHBOUR: 'it returns false'. Refute it at one input. -/
def ledgerOnceWrong : ChangeSpec := { name := "ledgerOnce", fn := fun _ => fun
  | [d] => { results := [.lit (.bool false)], args := [d] }
  | _ => none }
def LedgerOnceWrongFalsely : Prop := ledgerOnceRow.holds Try.pinned (OpenSpec.ofChange ledgerOnceWrong)

/-- 'heliographlaw06.LedgerApart': WHATEVER THE INPUT: true; the input reads as it did. -/
def ledgerApartSpec : ChangeSpec := { name := "ledgerApart", fn := fun _ => fun
  | [d1, d2] => { results := [.lit (.bool true)], args := [d1, d2] }
  | _ => none }
def ledgerApartRow : OpenClaim := { program := "ytcgjhifcocmdaaa", sum := "ac8a7a237aec9de07c67b47cd01098e791b3578da56076789c70e9d7520e8a68", func := "heliograph/heliographlaw06.LedgerApart", spec := "ledgerApart", unfollowed := true, recurses := true, apart := false }
def LedgerApartSaid : Prop := ledgerApartRow.holds Try.pinned (OpenSpec.ofChange ledgerApartSpec)

/-- ITS FALSE NEIGHBOUR: 'it returns false'. Refute it at one input. -/
def ledgerApartWrong : ChangeSpec := { name := "ledgerApart", fn := fun _ => fun
  | [d1, d2] => { results := [.lit (.bool false)], args := [d1, d2] }
  | _ => none }
def LedgerApartWrongFalsely : Prop := ledgerApartRow.holds Try.pinned (OpenSpec.ofChange ledgerApartWrong)

/-- 'heliographlaw06.LedgerExact': WHATEVER THE INPUT: true; the input reads as it did. -/
def ledgerExactSpec : ChangeSpec := { name := "ledgerExact", fn := fun _ => fun
  | [d1, d2, d3] => { results := [.lit (.bool true)], args := [d1, d2, d3] }
  | _ => none }
def ledgerExactRow : OpenClaim := { program := "ytcgjhifcocmdaaa", sum := "ac8a7a237aec9de07c67b47cd01098e791b3578da56076789c70e9d7520e8a68", func := "heliograph/heliographlaw06.LedgerExact", spec := "ledgerExact", unfollowed := true, recurses := true, apart := false }
def LedgerExactSaid : Prop := ledgerExactRow.holds Try.pinned (OpenSpec.ofChange ledgerExactSpec)

/-- ITS FALSE NEIGHBOUR: 'it returns false'. Refute it at one input. -/
def ledgerExactWrong : ChangeSpec := { name := "ledgerExact", fn := fun _ => fun
  | [d1, d2, d3] => { results := [.lit (.bool false)], args := [d1, d2, d3] }
  | _ => none }
def LedgerExactWrongFalsely : Prop := ledgerExactRow.holds Try.pinned (OpenSpec.ofChange ledgerExactWrong)

/-- 'heliographlaw06.LedgerTables': WHATEVER THE INPUT: true; the input reads as it did. -/
def ledgerTablesSpec : ChangeSpec := { name := "ledgerTables", fn := fun _ => fun
  | [d] => { results := [.lit (.bool true)], args := [d] }
  | _ => none }
def ledgerTablesRow : OpenClaim := { program := "ytcgjhifcocmdaaa", sum := "ac8a7a237aec9de07c67b47cd01098e791b3578da56076789c70e9d7520e8a68", func := "heliograph/heliographlaw06.LedgerTables", spec := "ledgerTables", unfollowed := true, recurses := true, apart := false }
def LedgerTablesSaid : Prop := ledgerTablesRow.holds Try.pinned (OpenSpec.ofChange ledgerTablesSpec)

/-- ITS FALSE NEIGHBOUR: 'it returns false'. Refute it at one input. -/
def ledgerTablesWrong : ChangeSpec := { name := "ledgerTables", fn := fun _ => fun
  | [d] => { results := [.lit (.bool false)], args := [d] }
  | _ => none }
def LedgerTablesWrongFalsely : Prop := ledgerTablesRow.holds Try.pinned (OpenSpec.ofChange ledgerTablesWrong)

/- THE SECOND FORM. 'bulk': how many values and letters a reading holds, each counted each time it is reached (what is shared counts as often as it is met; a slice's spare places count too). A statement '..UptoSaid' is the law's where the arguments, and the package variables that the reading takes, are together of bulk at most 1048576: NARROWER than '..Said'. Prove '..Said' where nothing that the law and all that it calls make is longer than what came in: it says more and counts as full. Else prove '..UptoSaid'. A law counts once. -/
mutual
def uptoBulk {H : Type} : DataW H → Nat
  | .lit (.string bytes) => bytes.length + 1
  | .lit _ => 1
  | .nil => 1
  | .ptr d => uptoBulk d + 1
  | .slice elems spare => uptoBulkAll elems + uptoBulkAll spare + 1
  | .agg parts => uptoBulkAll parts + 1
  | .iface _ d => uptoBulk d + 1
  | .map entries => uptoBulkEntries entries + 1
  | .held _ => 1
def uptoBulkAll {H : Type} : List (DataW H) → Nat
  | [] => 0
  | d :: r => uptoBulk d + uptoBulkAll r
def uptoBulkEntries {H : Type} : List (Lit × DataW H) → Nat
  | [] => 0
  | x :: r => uptoBulkEntry x + uptoBulkEntries r
def uptoBulkEntry {H : Type} : Lit × DataW H → Nat
  | (.string bytes, d) => bytes.length + uptoBulk d + 1
  | (_, d) => uptoBulk d + 1
 end
def uptoSmall : (H : Type) → List (DataW H) → Bool := fun _ ds => decide (uptoBulkAll ds ≤ 1048576)
def OpenSpec.upto (s : _root_.Go.ChangeSpec) : _root_.Go.OpenSpec := { _root_.Go.OpenSpec.ofChange s with cond := some uptoSmall }

/-- 'heliographlaw06.LedgerOnce', WHERE WHAT IT READS IS OF BULK AT MOST 1048576: true; the input reads as it did. -/
def ledgerOnceUptoRow : OpenClaim := { program := "ytcgjhifcocmdaaa", sum := "ac8a7a237aec9de07c67b47cd01098e791b3578da56076789c70e9d7520e8a68", func := "heliograph/heliographlaw06.LedgerOnce", spec := "ledgerOnce", unfollowed := true, recurses := true, apart := false, narrowed := true }
def LedgerOnceUptoSaid : Prop := ledgerOnceUptoRow.holds Try.pinned (OpenSpec.upto ledgerOnceSpec)

/-- 'heliographlaw06.LedgerApart', WHERE WHAT IT READS IS OF BULK AT MOST 1048576: true; the input reads as it did. -/
def ledgerApartUptoRow : OpenClaim := { program := "ytcgjhifcocmdaaa", sum := "ac8a7a237aec9de07c67b47cd01098e791b3578da56076789c70e9d7520e8a68", func := "heliograph/heliographlaw06.LedgerApart", spec := "ledgerApart", unfollowed := true, recurses := true, apart := false, narrowed := true }
def LedgerApartUptoSaid : Prop := ledgerApartUptoRow.holds Try.pinned (OpenSpec.upto ledgerApartSpec)

/-- 'heliographlaw06.LedgerExact', WHERE WHAT IT READS IS OF BULK AT MOST 1048576: true; the input reads as it did. -/
def ledgerExactUptoRow : OpenClaim := { program := "ytcgjhifcocmdaaa", sum := "ac8a7a237aec9de07c67b47cd01098e791b3578da56076789c70e9d7520e8a68", func := "heliograph/heliographlaw06.LedgerExact", spec := "ledgerExact", unfollowed := true, recurses := true, apart := false, narrowed := true }
def LedgerExactUptoSaid : Prop := ledgerExactUptoRow.holds Try.pinned (OpenSpec.upto ledgerExactSpec)

/-- 'heliographlaw06.LedgerTables', WHERE WHAT IT READS IS OF BULK AT MOST 1048576: true; the input reads as it did. -/
def ledgerTablesUptoRow : OpenClaim := { program := "ytcgjhifcocmdaaa", sum := "ac8a7a237aec9de07c67b47cd01098e791b3578da56076789c70e9d7520e8a68", func := "heliograph/heliographlaw06.LedgerTables", spec := "ledgerTables", unfollowed := true, recurses := true, apart := false, narrowed := true }
def LedgerTablesUptoSaid : Prop := ledgerTablesUptoRow.holds Try.pinned (OpenSpec.upto ledgerTablesSpec)

end Rows
end Go.Proofs.Ytcgjhifcocmdaaa
