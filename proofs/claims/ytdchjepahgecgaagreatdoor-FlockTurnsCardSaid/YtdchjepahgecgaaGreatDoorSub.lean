/- Parts of a function's text, taken out by their numbers. -/
import Derived.Test.YtdchjepahgecgaaGreatDoorProg
namespace Go.Proofs.YtdchjepahgecgaaGreatDoor

/-- The region of this number in a function's text. -/
def subR (n : Nat) : Code → Option Code
  | .region i o d => if i = n then some (.region i o d) else none
  | .seq a b => match subR n a with
    | some c => some c
    | none => subR n b
  | .cond _ a b => match subR n a with
    | some c => some c
    | none => subR n b
  | .block _ b => subR n b
  | .loop b => subR n b
  | _ => none
/-- The block of this number. -/
def subB (n : Nat) : Code → Option Code
  | .seq a b => match subB n a with
    | some c => some c
    | none => subB n b
  | .cond _ a b => match subB n a with
    | some c => some c
    | none => subB n b
  | .block i b => if i = n then some (.block i b) else subB n b
  | .loop b => subB n b
  | _ => none
/-- The branch of the test on this slot: what is done if it holds. -/
def subC (n : Nat) : Code → Option Code
  | .seq a b => match subC n a with
    | some c => some c
    | none => subC n b
  | .cond (.tmp k) a b => if k = n then some a else match subC n a with
    | some c => some c
    | none => subC n b
  | .cond _ a b => match subC n a with
    | some c => some c
    | none => subC n b
  | .block _ b => subC n b
  | .loop b => subC n b
  | _ => none
end Go.Proofs.YtdchjepahgecgaaGreatDoor
