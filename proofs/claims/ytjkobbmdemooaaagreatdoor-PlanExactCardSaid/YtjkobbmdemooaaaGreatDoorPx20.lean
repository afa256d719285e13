/- Plain words of plan.boot. -/
import Derived.Test.YtjkobbmdemooaaaGreatDoorPx18
namespace Go.Proofs.YtjkobbmdemooaaaGreatDoor

def bootL (L : List (Int × Int)) (x : Int × Int) : List (Int × Int) := if hasLife L x.1 then L.set (lifeAt L x.1) x else L.take (lifeAt L x.1) ++ x :: L.drop (lifeAt L x.1)
def holdsB (n : Int) (y : Pt) : Bool := decide (y.learner = n) || y.chain.contains n

end Go.Proofs.YtjkobbmdemooaaaGreatDoor
