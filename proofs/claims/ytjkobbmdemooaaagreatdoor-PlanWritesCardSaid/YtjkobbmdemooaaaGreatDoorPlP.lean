/- Plan in plain words: what an event does to a plan. -/
import Derived.Test.YtjkobbmdemooaaaGreatDoorPlB0
import Derived.Test.YtjkobbmdemooaaaGreatDoorPlG2
import Derived.Test.YtjkobbmdemooaaaGreatDoorPlN
import Derived.Test.YtjkobbmdemooaaaGreatDoorPlC2
namespace Go.Proofs.YtjkobbmdemooaaaGreatDoor

def deadB (n : Int) (y : Pt) : Bool := decide (y.learner = n) || (decide (0 ≤ idx y.chain n) && decide (1 < y.chain.length))
def deadX (n : Int) (y : Pt) : Pt :=
  if y.learner = n then ⟨y.epoch, y.chain, 0⟩
  else if 0 ≤ idx y.chain n ∧ 1 < y.chain.length then ⟨y.epoch, y.chain.eraseIdx (idx y.chain n).toNat, y.learner⟩ else y

def atP (P : List Pt) (i : Int) : Pt := P.getD i.toNat ⟨0, [], 0⟩

def changeP (p : Pl) (x : Event) : Pl × List Int × Int :=
  if x.kind = 1 then
    if x.n ≤ lifeP p.lives x.node then (p, [], 21) else (⟨p.nodes, p.copies, p.parts, bootL p.lives (x.node, x.n)⟩, placesB (holdsB x.node) p.parts, 0)
  else if x.kind = 2 then
    if placesB (deadB x.node) p.parts = [] then (p, [], 21) else (⟨p.nodes, p.copies, p.parts.map (deadX x.node), p.lives⟩, placesB (deadB x.node) p.parts, 0)
  else if x.kind = 3 then
    if (atP p.parts x.part).epoch = x.n ∧ (atP p.parts x.part).learner = x.node then
      (⟨p.nodes, p.copies, p.parts.set x.part.toNat ⟨(atP p.parts x.part).epoch, (atP p.parts x.part).chain ++ [x.node], 0⟩, p.lives⟩, [x.part], 0)
    else (p, [], 21)
  else if x.kind = 5 then
    if lifeP p.lives x.node = 0 ∨ (wantsP p x.node).contains x.part = false then (p, [], 21)
    else (⟨p.nodes, p.copies, p.parts.set x.part.toNat ⟨(atP p.parts x.part).epoch, (atP p.parts x.part).chain, x.node⟩, p.lives⟩, [x.part], 0)
  else if 4 ≤ p.parts.length then (p, [], 32)
  else (⟨p.nodes, p.copies, p.parts ++ [placeP p.parts.length p.nodes.toNat p.copies.toNat], p.lives⟩, [(p.parts.length : Int)], 0)

def bumpP : List Pt → List Int → Option (List Pt)
  | P, [] => some P
  | P, i :: t => if 1073741824 < (atP P i).epoch + 1 then none else bumpP (P.set i.toNat ⟨(atP P i).epoch + 1, (atP P i).chain, (atP P i).learner⟩) t

def canB (p : Pl) (x : Event) : Bool := goodP p && (eventB x && (decide (x.node ≤ p.nodes) && decide (x.part < (p.parts.length : Int))))

def applyP (p : Pl) (x : Event) : Pl × List Int × Int :=
  if canB p x = false then (.zero, [], 1)
  else if (changeP p x).2.2 ≠ 0 then (.zero, [], (changeP p x).2.2)
  else if x.kind = 4 then changeP p x
  else match bumpP (changeP p x).1.parts (changeP p x).2.1 with
    | some Q => (⟨(changeP p x).1.nodes, (changeP p x).1.copies, Q, (changeP p x).1.lives⟩, (changeP p x).2.1, 0)
    | none => (.zero, [], 32)

theorem atP_lt {P : List Pt} {j : Nat} (h : j < P.length) : atP P (j : Int) = P[j] := by simp [atP, h]

theorem short_of {l : List Int} : ∀ (N : Nat), l.Nodup → (∀ x ∈ l, 1 ≤ x ∧ x ≤ (N : Int)) → l.length ≤ N := by
  intro N
  induction N generalizing l with
  | zero =>
    intro _ h
    cases l with
    | nil => simp
    | cons x l => have := h x (by simp); omega
  | succ N ih =>
    intro hn h
    have h1 : (l.erase ((N + 1 : Nat) : Int)).length ≤ N := by
      refine ih (hn.erase _) (fun x hx => ?_)
      have hm := (List.Nodup.mem_erase_iff hn).1 hx
      have := h x hm.2
      have := hm.1
      omega
    have h2 := List.length_erase (a := ((N + 1 : Nat) : Int)) (l := l)
    split at h2 <;> omega

theorem goodP_iff {p : Pl} : goodP p = true ↔ (1 ≤ p.nodes ∧ p.nodes ≤ 5) ∧ (1 ≤ p.copies ∧ p.copies ≤ p.nodes) ∧ (2 ≤ (p.parts.length : Int) ∧ (p.parts.length : Int) ≤ 4) ∧ (∀ x ∈ p.parts, isPlaceB x p.nodes = true) ∧ (∀ x ∈ p.lives, lifeOk p.nodes x = true) ∧ Rising p.lives := by
  simp [goodP, inB_iff, and_assoc]

theorem isPlaceB_iff {x : Pt} {nodes : Int} : isPlaceB x nodes = true ↔ (∀ n ∈ x.chain, 1 ≤ n ∧ n ≤ nodes) ∧ x.chain.Nodup ∧ (1 ≤ x.epoch ∧ x.epoch ≤ 1073741824) ∧ 0 < x.chain.length ∧ (0 ≤ x.learner ∧ x.learner ≤ nodes) ∧ x.learner ∉ x.chain := by
  simp [isPlaceB, inB_iff, and_assoc]

theorem small_of_good {p : Pl} (h : goodP p = true) : SmallP p ∧ (∀ x ∈ p.parts, x.chain.length ≤ 5) ∧ p.lives.length ≤ 5 := by
  obtain ⟨h1, h2, h3, h4, h5, h6⟩ := goodP_iff.1 h
  have hc : ∀ x ∈ p.parts, x.chain.length ≤ 5 := by
    intro x hx
    obtain ⟨q1, q2, -⟩ := isPlaceB_iff.1 (h4 x hx)
    exact short_of 5 q2 (fun n hn => by have := q1 n hn; omega)
  have hl : p.lives.length ≤ 5 := by
    have hn : (p.lives.map (·.1)).Nodup := by
      rw [List.nodup_iff_pairwise_ne, List.pairwise_map]
      exact h6.imp (fun h => by omega)
    have := short_of 5 hn (fun n hn => by
      obtain ⟨x, hx, rfl⟩ := List.mem_map.1 hn
      have := h5 x hx
      simp [lifeOk, inB_iff] at this
      omega)
    simpa using this
  exact ⟨⟨by omega, by omega, fun x hx => by have := hc x hx; omega⟩, hc, hl⟩
end Go.Proofs.YtjkobbmdemooaaaGreatDoor
