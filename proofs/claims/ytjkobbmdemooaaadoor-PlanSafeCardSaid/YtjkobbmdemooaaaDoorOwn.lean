/- Rows that the call owns. -/
import Derived.Test.YtjkobbmdemooaaaDoorBase2
namespace Go.Proofs.YtjkobbmdemooaaaDoor
open Go.RowKit

theorem owns_upd {w w' : World} {F : Nat → Prop} {base e size : Nat} {v : Value} {n : Nat} {xs : List Value} (h : w.ownsRow base e size v n xs) (hu : Upd F w w') (hF : ∀ g, v.ownBlock = some g → ¬ F g) :
    w'.ownsRow base e size v n xs := by
  refine ⟨h.1, ?_⟩
  rcases h.2 with h | ⟨g, cap, cur, rfl, h2, h3, h4⟩
  · exact .inl h
  · exact .inr ⟨g, cap, cur, rfl, h2, by rw [hu.block g (Array.getElem?_eq_some_iff.1 h3).1 (hF g rfl)]; exact h3, h4⟩

theorem owns_mono {w : World} {base base' e size : Nat} {v : Value} {n : Nat} {xs : List Value} (h : w.ownsRow base e size v n xs) (hb : base' ≤ base) : w.ownsRow base' e size v n xs := by
  refine ⟨h.1, ?_⟩
  rcases h.2 with h | ⟨g, cap, cur, rfl, h2, h3⟩
  · exact .inl h
  · exact .inr ⟨g, cap, cur, rfl, by omega, h3⟩

theorem upd_grown {w w' : World} {r : Option Nat} (h : w.grownBy w' r) : Upd (fun k => some k = r) w w' := ⟨h.os, h.tape, h.output, h.size, fun k hk hne => h.block k hk hne⟩

theorem owns_types {w : World} {b b' e e' s s' : Nat} {v v' : Value} {n n' : Nat} {xs xs' : List Value} (h : w.ownsRow b e s v n xs) (h' : w.ownsRow b' e' s' v' n' xs') (hne : e ≠ e') :
    ∀ g, v.ownBlock = some g → ¬ some g = v'.ownBlock := by
  intro g hg hx
  rcases h.2 with ⟨rfl, _⟩ | ⟨g1, cap, cur, rfl, _, h3, _⟩
  · cases hg
  · rcases h'.2 with ⟨rfl, _⟩ | ⟨g2, cap', cur', rfl, _, h3', _⟩
    · cases hx
    · simp only [Value.ownBlock, Option.some.injEq] at hg hx
      subst hg; subst hx
      rw [h3] at h3'
      simp at h3'
      exact hne h3'.2

theorem owns_lt {w : World} {base e size : Nat} {v : Value} {n : Nat} {xs : List Value} (h : w.ownsRow base e size v n xs) : ∀ g, v.ownBlock = some g → base ≤ g ∧ g < w.heap.size := by
  intro g hg
  rcases h.2 with ⟨rfl, _⟩ | ⟨g1, cap, cur, rfl, h2, h3, _⟩
  · cases hg
  · simp only [Value.ownBlock, Option.some.injEq] at hg
    subst hg
    exact ⟨h2, (Array.getElem?_eq_some_iff.1 h3).1⟩

end Go.Proofs.YtjkobbmdemooaaaDoor
