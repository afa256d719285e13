/- A plan whose words lie above a mark: it is read whatever is written below. -/
import Derived.Test.YtjkobbmdemooaaaGreatDoorPlO
namespace Go.Proofs.YtjkobbmdemooaaaGreatDoor
open Go.RowKit

def PlanFrom (w : World) (N : Nat) (v : Value) (p : Pl) : Prop := ∀ (F : Nat → Prop) (W : World), (∀ k, F k → k < N) → Upd F w W → PlanRd W v p

theorem PlanFrom.rd {w : World} {N : Nat} {v : Value} {p : Pl} (h : PlanFrom w N v p) : PlanRd w v p := h (fun _ => False) w (fun _ h => h.elim) (Upd.refl _ _)

theorem PlanFrom.below {w w' : World} {N : Nat} {v : Value} {p : Pl} (h : PlanFrom w N v p) (hb : Below w.heap.size w w') : PlanFrom w' N v p :=
  fun F W hF hu => h F W hF (((Upd.of_below (F := F) hb)).trans hu)

theorem PlanFrom.mono {w : World} {N N' : Nat} {v : Value} {p : Pl} (h : PlanFrom w N v p) (hn : N' ≤ N) : PlanFrom w N' v p :=
  fun F W hF hu => h F W (fun k hk => by have := hF k hk; omega) hu

theorem PlanFrom.upd {w w' : World} {F : Nat → Prop} {N : Nat} {v : Value} {p : Pl} (h : PlanFrom w N v p) (hu : Upd F w w') (hF : ∀ k, F k → k < N) : PlanFrom w' N v p :=
  fun G W hG hu2 => h (fun k => F k ∨ G k) W (fun k hk => hk.elim (hF k) (hG k)) ((hu.mono (fun _ _ h => .inl h)).trans (hu2.mono (fun _ _ h => .inr h)))

/-- Parts and lives that the call owns. -/
theorem PlanFrom.of_owns {w : World} {N : Nat} {p : Pl} {pa la : Option Addr} {pc lc : Nat} {m : List (Value × Pt)} (h : OwnP w N (.slice pa p.parts.length pc) m) (he : m.map (·.2) = p.parts)
    (hl : w.ownsRow N 81 2 (.slice la p.lives.length lc) p.lives.length (lifeCells p.lives)) : PlanFrom w N (planV p pa pc la lc) p := by
  intro F W hF hu
  have h2 := h.low hu hF
  have hl2 := owns_upd hl hu (fun g hg hf => by have := (owns_lt hl g hg).1; have := hF g hf; omega)
  exact ⟨_, _, rfl, by have := h2.rd; rw [he] at this; exact this, LivesRd.of_owns hl2⟩

theorem PlanFrom.zero (w : World) (N : Nat) : PlanFrom w N (.agg #[.int .i64 0, .int .i64 0, .slice none 0 0, .slice none 0 0]) .zero :=
  fun _ _ _ _ => ⟨_, _, rfl, ⟨[], rfl, ⟨rfl, .inl ⟨rfl, rfl⟩⟩, by simp⟩, ⟨rfl, .inl ⟨rfl, rfl⟩⟩⟩

theorem PlanOwn.toFrom {w : World} {N pb : Nat} {p : Pl} {pa : Option Addr} {pc : Nat} {la : Option Addr} {lc : Nat} {m : List (Value × Pt)} (h : PlanOwn w N pb p pa pc la lc m) : PlanFrom w N (planV p pa pc la lc) p :=
  PlanFrom.of_owns h.parts h.eq h.lives
end Go.Proofs.YtjkobbmdemooaaaGreatDoor
