/- What memory holds in LedgerTables' loop. -/
import Derived.Test.YtcgjhifcocmdaaaLedTp
namespace Go.Proofs.Ytcgjhifcocmdaaa
open Go.RowKit

structure TSt (N : Nat) (w : World) (L : List (Int × List Slot)) (bs : Nat → List Int) : Prop where
  led : LedAt w (.pointer (some ⟨N + 1, 0, none⟩)) N L
  nx : ∃ c : Array Value, w.heap[N + 2]? = some (.cells c 26 (0, 0)) ∧ c.size = 4 ∧ ∀ p, p < 4 → c[p]? = some (.int .i64 (bs p).length)

theorem TSt.start (w1 : World) : TSt w1.heap.size (((w1.alloc (.map #[] 0)).alloc (.cells #[.map (some w1.heap.size)] 62)).alloc (.cells #[.int .i64 0, .int .i64 0, .int .i64 0, .int .i64 0] 26)) [] (fun _ => []) := by
  refine ⟨(LedAt.fresh w1).below (below_alloc _ _), ⟨#[.int .i64 0, .int .i64 0, .int .i64 0, .int .i64 0], ?_, rfl, ?_⟩⟩
  · have := heap_alloc_new ((w1.alloc (.map #[] 0)).alloc (.cells #[.map (some w1.heap.size)] 62)) (.cells #[.int .i64 0, .int .i64 0, .int .i64 0, .int .i64 0] 26)
    simpa using this
  · intro p hp
    rcases (by omega : p = 0 ∨ p = 1 ∨ p = 2 ∨ p = 3) with rfl | rfl | rfl | rfl <;> rfl

theorem TSt.step {N : Nat} {w w' : World} {L L' : List (Int × List Slot)} {bs : Nat → List Int} (h : TSt N w L bs) (hu : Upd (fun k => k = N) w w')
    (hl : LedAt w' (.pointer (some ⟨N + 1, 0, none⟩)) N L') : TSt N w' L' bs := by
  obtain ⟨_, ⟨c, h1, h2, h3⟩⟩ := h
  refine ⟨hl, ⟨c, ?_, h2, h3⟩⟩
  rw [hu.block _ (Array.getElem?_eq_some_iff.1 h1).1 (by omega)]; exact h1

theorem TSt.below {N : Nat} {w w' : World} {L : List (Int × List Slot)} {bs : Nat → List Int} (h : TSt N w L bs) (hb : Below w.heap.size w w') : TSt N w' L bs :=
  h.step (.of_below hb) (h.led.below hb)

theorem TSt.took {N : Nat} {w : World} {L : List (Int × List Slot)} {bs : Nat → List Int} (h : TSt N w L bs) {p : Nat} (hp : p < 4) (e : Int) :
    TSt N (w.setCell ⟨N + 2, p, none⟩ (.int .i64 ((bs p).length + 1))) L (updf bs p (bs p ++ [e])) := by
  obtain ⟨hl, ⟨c, h1, h2, h3⟩⟩ := h
  have hu := upd_setCell (F := fun k => k = N + 2) (Upd.refl _ w) (o := p) (b := N + 2) rfl (.int .i64 ((bs p).length + 1))
  refine ⟨hl.keptT hu (by omega) (by omega) ?_, ⟨_, setCell_same h1, by simp [h2], ?_⟩⟩
  · rintro k cur fz hb rfl
    rw [h1] at hb; simp at hb
  · intro q hq
    by_cases e1 : q = p
    · subst e1; simp [updf, h2, hq]
    · simp only [updf, e1, if_false]
      rw [Array.getElem?_setIfInBounds_ne (Ne.symm e1)]
      exact h3 q hq

theorem TSt.cell {N : Nat} {w : World} {L : List (Int × List Slot)} {bs : Nat → List Int} (h : TSt N w L bs) {p : Nat} (hp : p < 4) : w.cell? ⟨N + 2, p, none⟩ = some (.int .i64 (bs p).length) := by
  obtain ⟨_, ⟨c, h1, h2, h3⟩⟩ := h
  rw [cell_of_row w _ _ _ _ _ h1]
  exact h3 p hp

theorem TSt.unfrozen {N : Nat} {w : World} {L : List (Int × List Slot)} {bs : Nat → List Int} (h : TSt N w L bs) (p : Nat) : w.frozen? ⟨N + 2, p, none⟩ = false := by
  obtain ⟨_, ⟨c, h1, h2, h3⟩⟩ := h
  simp [World.frozen?, h1]

theorem OnceInv.mono {L : List (Int × List Slot)} {bs : Nat → List Int} {e e' : Int} (h : OnceInv L bs e) (he : e ≤ e') : OnceInv L bs e' :=
  ⟨h.rows, fun p hp b hb => ⟨(h.ends p hp b hb).1, Int.le_trans (h.ends p hp b hb).2 he⟩, h.keys⟩
end Go.Proofs.Ytcgjhifcocmdaaa
