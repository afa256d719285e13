/- The plain law behind LedgerApart: what Add does hangs on the producer's own row alone. -/
import Derived.Test.YtcgjhifcocmdaaaLedL0
namespace Go.Proofs.Ytcgjhifcocmdaaa
open Go.RowKit

/-- What Add does to a row, where there is room for another producer. -/
def addR (row : List Slot) (b : Batch) : List Slot × Int :=
  if goodB b then
    if (checkS row b.prod b.seq).2 = 0 then
      if row ≠ [] ∧ b.base < lastFin row then (row, 20)
      else (last5 (row ++ [⟨b.seq, b.base, b.base + b.count⟩]), 0)
    else (row, (checkS row b.prod b.seq).2)
  else (row, 1)

theorem addS_row {L : List (Int × List Slot)} (b : Batch) (h : L.length < 64) :
    (addS L b).2 = (addR (rowOf L b.prod) b).2 ∧ ∀ q, rowOf (addS L b).1 q = if b.prod = q then (addR (rowOf L b.prod) b).1 else rowOf L q := by
  unfold addS addR
  by_cases h1 : goodB b = true
  · simp only [h1, if_true]
    by_cases h2 : (checkS (rowOf L b.prod) b.prod b.seq).2 = 0
    · simp only [h2, if_true]
      by_cases h3 : rowOf L b.prod ≠ [] ∧ b.base < lastFin (rowOf L b.prod)
      · rw [if_pos h3, if_pos h3]
        refine ⟨rfl, fun q => ?_⟩
        by_cases e : b.prod = q
        · rw [if_pos e, ← e]
        · rw [if_neg e]
      · rw [if_neg h3, if_neg h3, if_neg (by rintro ⟨_, h4⟩; omega)]
        exact ⟨rfl, fun q => rowOf_putL _ _ _ _⟩
    · simp only [h2, if_false]
      refine ⟨trivial, fun q => ?_⟩
      by_cases e : b.prod = q
      · rw [if_pos e, ← e]
      · rw [if_neg e]
  · have h1 : goodB b = false := by simpa using h1
    simp only [h1, Bool.false_eq_true, if_false]
    refine ⟨trivial, fun q => ?_⟩
    by_cases e : b.prod = q
    · rw [if_pos e, ← e]
    · rw [if_neg e]

theorem addS_mem {L : List (Int × List Slot)} {b : Batch} {x : Int × List Slot} (h : x ∈ (addS L b).1) : x.1 = b.prod ∨ x ∈ L := by
  unfold addS at h
  split at h
  · split at h
    · split at h
      · exact .inr h
      · split at h
        · exact .inr h
        · rcases putL_mem h with rfl | h
          · exact .inl rfl
          · exact .inr h
    · exact .inr h
  · exact .inr h

/-- Its producers are 0 to 3. -/
def Few (L : List (Int × List Slot)) : Prop := ∀ x ∈ L, 0 ≤ x.1 ∧ x.1 < 4

theorem Few.len {L : List (Int × List Slot)} (h : Few L) (hn : (L.map (·.1)).Nodup) : L.length ≤ 4 := by
  have := nodup_le 4 (L.map (·.1)) hn (by
    intro x hx
    obtain ⟨y, hy, rfl⟩ := List.mem_map.1 hx
    have := h y hy
    exact ⟨this.1, by omega⟩)
  simpa using this

theorem Few.add {L : List (Int × List Slot)} (h : Few L) {p : Nat} (hp : p < 4) (s b : Int) : Few (addS L (bat p s b)).1 := by
  intro x hx
  rcases addS_mem hx with e | hx
  · have : x.1 = (p : Int) := e
    omega
  · exact h x hx

structure Two (w : World) (N : Nat) (l k : List (Int × List Slot)) (who : Nat) : Prop where
  atl : LedAt w (.pointer (some ⟨N + 1, 0, none⟩)) N l
  atk : LedAt w (.pointer (some ⟨N + 3, 0, none⟩)) (N + 2) k
  fl : Few l
  fk : Few k
  row : rowOf l who = rowOf k who

theorem MapIs.not_cells {w : World} {B : Nat} {m : List (Int × Value)} (h : MapIs w B m) : ∀ k cur T fz, w.heap[k]? = some (.cells cur T fz) → ¬ k = B := by
  rintro k cur T fz hb rfl
  obtain ⟨_, _, hb', _⟩ := h
  rw [hb] at hb'; cases hb'

theorem Two.below {w w' : World} {N : Nat} {l k : List (Int × List Slot)} {who : Nat} (h : Two w N l k who) (hb : Below w.heap.size w w') : Two w' N l k who :=
  ⟨h.atl.below hb, h.atk.below hb, h.fl, h.fk, h.row⟩

/-- One batch of another producer, for l alone. -/
theorem Two.other {w w' : World} {N : Nat} {l k : List (Int × List Slot)} {who p : Nat} {s b : Int} (h : Two w N l k who) (hp : p < 4) (hne : p ≠ who)
    (hu : Upd (fun k => k = N) w w') (hl : LedAt w' (.pointer (some ⟨N + 1, 0, none⟩)) N (addS l (bat p s b)).1) : Two w' N (addS l (bat p s b)).1 k who := by
  have hm := h.atl.ptr
  obtain ⟨_, m, _, _, _, hm, _⟩ := hm
  refine ⟨hl, h.atk.kept hu (by omega) hm.not_cells, h.fl.add hp s b, h.fk, ?_⟩
  have hlen := h.fl.len h.atl.nodup
  rw [(addS_row (bat p s b) (by omega)).2 who, if_neg (by show ¬ ((p : Int) = who); omega)]
  exact h.row

/-- One batch of who, for both. -/
theorem Two.both {w w' w'' : World} {N : Nat} {l k : List (Int × List Slot)} {who : Nat} {s b : Int} (h : Two w N l k who) (hp : who < 4)
    (hu : Upd (fun k => k = N) w w') (hl : LedAt w' (.pointer (some ⟨N + 1, 0, none⟩)) N (addS l (bat who s b)).1)
    (hu' : Upd (fun k => k = N + 2) w' w'') (hk : LedAt w'' (.pointer (some ⟨N + 3, 0, none⟩)) (N + 2) (addS k (bat who s b)).1) :
    Two w'' N (addS l (bat who s b)).1 (addS k (bat who s b)).1 who ∧ (addS l (bat who s b)).2 = (addS k (bat who s b)).2 := by
  obtain ⟨_, m, _, _, _, hm, _⟩ := h.atl.ptr
  have hk' := h.atk.kept hu (by omega) hm.not_cells
  obtain ⟨_, m', _, _, _, hm', _⟩ := hk'.ptr
  have hlen := h.fl.len h.atl.nodup
  have hlen' := h.fk.len h.atk.nodup
  have a1 := addS_row (L := l) (bat who s b) (by omega)
  have a2 := addS_row (L := k) (bat who s b) (by omega)
  have e : rowOf l (bat who s b).prod = rowOf k (bat who s b).prod := h.row
  rw [e] at a1
  refine ⟨⟨hl.kept hu' (by omega) hm'.not_cells, hk, h.fl.add hp s b, h.fk.add hp s b, ?_⟩, by rw [a1.1, a2.1]⟩
  rw [a1.2, a2.2]
  show (if (who : Int) = who then _ else _) = (if (who : Int) = who then _ else _)
  rw [if_pos rfl, if_pos rfl]
end Go.Proofs.Ytcgjhifcocmdaaa
