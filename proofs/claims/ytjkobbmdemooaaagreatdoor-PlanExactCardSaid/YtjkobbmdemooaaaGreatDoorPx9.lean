/- slices.Clone at parts, lives, ints; slices.Delete at ints; plan.copied. -/
import Derived.Test.YtjkobbmdemooaaaGreatDoorPx7
import Derived.Test.YtjkobbmdemooaaaGreatDoorPx8
import Derived.Sort.OwnSortedInts
namespace Go.Proofs.YtjkobbmdemooaaaGreatDoor
open Go.RowKit

set_option maxRecDepth 100000 in
/-- slices.Delete of one number, in a row that the call owns. -/
theorem Delete_own {w : World} {N g cap : Nat} {l : List Int} (h : w.ownsRow N 3 1 (.slice (some ⟨g, 0, none⟩) l.length cap) l.length (intCells l)) (i : Nat) (hi : i < l.length) :
    Calls Tryz.prog 102 #[.slice (some ⟨g, 0, none⟩) l.length cap, .int .i64 i, .int .i64 ((i + 1 : Nat) : Int)] w fun e w' => e = .returned (.slice (some ⟨g, 0, none⟩) (l.length - 1) cap) ∧
      w'.ownsRow N 3 1 (.slice (some ⟨g, 0, none⟩) (l.length - 1) cap) (l.length - 1) (intCells (l.eraseIdx i)) ∧ Upd (fun k => k = g) w w' := by
  rcases h.2 with ⟨h0, _⟩ | ⟨g', cap', cur, hv, hg, hb, hn, hcap, hcs, htk⟩
  · cases h0
  simp only [Value.slice.injEq, Option.some.injEq, Addr.mk.injEq, and_true, true_and] at hv
  obtain ⟨rfl, rfl⟩ := hv
  have hH : Sort.Holds (Value.int .i64) w g 0 l.toArray := by
    intro j hj
    have hj' : j < l.length := by simpa using hj
    refine ⟨?_, frozen_of hb⟩
    rw [Nat.zero_add, h.cellAt j (by omega), intCells_get l j hj']
    simp [hj']
  have hl63 : cap ≤ 9223372036854775807 := hcap
  refine (AnyG.slices_Delete_int Tryz.delA g 0 cap i (i + 1) l w hH hn hl63 (by omega) (by omega)).mono ?_
  rintro e w' ⟨rfl, q, rfl⟩
  have e1 : i + 1 - i = 1 := by omega
  rw [e1]
  obtain ⟨ts, hts⟩ : ∃ ts, ts = l.take i ++ l.drop (i + 1) ++ List.replicate 1 0 := ⟨_, rfl⟩
  rw [← hts]
  have hlen : ts.length = l.length := by rw [hts]; simp; omega
  have htake : ts.take (l.length - 1) = l.eraseIdx i := by
    rw [hts, List.eraseIdx_eq_take_drop_succ, List.take_append_of_le_length (by simp; omega)]
    exact List.take_of_length_le (by simp; omega)
  have hblk : (Sort.putRow (Value.int .i64) (Sort.ahead w q) g 0 ts.toArray).heap[g]? = some (.cells (Sort.putCells (Value.int .i64) 0 ts.toArray cur) 3 (0, 0)) := by
    simp [Sort.putRow, Sort.mapBlock, Sort.ahead, Array.getElem?_modify, hb, Sort.onCells]
  refine ⟨rfl, ⟨?_, .inr ⟨g, cap, _, rfl, hg, hblk, by omega, hcap, by simp [Sort.putCells, hcs], ?_⟩⟩, ?_⟩
  · rw [intCells_length, ← htake, List.length_take]; omega
  · have h2 := _root_.Go.take_putCellsI cur ts (by omega)
    rw [Nat.mul_one, ← htake]
    have h3 := congrArg (List.take (l.length - 1)) h2
    rw [List.take_take, Nat.min_eq_left (by omega), ← List.map_take] at h3
    exact h3
  · refine ⟨rfl, rfl, rfl, by simp [Sort.putRow, Sort.mapBlock, Sort.ahead], fun k hk hne => ?_⟩
    have : g ≠ k := fun e => hne e.symm
    simp [Sort.putRow, Sort.mapBlock, Sort.ahead, Array.getElem?_modify, this]

/-- What slices.Clone gives: nil, or a row of the call's own. -/
def ClonedTo (w : World) (e size : Nat) (n : Nat) (xs : List Value) (en : Ending) (w' : World) : Prop :=
  ∃ v', en = .returned v' ∧ w'.ownsRow w.heap.size e size v' n xs ∧ Below w.heap.size w w'

set_option maxRecDepth 100000 in
set_option maxHeartbeats 400000 in
theorem CloneInts_any {w : World} {v : Value} {l : List Int} (h : IntsRd w v l) (hl : l.length ≤ 1000000) : Calls Tryz.prog 77 #[v] w (ClonedTo w 3 1 l.length (intCells l)) := by
  rcases h.2 with ⟨rfl, h0⟩ | ⟨a, cap, rfl, h2, h3, h4⟩
  · have hl0 : l = [] := List.eq_nil_of_length_eq_zero h0
    subst hl0
    have hnil : ∀ w, (binOp .eql 32 (.slice none 0 0) (.slice none 0 0)).run Tryz.prog w = .ok (.bool true) w := fun w => Lib.run_eql_slice_nil w _ _ none 0 0 0 0 und_Ints
    go_enter Tryz.func77, Tryz.ntmps77
    go_wp2
    go_ret
    exact ⟨_, rfl, World.ownsRow_nil _ _ _ _, Below.refl _ _⟩
  · obtain ⟨i0, hi, hz0, hz1, hz2⟩ := info_parts info_Int
    have hcell : ∀ j u, (intCells l)[j]? = some u → (w.alloc (.cells #[] 3)).cell? (a.add j) = some u := by
      intro j u hu
      have hc := h4 j u hu
      rw [World.cell?_alloc_lt (h := World.block_lt_of_cell? w _ hc)]
      exact hc
    have hown0 := World.ownsRow_made (e := 3) (size := 1) (base := w.heap.size) w #[] 0 (Nat.le_refl _) (Nat.zero_le _) rfl
    have HO := Lib.hid hown0
    have H := Lib.hid hcell
    have H1 := Lib.hid (oneInts l)
    clear hcell h4 h h3 hown0
    have hnil : ∀ w, (binOp .eql 32 (.slice (some a) l.length cap) (.slice none 0 0)).run Tryz.prog w = .ok (.bool false) w := fun w => Lib.run_eql_slice_nil w _ _ _ _ _ 0 0 und_Ints
    go_enter Tryz.func77, Tryz.ntmps77
    go_wp2_with (at_builtin; refine wpList_append_own _ rfl _ _ 32 rfl w.heap.size 3 i0 _ 1 8 und_Ints hi hz0 hz1 hz2 rfl (by decide) (.slice (some ⟨w.heap.size, 0, none⟩) 0 0) 0 [] rfl HO.out a l.length cap (intCells l) rfl (intCells_length l) H.out H1.out ?_ ?_ ?_ ?_; (unfold maxLen; omega); omega; simp; intro v' w1 hown hgrow hnil')
    go_ret
    refine ⟨v', rfl, by simpa using hown, ?_⟩
    exact ((Below.refl _ w).alloc (Nat.le_refl _) _).grown hgrow (by simp) (fun k e => by simp [Value.ownBlock] at e; omega)

set_option maxRecDepth 100000 in
set_option maxHeartbeats 400000 in
theorem CloneLives_any {w : World} {v : Value} {l : List (Int × Int)} (h : LivesRd w v l) (hl : l.length ≤ 1000000) : Calls Tryz.prog 76 #[v] w (ClonedTo w 81 2 l.length (lifeCells l)) := by
  rcases h.2 with ⟨rfl, h0⟩ | ⟨a, cap, rfl, h2, h3, h4⟩
  · have hl0 : l = [] := List.eq_nil_of_length_eq_zero h0
    subst hl0
    have hnil : ∀ w, (binOp .eql 23 (.slice none 0 0) (.slice none 0 0)).run Tryz.prog w = .ok (.bool true) w := fun w => Lib.run_eql_slice_nil w _ _ none 0 0 0 0 und_Lives
    go_enter Tryz.func76, Tryz.ntmps76
    go_wp2
    go_ret
    exact ⟨_, rfl, World.ownsRow_nil _ _ _ _, Below.refl _ _⟩
  · obtain ⟨i0, hi, hz0, hz1, hz2⟩ := info_parts info_Life
    have hcell : ∀ j u, (lifeCells l)[j]? = some u → (w.alloc (.cells #[] 81)).cell? (a.add j) = some u := by
      intro j u hu
      have hc := h4 j u hu
      rw [World.cell?_alloc_lt (h := World.block_lt_of_cell? w _ hc)]
      exact hc
    have hown0 := World.ownsRow_made (e := 81) (size := 2) (base := w.heap.size) w #[] 0 (Nat.le_refl _) (Nat.zero_le _) rfl
    have HO := Lib.hid hown0
    have H := Lib.hid hcell
    have H1 := Lib.hid (oneLives l)
    clear hcell h4 h h3 hown0
    have hnil : ∀ w, (binOp .eql 23 (.slice (some a) l.length cap) (.slice none 0 0)).run Tryz.prog w = .ok (.bool false) w := fun w => Lib.run_eql_slice_nil w _ _ _ _ _ 0 0 und_Lives
    go_enter Tryz.func76, Tryz.ntmps76
    go_wp2_with (at_builtin; refine wpList_append_own _ rfl _ _ 23 rfl w.heap.size 81 i0 _ 2 16 und_Lives hi hz0 hz1 hz2 rfl (by decide) (.slice (some ⟨w.heap.size, 0, none⟩) 0 0) 0 [] rfl HO.out a l.length cap (lifeCells l) rfl (lifeCells_length l) H.out H1.out ?_ ?_ ?_ ?_; (unfold maxLen; omega); omega; simp; intro v' w1 hown hgrow hnil')
    go_ret
    refine ⟨v', rfl, by simpa using hown, ?_⟩
    exact ((Below.refl _ w).alloc (Nat.le_refl _) _).grown hgrow (by simp) (fun k e => by simp [Value.ownBlock] at e; omega)

set_option maxRecDepth 100000 in
set_option maxHeartbeats 400000 in
theorem CloneParts_any {w : World} {v : Value} {m : List (Value × Pt)} (h : Rd w 3 v m.length (partCells m)) (hone : ∀ u ∈ partCells m, u.oneCell' = true) (hl : m.length ≤ 1000000) :
    Calls Tryz.prog 75 #[v] w (ClonedTo w 74 3 m.length (partCells m)) := by
  rcases h.2 with ⟨rfl, h0⟩ | ⟨a, cap, rfl, h2, h3, h4⟩
  · have hl0 : m = [] := List.eq_nil_of_length_eq_zero h0
    subst hl0
    have hnil : ∀ w, (binOp .eql 22 (.slice none 0 0) (.slice none 0 0)).run Tryz.prog w = .ok (.bool true) w := fun w => Lib.run_eql_slice_nil w _ _ none 0 0 0 0 und_Parts
    go_enter Tryz.func75, Tryz.ntmps75
    go_wp2
    go_ret
    exact ⟨_, rfl, World.ownsRow_nil _ _ _ _, Below.refl _ _⟩
  · obtain ⟨i0, hi, hz0, hz1, hz2⟩ := info_parts info_Part
    have hcell : ∀ j u, (partCells m)[j]? = some u → (w.alloc (.cells #[] 74)).cell? (a.add j) = some u := by
      intro j u hu
      have hc := h4 j u hu
      rw [World.cell?_alloc_lt (h := World.block_lt_of_cell? w _ hc)]
      exact hc
    have hown0 := World.ownsRow_made (e := 74) (size := 3) (base := w.heap.size) w #[] 0 (Nat.le_refl _) (Nat.zero_le _) rfl
    have HO := Lib.hid hown0
    have H := Lib.hid hcell
    have H1 := Lib.hid hone
    clear hcell h4 h h3 hown0 hone
    have hnil : ∀ w, (binOp .eql 22 (.slice (some a) m.length cap) (.slice none 0 0)).run Tryz.prog w = .ok (.bool false) w := fun w => Lib.run_eql_slice_nil w _ _ _ _ _ 0 0 und_Parts
    go_enter Tryz.func75, Tryz.ntmps75
    go_wp2_with (at_builtin; refine wpList_append_own _ rfl _ _ 22 rfl w.heap.size 74 i0 _ 3 40 und_Parts hi hz0 hz1 hz2 rfl (by decide) (.slice (some ⟨w.heap.size, 0, none⟩) 0 0) 0 [] rfl HO.out a m.length cap (partCells m) rfl (partCells_length m) H.out H1.out ?_ ?_ ?_ ?_; (unfold maxLen; omega); omega; simp; intro v' w1 hown hgrow hnil')
    go_ret
    refine ⟨v', rfl, by simpa using hown, ?_⟩
    exact ((Below.refl _ w).alloc (Nat.le_refl _) _).grown hgrow (by simp) (fun k e => by simp [Value.ownBlock] at e; omega)
end Go.Proofs.YtjkobbmdemooaaaGreatDoor
