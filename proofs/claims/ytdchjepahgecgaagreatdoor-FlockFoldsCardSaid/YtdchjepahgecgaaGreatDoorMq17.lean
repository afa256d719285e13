/- slices.Clone at texts, points, groups. Printed by gen_flc.py. -/
import Derived.Test.YtdchjepahgecgaaGreatDoorMq7
namespace Go.Proofs.YtdchjepahgecgaaGreatDoor
open Go.RowKit

/-- What slices.Clone gives: nil, or a row of the call's own. -/
def ClonedTo (w : World) (e size : Nat) (n : Nat) (xs : List Value) (en : Ending) (w' : World) : Prop :=
  ∃ v', en = .returned v' ∧ w'.ownsRow w.heap.size e size v' n xs ∧ Below w.heap.size w w'

theorem onePts (l : List (Int × Int)) : ∀ u ∈ ptCells l, u.oneCell' = true := by
  intro u hu
  obtain ⟨x, -, hx⟩ := List.mem_flatMap.1 hu
  simp only [ptEl, List.mem_cons, List.not_mem_nil, or_false] at hx
  rcases hx with rfl | rfl <;> rfl
theorem oneStrs (l : List (List UInt8)) : ∀ u ∈ strCells l, u.oneCell' = true := by
  intro u hu
  obtain ⟨x, -, rfl⟩ := List.mem_map.1 hu
  rfl
theorem rd_one {w : World} {sz : Nat} {v : Value} {n : Nat} {xs : List Value} (h : Rd w sz v n xs) : v.oneCell' = true := by
  obtain ⟨a, c, rfl, -⟩ := Rd.shape h
  rfl
theorem oneFk {y : Fv} (h1 : y.1.oneCell' = true) (h2 : y.2.1.oneCell' = true) : ∀ u ∈ fkEl y, u.oneCell' = true := by
  intro u hu
  simp only [fkEl, List.mem_cons, List.not_mem_nil, or_false] at hu
  rcases hu with rfl | rfl | rfl | rfl | rfl
  · rfl
  · rfl
  · rfl
  · exact h1
  · exact h2
theorem oneFks {w : World} {m : List Fv} (h : ∀ x ∈ m, FvRd w x) : ∀ u ∈ fkCells m, u.oneCell' = true := by
  intro u hu
  obtain ⟨x, hx, hu⟩ := List.mem_flatMap.1 hu
  exact oneFk (rd_one (h x hx).1) (rd_one (h x hx).2) u hu

set_option maxRecDepth 100000 in
set_option maxHeartbeats 400000 in
theorem CloneStrs_any {w : World} {v : Value} {l : List (List UInt8)} (h : Strs w v l) (hone : ∀ u ∈ strCells l, u.oneCell' = true) (hl : l.length ≤ 1000000) :
    Calls Tryz.prog 37 #[v] w (ClonedTo w 9 1 l.length (strCells l)) := by
  rcases h.2 with ⟨rfl, h0⟩ | ⟨a, cap, rfl, h2, h3, h4⟩
  · have hl0 : l = [] := List.eq_nil_of_length_eq_zero h0
    subst hl0
    have hnil : ∀ w, (binOp .eql 41 (.slice none 0 0) (.slice none 0 0)).run Tryz.prog w = .ok (.bool true) w := fun w => Lib.run_eql_slice_nil w _ _ none 0 0 0 0 und_Strings
    go_enter Tryz.func37, Tryz.ntmps37
    go_wp2
    go_ret
    exact ⟨_, rfl, World.ownsRow_nil _ _ _ _, Below.refl _ _⟩
  · obtain ⟨i0, hi, hz0, hz1, hz2⟩ := info_parts info_Str
    have hcell : ∀ j u, (strCells l)[j]? = some u → (w.alloc (.cells #[] 9)).cell? (a.add j) = some u := by
      intro j u hu
      have hc := h4 j u hu
      rw [World.cell?_alloc_lt (h := World.block_lt_of_cell? w _ hc)]
      exact hc
    have hown0 := World.ownsRow_made (e := 9) (size := 1) (base := w.heap.size) w #[] 0 (Nat.le_refl _) (Nat.zero_le _) rfl
    have HO := Lib.hid hown0
    have H := Lib.hid hcell
    have H1 := Lib.hid hone
    clear hcell h4 h h3 hown0 hone
    have hnil : ∀ w, (binOp .eql 41 (.slice (some a) l.length cap) (.slice none 0 0)).run Tryz.prog w = .ok (.bool false) w := fun w => Lib.run_eql_slice_nil w _ _ _ _ _ 0 0 und_Strings
    go_enter Tryz.func37, Tryz.ntmps37
    go_wp2_with (at_builtin; refine wpList_append_own _ rfl _ _ 41 rfl w.heap.size 9 i0 _ 1 16 und_Strings hi hz0 hz1 hz2 rfl (by decide) (.slice (some ⟨w.heap.size, 0, none⟩) 0 0) 0 [] rfl HO.out a l.length cap (strCells l) rfl (strCells_length l) H.out H1.out ?_ ?_ ?_ ?_; (unfold maxLen; omega); omega; simp; intro v' w1 hown hgrow hnil')
    go_ret
    refine ⟨v', rfl, by simpa using hown, ?_⟩
    exact ((Below.refl _ w).alloc (Nat.le_refl _) _).grown hgrow (by simp) (fun k e => by simp [Value.ownBlock] at e; omega)

set_option maxRecDepth 100000 in
set_option maxHeartbeats 400000 in
theorem ClonePts_any {w : World} {v : Value} {l : List (Int × Int)} (h : PtsRd w v l) (hone : ∀ u ∈ ptCells l, u.oneCell' = true) (hl : l.length ≤ 1000000) :
    Calls Tryz.prog 46 #[v] w (ClonedTo w 58 2 l.length (ptCells l)) := by
  rcases h.2 with ⟨rfl, h0⟩ | ⟨a, cap, rfl, h2, h3, h4⟩
  · have hl0 : l = [] := List.eq_nil_of_length_eq_zero h0
    subst hl0
    have hnil : ∀ w, (binOp .eql 42 (.slice none 0 0) (.slice none 0 0)).run Tryz.prog w = .ok (.bool true) w := fun w => Lib.run_eql_slice_nil w _ _ none 0 0 0 0 und_Points
    go_enter Tryz.func46, Tryz.ntmps46
    go_wp2
    go_ret
    exact ⟨_, rfl, World.ownsRow_nil _ _ _ _, Below.refl _ _⟩
  · obtain ⟨i0, hi, hz0, hz1, hz2⟩ := info_parts info_Point
    have hcell : ∀ j u, (ptCells l)[j]? = some u → (w.alloc (.cells #[] 58)).cell? (a.add j) = some u := by
      intro j u hu
      have hc := h4 j u hu
      rw [World.cell?_alloc_lt (h := World.block_lt_of_cell? w _ hc)]
      exact hc
    have hown0 := World.ownsRow_made (e := 58) (size := 2) (base := w.heap.size) w #[] 0 (Nat.le_refl _) (Nat.zero_le _) rfl
    have HO := Lib.hid hown0
    have H := Lib.hid hcell
    have H1 := Lib.hid hone
    clear hcell h4 h h3 hown0 hone
    have hnil : ∀ w, (binOp .eql 42 (.slice (some a) l.length cap) (.slice none 0 0)).run Tryz.prog w = .ok (.bool false) w := fun w => Lib.run_eql_slice_nil w _ _ _ _ _ 0 0 und_Points
    go_enter Tryz.func46, Tryz.ntmps46
    go_wp2_with (at_builtin; refine wpList_append_own _ rfl _ _ 42 rfl w.heap.size 58 i0 _ 2 16 und_Points hi hz0 hz1 hz2 rfl (by decide) (.slice (some ⟨w.heap.size, 0, none⟩) 0 0) 0 [] rfl HO.out a l.length cap (ptCells l) rfl (ptCells_length l) H.out H1.out ?_ ?_ ?_ ?_; (unfold maxLen; omega); omega; simp; intro v' w1 hown hgrow hnil')
    go_ret
    refine ⟨v', rfl, by simpa using hown, ?_⟩
    exact ((Below.refl _ w).alloc (Nat.le_refl _) _).grown hgrow (by simp) (fun k e => by simp [Value.ownBlock] at e; omega)

set_option maxRecDepth 100000 in
set_option maxHeartbeats 400000 in
theorem CloneFks_any {w : World} {v : Value} {l : List (Fv)} (h : Rd w 5 v l.length (fkCells l)) (hone : ∀ u ∈ fkCells l, u.oneCell' = true) (hl : l.length ≤ 1000000) :
    Calls Tryz.prog 45 #[v] w (ClonedTo w 44 5 l.length (fkCells l)) := by
  rcases h.2 with ⟨rfl, h0⟩ | ⟨a, cap, rfl, h2, h3, h4⟩
  · have hl0 : l = [] := List.eq_nil_of_length_eq_zero h0
    subst hl0
    have hnil : ∀ w, (binOp .eql 25 (.slice none 0 0) (.slice none 0 0)).run Tryz.prog w = .ok (.bool true) w := fun w => Lib.run_eql_slice_nil w _ _ none 0 0 0 0 und_Flocks
    go_enter Tryz.func45, Tryz.ntmps45
    go_wp2
    go_ret
    exact ⟨_, rfl, World.ownsRow_nil _ _ _ _, Below.refl _ _⟩
  · obtain ⟨i0, hi, hz0, hz1, hz2⟩ := info_parts info_Flock
    have hcell : ∀ j u, (fkCells l)[j]? = some u → (w.alloc (.cells #[] 44)).cell? (a.add j) = some u := by
      intro j u hu
      have hc := h4 j u hu
      rw [World.cell?_alloc_lt (h := World.block_lt_of_cell? w _ hc)]
      exact hc
    have hown0 := World.ownsRow_made (e := 44) (size := 5) (base := w.heap.size) w #[] 0 (Nat.le_refl _) (Nat.zero_le _) rfl
    have HO := Lib.hid hown0
    have H := Lib.hid hcell
    have H1 := Lib.hid hone
    clear hcell h4 h h3 hown0 hone
    have hnil : ∀ w, (binOp .eql 25 (.slice (some a) l.length cap) (.slice none 0 0)).run Tryz.prog w = .ok (.bool false) w := fun w => Lib.run_eql_slice_nil w _ _ _ _ _ 0 0 und_Flocks
    go_enter Tryz.func45, Tryz.ntmps45
    go_wp2_with (at_builtin; refine wpList_append_own _ rfl _ _ 25 rfl w.heap.size 44 i0 _ 5 80 und_Flocks hi hz0 hz1 hz2 rfl (by decide) (.slice (some ⟨w.heap.size, 0, none⟩) 0 0) 0 [] rfl HO.out a l.length cap (fkCells l) rfl (fkCells_length l) H.out H1.out ?_ ?_ ?_ ?_; (unfold maxLen; omega); omega; simp; intro v' w1 hown hgrow hnil')
    go_ret
    refine ⟨v', rfl, by simpa using hown, ?_⟩
    exact ((Below.refl _ w).alloc (Nat.le_refl _) _).grown hgrow (by simp) (fun k e => by simp [Value.ownBlock] at e; omega)
end Go.Proofs.YtdchjepahgecgaaGreatDoor
