/- The walks of slices.Clone at slots, batch, New, (*Ledger).Add. -/
import Derived.Test.YtjkobbmdemooaaaGreatDoorLedW
import Derived.Test.YtjkobbmdemooaaaGreatDoorCrW
namespace Go.Proofs.YtjkobbmdemooaaaGreatDoor
open Go.RowKit

theorem info_Slot : (Tryz.prog.info? 69).map (fun i => (i.zero, i.size, i.bytes)) = some (some (.agg #[.int .i64 0, .int .i64 0, .int .i64 0]), 3, 24) := by kernel_rfl

def Cloned (w : World) (l : List Slot) (e : Ending) (w' : World) : Prop :=
  ∃ v', e = .returned v' ∧ w'.ownsRow w.heap.size 69 3 v' l.length (rowCells l) ∧ Below w.heap.size w w'

set_option maxRecDepth 100000 in
set_option maxHeartbeats 400000 in
theorem CloneSlots_rd {w : World} {v : Value} {l : List Slot} (h : SlotsRd w v l) (hl : l.length ≤ 1000000) :
    Calls Tryz.prog 71 #[v] w (Cloned w l) := by
  rcases h.2 with ⟨rfl, h0⟩ | ⟨a, cap, rfl, h2, h3, h4⟩
  · have hl0 : l = [] := List.eq_nil_of_length_eq_zero h0
    subst hl0
    have hnil : ∀ w, (binOp .eql 103 (.slice none 0 0) (.slice none 0 0)).run Tryz.prog w = .ok (.bool true) w := fun w => Lib.run_eql_slice_nil w _ _ none 0 0 0 0 und_Slots
    go_enter Tryz.func71, Tryz.ntmps71
    go_wp2
    go_ret
    exact ⟨_, rfl, World.ownsRow_nil _ _ _ _, Below.refl _ _⟩
  · obtain ⟨i0, hi, hz0, hz1, hz2⟩ := info_parts info_Slot
    have hcell : ∀ j u, (rowCells l)[j]? = some u → (w.alloc (.cells #[] 69)).cell? (a.add j) = some u := by
      intro j u hu
      have hc := h4 j u hu
      rw [World.cell?_alloc_lt (h := World.block_lt_of_cell? w _ hc)]
      exact hc
    have h1 : ∀ u ∈ rowCells l, u.oneCell' = true := by
      intro u hu
      simp only [rowCells, List.mem_flatMap] at hu
      obtain ⟨x, _, hx⟩ := hu
      simp only [Slot.cells, List.mem_cons, List.not_mem_nil, or_false] at hx
      rcases hx with rfl | rfl | rfl <;> rfl
    have hown0 := World.ownsRow_made (e := 69) (size := 3) (base := w.heap.size) w #[] 0 (Nat.le_refl _) (Nat.zero_le _) rfl
    have HO := Lib.hid hown0
    have H := Lib.hid hcell
    have H1 := Lib.hid h1
    clear hcell h4 h h3 h1 hown0
    have hnil : ∀ w, (binOp .eql 103 (.slice (some a) l.length cap) (.slice none 0 0)).run Tryz.prog w = .ok (.bool false) w := fun w => Lib.run_eql_slice_nil w _ _ _ _ _ 0 0 und_Slots
    go_enter Tryz.func71, Tryz.ntmps71
    go_wp2_with (at_builtin; refine wpList_append_own _ rfl _ _ 103 rfl w.heap.size 69 i0 _ 3 24 und_Slots hi hz0 hz1 hz2 rfl (by decide) (.slice (some ⟨w.heap.size, 0, none⟩) 0 0) 0 [] rfl HO.out a l.length cap (rowCells l) rfl (rowCells_length l) H.out H1.out ?_ ?_ ?_ ?_; (unfold maxLen; omega); omega; simp; intro v' w1 hown hgrow hnil')
    go_ret
    refine ⟨v', rfl, by simpa using hown, ?_⟩
    exact ((Below.refl _ w).alloc (Nat.le_refl _) _).grown hgrow (by simp) (fun k e => by simp [Value.ownBlock] at e; omega)

theorem CloneSlots_any {w : World} {v : Value} {l : List Slot} (h : SlotsAt w v l) (hl : l.length ≤ 1000000) :
    Calls Tryz.prog 71 #[v] w (Cloned w l) := CloneSlots_rd h.rd hl

set_option maxRecDepth 100000 in
set_option maxHeartbeats 400000 in
theorem LedNew_any (w : World) : Calls Tryz.prog 32 #[] w fun e w' =>
    e = .returned (.pointer (some ⟨w.heap.size + 1, 0, none⟩)) ∧ w' = (w.alloc (.map #[] 0)).alloc (.cells #[.map (some w.heap.size)] 109) := by
  have hmm := @run_makeMap Tryz.prog
  go_enter Tryz.func32, Tryz.ntmps32
  go_wp2
  go_ret
  exact ⟨rfl, rfl⟩

theorem LedAt.fresh (w : World) : LedAt ((w.alloc (.map #[] 0)).alloc (.cells #[.map (some w.heap.size)] 109)) (.pointer (some ⟨w.heap.size + 1, 0, none⟩)) w.heap.size [] := by
  refine ⟨⟨w.heap.size + 1, [], rfl, by omega, by simp [go_sem], ⟨#[], 0, ?_, rfl, MapKept.stamped_empty 0⟩, trivial⟩, by simp, by simp⟩
  rw [Below.heap_alloc _ _ _ (by simp)]
  exact heap_alloc_new w _

set_option maxRecDepth 100000 in
set_option maxHeartbeats 400000 in
theorem batch_any (p s b : Int) (w : World) : Calls Tryz.prog 34 #[.int .i64 p, .int .i64 s, .int .i64 b] w fun e w' =>
    e = .returned ((Batch.mk b 1 p s 0 [⟨b, ByteArray.empty, ByteArray.empty, false⟩]).v (.slice (some ⟨w.heap.size + 1, 0, none⟩) 1 1)) ∧
    Sl w' 113 4 (.slice (some ⟨w.heap.size + 1, 0, none⟩) 1 1) 1 (recCells [⟨b, ByteArray.empty, ByteArray.empty, false⟩]) ∧ Below w.heap.size w w' := by
  go_enter Tryz.func34, Tryz.ntmps34
  go_wp2
  refine bodyPost_ret (v := .agg #[.int .i64 b, .int .i64 1, .int .i64 p, .int .i64 s, .int .i64 0, .slice (some ⟨w.heap.size + 1, 0, none⟩) 1 1]) (by simp [results, Tryz.results34, go_sem]) rfl ⟨rfl, ?_, ?_⟩
  · refine ⟨rfl, .inr ⟨_, 0, 1, #[.int .i64 b, .string ByteArray.empty, .string ByteArray.empty, .bool false], (0, 0), rfl, Nat.le_refl _, by unfold maxLen; omega, ?_, by simp, rfl⟩⟩
    exact heap_new1 _ _ _
  · exact below_alloc2 _ _ _
end Go.Proofs.YtjkobbmdemooaaaGreatDoor
