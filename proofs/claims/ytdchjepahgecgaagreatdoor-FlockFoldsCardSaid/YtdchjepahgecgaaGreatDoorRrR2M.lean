/- The walk of the reference's Read of layer 11, whatever the record. -/
import Derived.Test.YtdchjepahgecgaaGreatDoorRrRM
namespace Go.Proofs.YtdchjepahgecgaaGreatDoor
open Go.RowKit

set_option maxRecDepth 100000 in
set_option maxHeartbeats 2000000 in
theorem R11Read_none {w : World} (key val : List UInt8) (gone : Bool) (off : Int) (h : gone = true ∨ key = []) : Calls Tryz.prog 29 #[.agg #[.int .i64 off, .string (bs key), .string (bs val), .bool gone]] w (SaidTo w .zero) := by
  obtain ⟨wa, hwa⟩ : ∃ wa, wa = ((w.alloc (.cells #[.int .i64 off, .string (bs key), .string (bs val), .bool gone] 28)).alloc (.cells sdZ 68)).alloc (.cells sdZ 68) := ⟨_, rfl⟩
  have hba : Below w.heap.size w wa := by rw [hwa]; exact below_alloc3 _ _ _ _
  have hX : wa.heap[w.heap.size]? = some (.cells #[.int .i64 off, .string (bs key), .string (bs val), .bool gone] 28 (0, 0)) := by
    rw [hwa, Below.heap_alloc _ _ _ (by first | (simp; done) | (simp; omega)), Below.heap_alloc _ _ _ (by simp)]; exact heap_alloc_new _ _
  have hY : wa.heap[w.heap.size + 1]? = some (.cells sdZ 68 (0, 0)) := by
    rw [hwa, Below.heap_alloc _ _ _ (by simp)]; exact heap_new1 _ _ _
  have hZ : wa.heap[w.heap.size + 1 + 1]? = some (.cells sdZ 68 (0, 0)) := by
    rw [hwa]; exact heap_new2 _ _ _ _
  have x1 := cells_of hX 1 _ rfl
  have x3 := cells_of hX 3 _ rfl
  have n0 := cells_of hZ 0 _ rfl
  have n1 := cells_of hZ 1 _ rfl
  have n2 := cells_of hZ 2 _ rfl
  have n3 := cells_of hZ 3 _ rfl
  have n4 := cells_of hZ 4 _ rfl
  have n5 := cells_of hZ 5 _ rfl
  have n6 := cells_of hZ 6 _ rfl
  have n7 := cells_of hZ 7 _ rfl
  have r0 := cells_of hY 0 _ rfl
  have r1 := cells_of hY 1 _ rfl
  have r2 := cells_of hY 2 _ rfl
  have r3 := cells_of hY 3 _ rfl
  have r4 := cells_of hY 4 _ rfl
  have r5 := cells_of hY 5 _ rfl
  have r6 := cells_of hY 6 _ rfl
  have r7 := cells_of hY 7 _ rfl
  have f0 := frozen_of (j := 0) hY
  have f1 := frozen_of (j := 1) hY
  have f2 := frozen_of (j := 2) hY
  have f3 := frozen_of (j := 3) hY
  have f4 := frozen_of (j := 4) hY
  have f5 := frozen_of (j := 5) hY
  have f6 := frozen_of (j := 6) hY
  have f7 := frozen_of (j := 7) hY
  obtain ⟨hz0, hu⟩ := set8 hY (.int .i64 0) (.string ⟨#[]⟩) (.int .i64 0) (.int .i64 0) (.slice none 0 0) (.int .i64 0) (.int .i64 0) (.int .i64 0)
  have s0 := cells_of hz0 0 _ rfl
  have s1 := cells_of hz0 1 _ rfl
  have s2 := cells_of hz0 2 _ rfl
  have s3 := cells_of hz0 3 _ rfl
  have s4 := cells_of hz0 4 _ rfl
  have s5 := cells_of hz0 5 _ rfl
  have s6 := cells_of hz0 6 _ rfl
  have s7 := cells_of hz0 7 _ rfl
  have hbl := hba.trans (hu.toBelow hba.size (fun k e => by omega))
  have HS := Lib.hid (And.intro s0 (And.intro s1 (And.intro s2 (And.intro s3 (And.intro s4 (And.intro s5 (And.intro s6 (And.intro s7 hbl))))))))
  have HW := Lib.hid hwa
  clear hX hY hZ hba hz0 hu s0 s1 s2 s3 s4 s5 s6 s7 hbl hwa
  cases gone with
  | true =>
    clear h
    go_enter Tryz.func29, Tryz.ntmps29
    go_upto_region 2 with fail
    rw [← HW.out]
    go_wp2
    obtain ⟨s0, s1, s2, s3, s4, s5, s6, s7, hbl⟩ := HS.out
    exact bodyPost_ret (v := .agg sdZ) (by simp [results, Tryz.results29, go_sem, s0, s1, s2, s3, s4, s5, s6, s7]) rfl ⟨none, 0, rfl, World.ownsRow_nil _ _ _ _, hbl⟩
  | false =>
    obtain rfl : key = [] := by rcases h with h | h; cases h; exact h
    have e1 : (bs ([] : List UInt8)).toList = [] := bs_toList []
    have e2 : (bs ([] : List UInt8)).toList.isEmpty = true := by rw [bs_toList]; rfl
    clear h
    go_enter Tryz.func29, Tryz.ntmps29
    go_upto_region 2 with fail
    rw [← HW.out]
    go_wp2
    obtain ⟨s0, s1, s2, s3, s4, s5, s6, s7, hbl⟩ := HS.out
    exact bodyPost_ret (v := .agg sdZ) (by simp [results, Tryz.results29, go_sem, s0, s1, s2, s3, s4, s5, s6, s7]) rfl ⟨none, 0, rfl, World.ownsRow_nil _ _ _ _, hbl⟩

theorem R11Read_all {w : World} (key val : List UInt8) (gone : Bool) (off : Int) (hk : key.length ≤ 100000) (hs : val.length ≤ 100000) : Calls Tryz.prog 29 #[.agg #[.int .i64 off, .string (bs key), .string (bs val), .bool gone]] w (SaidTo w (sdOf (readP key val gone).1)) := by
  cases key with
  | nil => exact R11Read_none [] val gone off (.inr rfl)
  | cons c g =>
    cases gone with
    | true => exact R11Read_none (c :: g) val true off (.inl rfl)
    | false => exact R11Read_any c g val off hs (by simp at hk; omega)
end Go.Proofs.YtdchjepahgecgaaGreatDoor
