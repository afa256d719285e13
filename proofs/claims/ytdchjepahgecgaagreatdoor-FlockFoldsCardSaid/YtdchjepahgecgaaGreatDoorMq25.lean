/- The walk of flock.read, whatever the record. -/
import Derived.Test.YtdchjepahgecgaaGreatDoorMq24
namespace Go.Proofs.YtdchjepahgecgaaGreatDoor
open Go.RowKit

set_option maxRecDepth 100000 in
set_option maxHeartbeats 1000000 in
theorem read_none {w : World} (key val : List UInt8) (gone : Bool) (off : Int) (h : key = []) : Calls Tryz.prog 23 #[.agg #[.int .i64 off, .string (bs key), .string (bs val), .bool gone]] w (ReadTo w (readP key val gone)) := by
  have e1 : (bs key).toList = [] := by rw [bs_toList, h]
  have hP : readP key val gone = (.zero, false) := by rw [h]; rfl
  rw [hP]
  clear h
  obtain ⟨wa, hwa⟩ : ∃ wa, wa = (w.alloc (.cells #[.int .i64 off, .string (bs key), .string (bs val), .bool gone] 28)).alloc (.cells #[.int .u8 0, .string ⟨#[]⟩, .int .i64 0, .int .i64 0, .slice none 0 0, .int .i64 0, .int .i64 0, .int .i64 0] 60) := ⟨_, rfl⟩
  have hba : Below w.heap.size w wa := by rw [hwa]; exact below_alloc2 _ _ _
  have hX : wa.heap[w.heap.size]? = some (.cells #[.int .i64 off, .string (bs key), .string (bs val), .bool gone] 28 (0, 0)) := by rw [hwa, Below.heap_alloc _ _ _ (by simp)]; exact heap_alloc_new _ _
  have hV : wa.heap[w.heap.size + 1]? = some (.cells #[.int .u8 0, .string ⟨#[]⟩, .int .i64 0, .int .i64 0, .slice none 0 0, .int .i64 0, .int .i64 0, .int .i64 0] 60 (0, 0)) := by rw [hwa]; exact heap_new1 _ _ _
  have x1 := cells_of hX 1 _ rfl
  have x3 := cells_of hX 3 _ rfl
  have v0 := cells_of hV 0 _ rfl
  have f0 := frozen_of (j := 0) hV
  have v1 := cells_of hV 1 _ rfl
  have f1 := frozen_of (j := 1) hV
  have v2 := cells_of hV 2 _ rfl
  have f2 := frozen_of (j := 2) hV
  have v3 := cells_of hV 3 _ rfl
  have f3 := frozen_of (j := 3) hV
  have v4 := cells_of hV 4 _ rfl
  have f4 := frozen_of (j := 4) hV
  have v5 := cells_of hV 5 _ rfl
  have f5 := frozen_of (j := 5) hV
  have v6 := cells_of hV 6 _ rfl
  have f6 := frozen_of (j := 6) hV
  have v7 := cells_of hV 7 _ rfl
  have f7 := frozen_of (j := 7) hV
  have HV := Lib.hid (And.intro hV hba)
  clear hX hV hba hP
  go_enter Tryz.func23, Tryz.ntmps23
  go_wp2
  refine wp_scope_goto 0 rfl ?_
  rw [← hwa]
  clear hwa
  go_wp2
  simp only [jump_ret]
  obtain ⟨hz, hu⟩ := set8 HV.out.1 (.int .u8 0) (.string ⟨#[]⟩) (.int .i64 0) (.int .i64 0) (.slice none 0 0) (.int .i64 0) (.int .i64 0) (.int .i64 0)
  have s0 := cells_of hz 0 _ rfl
  have s1 := cells_of hz 1 _ rfl
  have s2 := cells_of hz 2 _ rfl
  have s3 := cells_of hz 3 _ rfl
  have s4 := cells_of hz 4 _ rfl
  have s5 := cells_of hz 5 _ rfl
  have s6 := cells_of hz 6 _ rfl
  have s7 := cells_of hz 7 _ rfl
  exact bodyPost_ret (v := .tuple #[.agg #[.int .u8 0, .string ⟨#[]⟩, .int .i64 0, .int .i64 0, .slice none 0 0, .int .i64 0, .int .i64 0, .int .i64 0], .bool false]) (by simp [results, Tryz.results23, go_sem, s0, s1, s2, s3, s4, s5, s6, s7]) rfl ⟨none, 0, rfl, World.ownsRow_nil _ _ _ _, HV.out.2.trans (hu.toBelow HV.out.2.size (fun k e => by omega))⟩

set_option maxRecDepth 100000 in
set_option maxHeartbeats 1000000 in
theorem read_gone {w : World} (key val : List UInt8) (off : Int) (h : key ≠ []) : Calls Tryz.prog 23 #[.agg #[.int .i64 off, .string (bs key), .string (bs val),   .bool true]] w (ReadTo w (readP key val true)) := by
  have e1 : ¬ (bs key).toList = [] := by rw [bs_toList]; exact h
  have e1' : (bs key).toList.isEmpty = false := by simpa using e1
  have hP : readP key val true = (.zero, false) := by cases key <;> first | exact absurd rfl h | simp [readP]
  rw [hP]
  clear h
  obtain ⟨wa, hwa⟩ : ∃ wa, wa = (w.alloc (.cells #[.int .i64 off, .string (bs key), .string (bs val),   .bool true] 28)).alloc (.cells #[.int .u8 0, .string ⟨#[]⟩, .int .i64 0, .int .i64 0, .slice none 0 0, .int .i64 0, .int .i64 0, .int .i64 0] 60) := ⟨_, rfl⟩
  have hba : Below w.heap.size w wa := by rw [hwa]; exact below_alloc2 _ _ _
  have hX : wa.heap[w.heap.size]? = some (.cells #[.int .i64 off, .string (bs key), .string (bs val),   .bool true] 28 (0, 0)) := by rw [hwa, Below.heap_alloc _ _ _ (by simp)]; exact heap_alloc_new _ _
  have hV : wa.heap[w.heap.size + 1]? = some (.cells #[.int .u8 0, .string ⟨#[]⟩, .int .i64 0, .int .i64 0, .slice none 0 0, .int .i64 0, .int .i64 0, .int .i64 0] 60 (0, 0)) := by rw [hwa]; exact heap_new1 _ _ _
  have x1 := cells_of hX 1 _ rfl
  have x3 := cells_of hX 3 _ rfl
  have v0 := cells_of hV 0 _ rfl
  have f0 := frozen_of (j := 0) hV
  have v1 := cells_of hV 1 _ rfl
  have f1 := frozen_of (j := 1) hV
  have v2 := cells_of hV 2 _ rfl
  have f2 := frozen_of (j := 2) hV
  have v3 := cells_of hV 3 _ rfl
  have f3 := frozen_of (j := 3) hV
  have v4 := cells_of hV 4 _ rfl
  have f4 := frozen_of (j := 4) hV
  have v5 := cells_of hV 5 _ rfl
  have f5 := frozen_of (j := 5) hV
  have v6 := cells_of hV 6 _ rfl
  have f6 := frozen_of (j := 6) hV
  have v7 := cells_of hV 7 _ rfl
  have f7 := frozen_of (j := 7) hV
  have HV := Lib.hid (And.intro hV hba)
  clear hX hV hba hP
  go_enter Tryz.func23, Tryz.ntmps23
  go_wp2
  refine wp_scope_goto 0 rfl ?_
  rw [← hwa]
  clear hwa
  go_wp2
  simp only [jump_ret]
  obtain ⟨hz, hu⟩ := set8 HV.out.1 (.int .u8 0) (.string ⟨#[]⟩) (.int .i64 0) (.int .i64 0) (.slice none 0 0) (.int .i64 0) (.int .i64 0) (.int .i64 0)
  have s0 := cells_of hz 0 _ rfl
  have s1 := cells_of hz 1 _ rfl
  have s2 := cells_of hz 2 _ rfl
  have s3 := cells_of hz 3 _ rfl
  have s4 := cells_of hz 4 _ rfl
  have s5 := cells_of hz 5 _ rfl
  have s6 := cells_of hz 6 _ rfl
  have s7 := cells_of hz 7 _ rfl
  exact bodyPost_ret (v := .tuple #[.agg #[.int .u8 0, .string ⟨#[]⟩, .int .i64 0, .int .i64 0, .slice none 0 0, .int .i64 0, .int .i64 0, .int .i64 0], .bool false]) (by simp [results, Tryz.results23, go_sem, s0, s1, s2, s3, s4, s5, s6, s7]) rfl ⟨none, 0, rfl, World.ownsRow_nil _ _ _ _, HV.out.2.trans (hu.toBelow HV.out.2.size (fun k e => by omega))⟩

theorem read_all {w : World} (key val : List UInt8) (gone : Bool) (off : Int) (hk : key.length ≤ 100000) (hs : val.length ≤ 100000) (hE : Env w) : Calls Tryz.prog 23 #[.agg #[.int .i64 off, .string (bs key), .string (bs val), .bool gone]] w (ReadTo w (readP key val gone)) := by
  cases key with
  | nil => exact read_none _ _ _ _ rfl
  | cons c g =>
    cases gone with
    | true => exact read_gone _ _ _ (by simp)
    | false => exact read_any c g val off hs (by simp at hk; omega) hE
end Go.Proofs.YtdchjepahgecgaaGreatDoor
