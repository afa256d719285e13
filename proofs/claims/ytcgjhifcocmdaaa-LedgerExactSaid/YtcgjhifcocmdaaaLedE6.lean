/- The walk of the reference's Add. -/
import Derived.Test.YtcgjhifcocmdaaaLedE4
import Derived.Test.YtcgjhifcocmdaaaLedE5
namespace Go.Proofs.Ytcgjhifcocmdaaa
open Go.RowKit

/-- A table with a row more, where its producer belongs. -/
def insT : List (Int × List Slot) → Int → List Slot → List (Int × List Slot)
  | [], p, l => [(p, l)]
  | x :: T, p, l => if p < x.1 then (p, l) :: x :: T else x :: insT T p l

/-- The reference's Add over a good table. -/
def addT (T : List (Int × List Slot)) (b : Batch) : List (Int × List Slot) × Int :=
  if goodB b then
    if (checkS (rowOf T b.prod) b.prod b.seq).2 = 0 then
      if rowOf T b.prod ≠ [] then
        if b.base < lastFin (rowOf T b.prod) then (T, 20)
        else (putL T b.prod (last5 (rowOf T b.prod ++ [⟨b.seq, b.base, b.base + b.count⟩])), 0)
      else if 64 ≤ T.length then (T, 1)
      else (insT T b.prod [⟨b.seq, b.base, b.base + b.count⟩], 0)
    else (T, (checkS (rowOf T b.prod) b.prod b.seq).2)
  else (T, 1)

def Added6 (w : World) (T : List (Int × List Slot)) (r : List (Int × List Slot) × Int) (e : Ending) (w' : World) : Prop :=
  ∃ v', e = .returned (.tuple #[v', .int .i64 r.2]) ∧ (r.2 = 0 → SeensRd w' v' r.1) ∧ Below w.heap.size w w'

theorem R6Check_agg {w : World} {v : Value} {T : List (Int × List Slot)} (h : SeensRd w v T) (hok : ∀ x ∈ T, RowOk x.2) (p s : Int) :
    Calls Try.prog 17 #[v, .int .i64 p, .int .i64 s] w fun e w' =>
      e = .returned (.tuple #[.agg #[.int .i64 (checkS (rowOf T p) p s).1.seq, .int .i64 (checkS (rowOf T p) p s).1.base, .int .i64 (checkS (rowOf T p) p s).1.fin], .int .i64 (checkS (rowOf T p) p s).2]) ∧ Below w.heap.size w w' := R6Check_any h hok p s

set_option maxRecDepth 100000 in
set_option maxHeartbeats 1000000 in
theorem R6Add_no {w : World} {v : Value} {T : List (Int × List Slot)} (h : SeensRd w v T) (hok : ∀ x ∈ T, RowOk x.2) (b : Batch) (rv : Value)
    (hr : Rd w 4 rv b.recs.length (recCells b.recs)) (hg : goodB b = false ∨ (checkS (rowOf T b.prod) b.prod b.seq).2 ≠ 0) :
    Calls Try.prog 16 #[v, b.v rv] w (Added6 w T (addT T b)) := by
  obtain ⟨a, cap, rfl, -, -⟩ := h.cells
  have good : ∀ w1, Below w.heap.size w w1 → Calls Try.prog 25 #[b.v rv] w1 fun e w' => e = .returned (.bool (goodB b)) ∧ Below w1.heap.size w1 w' :=
    fun w1 hb1 => R3Good_any b rv w1 (hr.below hb1)
  have check := fun w1 (hb1 : Below w.heap.size w w1) => R6Check_agg (h.below hb1) hok b.prod b.seq
  by_cases hgb : goodB b = true
  · have hc := hg.resolve_left (by simp [hgb])
    have hres : addT T b = (T, (checkS (rowOf T b.prod) b.prod b.seq).2) := by simp [addT, hgb, hc]
    rw [hres]
    clear hres hg
    obtain ⟨base, count, prod, seq, time, recs⟩ := b
    unfold Batch.v at *
    dsimp only at *
    generalize checkS (rowOf T prod) prod seq = c at *
    obtain ⟨⟨x0, x1, x2⟩, n⟩ := c
    dsimp only at *
    have hn : (n != 0) = true := by rw [bne_iff_ne]; exact hc
    have HG := Lib.hid good
    have HC := Lib.hid check
    have HN := Lib.hid hc
    clear good check hc hr
    go_enter Try.func16, Try.ntmps16
    go_wp2_with (first
      | (go_at_call 25; refine (HG.out _ (below_alloc w _)).mono ?_; rintro e w1 ⟨rfl, hb1⟩; rw [hgb]; obtain ⟨hc1, hf1⟩ := bcell hb1; have hs1 := hb1.size; simp only [World.size_alloc] at hs1)
      | (go_at_call 17; refine (HC.out _ (below_trans (below_alloc w _) hb1)).mono ?_; rintro e w2 ⟨rfl, hb2⟩; obtain ⟨hc2, hf2⟩ := bcell hb2; have hs2 := hb2.size))
    have hbel := below_trans (below_trans (below_alloc w _) hb1) (below_trans hb2 (below_alloc w2 (.cells #[.int .i64 x0, .int .i64 x1, .int .i64 x2] 32)))
    exact bodyPost_ret (v := .tuple #[.slice a T.length cap, .int .i64 n]) (by simp [results, Try.results16, go_sem]) rfl ⟨_, rfl, fun h0 => absurd h0 HN.out, hbel⟩
  · have hgb : goodB b = false := by simpa using hgb
    have hres : addT T b = (T, 1) := by simp [addT, hgb]
    rw [hres]
    clear hres hg
    have HG := Lib.hid good
    clear good check hr
    obtain ⟨base, count, prod, seq, time, recs⟩ := b
    unfold Batch.v at *
    dsimp only at *
    go_enter Try.func16, Try.ntmps16
    go_wp2_with (first
      | (go_at_call 25; refine (HG.out _ (below_alloc w _)).mono ?_; rintro e w1 ⟨rfl, hb1⟩; rw [hgb]; obtain ⟨hc1, hf1⟩ := bcell hb1; have hs1 := hb1.size; simp only [World.size_alloc] at hs1))
    have hbel := below_trans (below_alloc w _) hb1
    exact bodyPost_ret (v := .tuple #[.slice a T.length cap, .int .i64 1]) (by simp [results, Try.results16, go_sem]) rfl ⟨_, rfl, fun h0 => by simp at h0, hbel⟩
end Go.Proofs.Ytcgjhifcocmdaaa
