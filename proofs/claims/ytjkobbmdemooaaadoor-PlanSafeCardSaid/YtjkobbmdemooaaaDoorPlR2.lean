/- The walks of the reference's Places and Same. -/
import Derived.Test.YtjkobbmdemooaaaDoorPlR
import Derived.Test.YtjkobbmdemooaaaDoorPlG
namespace Go.Proofs.YtjkobbmdemooaaaDoor
open Go.RowKit

set_option maxRecDepth 100000 in
set_option maxHeartbeats 2000000 in
theorem RPlaces_any {w : World} {x y : Pt} {ca cb : Option Addr} {cc cd : Nat} (h : IntsRd w (.slice ca x.chain.length cc) x.chain) (h' : IntsRd w (.slice cb y.chain.length cd) y.chain) :
    Calls Tryd.prog 14 #[partV x ca cc, partV y cb cd] w fun e w' => e = .returned (.bool (decide (x = y))) ∧ Below w.heap.size w w' := by
  obtain ⟨e1, c1, l1⟩ := x
  obtain ⟨e2, c2, l2⟩ := y
  simp only [partV] at *
  obtain ⟨wa, hwa⟩ : ∃ wa, wa = (w.alloc (.cells #[.int .i64 e1, .slice ca c1.length cc, .int .i64 l1] 39)).alloc (.cells #[.int .i64 e2, .slice cb c2.length cd, .int .i64 l2] 39) := ⟨_, rfl⟩
  have hbwa : Below w.heap.size w wa := by rw [hwa]; exact below_alloc2 _ _ _
  have hi := RInts_any (h.below hbwa) (h'.below hbwa)
  have HI := Lib.hid hi
  obtain ⟨b3, hb3⟩ : ∃ b3, decide (c1 = c2) = b3 := ⟨_, rfl⟩
  rw [hb3] at HI
  have hR : decide ((⟨e1, c1, l1⟩ : Pt) = ⟨e2, c2, l2⟩) = (decide (e1 = e2) && (decide (l1 = l2) && b3)) := by
    rw [← hb3, Bool.eq_iff_iff]
    simp only [Pt.mk.injEq, decide_eq_true_eq, Bool.and_eq_true]
    constructor
    · rintro ⟨a, b, c⟩; exact ⟨a, c, b⟩
    · rintro ⟨a, c, b⟩; exact ⟨a, b, c⟩
  rw [hR]
  have n0 : wa.heap[w.heap.size]? = some (.cells #[.int .i64 e1, .slice ca c1.length cc, .int .i64 l1] 39 (0, 0)) := by rw [hwa, Below.heap_alloc _ _ _ (by simp)]; exact heap_alloc_new _ _
  have n1 : wa.heap[w.heap.size + 1]? = some (.cells #[.int .i64 e2, .slice cb c2.length cd, .int .i64 l2] 39 (0, 0)) := by rw [hwa]; exact heap_new1 _ _ _
  have x0 := cells_of n0 0 _ rfl
  have x1 := cells_of n0 1 _ rfl
  have x2 := cells_of n0 2 _ rfl
  have y0 := cells_of n1 0 _ rfl
  have y1 := cells_of n1 1 _ rfl
  have y2 := cells_of n1 2 _ rfl
  have HB := Lib.hid hbwa
  have hsz : w.heap.size ≤ wa.heap.size := hbwa.size
  clear h h' hi hb3 hR n0 n1 hbwa
  by_cases h1 : e1 = e2
  · subst h1
    by_cases h2 : l1 = l2
    · subst h2
      go_enter Tryd.func14, Tryd.ntmps14
      go_upto_region 1 with fail
      rw [← hwa]
      clear hwa
      go_wp2_with (first | (go_at_call 20; with_reducible refine HI.out.mono ?_; rintro _ w5 ⟨rfl, hb5⟩))
      go_ret
      exact ⟨by simp, HB.out.trans (hb5.mono hsz)⟩
    · go_enter Tryd.func14, Tryd.ntmps14
      go_upto_region 1 with fail
      rw [← hwa]
      clear hwa
      go_wp2
      go_ret
      exact ⟨by simp [h2], HB.out⟩
  · go_enter Tryd.func14, Tryd.ntmps14
    go_upto_region 1 with fail
    rw [← hwa]
    clear hwa
    go_wp2
    go_ret
    exact ⟨by simp [h1], HB.out⟩
end Go.Proofs.YtjkobbmdemooaaaDoor
