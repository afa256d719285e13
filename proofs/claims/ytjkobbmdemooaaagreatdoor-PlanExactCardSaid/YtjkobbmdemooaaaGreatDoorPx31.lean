/- The walk of plan.Apply. -/
import Derived.Test.YtjkobbmdemooaaaGreatDoorPx26
import Derived.Test.YtjkobbmdemooaaaGreatDoorPx30
namespace Go.Proofs.YtjkobbmdemooaaaGreatDoor
open Go.RowKit

set_option maxRecDepth 100000 in
set_option maxHeartbeats 8000000 in
theorem Apply_arg {w : World} {v : Value} {p : Pl} (h : PlanRd w v p) (x : Event) (hc : canB p x = false) : Calls Tryz.prog 9 #[v, x.v] w (Applied w p x) := by
  obtain ⟨pv, lv, rfl, hp, hl⟩ := h
  unfold Applied
  rw [applyP_arg hc]
  have hrd0 : PlanRd w (.agg #[.int .i64 p.nodes, .int .i64 p.copies, pv, lv]) p := ⟨pv, lv, rfl, hp, hl⟩
  have hiE := isEvent_any x
  obtain ⟨pa, pc, rfl, -, -, -⟩ := hp.cells
  obtain ⟨la, lc, rfl, -, -, -⟩ := hl.cells
  obtain ⟨k, nd, pt, cn⟩ := x
  unfold Event.v at hiE ⊢
  simp only at hiE ⊢
  have hPN := hrd0
  obtain ⟨wa, hwa⟩ : ∃ wa, wa = ((w.alloc (.cells #[.int .i64 p.nodes, .int .i64 p.copies, .slice pa p.parts.length pc, .slice la p.lives.length lc] 25)).alloc (.cells #[.int .i64 k, .int .i64 nd, .int .i64 pt, .int .i64 cn] 27)).alloc (.cells #[.int .i64 0, .int .i64 0, .slice none 0 0, .slice none 0 0] 25) := ⟨_, rfl⟩
  have hbwa : Below w.heap.size w wa := by rw [hwa]; exact (below_alloc2 _ _ _).trans ((below_alloc _ _).mono (by simp; omega))
  have hN : wa.heap[w.heap.size]? = some (.cells #[.int .i64 p.nodes, .int .i64 p.copies, .slice pa p.parts.length pc, .slice la p.lives.length lc] 25 (0, 0)) := by
    rw [hwa, Below.heap_alloc _ _ _ (by simp; omega), Below.heap_alloc _ _ _ (by simp)]; exact heap_alloc_new _ _
  have hN1 : wa.heap[w.heap.size + 1]? = some (.cells #[.int .i64 k, .int .i64 nd, .int .i64 pt, .int .i64 cn] 27 (0, 0)) := by
    rw [hwa, Below.heap_alloc _ _ _ (by simp)]; exact heap_new1 _ _ _
  have hN2 : wa.heap[w.heap.size + 1 + 1]? = some (.cells #[.int .i64 0, .int .i64 0, .slice none 0 0, .slice none 0 0] 25 (0, 0)) := by
    rw [hwa]; exact heap_new2 _ _ _ _
  have hsz : wa.heap.size = w.heap.size + 3 := by rw [hwa]; simp
  have hkeep : ∀ W, Below wa.heap.size wa W → W.cell? ⟨w.heap.size, 0, none⟩ = some (.int .i64 p.nodes) ∧ W.cell? ⟨w.heap.size, 2, none⟩ = some (.slice pa p.parts.length pc) ∧
      W.cell? ⟨w.heap.size + 1, 0, none⟩ = some (.int .i64 k) ∧ W.cell? ⟨w.heap.size + 1, 1, none⟩ = some (.int .i64 nd) ∧ W.cell? ⟨w.heap.size + 1, 2, none⟩ = some (.int .i64 pt) ∧ W.cell? ⟨w.heap.size + 1, 3, none⟩ = some (.int .i64 cn) ∧
      (∀ j, W.frozen? ⟨w.heap.size + 1 + 1, j, none⟩ = false) ∧ W.heap[w.heap.size + 1 + 1]? = some (.cells #[.int .i64 0, .int .i64 0, .slice none 0 0, .slice none 0 0] 25 (0, 0)) := by
    intro W hb
    have b0 := (hb.block w.heap.size (by omega)).trans hN
    have b1 := (hb.block (w.heap.size + 1) (by omega)).trans hN1
    have b2 := (hb.block (w.heap.size + 1 + 1) (by omega)).trans hN2
    exact ⟨cells_of b0 0 _ rfl, cells_of b0 2 _ rfl, cells_of b1 0 _ rfl, cells_of b1 1 _ rfl, cells_of b1 2 _ rfl, cells_of b1 3 _ rfl, fun j => frozen_of b2, b2⟩
  have hgd := Good_any (hrd0.below hbwa)
  have n0 := cells_of hN 0 _ rfl
  have n1 := cells_of hN 1 _ rfl
  have n2 := cells_of hN 2 _ rfl
  have n3 := cells_of hN 3 _ rfl
  have HGD := Lib.hid hgd
  have HK := Lib.hid hkeep
  have HIE := Lib.hid hiE
  have HSZ := Lib.hid (And.intro hsz hbwa)
  have hfin : ∀ W, Below wa.heap.size wa W → ∃ W2, W2 = (((W.setCell ⟨w.heap.size + 1 + 1, 0, none⟩ (.int .i64 0)).setCell ⟨w.heap.size + 1 + 1, 1, none⟩ (.int .i64 0)).setCell ⟨w.heap.size + 1 + 1, 2, none⟩ (.slice none 0 0)).setCell ⟨w.heap.size + 1 + 1, 3, none⟩ (.slice none 0 0) ∧
      W2.cell? ⟨w.heap.size + 1 + 1, 0, none⟩ = some (.int .i64 0) ∧ W2.cell? ⟨w.heap.size + 1 + 1, 1, none⟩ = some (.int .i64 0) ∧ W2.cell? ⟨w.heap.size + 1 + 1, 2, none⟩ = some (.slice none 0 0) ∧ W2.cell? ⟨w.heap.size + 1 + 1, 3, none⟩ = some (.slice none 0 0) ∧ Below w.heap.size w W2 := by
    intro W hb
    have hf := setCell_same (o := 3) (v := .slice none 0 0) (setCell_same (o := 2) (v := .slice none 0 0) (setCell_same (o := 1) (v := .int .i64 0) (setCell_same (o := 0) (v := .int .i64 0) (hkeep W hb).2.2.2.2.2.2.2)))
    have hset := upd_set4 W (w.heap.size + 1 + 1) (.int .i64 0) (.int .i64 0) (.slice none 0 0) (.slice none 0 0)
    have hbs := hb.size
    exact ⟨_, rfl, cells_of hf 0 _ rfl, cells_of hf 1 _ rfl, cells_of hf 2 _ rfl, cells_of hf 3 _ rfl, hbwa.trans ((hb.mono (by omega)).trans (hset.toBelow (by omega) (fun b e => by omega)))⟩
  have HFIN := Lib.hid hfin
  clear hkeep hgd hiE hfin hPN hrd0 hp hl hN hN1 hN2 hsz hbwa
  cases hgb : goodP p
  · have HGB := Lib.hid hgb
    clear hgb
    go_enter Tryz.func9, Tryz.ntmps9
    go_upto_region 1 with fail
    rw [← hwa]
    clear hwa
    go_wp2_with (first | (go_at_call 15; refine HGD.out.mono ?_; rintro _ w5 ⟨rfl, hb5⟩; rw [HGB.out]; obtain ⟨d0, d2, y0, y1, y2, y3, ff, hblk⟩ := HK.out w5 hb5; have f0 := ff 0; have f1 := ff 1; have f2 := ff 2; have f3 := ff 3; clear ff; have c0 := cells_of hblk 0 _ rfl; have c1 := cells_of hblk 1 _ rfl; have c2 := cells_of hblk 2 _ rfl; have c3 := cells_of hblk 3 _ rfl; clear hblk))
    obtain ⟨W2, hW2, r0, r1, r2, r3, hbf⟩ := HFIN.out _ hb5
    rw [hW2] at r0 r1 r2 r3 hbf
    exact bodyPost_ret (v := .tuple #[.agg #[.int .i64 0, .int .i64 0, .slice none 0 0, .slice none 0 0], .slice none 0 0, .int .i64 1]) (by simp [results, Tryz.results9, go_sem, r0, r1, r2, r3]) rfl ⟨_, _, rfl, PlanFrom.zero _ _, TurnRd.nil _, hbf⟩
  · have HGB := Lib.hid hgb
    cases heb : eventB ⟨k, nd, pt, cn⟩
    · have HEB := Lib.hid heb
      clear hgb heb
      go_enter Tryz.func9, Tryz.ntmps9
      go_upto_region 1 with fail
      rw [← hwa]
      clear hwa
      go_wp2_with (first | (go_at_call 15; refine HGD.out.mono ?_; rintro _ w5 ⟨rfl, hb5⟩; rw [HGB.out]; obtain ⟨d0, d2, y0, y1, y2, y3, ff, -⟩ := HK.out w5 hb5; clear ff) | (go_at_call 38; refine (HIE.out w5).mono ?_; rintro _ w6 ⟨rfl, hb6'⟩; rw [HEB.out]; have hb6 := hb5.trans (hb6'.mono hb5.size); obtain ⟨d0, d2, y0, y1, y2, y3, ff, hblk⟩ := HK.out w6 hb6; have f0 := ff 0; have f1 := ff 1; have f2 := ff 2; have f3 := ff 3; clear ff; have c0 := cells_of hblk 0 _ rfl; have c1 := cells_of hblk 1 _ rfl; have c2 := cells_of hblk 2 _ rfl; have c3 := cells_of hblk 3 _ rfl; clear hblk))
      obtain ⟨W2, hW2, r0, r1, r2, r3, hbf⟩ := HFIN.out _ hb6
      rw [hW2] at r0 r1 r2 r3 hbf
      exact bodyPost_ret (v := .tuple #[.agg #[.int .i64 0, .int .i64 0, .slice none 0 0, .slice none 0 0], .slice none 0 0, .int .i64 1]) (by simp [results, Tryz.results9, go_sem, r0, r1, r2, r3]) rfl ⟨_, _, rfl, PlanFrom.zero _ _, TurnRd.nil _, hbf⟩
    · have HEB := Lib.hid heb
      have hor : ¬ nd ≤ p.nodes ∨ ¬ pt < (p.parts.length : Int) := by
        simp only [canB, hgb, heb, Bool.true_and] at hc
        by_cases h1 : nd ≤ p.nodes
        · by_cases h2 : pt < (p.parts.length : Int)
          · simp [h1, h2] at hc
          · exact .inr h2
        · exact .inl h1
      clear hgb heb hc
      by_cases h1 : nd ≤ p.nodes
      · have h2 : ¬ pt < (p.parts.length : Int) := hor.resolve_left (fun h => h h1)
        clear hor
        go_enter Tryz.func9, Tryz.ntmps9
        go_upto_region 1 with fail
        rw [← hwa]
        clear hwa
        go_wp2_with (first | (go_at_call 15; refine HGD.out.mono ?_; rintro _ w5 ⟨rfl, hb5⟩; rw [HGB.out]; obtain ⟨d0, d2, y0, y1, y2, y3, ff, -⟩ := HK.out w5 hb5; clear ff) | (go_at_call 38; refine (HIE.out w5).mono ?_; rintro _ w6 ⟨rfl, hb6'⟩; rw [HEB.out]; have hb6 := hb5.trans (hb6'.mono hb5.size); obtain ⟨d0, d2, y0, y1, y2, y3, ff, hblk⟩ := HK.out w6 hb6; have f0 := ff 0; have f1 := ff 1; have f2 := ff 2; have f3 := ff 3; clear ff; have c0 := cells_of hblk 0 _ rfl; have c1 := cells_of hblk 1 _ rfl; have c2 := cells_of hblk 2 _ rfl; have c3 := cells_of hblk 3 _ rfl; clear hblk))
        obtain ⟨W2, hW2, r0, r1, r2, r3, hbf⟩ := HFIN.out _ hb6
        rw [hW2] at r0 r1 r2 r3 hbf
        exact bodyPost_ret (v := .tuple #[.agg #[.int .i64 0, .int .i64 0, .slice none 0 0, .slice none 0 0], .slice none 0 0, .int .i64 1]) (by simp [results, Tryz.results9, go_sem, r0, r1, r2, r3]) rfl ⟨_, _, rfl, PlanFrom.zero _ _, TurnRd.nil _, hbf⟩
      · clear hor
        go_enter Tryz.func9, Tryz.ntmps9
        go_upto_region 1 with fail
        rw [← hwa]
        clear hwa
        go_wp2_with (first | (go_at_call 15; refine HGD.out.mono ?_; rintro _ w5 ⟨rfl, hb5⟩; rw [HGB.out]; obtain ⟨d0, d2, y0, y1, y2, y3, ff, -⟩ := HK.out w5 hb5; clear ff) | (go_at_call 38; refine (HIE.out w5).mono ?_; rintro _ w6 ⟨rfl, hb6'⟩; rw [HEB.out]; have hb6 := hb5.trans (hb6'.mono hb5.size); obtain ⟨d0, d2, y0, y1, y2, y3, ff, hblk⟩ := HK.out w6 hb6; have f0 := ff 0; have f1 := ff 1; have f2 := ff 2; have f3 := ff 3; clear ff; have c0 := cells_of hblk 0 _ rfl; have c1 := cells_of hblk 1 _ rfl; have c2 := cells_of hblk 2 _ rfl; have c3 := cells_of hblk 3 _ rfl; clear hblk))
        obtain ⟨W2, hW2, r0, r1, r2, r3, hbf⟩ := HFIN.out _ hb6
        rw [hW2] at r0 r1 r2 r3 hbf
        exact bodyPost_ret (v := .tuple #[.agg #[.int .i64 0, .int .i64 0, .slice none 0 0, .slice none 0 0], .slice none 0 0, .int .i64 1]) (by simp [results, Tryz.results9, go_sem, r0, r1, r2, r3]) rfl ⟨_, _, rfl, PlanFrom.zero _ _, TurnRd.nil _, hbf⟩
end Go.Proofs.YtjkobbmdemooaaaGreatDoor
