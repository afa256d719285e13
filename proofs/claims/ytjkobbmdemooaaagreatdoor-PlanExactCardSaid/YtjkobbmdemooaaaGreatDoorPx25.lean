/- The walk of plan.change: a partition more. -/
import Derived.Test.YtjkobbmdemooaaaGreatDoorPx24
namespace Go.Proofs.YtjkobbmdemooaaaGreatDoor
open Go.RowKit

set_option maxRecDepth 100000 in
set_option maxHeartbeats 4000000 in
theorem change_create {w : World} {N pb : Nat} {p : Pl} {pa : Option Addr} {pc : Nat} {la : Option Addr} {lc : Nat} {m : List (Value × Pt)} (h : PlanOwn w N pb p pa pc la lc m) (hg : goodP p = true) (nd pt cn : Int) :
    Calls Tryz.prog 40 #[.pointer (some ⟨pb, 0, none⟩), (Event.v ⟨4, nd, pt, cn⟩)] w (ChangedTo w N pb (changeP p ⟨4, nd, pt, cn⟩)) := by
  obtain ⟨hs, hc5, -⟩ := small_of_good hg
  have hgi := goodP_iff.1 hg
  simp only [Event.v] at *
  have hb1 := below_alloc w (.cells #[.int .i64 4, .int .i64 nd, .int .i64 pt, .int .i64 cn] 27)
  have h1 := h.below hb1
  have hlow := h.low
  have hlt := h.lt
  obtain ⟨wa, hwa⟩ : ∃ wa, wa = w.alloc (.cells #[.int .i64 4, .int .i64 nd, .int .i64 pt, .int .i64 cn] 27) := ⟨_, rfl⟩
  have hsz : wa.heap.size = w.heap.size + 1 := by rw [hwa]; simp
  have hx : wa.heap[w.heap.size]? = some (.cells #[.int .i64 4, .int .i64 nd, .int .i64 pt, .int .i64 cn] 27 (0, 0)) := by rw [hwa]; exact heap_alloc_new _ _
  rw [← hwa] at h1 hb1
  have x0 := cells_of hx 0 _ rfl
  have p2 := cells_of h1.blk 2 _ rfl
  have hNa : N ≤ wa.heap.size := by omega
  have hk4 : p.parts.length ≤ 4 := by omega
  by_cases h4 : 4 ≤ p.parts.length
  · have hcp : changeP p ⟨4, nd, pt, cn⟩ = (p, [], 32) := by simp [changeP, h4]
    have HCP := Lib.hid hcp
    have h4' : (4 : Int) ≤ (p.parts.length : Int) := by omega
    have HSZ := Lib.hid hsz
    clear hcp h1 h hx hsz hgi
    go_enter Tryz.func40, Tryz.ntmps40
    go_wp2
    rw [← hwa]
    clear hwa
    refine wp_scope_goto 0 rfl ?_
    go_wp2
    rw [jump_ret]
    exact bodyPost_ret (v := .tuple #[.slice none 0 0, .int .i64 32]) (by simp [results, Tryz.results40, go_sem]) rfl (Or.inr ⟨by rw [HCP.out]; simp, by rw [HCP.out], hb1.mono (by omega)⟩)
  · have hcp : changeP p ⟨4, nd, pt, cn⟩ = (⟨p.nodes, p.copies, p.parts ++ [placeP p.parts.length p.nodes.toNat p.copies.toNat], p.lives⟩, [(p.parts.length : Int)], 0) := by simp [changeP, h4]
    have HCP := Lib.hid hcp
    obtain ⟨i1, ki, kz0, kz1, kz2⟩ := info_parts info_Part
    obtain ⟨n, hn⟩ : ∃ n, p.nodes.toNat = n := ⟨_, rfl⟩
    obtain ⟨c, hc⟩ : ∃ c, p.copies.toNat = c := ⟨_, rfl⟩
    have hn2 : p.nodes = (n : Int) := by omega
    have hc2 : p.copies = (c : Int) := by omega
    have hn0 : 0 < n := by omega
    have hn5 : n ≤ 1000 := by omega
    have hc5' : c ≤ 1000 := by omega
    rw [hn, hc] at HCP
    have hkeep : ∀ W, Upd (fun b => some b = (Value.slice pa p.parts.length pc).ownBlock) wa W → W.cell? ⟨pb, 0, none⟩ = some (.int .i64 n) ∧ W.cell? ⟨pb, 1, none⟩ = some (.int .i64 c) ∧
        W.cell? ⟨pb, 2, none⟩ = some (.slice pa p.parts.length pc) ∧ W.frozen? ⟨pb, 2, none⟩ = false := by
      intro W hu
      have hne : ¬ some pb = (Value.slice pa p.parts.length pc).ownBlock := fun e => by obtain ⟨c', hc'⟩ := owns_block h1.parts.own _ e.symm; exact block_ne h1.blk hc' (by decide) rfl
      have hb2 := (hu.block pb h1.lt hne).trans h1.blk
      rw [hn2, hc2] at hb2
      exact ⟨cells_of hb2 0 _ rfl, cells_of hb2 1 _ rfl, cells_of hb2 2 _ rfl, frozen_of hb2⟩
    have hownk : wa.ownsRow N 74 3 (.slice pa p.parts.length pc) p.parts.length (partCells m) := by have := h1.parts.own; rw [h1.len] at this; exact this
    have hall : ∀ (w5 w9 : World) (ca : Option Addr) (cc g9 gcap9 : Nat), Upd (fun _ => False) wa w5 → w5.ownsRow wa.heap.size 3 1 (.slice ca c cc) c (intCells (chainP p.parts.length n c)) →
        w9.ownsRow N 74 3 (.slice (some ⟨g9, 0, none⟩) (p.parts.length + 1) gcap9) (p.parts.length + 1) (partCells m ++ [.int .i64 1, .slice ca c cc, .int .i64 0]) → Upd (fun b => some b = (Value.slice pa p.parts.length pc).ownBlock) w5 w9 →
        (∃ m', PlanOwn (w9.setCell ⟨pb, 2, none⟩ (.slice (some ⟨g9, 0, none⟩) (p.parts.length + 1) gcap9)) N pb (changeP p ⟨4, nd, pt, cn⟩).1 (some ⟨g9, 0, none⟩) gcap9 la lc m') ∧ Below N w (w9.setCell ⟨pb, 2, none⟩ (.slice (some ⟨g9, 0, none⟩) (p.parts.length + 1) gcap9)) := by
      intro w5 w9 ca cc g9 gcap9 hu5 hown5 hown9 hu9
      have hsn := h1.parts.snoc (x := placeP p.parts.length n c) hNa hu5.below (cv := .slice ca c cc) (by simpa [placeP, chainP_length] using hown5) hu9 (by rw [h1.len]; exact hown9)
      have hu : Upd (fun b => some b = (Value.slice pa p.parts.length pc).ownBlock) wa w9 := (hu5.mono (fun _ _ h => h.elim)).trans hu9
      have hPl : (p.parts ++ [placeP p.parts.length n c]).length = p.parts.length + 1 := by simp
      have hlo := fun g hg => (owns_lt h1.parts.own g hg).1
      have hset := h1.setParts hu (fun k e => owns_block h1.parts.own k e.symm) (P := p.parts ++ [placeP p.parts.length n c]) (m' := m ++ [(.slice ca c cc, placeP p.parts.length n c)]) (pa' := some ⟨g9, 0, none⟩) (pc' := gcap9) (by rw [List.map_append, h1.eq]; rfl) (by rw [hPl]; exact hsn)
      rw [hPl] at hset
      refine ⟨⟨m ++ [(.slice ca c cc, placeP p.parts.length n c)], ?_⟩, ?_⟩
      · rw [HCP.out]; exact hset
      · have := hu.size
        exact (hb1.mono (by omega)).trans ((hu.toBelow hNa (fun b e => hlo b e.symm)).trans ((upd_set1 w9 pb 2 _).toBelow (by omega) (fun b e => by omega)))
    have HK := Lib.hid hkeep
    have HALL := Lib.hid hall
    have HOWN := Lib.hid hownk
    obtain ⟨c0, c1, c2, f2⟩ := hkeep wa (Upd.refl _ _)
    obtain ⟨e0, e1, e2, -⟩ := hkeep wa.drew (upd_drew _ _)
    have HE := Lib.hid (And.intro e0 (And.intro e1 e2))
    have h4' : ¬ (4 : Int) ≤ (p.parts.length : Int) := by omega
    have HSZ := Lib.hid hsz
    have h40 : p.parts.length + 1 ≤ 1000 := by omega
    have hk0 : p.parts.length ≤ 1000 := by omega
    clear hkeep hall hownk hcp h1 h hx hsz hgi hn2 hc2 e0 e1 e2 hn hc
    generalize hk : p.parts.length = k at *
    have HKK := Lib.hid hk
    clear hk
    go_enter Tryz.func40, Tryz.ntmps40
    go_wp2
    rw [← hwa]
    clear hwa
    refine wp_scope_goto 0 rfl ?_
    go_wp2
    go_region_law
      (first
        | (refine step_append_lies _ (by rfl) _ _ _ (by rfl) N 74 i1 _ 3 40 und_Parts ki kz0 kz1 kz2 rfl (by omega) (.slice pa k pc) k (partCells m) (by rfl) ((owns_upd HOWN.out hu5 (fun _ _ h => h)).alloc _) ⟨w5.heap.size, 0, none⟩ 1 1 [.int .i64 1, .slice ca c cc, .int .i64 0] (by rfl) (by rfl) (World.news_of_block (cs := #[.int .i64 1, .slice ca c cc, .int .i64 0]) (t := 74) (fr := (0, 0)) (heap_alloc_new w5 _)) (by simp [Value.oneCell']) (by omega) ?_ ?_ ?_ _ rfl ?_; (unfold maxLen; omega); omega; (first | (simp only [World.size_alloc, World.size_drew]; omega) | omega); rintro g9 gcap9 w9 hown9 hgrow9 - hlt9; obtain ⟨_, _, c9, f9⟩ := HK.out w9 (((Upd.of_below hu5.below).trans (upd_alloc _ w5 _)).trans (upd_grown hgrow9)))
        | (go_simp; go_at_call 47; refine (place_any k n c _ hn0 hk0 hn5 hc5').mono ?_; rintro e w5 ⟨cv, rfl, hown5, hb5⟩; obtain ⟨ca, cc, rfl, -⟩ := (Sl.of_owns hown5).shape; have hu5 : Upd (fun _ => False) wa w5 := (upd_drew _ wa).trans (Upd.of_below hb5); have hs5 := hu5.size; obtain ⟨c50, c51, c52, f5⟩ := HK.out w5 (Upd.of_below hu5.below); have hka : ∀ o, (w5.alloc o).cell? ⟨pb, 2, none⟩ = some (.slice pa k pc) := fun o => (HK.out (w5.alloc o) ((Upd.of_below hu5.below).trans (upd_alloc _ w5 o))).2.2.1))
    all_goals
      have hu9 := ((upd_alloc (fun b => some b = (Value.slice pa k pc).ownBlock) w5 (.cells #[.int .i64 1, .slice ca c cc, .int .i64 0] 74))).trans (upd_grown hgrow9)
      have hz := HALL.out w5 w9 ca cc g9 gcap9 hu5 (owns_mono hown5 (Nat.le_refl _)) hown9 hu9
      have HZ := Lib.hid hz
      clear hz hu9 hgrow9 hown9 hown5 hb5 hu5 c9 f9 hka c50 c51 c52 f5 c0 c1 c2 f2
      go_wp2
      rw [jump_ret]
      obtain ⟨⟨m', hz1⟩, hz2⟩ := HZ.out
      have hs3 := heap_alloc_new (w9.setCell ⟨pb, 2, none⟩ (.slice (some ⟨g9, 0, none⟩) (k + 1) gcap9)) (.cells #[.int .i64 k] 3)
      have hszz : (w9.setCell ⟨pb, 2, none⟩ (.slice (some ⟨g9, 0, none⟩) (k + 1) gcap9)).heap.size = w9.heap.size := by simp [World.setCell]
      rw [hszz] at hs3
      have hlt2 := hz1.lt
      exact bodyPost_ret (v := .tuple #[.slice (some ⟨w9.heap.size, 0, none⟩) 1 1, .int .i64 0]) (by simp [results, Tryz.results40, go_sem]) rfl (Or.inl ⟨by rw [HCP.out], _, _, _, _, m', _, rfl, hz1.below (below_alloc _ _), by rw [HCP.out]; exact TurnRd.of_owns (ints_made hs3), hz2.trans ((below_alloc _ _).mono (by omega))⟩)
end Go.Proofs.YtjkobbmdemooaaaGreatDoor
