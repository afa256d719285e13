/- The walk of plan.change: a partition more. -/
/- The walk of plan.change: a node is to be brought up. -/
/- What Apply answers, case by case; plan.change at any event. -/
import Derived.Test.YtcpaaleogmiamaaGreatDoorMh22
import Derived.Test.YtcpaaleogmiamaaGreatDoorMh12
namespace Go.Proofs.YtcpaaleogmiamaaGreatDoor
open Go.RowKit

set_option maxRecDepth 100000 in
set_option maxHeartbeats 4000000 in
theorem change_create {w : World} {N pb : Nat} {p : Pl} {pa : Option Addr} {pc : Nat} {la : Option Addr} {lc : Nat} {m : List (Value × Pt)} (h : PlanOwn w N pb p pa pc la lc m) (hg : goodP p = true) (nd pt cn : Int) :
    Calls Tryz.prog 81 #[.pointer (some ⟨pb, 0, none⟩), (Event.v ⟨4, nd, pt, cn⟩)] w (ChangedTo w N pb (changeP p ⟨4, nd, pt, cn⟩)) := by
  obtain ⟨hs, hc5, -⟩ := small_of_good hg
  have hgi := goodP_iff.1 hg
  simp only [Event.v] at *
  have hb1 := below_alloc w (.cells #[.int .i64 4, .int .i64 nd, .int .i64 pt, .int .i64 cn] 58)
  have h1 := h.below hb1
  have hlow := h.low
  have hlt := h.lt
  obtain ⟨wa, hwa⟩ : ∃ wa, wa = w.alloc (.cells #[.int .i64 4, .int .i64 nd, .int .i64 pt, .int .i64 cn] 58) := ⟨_, rfl⟩
  have hsz : wa.heap.size = w.heap.size + 1 := by rw [hwa]; simp
  have hx : wa.heap[w.heap.size]? = some (.cells #[.int .i64 4, .int .i64 nd, .int .i64 pt, .int .i64 cn] 58 (0, 0)) := by rw [hwa]; exact heap_alloc_new _ _
  rw [← hwa] at h1 hb1
  have x0 := cells_of hx 0 _ rfl
  have p2 := cells_of h1.blk 2 _ rfl
  have hNa : N ≤ wa.heap.size := by omega
  have hk4 : p.parts.length ≤ 4 := by omega
  by_cases h4 : 4 ≤ p.parts.length
  · have hcp : changeP p ⟨4, nd, pt, cn⟩ = (p, [], 32) := by simp [changeP, h4]
    have HCP := Lib.hid hcp
    have h4' : (4 : Int) ≤ (p.parts.length : Int) := by omega
    have HSZ := Lib.hid hsz
    clear hcp h1 h hx hsz hgi
    go_enter Tryz.func81, Tryz.ntmps81
    go_wp2
    rw [← hwa]
    clear hwa
    refine wp_scope_goto 0 rfl ?_
    go_wp2
    rw [jump_ret]
    exact bodyPost_ret (v := .tuple #[.slice none 0 0, .int .i64 32]) (by simp [results, Tryz.results81, go_sem]) rfl (Or.inr ⟨by rw [HCP.out]; simp, by rw [HCP.out], hb1.mono (by omega)⟩)
  · have hcp : changeP p ⟨4, nd, pt, cn⟩ = (⟨p.nodes, p.copies, p.parts ++ [placeP p.parts.length p.nodes.toNat p.copies.toNat], p.lives⟩, [(p.parts.length : Int)], 0) := by simp [changeP, h4]
    have HCP := Lib.hid hcp
    obtain ⟨i1, ki, kz0, kz1, kz2⟩ := info_parts info_Part
    obtain ⟨n, hn⟩ : ∃ n, p.nodes.toNat = n := ⟨_, rfl⟩
    obtain ⟨c, hc⟩ : ∃ c, p.copies.toNat = c := ⟨_, rfl⟩
    have hn2 : p.nodes = (n : Int) := by omega
    have hc2 : p.copies = (c : Int) := by omega
    have hn0 : 0 < n := by omega
    have hn5 : n ≤ 1000 := by omega
    have hc5' : c ≤ 1000 := by omega
    rw [hn, hc] at HCP
    have hkeep : ∀ W, Upd (fun b => some b = (Value.slice pa p.parts.length pc).ownBlock) wa W → W.cell? ⟨pb, 0, none⟩ = some (.int .i64 n) ∧ W.cell? ⟨pb, 1, none⟩ = some (.int .i64 c) ∧
        W.cell? ⟨pb, 2, none⟩ = some (.slice pa p.parts.length pc) ∧ W.frozen? ⟨pb, 2, none⟩ = false := by
      intro W hu
      have hne : ¬ some pb = (Value.slice pa p.parts.length pc).ownBlock := fun e => by obtain ⟨c', hc'⟩ := owns_block h1.parts.own _ e.symm; exact block_ne h1.blk hc' (by decide) rfl
      have hb2 := (hu.block pb h1.lt hne).trans h1.blk
      rw [hn2, hc2] at hb2
      exact ⟨cells_of hb2 0 _ rfl, cells_of hb2 1 _ rfl, cells_of hb2 2 _ rfl, frozen_of hb2⟩
    have hownk : wa.ownsRow N 36 3 (.slice pa p.parts.length pc) p.parts.length (partCells m) := by have := h1.parts.own; rw [h1.len] at this; exact this
    have hall : ∀ (w5 w9 : World) (ca : Option Addr) (cc g9 gcap9 : Nat), Upd (fun _ => False) wa w5 → w5.ownsRow wa.heap.size 3 1 (.slice ca c cc) c (intCells (chainP p.parts.length n c)) →
        w9.ownsRow N 36 3 (.slice (some ⟨g9, 0, none⟩) (p.parts.length + 1) gcap9) (p.parts.length + 1) (partCells m ++ [.int .i64 1, .slice ca c cc, .int .i64 0]) → Upd (fun b => some b = (Value.slice pa p.parts.length pc).ownBlock) w5 w9 →
        (∃ m', PlanOwn (w9.setCell ⟨pb, 2, none⟩ (.slice (some ⟨g9, 0, none⟩) (p.parts.length + 1) gcap9)) N pb (changeP p ⟨4, nd, pt, cn⟩).1 (some ⟨g9, 0, none⟩) gcap9 la lc m') ∧ Below N w (w9.setCell ⟨pb, 2, none⟩ (.slice (some ⟨g9, 0, none⟩) (p.parts.length + 1) gcap9)) := by
      intro w5 w9 ca cc g9 gcap9 hu5 hown5 hown9 hu9
      have hsn := h1.parts.snoc (x := placeP p.parts.length n c) hNa hu5.below (cv := .slice ca c cc) (by simpa [placeP, chainP_length] using hown5) hu9 (by rw [h1.len]; exact hown9)
      have hu : Upd (fun b => some b = (Value.slice pa p.parts.length pc).ownBlock) wa w9 := (hu5.mono (fun _ _ h => h.elim)).trans hu9
      have hPl : (p.parts ++ [placeP p.parts.length n c]).length = p.parts.length + 1 := by simp
      have hlo := fun g hg => (owns_lt h1.parts.own g hg).1
      have hset := h1.setParts hu (fun k e => owns_block h1.parts.own k e.symm) (P := p.parts ++ [placeP p.parts.length n c]) (m' := m ++ [(.slice ca c cc, placeP p.parts.length n c)]) (pa' := some ⟨g9, 0, none⟩) (pc' := gcap9) (by rw [List.map_append, h1.eq]; rfl) (by rw [hPl]; exact hsn)
      rw [hPl] at hset
      refine ⟨⟨m ++ [(.slice ca c cc, placeP p.parts.length n c)], ?_⟩, ?_⟩
      · rw [HCP.out]; exact hset
      · have := hu.size
        exact (hb1.mono (by omega)).trans ((hu.toBelow hNa (fun b e => hlo b e.symm)).trans ((upd_set1 w9 pb 2 _).toBelow (by omega) (fun b e => by omega)))
    have HK := Lib.hid hkeep
    have HALL := Lib.hid hall
    have HOWN := Lib.hid hownk
    obtain ⟨c0, c1, c2, f2⟩ := hkeep wa (Upd.refl _ _)
    obtain ⟨e0, e1, e2, -⟩ := hkeep wa.drew (upd_drew _ _)
    have HE := Lib.hid (And.intro e0 (And.intro e1 e2))
    have h4' : ¬ (4 : Int) ≤ (p.parts.length : Int) := by omega
    have HSZ := Lib.hid hsz
    have h40 : p.parts.length + 1 ≤ 1000 := by omega
    have hk0 : p.parts.length ≤ 1000 := by omega
    clear hkeep hall hownk hcp h1 h hx hsz hgi hn2 hc2 e0 e1 e2 hn hc
    generalize hk : p.parts.length = k at *
    have HKK := Lib.hid hk
    clear hk
    go_enter Tryz.func81, Tryz.ntmps81
    go_wp2
    rw [← hwa]
    clear hwa
    refine wp_scope_goto 0 rfl ?_
    go_wp2
    go_region_law
      (first
        | (refine step_append_lies _ (by rfl) _ _ _ (by rfl) N 36 i1 _ 3 40 und_Parts ki kz0 kz1 kz2 rfl (by omega) (.slice pa k pc) k (partCells m) (by rfl) ((owns_upd HOWN.out hu5 (fun _ _ h => h)).alloc _) ⟨w5.heap.size, 0, none⟩ 1 1 [.int .i64 1, .slice ca c cc, .int .i64 0] (by rfl) (by rfl) (World.news_of_block (cs := #[.int .i64 1, .slice ca c cc, .int .i64 0]) (t := 36) (fr := (0, 0)) (heap_alloc_new w5 _)) (by simp [Value.oneCell']) (by omega) ?_ ?_ ?_ _ rfl ?_; (unfold maxLen; omega); omega; (first | (simp only [World.size_alloc]; omega) | omega); rintro g9 gcap9 w9 hown9 hgrow9 - hlt9; obtain ⟨_, _, c9, f9⟩ := HK.out w9 (((Upd.of_below hu5.below).trans (upd_alloc _ w5 _)).trans (upd_grown hgrow9)))
        | (go_simp; go_at_call 130; refine (place_any k n c _ hn0 hk0 hn5 hc5').mono ?_; rintro e w5 ⟨cv, rfl, hown5, hb5⟩; obtain ⟨ca, cc, rfl, -⟩ := (Sl.of_owns hown5).shape; have hu5 : Upd (fun _ => False) wa w5 := (upd_drew _ wa).trans (Upd.of_below hb5); have hs5 := hu5.size; obtain ⟨c50, c51, c52, f5⟩ := HK.out w5 (Upd.of_below hu5.below); have hka : ∀ o, (w5.alloc o).cell? ⟨pb, 2, none⟩ = some (.slice pa k pc) := fun o => (HK.out (w5.alloc o) ((Upd.of_below hu5.below).trans (upd_alloc _ w5 o))).2.2.1))
    all_goals
      have hu9 := ((upd_alloc (fun b => some b = (Value.slice pa k pc).ownBlock) w5 (.cells #[.int .i64 1, .slice ca c cc, .int .i64 0] 36))).trans (upd_grown hgrow9)
      have hz := HALL.out w5 w9 ca cc g9 gcap9 hu5 (owns_mono hown5 (Nat.le_refl _)) hown9 hu9
      have HZ := Lib.hid hz
      clear hz hu9 hgrow9 hown9 hown5 hb5 hu5 c9 f9 hka c50 c51 c52 f5 c0 c1 c2 f2
      go_wp2
      rw [jump_ret]
      obtain ⟨⟨m', hz1⟩, hz2⟩ := HZ.out
      have hs3 := heap_alloc_new (w9.setCell ⟨pb, 2, none⟩ (.slice (some ⟨g9, 0, none⟩) (k + 1) gcap9)) (.cells #[.int .i64 k] 3)
      have hszz : (w9.setCell ⟨pb, 2, none⟩ (.slice (some ⟨g9, 0, none⟩) (k + 1) gcap9)).heap.size = w9.heap.size := by simp [World.setCell]
      rw [hszz] at hs3
      have hlt2 := hz1.lt
      exact bodyPost_ret (v := .tuple #[.slice (some ⟨w9.heap.size, 0, none⟩) 1 1, .int .i64 0]) (by simp [results, Tryz.results81, go_sem]) rfl (Or.inl ⟨by rw [HCP.out], _, _, _, _, m', _, rfl, hz1.below (below_alloc _ _), by rw [HCP.out]; exact TurnRd.of_owns (ints_made hs3), hz2.trans ((below_alloc _ _).mono (by omega))⟩)
end Go.Proofs.YtcpaaleogmiamaaGreatDoor
namespace Go.Proofs.YtcpaaleogmiamaaGreatDoor
open Go.RowKit

/-- A region that draws its order, whose operations leave all below N alone. -/
theorem wp_region_belowP {P : Program} {id : Nat} {Q : Exit → Act → World → Prop} {a : Act} {w : World} {l : List Oper} (N : Nat) (hm : P.follows .mixedOrders = true) (hB : Region.lexB .any l.toArray = true)
    (h : wpQuiet P l.toArray (fun w' => Below N w w') (fun a' => ∀ w', Below N w w' → Q .normal a' w') l a) : (Code.region id l.toArray true).wp P Q a w :=
  wp_region_quiet (C := fun w' => Below N w w') hm hB (Below.refl _ _).drew (by simpa using h)

set_option maxRecDepth 100000 in
set_option maxHeartbeats 4000000 in
theorem change_join {w : World} {N pb : Nat} {p : Pl} {pa : Option Addr} {pc : Nat} {la : Option Addr} {lc : Nat} {m : List (Value × Pt)} (h : PlanOwn w N pb p pa pc la lc m) (hg : goodP p = true) (nd cn : Int) (j : Nat) (hj : j < p.parts.length) :
    Calls Tryz.prog 81 #[.pointer (some ⟨pb, 0, none⟩), (Event.v ⟨5, nd, j, cn⟩)] w (ChangedTo w N pb (changeP p ⟨5, nd, j, cn⟩)) := by
  obtain ⟨hs, hc5, -⟩ := small_of_good hg
  have hr := (goodP_iff.1 hg).2.2.2.2.2
  have hL := hs.lives
  have hL4 := hs.parts
  simp only [Event.v] at *
  have hb1 := below_alloc w (.cells #[.int .i64 5, .int .i64 nd, .int .i64 j, .int .i64 cn] 58)
  have h1 := h.below hb1
  have hlow := h.low
  have hlt := h.lt
  obtain ⟨wa, hwa⟩ : ∃ wa, wa = w.alloc (.cells #[.int .i64 5, .int .i64 nd, .int .i64 j, .int .i64 cn] 58) := ⟨_, rfl⟩
  have hsz : wa.heap.size = w.heap.size + 1 := by rw [hwa]; simp
  have hx : wa.heap[w.heap.size]? = some (.cells #[.int .i64 5, .int .i64 nd, .int .i64 j, .int .i64 cn] 58 (0, 0)) := by rw [hwa]; exact heap_alloc_new _ _
  rw [← hwa] at h1 hb1
  obtain ⟨g, rfl⟩ := h1.ptr (by omega)
  have j0 : (0 : Int) ≤ (j : Int) := by omega
  have j1 : (j : Int) < (p.parts.length : Int) := by omega
  have hkeep : ∀ W, Below wa.heap.size wa W → W.cell? ⟨pb, 0, none⟩ = some (.int .i64 p.nodes) ∧ W.cell? ⟨pb, 1, none⟩ = some (.int .i64 p.copies) ∧ W.cell? ⟨pb, 2, none⟩ = some (.slice (some ⟨g, 0, none⟩) p.parts.length pc) ∧ W.cell? ⟨pb, 3, none⟩ = some (.slice la p.lives.length lc) ∧
      W.cell? ⟨w.heap.size, 0, none⟩ = some (.int .i64 5) ∧ W.cell? ⟨w.heap.size, 1, none⟩ = some (.int .i64 nd) ∧ W.cell? ⟨w.heap.size, 2, none⟩ = some (.int .i64 j) ∧ W.cell? ⟨w.heap.size, 3, none⟩ = some (.int .i64 cn) := by
    intro W hb
    have h2 := (h1.below hb).blk
    have h3 := (hb.block w.heap.size (by omega)).trans hx
    exact ⟨cells_of h2 0 _ rfl, cells_of h2 1 _ rfl, cells_of h2 2 _ rfl, cells_of h2 3 _ rfl, cells_of h3 0 _ rfl, cells_of h3 1 _ rfl, cells_of h3 2 _ rfl, cells_of h3 3 _ rfl⟩
  obtain ⟨-, -, -, -, x0, x1, x2, x3⟩ := hkeep wa (Below.refl _ _)
  have HK := Lib.hid hkeep
  have HP := Lib.hid (fun W (hb : Below wa.heap.size wa W) => (h1.below hb).rd)
  have H1 := Lib.hid (And.intro h1 hx)
  obtain ⟨lf, hlf⟩ : ∃ lf, lifeP p.lives nd = lf := ⟨_, rfl⟩
  have HLF := Lib.hid hlf
  have hcp : changeP p ⟨5, nd, j, cn⟩ = if lf = 0 ∨ (wantsP p nd).contains (j : Int) = false then (p, [], 21) else (⟨p.nodes, p.copies, p.parts.set j ⟨p.parts[j].epoch, p.parts[j].chain, nd⟩, p.lives⟩, [(j : Int)], 0) := by rw [← hlf]; simp [changeP, atP_lt hj]
  have HCP := Lib.hid hcp
  have hlc : ∀ W, Below wa.heap.size wa W → Calls Tryz.prog 134 #[planV p (some ⟨g, 0, none⟩) pc la lc, .int .i64 nd] W fun e w5 => e = .returned (.int .i64 lf) ∧ Below wa.heap.size wa w5 := by
    intro W hb
    refine (Life_any (HP.out _ hb) hr hL nd).mono ?_
    rintro e w5 ⟨rfl, hb5⟩
    exact ⟨by rw [hlf], hb.trans (hb5.mono hb.size)⟩
  have HLC := Lib.hid hlc
  have HSZ := Lib.hid hsz
  have hNa : N ≤ wa.heap.size := by omega
  clear hkeep h1 h hx hcp hlf hlc hsz
  by_cases h0 : lf = 0
  · subst h0
    go_enter Tryz.func81, Tryz.ntmps81
    go_wp2
    rw [← hwa]
    clear hwa
    refine wp_scope_goto 0 rfl ?_
    go_wp2
    refine wp_region_belowP wa.heap.size (by kernel_rfl) (by kernel_rfl) ?_
    iterate 19 (first
      | go_big_quiet_skip
      | (go_big_quiet_want; rename_i K hK
         unfold Oper.quiet
         apply Exists.intro
         refine ⟨fun w' hw' => ?_, hK _ ?_⟩
         · obtain ⟨d0, d1, d2, d3, y0, y1, y2, y3⟩ := HK.out w' hw'
           unfold Oper.quietAt
           go_simp
           first
             | with_reducible rfl
             | with_reducible exact HLC.out w' hw'
         clear hK K
         simp only [Act.put, List.setIfInBounds_toArray, List.set_cons_zero, List.set_cons_succ]))
    refine wpQuiet_nil ?_
    intro w2 hw2
    go_wp2
    apply wp_goto
    repeat (first | simp only [Exit.inBlock, Exit.then, jump_goto] | go_big_open)
    go_wp2
    rw [Exit.noGoto_ret]
    exact bodyPost_ret (v := .tuple #[.slice none 0 0, .int .i64 21]) (by simp [results, Tryz.results81, go_sem]) rfl (Or.inr ⟨by rw [HCP.out]; simp, by rw [HCP.out]; simp, (hb1.mono (by omega)).trans (hw2.mono hNa)⟩)
  · have hwc : ∀ W, Below wa.heap.size wa W → Calls Tryz.prog 19 #[planV p (some ⟨g, 0, none⟩) pc la lc, .int .i64 nd] W fun e w5 => ∃ ta tl tc, e = .returned (.slice ta tl tc) ∧ IntsRd w5 (.slice ta tl tc) (wantsP p nd) ∧ Below wa.heap.size wa w5 := by
      intro W hb
      refine (Wants_any (HP.out _ hb) hL4 nd).mono ?_
      rintro e w5 ⟨tv, rfl, hrd, hb5⟩
      obtain ⟨ta, tc, rfl, -⟩ := Rd.shape hrd
      exact ⟨_, _, _, rfl, hrd, hb.trans (hb5.mono hb.size)⟩
    have HWC := Lib.hid hwc
    clear hwc
    have hfin : ∀ W, Below wa.heap.size wa W → W.cell? ⟨g, j * 3 + 2, none⟩ = some (.int .i64 p.parts[j].learner) ∧ W.frozen? ⟨g, j * 3 + 2, none⟩ = false ∧
        (∃ m', PlanOwn (W.setCell ⟨g, j * 3 + 2, none⟩ (.int .i64 nd)) N pb ⟨p.nodes, p.copies, p.parts.set j ⟨p.parts[j].epoch, p.parts[j].chain, nd⟩, p.lives⟩ (some ⟨g, 0, none⟩) pc la lc m') ∧ Below N w (W.setCell ⟨g, j * 3 + 2, none⟩ (.int .i64 nd)) := by
      intro W hb
      have hW := H1.out.1.below hb
      obtain ⟨hjm, ca, cc, em, e0, e1, e2, fg, hcn, hgp, hgl, hgN⟩ := hW.place j hj
      obtain ⟨m1, hm1, -⟩ := hW.setLearner j hj nd
      have hbs := hb.size
      exact ⟨e2, fg _, ⟨m1, hm1⟩, (hb1.mono (by omega)).trans ((hb.mono hNa).trans ((upd_set1 W g (j * 3 + 2) _).toBelow (by omega) (fun b e => by omega)))⟩
    have HFIN := Lib.hid hfin
    have hgw : g ≠ w.heap.size := fun e => by obtain ⟨c', hc'⟩ := owns_block H1.out.1.parts.own g rfl; exact block_ne hc' H1.out.2 (by decide) e
    clear hfin
    obtain ⟨bc, hbc⟩ : ∃ bc, (wantsP p nd).contains (j : Int) = bc := ⟨_, rfl⟩
    have HBC := Lib.hid hbc
    rw [hbc] at HCP
    clear hbc
    have hz1 : (lf == 0) = false := by simpa using h0
    have hz2 : decide (lf = 0) = false := by simpa using h0
    have hgi := HFIN
    go_enter Tryz.func81, Tryz.ntmps81
    go_wp2
    rw [← hwa]
    clear hwa
    refine wp_scope_goto 0 rfl ?_
    go_upto_region 13 with fail
    clear x0 x1 x2 x3
    go_cut [86] from 68 to 86 (fun v wx => v = .bool (!bc) ∧ Below wa.heap.size wa wx)
    case first =>
      clear HFIN hgi H1 HCP hgw
      obtain ⟨d0, d1, d2, d3, y0, y1, y2, y3⟩ := HK.out wa (Below.refl _ _)
      go_region_law
        (first
          | (go_simp; go_at_call 134; refine (HLC.out _ (Below.refl _ _).drew).mono ?_; rintro e w5 ⟨rfl, hb5⟩; obtain ⟨d50, d51, d52, d53, y50, y51, y52, y53⟩ := HK.out w5 hb5)
          | (go_simp; go_at_call 19; refine (HWC.out _ hb5).mono ?_; rintro e w6 ⟨ta, tl, tc, rfl, hrd6, hb6⟩; obtain ⟨d60, d61, d62, d63, y60, y61, y62, y63⟩ := HK.out w6 hb6)
          | (go_simp; go_at_call 75; refine (Contains_any hrd6 _).mono ?_; rintro e w7 ⟨rfl, rfl⟩; rw [HBC.out]; clear hb5 d50 d51 d52 d53 y50 y51 y52 y53 d0 d1 d2 d3 y0 y1 y2 y3 hrd6))
      all_goals
        clear d60 d61 d62 d63 y60 y61 y62 y63
        go_wp2_with fail
        go_meet
        exact ⟨rfl, hb6⟩
    case rest =>
      obtain ⟨rfl, hb6⟩ := hcut
      obtain ⟨-, -, d62, -, -, y61, y62, -⟩ := HK.out _ hb6
      have hb7 := hb6
      cases bc
      · go_wp2
        apply wp_goto
        repeat (first | simp only [Exit.inBlock, Exit.then, jump_goto] | go_big_open)
        go_wp2
        rw [Exit.noGoto_ret]
        exact bodyPost_ret (v := .tuple #[.slice none 0 0, .int .i64 21]) (by simp [results, Tryz.results81, go_sem]) rfl (Or.inr ⟨by rw [HCP.out]; simp, by rw [HCP.out]; simp, (hb1.mono (by omega)).trans (hb6.mono hNa)⟩)
      · rw [if_neg (by simp [h0])] at HCP
        go_wp2
        obtain ⟨q1, q2, hz1, hz2⟩ := HFIN.out wc hb6
        have HZ := Lib.hid (And.intro hz1 hz2)
        clear hz1 hz2 hb6 hb7
        go_region
        all_goals
          go_wp2
          rw [jump_ret]
          obtain ⟨⟨m', hz1⟩, hz2⟩ := HZ.out
          have hs3 := heap_alloc_new (wc.setCell ⟨g, j * 3 + 2, none⟩ (.int .i64 nd)).drew (.cells #[.int .i64 j] 3)
          have hszz : (wc.setCell ⟨g, j * 3 + 2, none⟩ (.int .i64 nd)).drew.heap.size = wc.heap.size := by simp [World.setCell]
          rw [hszz] at hs3
          have hlt2 := hz1.lt
          exact bodyPost_ret (v := .tuple #[.slice (some ⟨wc.heap.size, 0, none⟩) 1 1, .int .i64 0]) (by simp [results, Tryz.results81, go_sem]) rfl (Or.inl ⟨by rw [HCP.out], _, _, _, _, m', _, rfl, by rw [HCP.out]; exact (hz1.below (Below.refl _ _).drew).below (below_alloc _ _), by rw [HCP.out]; exact TurnRd.of_owns (ints_made hs3), (hz2.trans ((Below.refl _ _).drew.mono (by omega))).trans ((below_alloc _ _).mono (by simp only [World.size_drew]; omega))⟩)
end Go.Proofs.YtcpaaleogmiamaaGreatDoor
namespace Go.Proofs.YtcpaaleogmiamaaGreatDoor
open Go.RowKit

theorem applyP_arg {p : Pl} {x : Event} (h : canB p x = false) : applyP p x = (.zero, [], 1) := by simp [applyP, h]
theorem applyP_err {p : Pl} {x : Event} {q : Pl} {T : List Int} {e : Int} (h : canB p x = true) (hR : changeP p x = (q, T, e)) (he : e ≠ 0) : applyP p x = (.zero, [], e) := by simp [applyP, h, hR, he]
theorem applyP_create {p : Pl} {x : Event} {q : Pl} {T : List Int} (h : canB p x = true) (hR : changeP p x = (q, T, 0)) (hk : x.kind = 4) : applyP p x = (q, T, 0) := by simp [applyP, h, hR, hk]
theorem applyP_ok {p : Pl} {x : Event} {q : Pl} {T : List Int} {Q : List Pt} (h : canB p x = true) (hR : changeP p x = (q, T, 0)) (hk : x.kind ≠ 4) (hb : bumpP q.parts T = some Q) : applyP p x = (⟨q.nodes, q.copies, Q, q.lives⟩, T, 0) := by simp [applyP, h, hR, hk, hb]
theorem applyP_many {p : Pl} {x : Event} {q : Pl} {T : List Int} (h : canB p x = true) (hR : changeP p x = (q, T, 0)) (hk : x.kind ≠ 4) (hb : bumpP q.parts T = none) : applyP p x = (.zero, [], 32) := by simp [applyP, h, hR, hk, hb]

theorem eventB_part {x : Event} (h : eventB x = true) : 0 ≤ x.part := by
  unfold eventB at h
  split at h
  · simp [inB] at h; omega
  split at h
  · simp [inB] at h; omega
  split at h
  · simp [inB] at h; omega
  split at h
  · simp at h; omega
  split at h
  · simp [inB] at h; omega
  · cases h

theorem eventB_kind {x : Event} (h : eventB x = true) : x.kind = 1 ∨ x.kind = 2 ∨ x.kind = 3 ∨ x.kind = 4 ∨ x.kind = 5 := by
  unfold eventB at h
  by_cases h1 : x.kind = 1
  · exact .inl h1
  by_cases h2 : x.kind = 2
  · exact .inr (.inl h2)
  by_cases h3 : x.kind = 3
  · exact .inr (.inr (.inl h3))
  by_cases h4 : x.kind = 4
  · exact .inr (.inr (.inr (.inl h4)))
  by_cases h5 : x.kind = 5
  · exact .inr (.inr (.inr (.inr h5)))
  · simp [h1, h2, h3, h4, h5] at h

theorem canB_iff {p : Pl} {x : Event} : canB p x = true ↔ goodP p = true ∧ eventB x = true ∧ x.node ≤ p.nodes ∧ x.part < (p.parts.length : Int) := by
  simp [canB]

theorem change_any {w : World} {N pb : Nat} {p : Pl} {pa : Option Addr} {pc : Nat} {la : Option Addr} {lc : Nat} {m : List (Value × Pt)} (h : PlanOwn w N pb p pa pc la lc m) (x : Event) (hc : canB p x = true) :
    Calls Tryz.prog 81 #[.pointer (some ⟨pb, 0, none⟩), x.v] w (ChangedTo w N pb (changeP p x)) := by
  obtain ⟨hg, he, -, hp⟩ := canB_iff.1 hc
  have h0 := eventB_part he
  obtain ⟨k, nd, pt, cn⟩ := x
  simp only at hp h0
  obtain ⟨j, rfl⟩ := Int.eq_ofNat_of_zero_le h0
  have hj : j < p.parts.length := by omega
  rcases eventB_kind he with h1 | h1 | h1 | h1 | h1
  · simp only at h1; subst h1; exact change_boot h hg _ _ _
  · simp only at h1; subst h1; exact change_dead h hg _ _ _
  · simp only at h1; subst h1; exact change_ready h hg _ _ _ hj
  · simp only at h1; subst h1; exact change_create h hg _ _ _
  · simp only at h1; subst h1; exact change_join h hg _ _ _ hj

/-- Epochs stay within their bounds. -/
def EpOk (P : List Pt) : Prop := ∀ x ∈ P, 1 ≤ x.epoch ∧ x.epoch ≤ 1073741824

theorem changeP_epochs {p : Pl} {x : Event} (hc : canB p x = true) : EpOk (changeP p x).1.parts := by
  obtain ⟨hg, he, -, hp⟩ := canB_iff.1 hc
  have h0 := eventB_part he
  obtain ⟨j, hj0, hj, hat⟩ := atP_eq h0 hp
  have hep : EpOk p.parts := fun y hy => (isPlaceB_iff.1 ((goodP_iff.1 hg).2.2.2.1 y hy)).2.2.1
  have hset : ∀ (c : List Int) (l : Int), EpOk (p.parts.set x.part.toNat ⟨(atP p.parts x.part).epoch, c, l⟩) := by
    intro c l y hy
    rcases List.mem_or_eq_of_mem_set hy with h2 | rfl
    · exact hep y h2
    · rw [hat]
      have := hep _ (List.getElem_mem hj)
      exact this
  have hd : EpOk (p.parts.map (deadX x.node)) := by
    intro y hy
    obtain ⟨z, hz, rfl⟩ := List.mem_map.1 hy
    have := hep z hz
    unfold deadX
    split
    · exact this
    · split
      · exact this
      · exact this
  unfold changeP
  repeat' split
  all_goals first | exact hep | exact hset _ _ | exact hd | skip
  intro y hy
  rcases List.mem_append.1 hy with h2 | h2
  · exact hep y h2
  · simp at h2; subst h2; simp [placeP]

theorem TurnRd.nil (w : World) : TurnRd w (.slice none 0 0) [] := fun _ _ _ _ => IntsRd.nil _
theorem TurnRd.rd {w : World} {tv : Value} {l : List Int} (h : TurnRd w tv l) : IntsRd w tv l := h (fun _ => False) w (fun _ h => h.elim) (Upd.refl _ _)

theorem TurnRd.off {w w' : World} {F : Nat → Prop} {tv : Value} {l : List Int} (h : TurnRd w tv l) (hF : ∀ k, F k → ¬ ∃ cur, w.heap[k]? = some (.cells cur 3 (0, 0))) (hu : Upd F w w') : TurnRd w' tv l := by
  intro G W hG hu2
  refine h (fun k => F k ∨ (G k ∧ ¬ ∃ cur, w.heap[k]? = some (.cells cur 3 (0, 0)))) W (fun k hk => hk.elim (hF k) (fun x => x.2)) ⟨hu2.os.trans hu.os, hu2.tape.trans hu.tape, hu2.output.trans hu.output, Nat.le_trans hu.size hu2.size, fun k hk hn => ?_⟩
  have h1 := hu.block k hk (fun hf => hn (.inl hf))
  refine (hu2.block k (Nat.lt_of_lt_of_le hk hu.size) (fun hg => ?_)).trans h1
  refine hn (.inr ⟨hg, ?_⟩)
  rw [← h1]
  exact hG k hg
theorem TurnRd.upd {w w' : World} {F : Nat → Prop} {tv : Value} {l : List Int} (h : TurnRd w tv l) (hF : ∀ k, F k → ∃ cur T, w.heap[k]? = some (.cells cur T (0, 0)) ∧ T ≠ 3) (hu : Upd F w w') : TurnRd w' tv l := by
  refine h.off (F := F) (fun k hk => ?_) hu
  obtain ⟨c, T, h1, h2⟩ := hF k hk
  rintro ⟨c', h3⟩
  rw [h1] at h3
  simp only [Option.some.injEq, Obj.cells.injEq] at h3
  exact h2 h3.2.1
theorem TurnRd.below {w w' : World} {tv : Value} {l : List Int} (h : TurnRd w tv l) (hb : Below w.heap.size w w') : TurnRd w' tv l := h.upd (F := fun _ => False) (fun _ h => h.elim) (Upd.of_below hb)

theorem zero_rd (w : World) : PlanRd w (.agg #[.int .i64 0, .int .i64 0, .slice none 0 0, .slice none 0 0]) .zero :=
  ⟨_, _, rfl, ⟨[], rfl, ⟨rfl, .inl ⟨rfl, rfl⟩⟩, by simp⟩, ⟨rfl, .inl ⟨rfl, rfl⟩⟩⟩

def Applied (w : World) (p : Pl) (x : Event) (e : Ending) (w' : World) : Prop :=
  ∃ v tv, e = .returned (.tuple #[v, tv, .int .i64 (applyP p x).2.2]) ∧ PlanFrom w' w.heap.size v (applyP p x).1 ∧ TurnRd w' tv (applyP p x).2.1 ∧ Below w.heap.size w w'
end Go.Proofs.YtcpaaleogmiamaaGreatDoor
