/- The walk of plan.change: a life, who is left out. -/
/- The walk of plan.change: a learner is brought up. -/
import Derived.Test.YtcpaaleogmiamaaGreatDoorMh19
import Derived.Test.YtcpaaleogmiamaaGreatDoorMh21
namespace Go.Proofs.YtcpaaleogmiamaaGreatDoor
open Go.RowKit

/-- The places told of, read whatever is written into blocks of another type. -/
def TurnRd (w : World) (tv : Value) (l : List Int) : Prop := ∀ (F : Nat → Prop) (W : World), (∀ k, F k → ¬ ∃ cur, w.heap[k]? = some (.cells cur 3 (0, 0))) → Upd F w W → IntsRd W tv l

theorem TurnRd.of_owns {w : World} {B : Nat} {tv : Value} {l : List Int} (h : w.ownsRow B 3 1 tv l.length (intCells l)) : TurnRd w tv l := by
  intro F W hF hu
  refine IntsRd.of_owns (owns_upd h hu (fun g hg hf => ?_))
  exact hF g hf (owns_block h g hg)

theorem ints_made {w : World} {b : Nat} {v : Int} (h : w.heap[b]? = some (.cells #[.int .i64 v] 3 (0, 0))) : w.ownsRow b 3 1 (.slice (some ⟨b, 0, none⟩) 1 1) [v].length (intCells [v]) :=
  ⟨by simp [intCells], .inr ⟨b, 1, _, rfl, Nat.le_refl _, h, Nat.le_refl _, by unfold maxLen; omega, rfl, rfl⟩⟩

def ChangedTo (w : World) (N pb : Nat) (r : Pl × List Int × Int) (e : Ending) (w' : World) : Prop :=
  (r.2.2 = 0 ∧ ∃ (pa la : Option Addr) (pc lc : Nat) (m : List (Value × Pt)) (tv : Value), e = .returned (.tuple #[tv, .int .i64 0]) ∧ PlanOwn w' N pb r.1 pa pc la lc m ∧ TurnRd w' tv r.2.1 ∧ Below N w w') ∨
  (r.2.2 ≠ 0 ∧ e = .returned (.tuple #[.slice none 0 0, .int .i64 r.2.2]) ∧ Below N w w')

set_option maxRecDepth 100000 in
set_option maxHeartbeats 4000000 in
theorem change_boot {w : World} {N pb : Nat} {p : Pl} {pa : Option Addr} {pc : Nat} {la : Option Addr} {lc : Nat} {m : List (Value × Pt)} (h : PlanOwn w N pb p pa pc la lc m) (hg : goodP p = true) (nd pt cn : Int) :
    Calls Tryz.prog 81 #[.pointer (some ⟨pb, 0, none⟩), (Event.v ⟨1, nd, pt, cn⟩)] w (ChangedTo w N pb (changeP p ⟨1, nd, pt, cn⟩)) := by
  obtain ⟨hs, -, -⟩ := small_of_good hg
  have hr := (goodP_iff.1 hg).2.2.2.2.2
  simp only [Event.v] at *
  have hb1 := below_alloc w (.cells #[.int .i64 1, .int .i64 nd, .int .i64 pt, .int .i64 cn] 58)
  have h1 := h.below hb1
  have hlow := h.low
  have hlt := h.lt
  obtain ⟨wa, hwa⟩ : ∃ wa, wa = w.alloc (.cells #[.int .i64 1, .int .i64 nd, .int .i64 pt, .int .i64 cn] 58) := ⟨_, rfl⟩
  have hsz : wa.heap.size = w.heap.size + 1 := by rw [hwa]; simp
  have hx : wa.heap[w.heap.size]? = some (.cells #[.int .i64 1, .int .i64 nd, .int .i64 pt, .int .i64 cn] 58 (0, 0)) := by rw [hwa]; exact heap_alloc_new _ _
  rw [← hwa] at h1 hb1
  have x0 := cells_of hx 0 _ rfl
  have x1 := cells_of hx 1 _ rfl
  have x2 := cells_of hx 2 _ rfl
  have x3 := cells_of hx 3 _ rfl
  by_cases ho : cn ≤ lifeP p.lives nd
  · have hc := boot_old h1 hr hs.lives ⟨1, nd, pt, cn⟩ ho
    simp only [Event.v] at hc
    have hcp : changeP p ⟨1, nd, pt, cn⟩ = (p, [], 21) := by simp [changeP, ho]
    have HC := Lib.hid hc
    have HCP := Lib.hid hcp
    clear hc hcp h1 h hx
    go_enter Tryz.func81, Tryz.ntmps81
    go_wp2
    rw [← hwa]
    clear hwa
    refine wp_scope_goto 0 rfl ?_
    go_wp2_with (first | (go_at_call 139; refine HC.out.mono ?_; rintro _ w5 ⟨rfl, hb5⟩))
    exact bodyPost_ret (v := .tuple #[.slice none 0 0, .int .i64 21]) (by simp [results, Tryz.results81, go_sem]) rfl (Or.inr ⟨by rw [HCP.out]; simp, by rw [HCP.out], (hb1.mono (by omega)).trans (hb5.mono (by omega))⟩)
  · have hc := boot_new h1 hr hs ⟨1, nd, pt, cn⟩ ho
    simp only [Event.v] at hc
    have hcp : changeP p ⟨1, nd, pt, cn⟩ = (⟨p.nodes, p.copies, p.parts, bootL p.lives (nd, cn)⟩, placesB (holdsB nd) p.parts, 0) := by simp [changeP, ho]
    have HC := Lib.hid hc
    have HCP := Lib.hid hcp
    clear hc hcp h1 h hx
    go_enter Tryz.func81, Tryz.ntmps81
    go_wp2
    rw [← hwa]
    clear hwa
    refine wp_scope_goto 0 rfl ?_
    go_wp2_with (first | (go_at_call 139; refine HC.out.mono ?_; rintro _ w5 ⟨pa', la', pc', lc', m', tv, rfl, hown5, htv5, hb5⟩))
    exact bodyPost_ret (v := .tuple #[tv, .int .i64 0]) (by simp [results, Tryz.results81, go_sem]) rfl (Or.inl ⟨by rw [HCP.out], pa', la', pc', lc', m', tv, rfl, by rw [HCP.out]; exact hown5, by rw [HCP.out]; exact TurnRd.of_owns htv5, (hb1.mono (by omega)).trans hb5⟩)

set_option maxRecDepth 100000 in
set_option maxHeartbeats 4000000 in
theorem change_dead {w : World} {N pb : Nat} {p : Pl} {pa : Option Addr} {pc : Nat} {la : Option Addr} {lc : Nat} {m : List (Value × Pt)} (h : PlanOwn w N pb p pa pc la lc m) (hg : goodP p = true) (nd pt cn : Int) :
    Calls Tryz.prog 81 #[.pointer (some ⟨pb, 0, none⟩), (Event.v ⟨2, nd, pt, cn⟩)] w (ChangedTo w N pb (changeP p ⟨2, nd, pt, cn⟩)) := by
  obtain ⟨hs, -, -⟩ := small_of_good hg
  simp only [Event.v] at *
  have hb1 := below_alloc w (.cells #[.int .i64 2, .int .i64 nd, .int .i64 pt, .int .i64 cn] 58)
  have h1 := h.below hb1
  have hlow := h.low
  have hlt := h.lt
  obtain ⟨wa, hwa⟩ : ∃ wa, wa = w.alloc (.cells #[.int .i64 2, .int .i64 nd, .int .i64 pt, .int .i64 cn] 58) := ⟨_, rfl⟩
  have hsz : wa.heap.size = w.heap.size + 1 := by rw [hwa]; simp
  have hx : wa.heap[w.heap.size]? = some (.cells #[.int .i64 2, .int .i64 nd, .int .i64 pt, .int .i64 cn] 58 (0, 0)) := by rw [hwa]; exact heap_alloc_new _ _
  rw [← hwa] at h1 hb1
  have x0 := cells_of hx 0 _ rfl
  have x1 := cells_of hx 1 _ rfl
  have x2 := cells_of hx 2 _ rfl
  have x3 := cells_of hx 3 _ rfl
  have hc := dead_any h1 hs nd
  unfold Dead at hc
  have HC := Lib.hid hc
  clear hc h1 h hx
  obtain ⟨T, hT⟩ : ∃ T, placesB (deadB nd) p.parts = T := ⟨_, rfl⟩
  have hcp : changeP p ⟨2, nd, pt, cn⟩ = if T = [] then (p, [], 21) else (⟨p.nodes, p.copies, p.parts.map (deadX nd), p.lives⟩, T, 0) := by rw [← hT]; simp [changeP]
  rw [hT] at HC
  by_cases ht : T = []
  · subst ht
    rw [if_pos rfl] at hcp
    have HCP := Lib.hid hcp
    clear hcp hT
    go_enter Tryz.func81, Tryz.ntmps81
    go_wp2
    rw [← hwa]
    clear hwa
    refine wp_scope_goto 0 rfl ?_
    go_wp2_with (first | (go_at_call 140; refine HC.out.mono ?_; rintro _ w5 ⟨pa', la', pc', lc', m', tv, rfl, hown5, htv5, hb5⟩; obtain ⟨ta, tc, rfl, -⟩ := (Sl.of_owns htv5).shape; simp only [List.length_nil] at htv5 ⊢))
    apply wp_goto
    repeat (first | simp only [Exit.inBlock, Exit.then, jump_goto] | go_big_open)
    go_wp2
    rw [Exit.noGoto_ret]
    exact bodyPost_ret (v := .tuple #[.slice none 0 0, .int .i64 21]) (by simp [results, Tryz.results81, go_sem]) rfl (Or.inr ⟨by rw [HCP.out]; simp, by rw [HCP.out], (hb1.mono (by omega)).trans hb5⟩)
  · rw [if_neg ht] at hcp
    have hpos : ¬ ((T.length : Int) = 0) := by
      have := List.length_pos_iff.2 ht
      omega
    have HCP := Lib.hid hcp
    clear hcp hT
    go_enter Tryz.func81, Tryz.ntmps81
    go_wp2
    rw [← hwa]
    clear hwa
    refine wp_scope_goto 0 rfl ?_
    go_wp2_with (first | (go_at_call 140; refine HC.out.mono ?_; rintro _ w5 ⟨pa', la', pc', lc', m', tv, rfl, hown5, htv5, hb5⟩; obtain ⟨ta, tc, rfl, -⟩ := (Sl.of_owns htv5).shape))
    exact bodyPost_ret (v := .tuple #[.slice ta T.length tc, .int .i64 0]) (by simp [results, Tryz.results81, go_sem]) rfl (Or.inl ⟨by rw [HCP.out], pa', la', pc', lc', m', _, rfl, by rw [HCP.out]; exact hown5, by rw [HCP.out]; exact TurnRd.of_owns htv5, (hb1.mono (by omega)).trans hb5⟩)
end Go.Proofs.YtcpaaleogmiamaaGreatDoor
namespace Go.Proofs.YtcpaaleogmiamaaGreatDoor
open Go.RowKit

set_option maxRecDepth 100000 in
set_option maxHeartbeats 4000000 in
theorem change_ready {w : World} {N pb : Nat} {p : Pl} {pa : Option Addr} {pc : Nat} {la : Option Addr} {lc : Nat} {m : List (Value × Pt)} (h : PlanOwn w N pb p pa pc la lc m) (hg : goodP p = true) (nd cn : Int) (j : Nat) (hj : j < p.parts.length) :
    Calls Tryz.prog 81 #[.pointer (some ⟨pb, 0, none⟩), (Event.v ⟨3, nd, j, cn⟩)] w (ChangedTo w N pb (changeP p ⟨3, nd, j, cn⟩)) := by
  obtain ⟨hs, hc5, -⟩ := small_of_good hg
  simp only [Event.v] at *
  have hb1 := below_alloc w (.cells #[.int .i64 3, .int .i64 nd, .int .i64 j, .int .i64 cn] 58)
  have h1 := h.below hb1
  have hlow := h.low
  have hlt := h.lt
  obtain ⟨wa, hwa⟩ : ∃ wa, wa = w.alloc (.cells #[.int .i64 3, .int .i64 nd, .int .i64 j, .int .i64 cn] 58) := ⟨_, rfl⟩
  have hsz : wa.heap.size = w.heap.size + 1 := by rw [hwa]; simp
  have hx : wa.heap[w.heap.size]? = some (.cells #[.int .i64 3, .int .i64 nd, .int .i64 j, .int .i64 cn] 58 (0, 0)) := by rw [hwa]; exact heap_alloc_new _ _
  rw [← hwa] at h1 hb1
  have x0 := cells_of hx 0 _ rfl
  have x1 := cells_of hx 1 _ rfl
  have x2 := cells_of hx 2 _ rfl
  have x3 := cells_of hx 3 _ rfl
  obtain ⟨g, rfl⟩ := h1.ptr (by omega)
  obtain ⟨hjm, ca, cc, em, e0, e1, e2, fg, hcn, hgp, hgl, hgN⟩ := h1.place j hj
  have p2 := cells_of h1.blk 2 _ rfl
  have fg1 := fg (j * 3 + 1)
  have fg2 := fg (j * 3 + 2)
  have hcl := hc5 _ (List.getElem_mem hj)
  have j0 : (0 : Int) ≤ (j : Int) := by omega
  have j1 : (j : Int) < (p.parts.length : Int) := by omega
  by_cases ho : p.parts[j].epoch = cn ∧ p.parts[j].learner = nd
  case neg =>
    have hcp : changeP p ⟨3, nd, j, cn⟩ = (p, [], 21) := by simp [changeP, atP_lt hj, ho]
    have HCP := Lib.hid hcp
    clear hcp h1 h hx fg hcn em hcl
    generalize p.parts[j] = y at *
    by_cases h1 : y.epoch = cn
    · have h2 : ¬ y.learner = nd := fun h2 => ho ⟨h1, h2⟩
      clear ho
      go_enter Tryz.func81, Tryz.ntmps81
      go_wp2
      rw [← hwa]
      clear hwa
      refine wp_scope_goto 0 rfl ?_
      go_wp2
      go_region
      all_goals
        go_wp2
        go_quiet (fail)
        go_wp2
        apply wp_goto
        repeat (first | simp only [Exit.inBlock, Exit.then, jump_goto] | go_big_open)
        go_wp2
        rw [Exit.noGoto_ret]
        exact bodyPost_ret (v := .tuple #[.slice none 0 0, .int .i64 21]) (by simp [results, Tryz.results81, go_sem]) rfl (Or.inr ⟨by rw [HCP.out]; simp, by rw [HCP.out], (hb1.mono (by omega)).trans (below_drewN (Below.refl _ _).drew _)⟩)
    · clear ho
      go_enter Tryz.func81, Tryz.ntmps81
      go_wp2
      rw [← hwa]
      clear hwa
      refine wp_scope_goto 0 rfl ?_
      go_wp2
      go_region
      all_goals
        go_wp2
        go_quiet (fail)
        go_wp2
        apply wp_goto
        repeat (first | simp only [Exit.inBlock, Exit.then, jump_goto] | go_big_open)
        go_wp2
        rw [Exit.noGoto_ret]
        exact bodyPost_ret (v := .tuple #[.slice none 0 0, .int .i64 21]) (by simp [results, Tryz.results81, go_sem]) rfl (Or.inr ⟨by rw [HCP.out]; simp, by rw [HCP.out], (hb1.mono (by omega)).trans (below_drewN (Below.refl _ _).drew _)⟩)
  · obtain ⟨ho1, ho2⟩ := ho
    have hcp : changeP p ⟨3, nd, j, cn⟩ = (⟨p.nodes, p.copies, p.parts.set j ⟨p.parts[j].epoch, p.parts[j].chain ++ [nd], 0⟩, p.lives⟩, [(j : Int)], 0) := by simp [changeP, atP_lt hj, ho1, ho2]
    have HCP := Lib.hid hcp
    obtain ⟨i1, ki, kz0, kz1, kz2⟩ := info_parts info_Int
    have hkeep : ∀ W, Upd (fun b => some b = (Value.slice ca p.parts[j].chain.length cc).ownBlock) wa W → W.cell? ⟨g, j * 3 + 1, none⟩ = some (.slice ca p.parts[j].chain.length cc) ∧ W.cell? ⟨g, j * 3 + 2, none⟩ = some (.int .i64 p.parts[j].learner) ∧
        W.frozen? ⟨g, j * 3 + 1, none⟩ = false ∧ W.frozen? ⟨g, j * 3 + 2, none⟩ = false ∧ W.cell? ⟨w.heap.size, 1, none⟩ = some (.int .i64 nd) := by
      intro W hu
      obtain ⟨c, hc⟩ := owns_block h1.parts.own g rfl
      have hgne : ¬ some g = (Value.slice ca p.parts[j].chain.length cc).ownBlock := fun e => by obtain ⟨c', hc'⟩ := owns_block hcn g e.symm; exact block_ne hc hc' (by decide) rfl
      have hwne : ¬ some w.heap.size = (Value.slice ca p.parts[j].chain.length cc).ownBlock := fun e => by obtain ⟨c', hc'⟩ := owns_block hcn _ e.symm; exact block_ne hx hc' (by decide) rfl
      have hb2 := (hu.block g hgl hgne).trans hc
      exact ⟨upd_some hu e1 hgne, upd_some hu e2 hgne, frozen_of hb2, frozen_of hb2, upd_some hu x1 hwne⟩
    have hall : ∀ (wq W : World) (gq cq : Nat), Below wa.heap.size wa wq → wq.heap.size = wa.heap.size → W.ownsRow N 3 1 (.slice (some ⟨gq, 0, none⟩) (p.parts[j].chain.length + 1) cq) (p.parts[j].chain.length + 1) (intCells p.parts[j].chain ++ [.int .i64 nd]) →
        (wq.alloc (.cells #[.int .i64 nd] 3)).grownBy W (Value.slice ca p.parts[j].chain.length cc).ownBlock → ((Value.slice ca p.parts[j].chain.length cc).ownBlock = some gq ∨ gq = (wq.alloc (.cells #[.int .i64 nd] 3)).heap.size) →
        (∃ m', PlanOwn ((W.setCell ⟨g, j * 3 + 1, none⟩ (.slice (some ⟨gq, 0, none⟩) (p.parts[j].chain.length + 1) cq)).setCell ⟨g, j * 3 + 2, none⟩ (.int .i64 0)) N pb (changeP p ⟨3, nd, j, cn⟩).1 (some ⟨g, 0, none⟩) pc la lc m') ∧
          Below N w ((W.setCell ⟨g, j * 3 + 1, none⟩ (.slice (some ⟨gq, 0, none⟩) (p.parts[j].chain.length + 1) cq)).setCell ⟨g, j * 3 + 2, none⟩ (.int .i64 0)) ∧
          ((W.setCell ⟨g, j * 3 + 1, none⟩ (.slice (some ⟨gq, 0, none⟩) (p.parts[j].chain.length + 1) cq)).setCell ⟨g, j * 3 + 2, none⟩ (.int .i64 0)).heap[w.heap.size]? = some (.cells #[.int .i64 3, .int .i64 nd, .int .i64 j, .int .i64 cn] 58 (0, 0)) := by
      intro wq W gq cq hb hsq hown hgr hat
      have hu : Upd (fun b => some b = (Value.slice ca p.parts[j].chain.length cc).ownBlock) wa W := ((Upd.of_below hb).trans (upd_alloc _ wq _)).trans (upd_grown hgr)
      have hlo := fun g hg => (owns_lt hcn g hg).1
      obtain ⟨m1, hm1, -⟩ := h1.newChain j hj hjm hu (fun k e => by rw [em]; exact e.symm) (cv := .slice (some ⟨gq, 0, none⟩) (p.parts[j].chain.length + 1) cq) (l := p.parts[j].chain ++ [nd]) (by simpa [intCells] using hown) (fun k e => by
        cases e
        rcases hat with h2 | h2
        · exact .inl (by rw [em]; exact h2)
        · exact .inr (by rw [h2]; simp; omega))
      obtain ⟨m2, hm2, -⟩ := hm1.setLearner j (by simpa using hj) 0
      have hs2 := (upd_set1 W g (j * 3 + 1) (.slice (some ⟨gq, 0, none⟩) (p.parts[j].chain.length + 1) cq)).trans (upd_set1 _ g (j * 3 + 2) (.int .i64 0))
      have hwne : ¬ some w.heap.size = (Value.slice ca p.parts[j].chain.length cc).ownBlock := fun e => by obtain ⟨c', hc'⟩ := owns_block hcn _ e.symm; exact block_ne hx hc' (by decide) rfl
      have hgw : g ≠ w.heap.size := fun e => by obtain ⟨c', hc'⟩ := owns_block h1.parts.own g rfl; exact block_ne hc' hx (by decide) e
      have hsW := hu.size
      refine ⟨⟨m2, ?_⟩, ?_, ?_⟩
      · rw [hcp]
        simpa using hm2
      · exact (hb1.mono (by omega)).trans ((hu.toBelow (by omega) (fun b e => hlo b e.symm)).trans (hs2.toBelow (by omega) (fun b e => by omega)))
      · rw [hs2.block _ (by omega) (fun e => hgw e.symm), hu.block _ (by omega) hwne]
        exact hx
    have HK := Lib.hid hkeep
    have HALL := Lib.hid hall
    have HOWN := Lib.hid hcn
    obtain ⟨-, -, f1, f2, -⟩ := hkeep wa (Upd.refl _ _)
    have hNa : N ≤ wa.heap.size := by omega
    clear hkeep hall hcn h1 h hx hcp fg em
    generalize p.parts[j] = y at *
    obtain ⟨ep, ch, le⟩ := y
    simp only at *
    subst ho1 ho2
    go_enter Tryz.func81, Tryz.ntmps81
    go_wp2
    rw [← hwa]
    clear hwa
    refine wp_scope_goto 0 rfl ?_
    go_wp2
    go_region
    all_goals
      go_wp2
      go_quiet (fail)
      go_wp2
      have hbr : Below wa.heap.size wa (wa.drew.drewN nq) := below_drewN (Below.refl _ _).drew _
      have hszr : (wa.drew.drewN nq).heap.size = wa.heap.size := rfl
      generalize wa.drew.drewN nq = wr at *
      obtain ⟨c1, c2, f1, f2, y1⟩ := HK.out wr (Upd.of_below hbr)
      have hownr := owns_upd HOWN.out (Upd.of_below (F := fun _ => False) hbr) (fun _ _ h => h)
      have HR := Lib.hid hownr
      have HBR := Lib.hid hbr
      have HKA := Lib.hid (fun o => HK.out (wr.alloc o) ((Upd.of_below hbr).trans (upd_alloc _ wr o)))
      have hNr : N ≤ wr.heap.size := by omega
      have HSZ := Lib.hid hszr
      clear x0 x1 x2 x3 e0 e1 e2 p2 hownr hbr hszr
      have hka : ∀ o, (wr.alloc o).cell? ⟨g, j * 3 + 1, none⟩ = some (.slice ca ch.length cc) := fun o => (HKA.out o).1
      have hkb : ∀ o, (wr.alloc o).cell? ⟨w.heap.size, 1, none⟩ = some (.int .i64 le) := fun o => (HKA.out o).2.2.2.2
      go_region_law
        (first
          | (refine step_append_lies _ (by rfl) _ _ _ (by rfl) N 3 i1 _ 1 8 und_Ints ki kz0 kz1 kz2 rfl (by omega) (.slice ca ch.length cc) ch.length (intCells ch) (by rfl) (HR.out.alloc _) ⟨wr.heap.size, 0, none⟩ 1 1 [.int .i64 le] (by rfl) (by rfl) (World.news_of_block (cs := #[.int .i64 le]) (t := 3) (fr := (0, 0)) (heap_alloc_new wr _)) (by simp [Value.oneCell']) (by omega) ?_ ?_ ?_ _ rfl ?_; (unfold maxLen; omega); omega; (first | (simp only [World.size_alloc, World.size_drew]; omega) | omega); rintro g9 gcap9 w9 hown9 hgrow9 hat9 hlt9; obtain ⟨c91, c92, f91, f92, y91⟩ := HK.out w9 ((((Upd.of_below HBR.out).trans (upd_alloc _ wr _)).trans (upd_drew _ _)).trans (upd_grown hgrow9))))
      all_goals
        have hz := HALL.out wr.drew w9 g9 gcap9 (HBR.out.trans (Below.refl _ _).drew) HSZ.out hown9 hgrow9 hat9
        obtain ⟨hz1, hz2, hz3⟩ := hz
        have zx2 := cells_of hz3 2 _ rfl
        have HZ := Lib.hid (And.intro hz1 hz2)
        clear hz1 hz2 hz3 hown9 hgrow9 hat9 c91 c92 f91 f92 y91 c1 c2 f1 f2 y1 hka hkb
        go_wp2
        rw [jump_ret]
        obtain ⟨⟨m', hz1⟩, hz2⟩ := HZ.out
        have hs3 := heap_alloc_new ((w9.setCell ⟨g, j * 3 + 1, none⟩ (.slice (some ⟨g9, 0, none⟩) (ch.length + 1) gcap9)).setCell ⟨g, j * 3 + 2, none⟩ (.int .i64 0)) (.cells #[.int .i64 j] 3)
        have hszz : ((w9.setCell ⟨g, j * 3 + 1, none⟩ (.slice (some ⟨g9, 0, none⟩) (ch.length + 1) gcap9)).setCell ⟨g, j * 3 + 2, none⟩ (.int .i64 0)).heap.size = w9.heap.size := by simp [World.setCell]
        rw [hszz] at hs3
        have hlt2 := hz1.lt
        exact bodyPost_ret (v := .tuple #[.slice (some ⟨w9.heap.size, 0, none⟩) 1 1, .int .i64 0]) (by simp [results, Tryz.results81, go_sem]) rfl (Or.inl ⟨by rw [HCP.out], _, _, _, _, m', _, rfl, hz1.below (below_alloc _ _), by rw [HCP.out]; exact TurnRd.of_owns (ints_made hs3), hz2.trans ((below_alloc _ _).mono (by omega))⟩)
end Go.Proofs.YtcpaaleogmiamaaGreatDoor
