/- The walk of plan.Apply at an event that can be. -/
import Derived.Test.YtcpaaleogmiamaaGreatDoorMh26
namespace Go.Proofs.YtcpaaleogmiamaaGreatDoor
open Go.RowKit

theorem PlanOwn.lowU {w w' : World} {F : Nat → Prop} {N pb : Nat} {p : Pl} {pa : Option Addr} {pc : Nat} {la : Option Addr} {lc : Nat} {m : List (Value × Pt)} (h : PlanOwn w N pb p pa pc la lc m) (hu : Upd F w w') (hF : ∀ k, F k → k < N) : PlanOwn w' N pb p pa pc la lc m :=
  ⟨(hu.block _ h.lt (fun hf => by have := hF _ hf; have := h.low; omega)).trans h.blk, h.parts.low hu hF, h.eq, owns_upd h.lives hu (fun g hg hf => by have := (owns_lt h.lives g hg).1; have := hF g hf; omega), h.low⟩

set_option maxRecDepth 100000 in
set_option maxHeartbeats 8000000 in
theorem Apply_can {w : World} {v : Value} {p : Pl} (h : PlanRd w v p) (x : Event) (hc : canB p x = true) : Calls Tryz.prog 24 #[v, x.v] w (Applied w p x) := by
  obtain ⟨pv, lv, rfl, hp, hl⟩ := h
  unfold Applied
  obtain ⟨hg, he, hnd, hpt⟩ := canB_iff.1 hc
  have hsm := (small_of_good hg).1
  have hrd0 : PlanRd w (.agg #[.int .i64 p.nodes, .int .i64 p.copies, pv, lv]) p := ⟨pv, lv, rfl, hp, hl⟩
  have hiE := isEvent_any x
  obtain ⟨pa, pc, rfl, -, -, -⟩ := hp.cells
  obtain ⟨la, lc, rfl, -, -, -⟩ := hl.cells
  obtain ⟨q0, T, e0, hR⟩ : ∃ q0 T e0, changeP p x = (q0, T, e0) := ⟨_, _, _, rfl⟩
  have hchg : ∀ (W : World) (pb : Nat) (pa' : Option Addr) (pc' : Nat) (la' : Option Addr) (lc' : Nat) (m : List (Value × Pt)) (N : Nat), PlanOwn W N pb p pa' pc' la' lc' m → Calls Tryz.prog 81 #[.pointer (some ⟨pb, 0, none⟩), x.v] W (ChangedTo W N pb (q0, T, e0)) := by
    intro W pb pa' pc' la' lc' m N hW
    have := change_any hW x hc
    rw [hR] at this
    exact this
  have hep : EpOk q0.parts := by have := changeP_epochs hc; rw [hR] at this; exact this
  have hTr : e0 = 0 → T.Nodup ∧ ∀ i ∈ T, 0 ≤ i ∧ i < (q0.parts.length : Int) := by
    intro h0
    have := changeP_turned (p := p) (x := x) (eventB_part he) hpt (by rw [hR]; exact h0)
    rw [hR] at this
    exact this
  have hA1 : e0 ≠ 0 → applyP p x = (.zero, [], e0) := fun h => applyP_err hc hR h
  have hA2 : e0 = 0 → x.kind = 4 → applyP p x = (q0, T, 0) := fun h h2 => applyP_create hc (by rw [hR, h]) h2
  have hA3 : e0 = 0 → x.kind ≠ 4 → ∀ Q, bumpP q0.parts T = some Q → applyP p x = (⟨q0.nodes, q0.copies, Q, q0.lives⟩, T, 0) := fun h h2 Q hb => applyP_ok hc (by rw [hR, h]) h2 hb
  have hA4 : e0 = 0 → x.kind ≠ 4 → bumpP q0.parts T = none → applyP p x = (.zero, [], 32) := fun h h2 hb => applyP_many hc (by rw [hR, h]) h2 hb
  have HA := Lib.hid (And.intro hA1 (And.intro hA2 (And.intro hA3 hA4)))
  obtain ⟨R, hRR⟩ : ∃ R, R = applyP p x := ⟨_, rfl⟩
  rw [← hRR] at HA ⊢
  clear hA1 hA2 hA3 hA4 hRR hR hc
  obtain ⟨k, nd, pt, cn⟩ := x
  unfold Event.v at hiE hchg ⊢
  simp only at hiE hchg HA hnd hpt ⊢
  obtain ⟨wa, hwa⟩ : ∃ wa, wa = ((w.alloc (.cells #[.int .i64 p.nodes, .int .i64 p.copies, .slice pa p.parts.length pc, .slice la p.lives.length lc] 52)).alloc (.cells #[.int .i64 k, .int .i64 nd, .int .i64 pt, .int .i64 cn] 58)).alloc (.cells #[.int .i64 0, .int .i64 0, .slice none 0 0, .slice none 0 0] 52) := ⟨_, rfl⟩
  have hbwa : Below w.heap.size w wa := by rw [hwa]; exact (below_alloc2 _ _ _).trans ((below_alloc _ _).mono (by simp; omega))
  have hN : wa.heap[w.heap.size]? = some (.cells #[.int .i64 p.nodes, .int .i64 p.copies, .slice pa p.parts.length pc, .slice la p.lives.length lc] 52 (0, 0)) := by
    rw [hwa, Below.heap_alloc _ _ _ (by simp; omega), Below.heap_alloc _ _ _ (by simp)]; exact heap_alloc_new _ _
  have hN1 : wa.heap[w.heap.size + 1]? = some (.cells #[.int .i64 k, .int .i64 nd, .int .i64 pt, .int .i64 cn] 58 (0, 0)) := by
    rw [hwa, Below.heap_alloc _ _ _ (by simp)]; exact heap_new1 _ _ _
  have hN2 : wa.heap[w.heap.size + 1 + 1]? = some (.cells #[.int .i64 0, .int .i64 0, .slice none 0 0, .slice none 0 0] 52 (0, 0)) := by
    rw [hwa]; exact heap_new2 _ _ _ _
  have hsz : wa.heap.size = w.heap.size + 3 := by rw [hwa]; simp
  have hkeep : ∀ W, Below wa.heap.size wa W → W.cell? ⟨w.heap.size, 0, none⟩ = some (.int .i64 p.nodes) ∧ W.cell? ⟨w.heap.size, 1, none⟩ = some (.int .i64 p.copies) ∧ W.cell? ⟨w.heap.size, 2, none⟩ = some (.slice pa p.parts.length pc) ∧ W.cell? ⟨w.heap.size, 3, none⟩ = some (.slice la p.lives.length lc) ∧
      W.cell? ⟨w.heap.size + 1, 0, none⟩ = some (.int .i64 k) ∧ W.cell? ⟨w.heap.size + 1, 1, none⟩ = some (.int .i64 nd) ∧ W.cell? ⟨w.heap.size + 1, 2, none⟩ = some (.int .i64 pt) ∧ W.cell? ⟨w.heap.size + 1, 3, none⟩ = some (.int .i64 cn) ∧
      (∀ j, W.frozen? ⟨w.heap.size + 1 + 1, j, none⟩ = false) ∧ W.heap[w.heap.size + 1 + 1]? = some (.cells #[.int .i64 0, .int .i64 0, .slice none 0 0, .slice none 0 0] 52 (0, 0)) := by
    intro W hb
    have b0 := (hb.block w.heap.size (by omega)).trans hN
    have b1 := (hb.block (w.heap.size + 1) (by omega)).trans hN1
    have b2 := (hb.block (w.heap.size + 1 + 1) (by omega)).trans hN2
    exact ⟨cells_of b0 0 _ rfl, cells_of b0 1 _ rfl, cells_of b0 2 _ rfl, cells_of b0 3 _ rfl, cells_of b1 0 _ rfl, cells_of b1 1 _ rfl, cells_of b1 2 _ rfl, cells_of b1 3 _ rfl, fun j => frozen_of b2, b2⟩
  have hgd := Good_any (hrd0.below hbwa)
  rw [hg] at hgd
  rw [he] at hiE
  have hcopy : ∀ W, Below wa.heap.size wa W → Calls Tryz.prog 80 #[planV p pa pc la lc] W fun e w' => ∃ (pa' la' : Option Addr) (pc' lc' : Nat) (m : List (Value × Pt)), e = .returned (planV p pa' pc' la' lc') ∧ Below W.heap.size W w' ∧
      PlanOwn (w'.alloc (.cells #[.int .i64 p.nodes, .int .i64 p.copies, .slice pa' p.parts.length pc', .slice la' p.lives.length lc'] 52)) W.heap.size w'.heap.size p pa' pc' la' lc' m := by
    intro W hb
    refine (copied_any ((hp.below hbwa).below hb) ((hl.below hbwa).below hb) hsm).mono ?_
    rintro e w' ⟨pa', la', pc', lc', m, rfl, hm, hown, hlv, hb'⟩
    exact ⟨pa', la', pc', lc', m, rfl, hb', heap_alloc_new _ _, hown.below (below_alloc _ _), hm, owns_upd hlv (Upd.of_below (F := fun _ => False) (below_alloc _ _)) (fun _ _ h => h), hb'.size⟩
  have n0 := cells_of hN 0 _ rfl
  have n1 := cells_of hN 1 _ rfl
  have n2 := cells_of hN 2 _ rfl
  have n3 := cells_of hN 3 _ rfl
  have HGD := Lib.hid hgd
  have HK := Lib.hid hkeep
  have HIE := Lib.hid hiE
  have HCY := Lib.hid hcopy
  have HCH := Lib.hid hchg
  have HEP := Lib.hid hep
  have HTR := Lib.hid hTr
  have hfin : ∀ (W : World) (a b c d : Value), Below wa.heap.size wa W → ∃ W2, W2 = (((W.setCell ⟨w.heap.size + 1 + 1, 0, none⟩ a).setCell ⟨w.heap.size + 1 + 1, 1, none⟩ b).setCell ⟨w.heap.size + 1 + 1, 2, none⟩ c).setCell ⟨w.heap.size + 1 + 1, 3, none⟩ d ∧
      W2.cell? ⟨w.heap.size + 1 + 1, 0, none⟩ = some a ∧ W2.cell? ⟨w.heap.size + 1 + 1, 1, none⟩ = some b ∧ W2.cell? ⟨w.heap.size + 1 + 1, 2, none⟩ = some c ∧ W2.cell? ⟨w.heap.size + 1 + 1, 3, none⟩ = some d ∧ Below w.heap.size w W2 ∧ Upd (fun j => j = w.heap.size + 1 + 1) W W2 := by
    intro W a b c d hb
    have hf := setCell_same (o := 3) (v := d) (setCell_same (o := 2) (v := c) (setCell_same (o := 1) (v := b) (setCell_same (o := 0) (v := a) (hkeep W hb).2.2.2.2.2.2.2.2.2)))
    have hset := upd_set4 W (w.heap.size + 1 + 1) a b c d
    have hbs := hb.size
    exact ⟨_, rfl, cells_of hf 0 _ rfl, cells_of hf 1 _ rfl, cells_of hf 2 _ rfl, cells_of hf 3 _ rfl, hbwa.trans ((hb.mono (by omega)).trans (hset.toBelow (by omega) (fun b e => by omega))), hset⟩
  have HFIN := Lib.hid hfin
  have HSZ := Lib.hid (And.intro hsz hbwa)
  clear hkeep hgd hiE hfin hrd0 hp hl hN hN1 hN2 hsz hbwa hcopy hchg hep hTr hg he hsm
  go_enter Tryz.func24, Tryz.ntmps24
  go_upto_region 1 with fail
  rw [← hwa]
  clear hwa
  go_upto_region 3 with (first | (go_at_call 78; refine HGD.out.mono ?_; rintro _ w5 ⟨rfl, hb5⟩; obtain ⟨d0, d1, d2, d3, y0, y1, y2, y3, -, -⟩ := HK.out w5 hb5) | (go_at_call 79; refine (HIE.out w5).mono ?_; rintro _ w6 ⟨rfl, hb6'⟩; have hb6 := hb5.trans (hb6'.mono hb5.size); obtain ⟨d0, d1, d2, d3, y0, y1, y2, y3, -, -⟩ := HK.out w6 hb6))
  go_upto_region 4 with (first | (go_at_call 80; refine (HCY.out w6 hb6).mono ?_; rintro _ w7 ⟨pa', la', pc', lc', m, rfl, hb7', hown7⟩))
  have hs7 := hb7'.size
  have hs6 := hb6.size
  have hbb : Below wa.heap.size wa (w7.alloc (.cells #[.int .i64 p.nodes, .int .i64 p.copies, .slice pa' p.parts.length pc', .slice la' p.lives.length lc'] 52)) := (hb6.trans (hb7'.mono hs6)).alloc (by omega) _
  have HBB := Lib.hid (And.intro hown7 hbb)
  obtain ⟨-, -, -, -, y0, y1, y2, y3, -, -⟩ := HK.out _ hbb
  have hwbs : w7.heap.size < (w7.alloc (.cells #[.int .i64 p.nodes, .int .i64 p.copies, .slice pa' p.parts.length pc', .slice la' p.lives.length lc'] 52)).heap.size := by simp
  have hX6 : w.heap.size + 1 + 1 < w6.heap.size := by have := HSZ.out.1; omega
  clear hown7 hbb hb7' hb5 hb6' d0 d1 d2 d3 n0 n1 n2 n3
  generalize w7.alloc (.cells #[.int .i64 p.nodes, .int .i64 p.copies, .slice pa' p.parts.length pc', .slice la' p.lives.length lc'] 52) = wb at *
  by_cases h0 : e0 = 0
  case neg =>
    have hc0 : Calls Tryz.prog 81 #[.pointer (some ⟨w7.heap.size, 0, none⟩), .agg #[.int .i64 k, .int .i64 nd, .int .i64 pt, .int .i64 cn]] wb fun e w8 => e = .returned (.tuple #[.slice none 0 0, .int .i64 e0]) ∧ Below w6.heap.size wb w8 := by
      refine (HCH.out wb w7.heap.size pa' pc' la' lc' m w6.heap.size HBB.out.1).mono ?_
      rintro e w8 (⟨h, -⟩ | ⟨-, h2, h3⟩)
      · exact absurd h h0
      · exact ⟨h2, h3⟩
    have HC0 := Lib.hid hc0
    clear hc0
    go_wp2_with (first | (go_at_call 81; refine HC0.out.mono ?_; rintro _ w8 ⟨rfl, hb8⟩; have hb9 : Below wa.heap.size wa w8 := HBB.out.2.trans (hb8.mono hs6); obtain ⟨-, -, -, -, z0, z1, z2, z3, ff, hblk⟩ := HK.out w8 hb9; have f0 := ff 0; have f1 := ff 1; have f2 := ff 2; have f3 := ff 3; clear ff; have c0 := cells_of hblk 0 _ rfl; have c1 := cells_of hblk 1 _ rfl; have c2 := cells_of hblk 2 _ rfl; have c3 := cells_of hblk 3 _ rfl; clear hblk))
    obtain ⟨W2, hW2, r0, r1, r2, r3, hbf, -⟩ := HFIN.out _ (.int .i64 0) (.int .i64 0) (.slice none 0 0) (.slice none 0 0) hb9
    rw [hW2] at r0 r1 r2 r3 hbf
    have hR := HA.out.1 h0
    exact bodyPost_ret (v := .tuple #[.agg #[.int .i64 0, .int .i64 0, .slice none 0 0, .slice none 0 0], .slice none 0 0, .int .i64 e0]) (by simp [results, Tryz.results24, go_sem, r0, r1, r2, r3]) rfl ⟨_, _, by rw [hR], by rw [hR]; exact PlanFrom.zero _ _, by rw [hR]; exact TurnRd.nil _, hbf⟩
  case pos =>
  subst h0
  obtain ⟨hT1, hT2⟩ := HTR.out rfl
  have hc1 : Calls Tryz.prog 81 #[.pointer (some ⟨w7.heap.size, 0, none⟩), .agg #[.int .i64 k, .int .i64 nd, .int .i64 pt, .int .i64 cn]] wb fun e w8 =>
      ∃ (pa2 la2 : Option Addr) (pc2 lc2 : Nat) (m2 : List (Value × Pt)) (ta : Option Addr) (tc : Nat), e = .returned (.tuple #[.slice ta T.length tc, .int .i64 0]) ∧ PlanOwn w8 w6.heap.size w7.heap.size q0 pa2 pc2 la2 lc2 m2 ∧ TurnRd w8 (.slice ta T.length tc) T ∧ Below w6.heap.size wb w8 := by
    refine (HCH.out wb w7.heap.size pa' pc' la' lc' m w6.heap.size HBB.out.1).mono ?_
    rintro e w8 (⟨-, pa2, la2, pc2, lc2, m2, tv, rfl, hown, ht, hb⟩ | ⟨h, -⟩)
    · obtain ⟨ta, tc, rfl, -⟩ := Rd.shape (ht (fun _ => False) w8 (fun _ h => h.elim) (Upd.refl _ _))
      exact ⟨pa2, la2, pc2, lc2, m2, ta, tc, rfl, hown, ht, hb⟩
    · exact absurd rfl h
  have HC1 := Lib.hid hc1
  clear hc1
  go_upto_region 5 with (first | (go_at_call 81; refine HC1.out.mono ?_; rintro _ w8 ⟨pa2, la2, pc2, lc2, m2, ta, tc, rfl, hown8, ht8, hb8⟩))
  have hb9 : Below wa.heap.size wa w8 := HBB.out.2.trans (hb8.mono hs6)
  have hs8 := hb8.size
  have HW8 := Lib.hid (And.intro hown8 (And.intro ht8 hb9))
  clear hown8 ht8 hb8 hb9 y0 y1 y2 y3
  -- what is read at the end
  have hend : ∀ (W : World) (Q : List Pt) (m : List (Value × Pt)), PlanOwn W w6.heap.size w7.heap.size ⟨q0.nodes, q0.copies, Q, q0.lives⟩ pa2 pc2 la2 lc2 m → Upd (fun b => some b = (Value.slice pa2 q0.parts.length pc2).ownBlock) w8 W →
      Below wa.heap.size wa W ∧ IntsRd W (.slice ta T.length tc) T ∧ ∀ W2, Upd (fun j => j = w.heap.size + 1 + 1) W W2 → PlanFrom W2 w.heap.size (planV ⟨q0.nodes, q0.copies, Q, q0.lives⟩ pa2 pc2 la2 lc2) ⟨q0.nodes, q0.copies, Q, q0.lives⟩ ∧ TurnRd W2 (.slice ta T.length tc) T := by
    intro W Q m hW hu
    have hlo := fun g hg => (owns_lt HW8.out.1.parts.own g hg).1
    have hty : ∀ b, some b = (Value.slice pa2 q0.parts.length pc2).ownBlock → ∃ cur T, w8.heap[b]? = some (.cells cur T (0, 0)) ∧ T ≠ 3 := fun b e => by
      obtain ⟨c, hc⟩ := owns_block HW8.out.1.parts.own b e.symm
      exact ⟨c, _, hc, by decide⟩
    have hbW : Below wa.heap.size wa W := HW8.out.2.2.trans (hu.toBelow HW8.out.2.2.size (fun b e => by have := hlo b e.symm; omega))
    refine ⟨hbW, (HW8.out.2.1.upd hty hu).rd, fun W2 hu2 => ⟨(hW.lowU hu2 (fun j e => by omega)).toFrom.mono (by omega), (HW8.out.2.1.upd hty hu).upd (fun b e => by cases e; exact ⟨_, _, (HK.out W hbW).2.2.2.2.2.2.2.2.2, by decide⟩) hu2⟩⟩
  have HEND := Lib.hid hend
  clear hend
  obtain ⟨-, -, -, -, z0, z1, z2, z3, -, -⟩ := HK.out w8 HW8.out.2.2
  by_cases h4 : k = 4
  case pos =>
    subst h4
    obtain ⟨-, -, -, -, -, -, -, -, ff, hblk⟩ := HK.out w8 HW8.out.2.2
    have f0 := ff 0
    have f1 := ff 1
    have f2 := ff 2
    have f3 := ff 3
    have c0 := cells_of hblk 0 _ rfl
    have c1 := cells_of hblk 1 _ rfl
    have c2 := cells_of hblk 2 _ rfl
    have c3 := cells_of hblk 3 _ rfl
    have o0 := cells_of HW8.out.1.blk 0 _ rfl
    have o1 := cells_of HW8.out.1.blk 1 _ rfl
    have o2 := cells_of HW8.out.1.blk 2 _ rfl
    have o3 := cells_of HW8.out.1.blk 3 _ rfl
    clear ff hblk
    go_wp2
    obtain ⟨W2, hW2, r0, r1, r2, r3, hbf, hu2⟩ := HFIN.out w8 (.int .i64 q0.nodes) (.int .i64 q0.copies) (.slice pa2 q0.parts.length pc2) (.slice la2 q0.lives.length lc2) HW8.out.2.2
    have hR := HA.out.2.1 (by first | rfl | trivial) (by first | rfl | trivial)
    obtain ⟨-, -, he2⟩ := HEND.out w8 q0.parts m2 HW8.out.1 (Upd.refl _ _)
    obtain ⟨hp1, hp2⟩ := he2 W2 hu2
    rw [hW2] at r0 r1 r2 r3 hbf hp1 hp2
    exact bodyPost_ret (v := .tuple #[.agg #[.int .i64 q0.nodes, .int .i64 q0.copies, .slice pa2 q0.parts.length pc2, .slice la2 q0.lives.length lc2], .slice ta T.length tc, .int .i64 0]) (by simp [results, Tryz.results24, go_sem, r0, r1, r2, r3]) rfl ⟨_, _, by rw [hR], by rw [hR]; exact hp1, by rw [hR]; exact hp2, hbf⟩
  case neg =>
  have hk4 : (k == 4) = false := by simpa using h4
  have hTl : (T.length : Int) ≤ 9223372036854775807 := by
    obtain ⟨a, c, e, -, h, -⟩ := ((HEND.out w8 q0.parts m2 HW8.out.1 (Upd.refl _ _)).2.1).cells
    have : maxLen = 9223372036854775807 := rfl
    omega
  go_wp2
  go_loopg [11, 54] T.length (fun gk _ i wx => ∃ (j : Nat) (Q : List Pt) (m : List (Value × Pt)), j ≤ T.length ∧ gk = T.length - j ∧ i = .int .i64 j ∧ PlanOwn wx w6.heap.size w7.heap.size ⟨q0.nodes, q0.copies, Q, q0.lives⟩ pa2 pc2 la2 lc2 m ∧ Q.length = q0.parts.length ∧ EpOk Q ∧
    bumpP Q (T.drop j) = bumpP q0.parts T ∧ Upd (fun b => some b = (Value.slice pa2 q0.parts.length pc2).ownBlock) w8 wx)
  case atStart => exact ⟨0, q0.parts, m2, Nat.zero_le _, rfl, rfl, HW8.out.1, rfl, HEP.out, rfl, Upd.refl _ _⟩
  case round =>
    clear z0 z1 z2 z3
    obtain ⟨j, Q, m, hj, rfl, rfl, hown, hQl, hepQ, hbump, hu⟩ := hrel
    obtain ⟨hbW, htr, hed⟩ := HEND.out wr Q m hown hu
    have HX := Lib.hid (And.intro hown (And.intro hbump (And.intro hu hed)))
    obtain ⟨-, -, -, -, z0, z1, z2, z3, ff, hblk⟩ := HK.out wr hbW
    have HQL := Lib.hid hQl
    by_cases hlt : j < T.length
    · obtain ⟨ta', tc', e', -, -, hTC⟩ := htr.cells
      simp only [Value.slice.injEq, true_and] at e'
      obtain ⟨rfl, rfl⟩ := e'
      obtain ⟨b, off, rfl, hb, ct⟩ := hTC j hlt
      obtain ⟨ht0, ht1⟩ := hT2 _ (List.getElem_mem hlt)
      obtain ⟨t, et⟩ := Int.eq_ofNat_of_zero_le ht0
      have htQ : t < Q.length := by omega
      rw [et] at ct
      have hdr : T.drop j = (t : Int) :: T.drop (j + 1) := by rw [List.drop_eq_getElem_cons hlt, et]
      obtain ⟨g, rfl⟩ := hown.ptr (by simp only; omega)
      obtain ⟨hjm, ca, cc, em, e0, -, -, fg, -, hgp, hgl, hgN⟩ := hown.place t htQ
      have o2 := cells_of hown.blk 2 _ rfl
      have hat : atP Q (t : Int) = Q[t] := atP_lt htQ
      obtain ⟨hep1, hep2⟩ := hepQ _ (List.getElem_mem htQ)
      obtain ⟨m', hset, -⟩ := hown.setEpoch t htQ (Q[t].epoch + 1)
      have hsu := upd_set1 wr g (t * 3) (.int .i64 (Q[t].epoch + 1))
      have hu' : Upd (fun b => some b = (Value.slice (some ⟨g, 0, none⟩) q0.parts.length pc2).ownBlock) w8 (wr.setCell ⟨g, t * 3, none⟩ (.int .i64 (Q[t].epoch + 1))) := hu.trans (hsu.mono (fun b _ e => by rw [e]; rfl))
      have hbs : bumpP Q (T.drop j) = if 1073741824 < Q[t].epoch + 1 then none else bumpP (Q.set t ⟨Q[t].epoch + 1, Q[t].chain, Q[t].learner⟩) (T.drop (j + 1)) := by
        rw [hdr]; simp only [bumpP, hat, Int.toNat_natCast]
      rw [hbump] at hbs
      obtain ⟨hbW', -, -⟩ := HEND.out _ _ m' hset hu'
      have hplace := hset.place t (by simpa using htQ)
      obtain ⟨-, ca', cc', -, e0', -, -, -, -, -, -, -⟩ := hplace
      have o2' := cells_of hset.blk 2 _ rfl
      have e0s : (wr.setCell ⟨g, t * 3, none⟩ (.int .i64 (Q[t].epoch + 1))).cell? ⟨g, t * 3, none⟩ = some (.int .i64 (Q[t].epoch + 1)) := by simpa using e0'
      have o2s : (wr.setCell ⟨g, t * 3, none⟩ (.int .i64 (Q[t].epoch + 1))).cell? ⟨w7.heap.size, 2, none⟩ = some (.slice (some ⟨g, 0, none⟩) Q.length pc2) := by simpa using o2'
      have fg0 := fg (t * 3)
      have hepN : EpOk (Q.set t ⟨Q[t].epoch + 1, Q[t].chain, Q[t].learner⟩) → True := fun _ => trivial
      have HS := Lib.hid (And.intro hset (And.intro hu' (And.intro hbs hbW')))
      have HEQ := Lib.hid hepQ
      have i1 : (j : Int) < (T.length : Int) := by omega
      have i2 : (0 : Int) ≤ (j : Int) := by omega
      have i3 : (0 : Int) ≤ (t : Int) := by omega
      have i4 : (t : Int) < (Q.length : Int) := by omega
      clear hset hu' hbs hbW' hepQ e0' o2' hown hbump hed htr hTC hdr hat hblk ff et ht0 ht1 hepN hsu hu em fg hQl
      by_cases hm : 1073741824 < Q[t].epoch + 1
      · obtain ⟨-, -, -, -, z0', z1', z2', z3', ff, hblk⟩ := HK.out _ HS.out.2.2.2
        have f0 := ff 0
        have f1 := ff 1
        have f2 := ff 2
        have f3 := ff 3
        have c0 := cells_of hblk 0 _ rfl
        have c1 := cells_of hblk 1 _ rfl
        have c2 := cells_of hblk 2 _ rfl
        have c3 := cells_of hblk 3 _ rfl
        clear ff hblk
        have HM := Lib.hid hm
        generalize Q[t].epoch = ep at *
        go_wp2
        obtain ⟨W2, hW2, r0, r1, r2, r3, hbf, -⟩ := HFIN.out _ (.int .i64 0) (.int .i64 0) (.slice none 0 0) (.slice none 0 0) HS.out.2.2.2
        rw [hW2] at r0 r1 r2 r3 hbf
        have hR := HA.out.2.2.2 (by first | rfl | trivial) h4 (by have := HS.out.2.2.1; rw [if_pos HM.out] at this; exact this)
        exact bodyPost_ret (v := .tuple #[.agg #[.int .i64 0, .int .i64 0, .slice none 0 0, .slice none 0 0], .slice none 0 0, .int .i64 32]) (by simp [results, Tryz.results24, go_sem, r0, r1, r2, r3]) rfl ⟨_, _, by rw [hR], by rw [hR]; exact PlanFrom.zero _ _, by rw [hR]; exact TurnRd.nil _, hbf⟩
      · have HM := Lib.hid hm
        have hle : Q[t].epoch + 1 ≤ 1073741824 := by omega
        have hnew : EpOk (Q.set t ⟨Q[t].epoch + 1, Q[t].chain, Q[t].learner⟩) := by
          intro y hy
          rcases List.mem_or_eq_of_mem_set hy with h2 | rfl
          · exact HEQ.out y h2
          · exact ⟨by simp only; omega, hle⟩
        have HNEW := Lib.hid hnew
        have hR2 : bumpP (Q.set t ⟨Q[t].epoch + 1, Q[t].chain, Q[t].learner⟩) (T.drop (j + 1)) = bumpP q0.parts T := by have := HS.out.2.2.1; rw [if_neg HM.out] at this; exact this.symm
        have HR2 := Lib.hid hR2
        clear hnew hR2
        generalize Q[t].epoch = ep at *
        go_wp2
        go_roundg (T.length - (j + 1))
        case measure => omega
        case rel => exact ⟨j + 1, _, m', by omega, rfl, by go_num, HS.out.1, by rw [List.length_set]; exact HQL.out, HNEW.out, HR2.out, HS.out.2.1⟩
    · have hdr : T.drop j = [] := List.drop_eq_nil_of_le (by omega)
      have hQ : bumpP q0.parts T = some Q := by rw [← hbump, hdr]; rfl
      have i1 : ¬ (j : Int) < (T.length : Int) := by omega
      have f0 := ff 0
      have f1 := ff 1
      have f2 := ff 2
      have f3 := ff 3
      have c0 := cells_of hblk 0 _ rfl
      have c1 := cells_of hblk 1 _ rfl
      have c2 := cells_of hblk 2 _ rfl
      have c3 := cells_of hblk 3 _ rfl
      have o0 := cells_of hown.blk 0 _ rfl
      have o1 := cells_of hown.blk 1 _ rfl
      have o2 := cells_of hown.blk 2 _ rfl
      have o3 := cells_of hown.blk 3 _ rfl
      have HQ := Lib.hid hQ
      clear hQl ff hblk hQ hdr hbump hown hepQ htr hed
      go_wp2
      obtain ⟨W2, hW2, r0, r1, r2, r3, hbf, hu2⟩ := HFIN.out wr (.int .i64 q0.nodes) (.int .i64 q0.copies) (.slice pa2 Q.length pc2) (.slice la2 q0.lives.length lc2) hbW
      have hR := HA.out.2.2.1 (by first | rfl | trivial) h4 Q HQ.out
      obtain ⟨hp1, hp2⟩ := HX.out.2.2.2 W2 hu2
      rw [hW2] at r0 r1 r2 r3 hbf hp1 hp2
      exact bodyPost_ret (v := .tuple #[.agg #[.int .i64 q0.nodes, .int .i64 q0.copies, .slice pa2 Q.length pc2, .slice la2 q0.lives.length lc2], .slice ta T.length tc, .int .i64 0]) (by simp [results, Tryz.results24, go_sem, r0, r1, r2, r3]) rfl ⟨_, _, by rw [hR], by rw [hR]; exact hp1, by rw [hR]; exact hp2, hbf⟩

theorem Apply_any {w : World} {v : Value} {p : Pl} (h : PlanRd w v p) (x : Event) : Calls Tryz.prog 24 #[v, x.v] w (Applied w p x) := by
  cases hc : canB p x
  · exact Apply_arg h x hc
  · exact Apply_can h x hc
end Go.Proofs.YtcpaaleogmiamaaGreatDoor
