/- The reference's Apply of layer 12, whole. -/
import Derived.Test.YtjkobbmdemooaaaGreatDoorPx36
import Derived.Test.YtjkobbmdemooaaaGreatDoorPx37
import Derived.Test.YtjkobbmdemooaaaGreatDoorPx38
import Derived.Test.YtjkobbmdemooaaaGreatDoorPx41
import Derived.Test.YtjkobbmdemooaaaGreatDoorPx42
import Derived.Test.YtjkobbmdemooaaaGreatDoorPx43
import Derived.Test.YtjkobbmdemooaaaGreatDoorPx14
import Derived.Test.YtjkobbmdemooaaaGreatDoorPx28
namespace Go.Proofs.YtjkobbmdemooaaaGreatDoor
open Go.RowKit

set_option maxRecDepth 100000 in
set_option maxHeartbeats 16000000 in
theorem RApply_any {w : World} {p : Pl} {pa la : Option Addr} {pc lc : Nat} (h : PlanRd w (planV p pa pc la lc) p) (x : Event) : Calls Tryz.prog 10 #[planV p pa pc la lc, x.v] w (AppR w (applyP p x)) := by
  obtain ⟨R, hR⟩ : ∃ R, applyP p x = R := ⟨_, rfl⟩
  rw [hR]
  obtain ⟨can, hcan⟩ : ∃ can, canB p x = can := ⟨_, rfl⟩
  have hcz : can = false → R = (.zero, [], 1) := fun h => by rw [← hR]; unfold applyP; rw [hcan, if_pos h]
  obtain ⟨k, nd, pt, cn⟩ := x
  have hcb : can = (goodP p && (eventB ⟨k, nd, pt, cn⟩ && (decide (nd ≤ p.nodes) && decide (pt < (p.parts.length : Int))))) := hcan.symm
  obtain ⟨wa, hwa⟩ : ∃ wa, wa = (((w.alloc (.cells #[.int .i64 p.nodes, .int .i64 p.copies, .slice pa p.parts.length pc, .slice la p.lives.length lc] 25)).alloc (.cells #[.int .i64 k, .int .i64 nd, .int .i64 pt, .int .i64 cn] 27)).alloc (.cells #[.int .i64 0, .int .i64 0, .slice none 0 0, .slice none 0 0] 25)).alloc (.cells #[.int .i64 0, .int .i64 0, .slice none 0 0, .slice none 0 0] 25) := ⟨_, rfl⟩
  have hFx : Fx w wa w.heap.size (w.heap.size + 1) (w.heap.size + 1 + 1) (w.heap.size + 1 + 1 + 1) wa.heap.size p pa la pc lc ⟨k, nd, pt, cn⟩ := by
    have hsz : wa.heap.size = w.heap.size + 4 := by rw [hwa]; simp
    refine ⟨?_, ?_, ?_, ?_, h, ?_, by omega⟩
    · rw [hwa, Below.heap_alloc _ _ _ (by simp <;> omega), Below.heap_alloc _ _ _ (by simp <;> omega), Below.heap_alloc _ _ _ (by simp)]; exact heap_alloc_new _ _
    · rw [hwa, Below.heap_alloc _ _ _ (by simp <;> omega), Below.heap_alloc _ _ _ (by simp)]; exact heap_new1 _ _ _
    · rw [hwa, Below.heap_alloc _ _ _ (by simp)]; exact heap_new2 _ _ _ _
    · rw [hwa]
      have := heap_alloc_new (((w.alloc (.cells #[.int .i64 p.nodes, .int .i64 p.copies, .slice pa p.parts.length pc, .slice la p.lives.length lc] 25)).alloc (.cells #[.int .i64 k, .int .i64 nd, .int .i64 pt, .int .i64 cn] 27)).alloc (.cells #[.int .i64 0, .int .i64 0, .slice none 0 0, .slice none 0 0] 25)) (.cells #[.int .i64 0, .int .i64 0, .slice none 0 0, .slice none 0 0] 25)
      simpa using this
    · rw [hwa]
      exact ((below_alloc2 _ _ _).trans ((below_alloc _ _).mono (by simp; omega))).trans ((below_alloc _ _).mono (by simp; omega))
  have hgd : ∀ W, Below wa.heap.size wa W → Calls Tryz.prog 16 #[planV p pa pc la lc] W fun e w' => e = .returned (.bool (goodP p)) ∧ Below wa.heap.size wa w' := by
    intro W hb
    refine (R12Good_any (hFx.below hb).rd).mono ?_
    rintro e w' ⟨rfl, h⟩
    exact ⟨rfl, hb.trans (h.mono hb.size)⟩
  have hev : ∀ W, Below wa.heap.size wa W → Calls Tryz.prog 41 #[.agg #[.int .i64 k, .int .i64 nd, .int .i64 pt, .int .i64 cn]] W fun e w' => e = .returned (.bool (eventB ⟨k, nd, pt, cn⟩)) ∧ Below wa.heap.size wa w' := by
    intro W hb
    refine (R12Event_any ⟨k, nd, pt, cn⟩ W).mono ?_
    rintro e w' ⟨rfl, h⟩
    exact ⟨rfl, hb.trans (h.mono hb.size)⟩
  have hkeep := fun W' (hb : Below wa.heap.size wa W') => (hFx.below hb).cells
  simp only at hkeep
  obtain ⟨⟨d0, d1, d2, d3⟩, ⟨y0, y1, y2, y3⟩⟩ := hFx.cells
  simp only at y0 y1 y2 y3
  obtain ⟨bg, hbg⟩ : ∃ bg, goodP p = bg := ⟨_, rfl⟩
  obtain ⟨be, hbe⟩ : ∃ be, eventB ⟨k, nd, pt, cn⟩ = be := ⟨_, rfl⟩
  rw [hbg] at hgd hcb
  rw [hbe] at hev hcb
  have hpm : (p.parts.length : Int) ≤ 9223372036854775807 := by
    obtain ⟨pv, lv, e, hp, -⟩ := h
    obtain ⟨_, _, -, -, hm, -⟩ := hp.cells
    have : maxLen = 9223372036854775807 := rfl
    omega
  have HFX := Lib.hid hFx
  have HGD := Lib.hid hgd
  have HEV := Lib.hid hev
  have HK := Lib.hid hkeep
  have HCZ := Lib.hid hcz
  have HCB := Lib.hid hcb
  have HCAN := Lib.hid hcan
  have HRR := Lib.hid hR
  have HRD := Lib.hid h
  clear h hFx hgd hev hkeep hcz hcb hcan hR hbg hbe
  unfold Event.v
  simp only
  go_enter Tryz.func10, Tryz.ntmps10
  go_upto_region 2 with fail
  rw [← hwa]
  clear hwa
  generalize w.heap.size + 1 + 1 + 1 = N3 at *
  generalize w.heap.size + 1 + 1 = N2 at *
  generalize w.heap.size + 1 = N1 at *
  go_cut [41] from 19 to 41 (fun v wx => v = .bool (!can) ∧ Below wa.heap.size wa wx)
  case first =>
    cases bg
    · go_wp2_with (first | (go_at_call 16; refine (HGD.out _ (Below.refl _ _)).mono ?_; rintro _ w5 ⟨rfl, hb5⟩; obtain ⟨⟨d50, d51, d52, d53⟩, ⟨y50, y51, y52, y53⟩⟩ := HK.out w5 hb5))
      go_meet
      exact ⟨by rw [HCB.out]; rfl, hb5⟩
    cases be
    · go_wp2_with (first | (go_at_call 16; refine (HGD.out _ (Below.refl _ _)).mono ?_; rintro _ w5 ⟨rfl, hb5⟩; obtain ⟨⟨d50, d51, d52, d53⟩, ⟨y50, y51, y52, y53⟩⟩ := HK.out w5 hb5) | (go_at_call 41; refine (HEV.out _ hb5).mono ?_; rintro _ w6 ⟨rfl, hb6⟩; obtain ⟨⟨d60, d61, d62, d63⟩, ⟨y60, y61, y62, y63⟩⟩ := HK.out w6 hb6))
      go_meet
      exact ⟨by rw [HCB.out]; simp [*], hb6⟩
    by_cases hn : p.nodes < nd
    · go_wp2_with (first | (go_at_call 16; refine (HGD.out _ (Below.refl _ _)).mono ?_; rintro _ w5 ⟨rfl, hb5⟩; obtain ⟨⟨d50, d51, d52, d53⟩, ⟨y50, y51, y52, y53⟩⟩ := HK.out w5 hb5) | (go_at_call 41; refine (HEV.out _ hb5).mono ?_; rintro _ w6 ⟨rfl, hb6⟩; obtain ⟨⟨d60, d61, d62, d63⟩, ⟨y60, y61, y62, y63⟩⟩ := HK.out w6 hb6))
      go_meet
      exact ⟨by rw [HCB.out, decide_eq_false (by omega : ¬ nd ≤ p.nodes)]; simp [*], hb6⟩
    by_cases hq : (p.parts.length : Int) ≤ pt
    · go_wp2_with (first | (go_at_call 16; refine (HGD.out _ (Below.refl _ _)).mono ?_; rintro _ w5 ⟨rfl, hb5⟩; obtain ⟨⟨d50, d51, d52, d53⟩, ⟨y50, y51, y52, y53⟩⟩ := HK.out w5 hb5) | (go_at_call 41; refine (HEV.out _ hb5).mono ?_; rintro _ w6 ⟨rfl, hb6⟩; obtain ⟨⟨d60, d61, d62, d63⟩, ⟨y60, y61, y62, y63⟩⟩ := HK.out w6 hb6))
      go_meet
      exact ⟨by rw [HCB.out, decide_eq_true (by omega : nd ≤ p.nodes), decide_eq_false (by omega : ¬ pt < (p.parts.length : Int))]; simp [*], hb6⟩
    · go_wp2_with (first | (go_at_call 16; refine (HGD.out _ (Below.refl _ _)).mono ?_; rintro _ w5 ⟨rfl, hb5⟩; obtain ⟨⟨d50, d51, d52, d53⟩, ⟨y50, y51, y52, y53⟩⟩ := HK.out w5 hb5) | (go_at_call 41; refine (HEV.out _ hb5).mono ?_; rintro _ w6 ⟨rfl, hb6⟩; obtain ⟨⟨d60, d61, d62, d63⟩, ⟨y60, y61, y62, y63⟩⟩ := HK.out w6 hb6))
      go_meet
      exact ⟨by rw [HCB.out, decide_eq_true (by omega : nd ≤ p.nodes), decide_eq_true (by omega : pt < (p.parts.length : Int))]; simp [*], hb6⟩
  case rest =>
  obtain ⟨rfl, hbx⟩ := hcut
  have hF := HFX.out.below hbx
  clear HK HGD HEV HFX d0 d1 d2 d3 y0 y1 y2 y3
  cases can
  · obtain ⟨⟨z0, z1, z2, z3⟩, ⟨r0, r1, r2, r3⟩, ⟨f0, f1, f2, f3⟩⟩ := hF.zeros
    have HZ := Lib.hid hF.zd
    clear hF hbx
    go_wp2
    have hRz := HCZ.out (by trivial)
    obtain ⟨s0, s1, s2, s3, hbf⟩ := HZ.out
    exact bodyPost_ret (v := .tuple #[.agg #[.int .i64 0, .int .i64 0, .slice none 0 0, .slice none 0 0], .slice none 0 0, .int .i64 1]) (by simp [results, Tryz.results10, go_sem, s0, s1, s2, s3]) rfl ⟨_, _, by rw [hRz], by rw [hRz]; exact PlanFrom.zero _ _, by rw [hRz]; exact TurnRd.nil _, hbf⟩
  · have hc := HCAN.out
    have HCC := Lib.hid hc
    obtain ⟨hg, he, hnd, hpt⟩ := canB_iff.1 hc
    simp only at hnd hpt
    have hsm := small_of_good hg
    have hne : ∀ y ∈ p.parts, 0 < y.chain.length := fun y hy => (isPlaceB_iff.1 ((goodP_iff.1 hg).2.2.2.1 y hy)).2.2.2.1
    obtain ⟨pv, lv, e, hp, hl⟩ := hF.rd
    simp only [planV, Value.agg.injEq, Array.mk.injEq, List.cons.injEq, and_true, true_and] at e
    obtain ⟨rfl, rfl⟩ := e
    have hcopy : Calls Tryz.prog 42 #[planV p pa pc la lc] wc fun e w' => ∃ (pa' la' : Option Addr) (pc' lc' : Nat) (m : List (Value × Pt)), e = .returned (planV p pa' pc' la' lc') ∧
        Tn ((w'.alloc (.cells #[.int .i64 p.nodes, .int .i64 p.copies, .slice pa' p.parts.length pc', .slice la' p.lives.length lc'] 25)).alloc (.cells #[] 3)) wc.heap.size w'.heap.size p [] pa' pc' la' lc' m (.slice (some ⟨w'.heap.size + 1, 0, none⟩) 0 0) ∧
        Fx w ((w'.alloc (.cells #[.int .i64 p.nodes, .int .i64 p.copies, .slice pa' p.parts.length pc', .slice la' p.lives.length lc'] 25)).alloc (.cells #[] 3)) w.heap.size N1 N2 N3 wc.heap.size p pa la pc lc ⟨k, nd, pt, cn⟩ := by
      refine (R12Copy_any hp hl hsm.1 hne).mono ?_
      rintro e w' ⟨pa', la', pc', lc', m, rfl, hm, hown, hlv, hb'⟩
      have hs := hb'.size
      have hpo : PlanOwn (w'.alloc (.cells #[.int .i64 p.nodes, .int .i64 p.copies, .slice pa' p.parts.length pc', .slice la' p.lives.length lc'] 25)) wc.heap.size w'.heap.size p pa' pc' la' lc' m := ⟨heap_alloc_new _ _, hown.below (below_alloc _ _), hm, owns_upd hlv (Upd.of_below (F := fun _ => False) (below_alloc _ _)) (fun _ _ h => h), hs⟩
      have hmade := World.ownsRow_made (e := 3) (size := 1) (base := wc.heap.size) (w'.alloc (.cells #[.int .i64 p.nodes, .int .i64 p.copies, .slice pa' p.parts.length pc', .slice la' p.lives.length lc'] 25)) #[] 0 (by simp; omega) (Nat.zero_le _) rfl
      simp only [World.size_alloc] at hmade
      refine ⟨pa', la', pc', lc', m, rfl, ⟨hpo.below (below_alloc _ _), hmade, ?_⟩, ?_⟩
      · intro i hi q hq h2
        simp only [Value.ownBlock, Option.some.injEq] at h2
        have := (owns_lt (hown.chain i hi hi) q hq).2
        omega
      · obtain ⟨l1, l2, l3, l4, l5, l6⟩ := hF.lt
        have hall : Below wc.heap.size wc ((w'.alloc (.cells #[.int .i64 p.nodes, .int .i64 p.copies, .slice pa' p.parts.length pc', .slice la' p.lives.length lc'] 25)).alloc (.cells #[] 3)) := (hb'.alloc (by omega) _).alloc (by simp; omega) _
        have hF' := hF.below hall
        exact ⟨hF'.box, hF'.ev, hF'.res, hF'.non, hF'.rd0, hF'.bel, l1, l2, l3, l4, by omega, hall.size⟩
    obtain ⟨⟨d0, d1, d2, d3⟩, ⟨y0, y1, y2, y3⟩⟩ := hF.cells
    simp only at y0 y1 y2 y3
    obtain ⟨q0, T, e0, hCh⟩ : ∃ q0 T e0, changeP p ⟨k, nd, pt, cn⟩ = (q0, T, e0) := ⟨_, _, _, rfl⟩
    have hep : EpOk q0.parts := by have := changeP_epochs hc; rw [hCh] at this; exact this
    have hTr : e0 = 0 → T.Nodup ∧ ∀ i ∈ T, 0 ≤ i ∧ i < (q0.parts.length : Int) := by
      intro h0
      have := changeP_turned (p := p) (x := ⟨k, nd, pt, cn⟩) (eventB_part he) hpt (by rw [hCh]; exact h0)
      rw [hCh] at this
      exact this
    have hA1 : e0 ≠ 0 → R = (.zero, [], e0) := fun h => by rw [← HRR.out]; exact applyP_err hc hCh h
    have hA2 : e0 = 0 → k = 4 → R = (q0, T, 0) := fun h h2 => by rw [← HRR.out]; exact applyP_create hc (by rw [hCh, h]) h2
    have hA3 : e0 = 0 → k ≠ 4 → ∀ Q, bumpP q0.parts T = some Q → R = (⟨q0.nodes, q0.copies, Q, q0.lives⟩, T, 0) := fun h h2 Q hb => by rw [← HRR.out]; exact applyP_ok hc (by rw [hCh, h]) h2 hb
    have hA4 : e0 = 0 → k ≠ 4 → bumpP q0.parts T = none → R = (.zero, [], 32) := fun h h2 hb => by rw [← HRR.out]; exact applyP_many hc (by rw [hCh, h]) h2 hb
    have HA := Lib.hid (And.intro hA1 (And.intro hA2 (And.intro hA3 hA4)))
    have HEP := Lib.hid hep
    have HTR := Lib.hid hTr
    have HCH := Lib.hid hCh
    have HCP := Lib.hid hcopy
    have HG := Lib.hid hg
    have HE := Lib.hid he
    clear hc hg he hnd hpt hsm hne hp hl hcopy hCh hep hTr hA1 hA2 hA3 hA4 hF hbx HCZ HCB HCAN HRR HRD
    go_upto_region 6 with (first | (go_at_call 42; refine HCP.out.mono ?_; rintro _ w7 ⟨pa', la', pc', lc', m, rfl, hT7, hF7⟩; have HT7 := Lib.hid hT7; have HF7 := Lib.hid hF7; obtain ⟨⟨d70, d71, d72, d73⟩, ⟨y70, y71, y72, y73⟩⟩ := hF7.cells; clear hT7 hF7))
    clear d0 d1 d2 d3 y0 y1 y2 y3
    generalize (w7.alloc (.cells #[.int .i64 p.nodes, .int .i64 p.copies, .slice pa' p.parts.length pc', .slice la' p.lives.length lc'] 25)).alloc (.cells #[] 3) = wt at *
    generalize w7.heap.size + 1 = tb at *
    generalize w7.heap.size = X at *
    go_upto_region 7 with fail
    clear d70 d71 d72 d73 y70 y71 y72 y73
    by_cases k1 : k = 1
    · subst k1
      iterate 11 go_step
      refine ra_k1 ?_ HF7.out HT7.out HCC.out rfl HCH.out (fun a' w' h => ?_) (fun a' w' h => ?_)
      · kernel_rfl
      · iterate 103 (obtain ⟨_, h⟩ := h)
        obtain ⟨pa3, la3, ta, pc3, lc3, tc, m3, ⟨rfl, hT3, hF3⟩, rfl⟩ := h
        go_upto_block 7 with fail
        refine ra_b7 ?_ hF3 hT3 HEP.out (HTR.out (by trivial)).2 (fun a9 w9 h9 => ?_) (fun a9 w9 h9 => ?_)
        · kernel_rfl
        · iterate 32 (obtain ⟨_, h9⟩ := h9)
          obtain ⟨Q, m9, ⟨hPO, hbm, hF9, hW2⟩, rfl⟩ := h9
          obtain ⟨-, ⟨r0, r1, r2, r3⟩, ⟨f0, f1, f2, f3⟩⟩ := hF9.zeros
          have c0 := cells_of hPO.blk 0 _ rfl
          have c1 := cells_of hPO.blk 1 _ rfl
          have c2 := cells_of hPO.blk 2 _ rfl
          have c3 := cells_of hPO.blk 3 _ rfl
          simp only at c0 c1 c2 c3
          obtain ⟨W2, hW2e, s0, s1, s2, s3, hbf, hup⟩ := hF9.fin (.int .i64 q0.nodes) (.int .i64 q0.copies) (.slice pa3 Q.length pc3) (.slice la3 q0.lives.length lc3)
          obtain ⟨hpf, htr⟩ := hW2 W2 hup
          have hRe := HA.out.2.2.1 (by trivial) (by first | trivial | decide) Q hbm
          have HFIN := Lib.hid (And.intro s0 (And.intro s1 (And.intro s2 (And.intro s3 (And.intro hbf (And.intro hpf (And.intro htr hRe)))))))
          have HW2 := Lib.hid hW2e
          clear hPO hbm hF9 hW2 s0 s1 s2 s3 hbf hpf htr hRe hW2e hup hT3 hF3
          go_wp2
          rw [← HW2.out]
          obtain ⟨s0, s1, s2, s3, hbf, hpf, htr, hRe⟩ := HFIN.out
          exact bodyPost_ret (v := .tuple #[.agg #[.int .i64 q0.nodes, .int .i64 q0.copies, .slice pa3 Q.length pc3, .slice la3 q0.lives.length lc3], .slice ta T.length tc, .int .i64 0]) (by simp [results, Tryz.results10, go_sem, s0, s1, s2, s3]) rfl ⟨_, _, by rw [hRe], by rw [hRe]; exact hpf, by rw [hRe]; exact htr, hbf⟩
        · iterate 30 (obtain ⟨_, h9⟩ := h9)
          obtain ⟨⟨hbm, s0, s1, s2, s3, hbf⟩, rfl⟩ := h9
          have hRe := HA.out.2.2.2 (by trivial) (by first | trivial | decide) hbm
          exact bodyPost_ret (v := .tuple #[.agg #[.int .i64 0, .int .i64 0, .slice none 0 0, .slice none 0 0], .slice none 0 0, .int .i64 32]) (by simp [results, Tryz.results10, go_sem, s0, s1, s2, s3]) rfl ⟨_, _, by rw [hRe], by rw [hRe]; exact PlanFrom.zero _ _, by rw [hRe]; exact TurnRd.nil _, hbf⟩
      · iterate 102 (obtain ⟨_, h⟩ := h)
        obtain ⟨⟨he0, s0, s1, s2, s3, hbf⟩, rfl⟩ := h
        have hRe := HA.out.1 he0
        exact bodyPost_ret (v := .tuple #[.agg #[.int .i64 0, .int .i64 0, .slice none 0 0, .slice none 0 0], .slice none 0 0, .int .i64 e0]) (by simp [results, Tryz.results10, go_sem, s0, s1, s2, s3]) rfl ⟨_, _, by rw [hRe], by rw [hRe]; exact PlanFrom.zero _ _, by rw [hRe]; exact TurnRd.nil _, hbf⟩
    by_cases k2 : k = 2
    · subst k2
      go_upto_region 28 with fail
      iterate 11 go_step
      refine ra_k2 ?_ HF7.out HT7.out HCC.out rfl HCH.out (fun a' w' h => ?_) (fun a' w' h => ?_)
      · kernel_rfl
      · iterate 61 (obtain ⟨_, h⟩ := h)
        obtain ⟨pa3, la3, ta, pc3, lc3, tc, m3, ⟨rfl, hT3, hF3⟩, rfl⟩ := h
        go_upto_block 7 with fail
        refine ra_b7 ?_ hF3 hT3 HEP.out (HTR.out (by trivial)).2 (fun a9 w9 h9 => ?_) (fun a9 w9 h9 => ?_)
        · kernel_rfl
        · iterate 32 (obtain ⟨_, h9⟩ := h9)
          obtain ⟨Q, m9, ⟨hPO, hbm, hF9, hW2⟩, rfl⟩ := h9
          obtain ⟨-, ⟨r0, r1, r2, r3⟩, ⟨f0, f1, f2, f3⟩⟩ := hF9.zeros
          have c0 := cells_of hPO.blk 0 _ rfl
          have c1 := cells_of hPO.blk 1 _ rfl
          have c2 := cells_of hPO.blk 2 _ rfl
          have c3 := cells_of hPO.blk 3 _ rfl
          simp only at c0 c1 c2 c3
          obtain ⟨W2, hW2e, s0, s1, s2, s3, hbf, hup⟩ := hF9.fin (.int .i64 q0.nodes) (.int .i64 q0.copies) (.slice pa3 Q.length pc3) (.slice la3 q0.lives.length lc3)
          obtain ⟨hpf, htr⟩ := hW2 W2 hup
          have hRe := HA.out.2.2.1 (by trivial) (by first | trivial | decide) Q hbm
          have HFIN := Lib.hid (And.intro s0 (And.intro s1 (And.intro s2 (And.intro s3 (And.intro hbf (And.intro hpf (And.intro htr hRe)))))))
          have HW2 := Lib.hid hW2e
          clear hPO hbm hF9 hW2 s0 s1 s2 s3 hbf hpf htr hRe hW2e hup hT3 hF3
          go_wp2
          rw [← HW2.out]
          obtain ⟨s0, s1, s2, s3, hbf, hpf, htr, hRe⟩ := HFIN.out
          exact bodyPost_ret (v := .tuple #[.agg #[.int .i64 q0.nodes, .int .i64 q0.copies, .slice pa3 Q.length pc3, .slice la3 q0.lives.length lc3], .slice ta T.length tc, .int .i64 0]) (by simp [results, Tryz.results10, go_sem, s0, s1, s2, s3]) rfl ⟨_, _, by rw [hRe], by rw [hRe]; exact hpf, by rw [hRe]; exact htr, hbf⟩
        · iterate 30 (obtain ⟨_, h9⟩ := h9)
          obtain ⟨⟨hbm, s0, s1, s2, s3, hbf⟩, rfl⟩ := h9
          have hRe := HA.out.2.2.2 (by trivial) (by first | trivial | decide) hbm
          exact bodyPost_ret (v := .tuple #[.agg #[.int .i64 0, .int .i64 0, .slice none 0 0, .slice none 0 0], .slice none 0 0, .int .i64 32]) (by simp [results, Tryz.results10, go_sem, s0, s1, s2, s3]) rfl ⟨_, _, by rw [hRe], by rw [hRe]; exact PlanFrom.zero _ _, by rw [hRe]; exact TurnRd.nil _, hbf⟩
      · iterate 60 (obtain ⟨_, h⟩ := h)
        obtain ⟨⟨he0, s0, s1, s2, s3, hbf⟩, rfl⟩ := h
        have hRe := HA.out.1 he0
        exact bodyPost_ret (v := .tuple #[.agg #[.int .i64 0, .int .i64 0, .slice none 0 0, .slice none 0 0], .slice none 0 0, .int .i64 e0]) (by simp [results, Tryz.results10, go_sem, s0, s1, s2, s3]) rfl ⟨_, _, by rw [hRe], by rw [hRe]; exact PlanFrom.zero _ _, by rw [hRe]; exact TurnRd.nil _, hbf⟩
    by_cases k3 : k = 3
    · subst k3
      go_upto_region 43 with fail
      iterate 11 go_step
      refine ra_k3 ?_ HF7.out HT7.out HCC.out rfl HCH.out (fun a' w' h => ?_) (fun a' w' h => ?_)
      · kernel_rfl
      · iterate 41 (obtain ⟨_, h⟩ := h)
        obtain ⟨pa3, la3, ta, pc3, lc3, tc, m3, ⟨rfl, hT3, hF3⟩, rfl⟩ := h
        go_upto_block 7 with fail
        refine ra_b7 ?_ hF3 hT3 HEP.out (HTR.out (by trivial)).2 (fun a9 w9 h9 => ?_) (fun a9 w9 h9 => ?_)
        · kernel_rfl
        · iterate 32 (obtain ⟨_, h9⟩ := h9)
          obtain ⟨Q, m9, ⟨hPO, hbm, hF9, hW2⟩, rfl⟩ := h9
          obtain ⟨-, ⟨r0, r1, r2, r3⟩, ⟨f0, f1, f2, f3⟩⟩ := hF9.zeros
          have c0 := cells_of hPO.blk 0 _ rfl
          have c1 := cells_of hPO.blk 1 _ rfl
          have c2 := cells_of hPO.blk 2 _ rfl
          have c3 := cells_of hPO.blk 3 _ rfl
          simp only at c0 c1 c2 c3
          obtain ⟨W2, hW2e, s0, s1, s2, s3, hbf, hup⟩ := hF9.fin (.int .i64 q0.nodes) (.int .i64 q0.copies) (.slice pa3 Q.length pc3) (.slice la3 q0.lives.length lc3)
          obtain ⟨hpf, htr⟩ := hW2 W2 hup
          have hRe := HA.out.2.2.1 (by trivial) (by first | trivial | decide) Q hbm
          have HFIN := Lib.hid (And.intro s0 (And.intro s1 (And.intro s2 (And.intro s3 (And.intro hbf (And.intro hpf (And.intro htr hRe)))))))
          have HW2 := Lib.hid hW2e
          clear hPO hbm hF9 hW2 s0 s1 s2 s3 hbf hpf htr hRe hW2e hup hT3 hF3
          go_wp2
          rw [← HW2.out]
          obtain ⟨s0, s1, s2, s3, hbf, hpf, htr, hRe⟩ := HFIN.out
          exact bodyPost_ret (v := .tuple #[.agg #[.int .i64 q0.nodes, .int .i64 q0.copies, .slice pa3 Q.length pc3, .slice la3 q0.lives.length lc3], .slice ta T.length tc, .int .i64 0]) (by simp [results, Tryz.results10, go_sem, s0, s1, s2, s3]) rfl ⟨_, _, by rw [hRe], by rw [hRe]; exact hpf, by rw [hRe]; exact htr, hbf⟩
        · iterate 30 (obtain ⟨_, h9⟩ := h9)
          obtain ⟨⟨hbm, s0, s1, s2, s3, hbf⟩, rfl⟩ := h9
          have hRe := HA.out.2.2.2 (by trivial) (by first | trivial | decide) hbm
          exact bodyPost_ret (v := .tuple #[.agg #[.int .i64 0, .int .i64 0, .slice none 0 0, .slice none 0 0], .slice none 0 0, .int .i64 32]) (by simp [results, Tryz.results10, go_sem, s0, s1, s2, s3]) rfl ⟨_, _, by rw [hRe], by rw [hRe]; exact PlanFrom.zero _ _, by rw [hRe]; exact TurnRd.nil _, hbf⟩
      · iterate 40 (obtain ⟨_, h⟩ := h)
        obtain ⟨⟨he0, s0, s1, s2, s3, hbf⟩, rfl⟩ := h
        have hRe := HA.out.1 he0
        exact bodyPost_ret (v := .tuple #[.agg #[.int .i64 0, .int .i64 0, .slice none 0 0, .slice none 0 0], .slice none 0 0, .int .i64 e0]) (by simp [results, Tryz.results10, go_sem, s0, s1, s2, s3]) rfl ⟨_, _, by rw [hRe], by rw [hRe]; exact PlanFrom.zero _ _, by rw [hRe]; exact TurnRd.nil _, hbf⟩
    by_cases k4 : k = 4
    · subst k4
      go_upto_region 51 with fail
      have hn : p.nodes = (p.nodes.toNat : Int) := by have := (goodP_iff.1 HG.out).1; omega
      have hcp : p.copies = (p.copies.toNat : Int) := by have := (goodP_iff.1 HG.out).2.1; omega
      have hch := HCH.out
      have hA1 := HA.out.1
      have hA2 := HA.out.2.1
      have HX4 := Lib.hid (And.intro hch (And.intro hA1 hA2))
      have HNC := Lib.hid (And.intro hn hcp)
      clear hch hA1 hA2 hn hcp
      iterate 11 go_step
      refine ra_k4 ?_ HF7.out HT7.out HG.out HNC.out.1 HNC.out.2 (fun a' w' h => ?_) (fun a' w' h => ?_)
      · kernel_rfl
      · iterate 24 (obtain ⟨_, h⟩ := h)
        obtain ⟨pa3, pc3, g, ⟨h4, ⟨⟨s0, s1, s2, s3⟩, hpf, htr, hbf⟩⟩, rfl⟩ := h
        have hRe : R = (⟨p.nodes, p.copies, p.parts ++ [placeP p.parts.length p.nodes.toNat p.copies.toNat], p.lives⟩, [(p.parts.length : Int)], 0) := by
          obtain ⟨hch, -, hA2⟩ := HX4.out
          simp only [changeP] at hch
          rw [if_neg (by decide), if_neg (by decide), if_neg (by decide), if_neg (by decide), if_neg h4] at hch
          simp only [Prod.mk.injEq] at hch
          obtain ⟨rfl, rfl, rfl⟩ := hch
          exact hA2 rfl rfl
        exact bodyPost_ret (v := .tuple #[.agg #[.int .i64 p.nodes, .int .i64 p.copies, .slice pa3 (p.parts.length + 1) pc3, .slice la' p.lives.length lc'], .slice (some ⟨g, 0, none⟩) 1 1, .int .i64 0]) (by simp [results, Tryz.results10, go_sem, s0, s1, s2, s3]) rfl ⟨_, _, by rw [hRe], by rw [hRe]; exact hpf, by rw [hRe]; exact htr, hbf⟩
      · iterate 24 (obtain ⟨_, h⟩ := h)
        obtain ⟨⟨h4, s0, s1, s2, s3, hbf⟩, rfl⟩ := h
        have hRe : R = (.zero, [], 32) := by
          obtain ⟨hch, hA1, -⟩ := HX4.out
          simp only [changeP] at hch
          rw [if_neg (by decide), if_neg (by decide), if_neg (by decide), if_neg (by decide), if_pos h4] at hch
          simp only [Prod.mk.injEq] at hch
          obtain ⟨rfl, rfl, rfl⟩ := hch
          exact hA1 (by decide)
        exact bodyPost_ret (v := .tuple #[.agg #[.int .i64 0, .int .i64 0, .slice none 0 0, .slice none 0 0], .slice none 0 0, .int .i64 32]) (by simp [results, Tryz.results10, go_sem, s0, s1, s2, s3]) rfl ⟨_, _, by rw [hRe], by rw [hRe]; exact PlanFrom.zero _ _, by rw [hRe]; exact TurnRd.nil _, hbf⟩
    by_cases k5 : k = 5
    · subst k5
      go_upto_region 56 with fail
      iterate 11 go_step
      refine ra_k5 ?_ HF7.out HT7.out HCC.out rfl HCH.out (fun a' w' h => ?_) (fun a' w' h => ?_)
      · kernel_rfl
      · iterate 31 (obtain ⟨_, h⟩ := h)
        obtain ⟨pa3, la3, ta, pc3, lc3, tc, m3, ⟨rfl, hT3, hF3⟩, rfl⟩ := h
        go_upto_block 7 with fail
        refine ra_b7 ?_ hF3 hT3 HEP.out (HTR.out (by trivial)).2 (fun a9 w9 h9 => ?_) (fun a9 w9 h9 => ?_)
        · kernel_rfl
        · iterate 32 (obtain ⟨_, h9⟩ := h9)
          obtain ⟨Q, m9, ⟨hPO, hbm, hF9, hW2⟩, rfl⟩ := h9
          obtain ⟨-, ⟨r0, r1, r2, r3⟩, ⟨f0, f1, f2, f3⟩⟩ := hF9.zeros
          have c0 := cells_of hPO.blk 0 _ rfl
          have c1 := cells_of hPO.blk 1 _ rfl
          have c2 := cells_of hPO.blk 2 _ rfl
          have c3 := cells_of hPO.blk 3 _ rfl
          simp only at c0 c1 c2 c3
          obtain ⟨W2, hW2e, s0, s1, s2, s3, hbf, hup⟩ := hF9.fin (.int .i64 q0.nodes) (.int .i64 q0.copies) (.slice pa3 Q.length pc3) (.slice la3 q0.lives.length lc3)
          obtain ⟨hpf, htr⟩ := hW2 W2 hup
          have hRe := HA.out.2.2.1 (by trivial) (by first | trivial | decide) Q hbm
          have HFIN := Lib.hid (And.intro s0 (And.intro s1 (And.intro s2 (And.intro s3 (And.intro hbf (And.intro hpf (And.intro htr hRe)))))))
          have HW2 := Lib.hid hW2e
          clear hPO hbm hF9 hW2 s0 s1 s2 s3 hbf hpf htr hRe hW2e hup hT3 hF3
          go_wp2
          rw [← HW2.out]
          obtain ⟨s0, s1, s2, s3, hbf, hpf, htr, hRe⟩ := HFIN.out
          exact bodyPost_ret (v := .tuple #[.agg #[.int .i64 q0.nodes, .int .i64 q0.copies, .slice pa3 Q.length pc3, .slice la3 q0.lives.length lc3], .slice ta T.length tc, .int .i64 0]) (by simp [results, Tryz.results10, go_sem, s0, s1, s2, s3]) rfl ⟨_, _, by rw [hRe], by rw [hRe]; exact hpf, by rw [hRe]; exact htr, hbf⟩
        · iterate 30 (obtain ⟨_, h9⟩ := h9)
          obtain ⟨⟨hbm, s0, s1, s2, s3, hbf⟩, rfl⟩ := h9
          have hRe := HA.out.2.2.2 (by trivial) (by first | trivial | decide) hbm
          exact bodyPost_ret (v := .tuple #[.agg #[.int .i64 0, .int .i64 0, .slice none 0 0, .slice none 0 0], .slice none 0 0, .int .i64 32]) (by simp [results, Tryz.results10, go_sem, s0, s1, s2, s3]) rfl ⟨_, _, by rw [hRe], by rw [hRe]; exact PlanFrom.zero _ _, by rw [hRe]; exact TurnRd.nil _, hbf⟩
      · iterate 30 (obtain ⟨_, h⟩ := h)
        obtain ⟨⟨he0, s0, s1, s2, s3, hbf⟩, rfl⟩ := h
        have hRe := HA.out.1 he0
        exact bodyPost_ret (v := .tuple #[.agg #[.int .i64 0, .int .i64 0, .slice none 0 0, .slice none 0 0], .slice none 0 0, .int .i64 e0]) (by simp [results, Tryz.results10, go_sem, s0, s1, s2, s3]) rfl ⟨_, _, by rw [hRe], by rw [hRe]; exact PlanFrom.zero _ _, by rw [hRe]; exact TurnRd.nil _, hbf⟩
    · exfalso
      have h := HE.out
      simp [eventB, k1, k2, k3, k4, k5] at h
end Go.Proofs.YtjkobbmdemooaaaGreatDoor
