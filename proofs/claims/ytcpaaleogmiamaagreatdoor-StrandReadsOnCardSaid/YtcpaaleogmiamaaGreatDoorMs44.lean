/- The walk of plan.copied. -/
import Derived.Test.YtcpaaleogmiamaaGreatDoorMs25
namespace Go.Proofs.YtcpaaleogmiamaaGreatDoor
open Go.RowKit

abbrev planV (p : Pl) (pa : Option Addr) (pc : Nat) (la : Option Addr) (lc : Nat) : Value := .agg #[.int .i64 p.nodes, .int .i64 p.copies, .slice pa p.parts.length pc, .slice la p.lives.length lc]

theorem upd_thenBelowC {F : Nat → Prop} {a b c : World} (h : Upd F a b) (hb : Below a.heap.size b c) : Upd F a c :=
  ⟨hb.os.trans h.os, hb.tape.trans h.tape, hb.output.trans h.output, Nat.le_trans h.size hb.size, fun k hk hf => (hb.block k hk).trans (h.block k hk hf)⟩

structure SmallP (p : Pl) : Prop where
  parts : p.parts.length ≤ 1000
  lives : p.lives.length ≤ 1000
  chain : ∀ x ∈ p.parts, x.chain.length ≤ 1000

theorem ints_one {w : World} {v : Value} {l : List Int} (h : IntsRd w v l) : v.oneCell' = true := by
  obtain ⟨a, c, rfl, -⟩ := Rd.shape h
  rfl

theorem parts_one {w : World} {m : List (Value × Pt)} (h : ∀ x ∈ m, IntsRd w x.1 x.2.chain) : ∀ u ∈ partCells m, u.oneCell' = true := by
  intro u hu
  simp only [partCells, List.mem_flatMap] at hu
  obtain ⟨x, hx, hu⟩ := hu
  exact onePart (ints_one (h x hx)) _ _ u hu

set_option maxRecDepth 100000 in
set_option maxHeartbeats 4000000 in
theorem copied_any {w : World} {p : Pl} {pa la : Option Addr} {pc lc : Nat} (hp : PartsRd w (.slice pa p.parts.length pc) p.parts) (hl : LivesRd w (.slice la p.lives.length lc) p.lives) (hs : SmallP p) :
    Calls Tryz.prog 80 #[planV p pa pc la lc] w fun e w' =>
      ∃ (pa' la' : Option Addr) (pc' lc' : Nat) (m : List (Value × Pt)), e = .returned (planV p pa' pc' la' lc') ∧ m.map (·.2) = p.parts ∧ OwnP w' w.heap.size (.slice pa' p.parts.length pc') m ∧
        w'.ownsRow w.heap.size 134 2 (.slice la' p.lives.length lc') p.lives.length (lifeCells p.lives) ∧ Below w.heap.size w w' := by
  obtain ⟨nodes, copies, P, L⟩ := p
  obtain ⟨hs1, hs2, hs3⟩ := hs
  simp only at hp hl hs1 hs2 hs3 ⊢
  obtain ⟨m0, hm0, hrd, hch⟩ := hp
  have hlen : m0.length = P.length := by rw [← hm0]; simp
  rw [hlen] at hrd
  have hone := parts_one hch
  have W0 : ∃ W, W = (w.alloc (.cells #[.int .i64 nodes, .int .i64 copies, .slice pa P.length pc, .slice la L.length lc] 52)).alloc (.cells #[.int .i64 0, .int .i64 0, .slice none 0 0, .slice none 0 0] 52) := ⟨_, rfl⟩
  obtain ⟨wa, hwa⟩ := W0
  have hbwa : Below w.heap.size w wa := by rw [hwa]; exact below_alloc2 _ _ _
  have hsz : wa.heap.size = w.heap.size + 2 := by rw [hwa]; simp
  have hN : wa.heap[w.heap.size]? = some (.cells #[.int .i64 nodes, .int .i64 copies, .slice pa P.length pc, .slice la L.length lc] 52 (0, 0)) := by
    rw [hwa, Below.heap_alloc _ _ _ (by simp)]; exact heap_alloc_new _ _
  have hN1 : wa.heap[w.heap.size + 1]? = some (.cells #[.int .i64 0, .int .i64 0, .slice none 0 0, .slice none 0 0] 52 (0, 0)) := by
    rw [hwa]; exact heap_new1 _ _ _
  have hkeep : ∀ W, Below wa.heap.size wa W → W.cell? ⟨w.heap.size, 2, none⟩ = some (.slice pa P.length pc) ∧ W.cell? ⟨w.heap.size, 3, none⟩ = some (.slice la L.length lc) ∧ W.frozen? ⟨w.heap.size, 2, none⟩ = false ∧ W.frozen? ⟨w.heap.size, 3, none⟩ = false := by
    intro W hb
    have := (hb.block w.heap.size (by omega)).trans hN
    exact ⟨cells_of this 2 _ rfl, cells_of this 3 _ rfl, frozen_of this, frozen_of this⟩
  have hpr : ∀ W, Below wa.heap.size wa W → Rd W 3 (.slice pa P.length pc) m0.length (partCells m0) := fun W hb => by rw [hlen]; exact (hrd.below hbwa).below hb
  have hlr : ∀ W, Below wa.heap.size wa W → LivesRd W (.slice la L.length lc) L := fun W hb => (hl.below hbwa).below hb
  have HK := Lib.hid hkeep
  have HPR := Lib.hid hpr
  have HLR := Lib.hid hlr
  have HM := Lib.hid (And.intro hm0 (And.intro hch (And.intro hN (And.intro hN1 (And.intro hbwa hsz)))))
  have HONE := Lib.hid hone
  have HS3 := Lib.hid hs3
  obtain ⟨n2, n3, f2, f3⟩ := hkeep wa (Below.refl _ _)
  have hlm : m0.length ≤ 1000000 := by omega
  have hlL : L.length ≤ 1000000 := by omega
  clear hkeep hpr hlr hrd hch hone hl hs3 hm0 hN hN1
  go_enter Tryz.func80, Tryz.ntmps80
  go_upto_region 1 with fail
  rw [← hwa]
  clear hwa
  go_cut [6] from 4 to 11 (fun _ wx => ∃ (pa' la' : Option Addr) (pc' lc' : Nat), wx.ownsRow wa.heap.size 36 3 (.slice pa' P.length pc') P.length (partCells m0) ∧ wx.ownsRow wa.heap.size 134 2 (.slice la' L.length lc') L.length (lifeCells L) ∧
    wx.heap[w.heap.size]? = some (.cells #[.int .i64 nodes, .int .i64 copies, .slice pa' P.length pc', .slice la' L.length lc'] 52 (0, 0)) ∧ Upd (fun b => b = w.heap.size) wa wx)
  case first =>
    go_region_law
      (first
        | (go_simp; go_at_call 72; refine (CloneParts_any (HPR.out _ ?_) HONE.out hlm).mono ?_; (first | with_reducible exact (Below.refl _ _).drew | with_reducible exact hwL); rintro e w5 ⟨v5, rfl, hown5, hb5⟩; rw [hlen] at hown5; obtain ⟨a5, q5, rfl, -⟩ := (Sl.of_owns hown5).shape; have hwP : Below wa.heap.size wa w5 := (by first | exact (Below.refl _ wa).drew.trans (hb5.mono (Nat.le_refl _)) | exact hwL.trans (hb5.mono hwL.size)); obtain ⟨c52, c53, e52, e53⟩ := HK.out w5 hwP)
        | (go_simp; go_at_call 71; refine (CloneLives_any (HLR.out _ ?_) hlL).mono ?_; (first | with_reducible exact (Below.refl _ _).drew | with_reducible exact hwP); rintro e w6 ⟨v6, rfl, hown6, hb6⟩; obtain ⟨a6, q6, rfl, -⟩ := (Sl.of_owns hown6).shape; have hwL : Below wa.heap.size wa w6 := (by first | exact (Below.refl _ wa).drew.trans (hb6.mono (Nat.le_refl _)) | exact hwP.trans (hb6.mono hwP.size)); obtain ⟨c62, c63, e62, e63⟩ := HK.out w6 hwL))
    all_goals
      have z5 : w6.ownsRow wa.heap.size 36 3 (.slice a5 P.length q5) P.length (partCells m0) := owns_upd (owns_mono hown5 (Nat.le_refl _)) (Upd.of_below (F := fun _ => False) hb6) (fun _ _ h => h)
      have z6 : w6.ownsRow wa.heap.size 134 2 (.slice a6 L.length q6) L.length (lifeCells L) := owns_mono hown6 hwP.size
      have zs := (upd_set1 w6 w.heap.size 2 (.slice a5 P.length q5)).trans (upd_set1 _ w.heap.size 3 (.slice a6 L.length q6))
      have zN := (hwL.block w.heap.size (by omega)).trans HM.out.2.2.1
      have HZ := Lib.hid (And.intro z5 (And.intro z6 (And.intro zs (And.intro zN hwL))))
      clear z5 z6 zs zN hwL hwP hown5 hown6 hb5 hb6
      go_wp2_with fail
      go_meet
      obtain ⟨z5, z6, zs, zN, hwL⟩ := HZ.out
      exact ⟨a5, a6, q5, q6, owns_upd z5 zs (fun g hg e => by have := (owns_lt z5 g hg).1; omega), owns_upd z6 zs (fun g hg e => by have := (owns_lt z6 g hg).1; omega), setCell_same (setCell_same zN), (Upd.of_below hwL).trans zs⟩
  case rest =>
    obtain ⟨pa', la', pc', lc', hP, hL, hN', hu1⟩ := hcut
    have hown0 : OwnK wc wa.heap.size (.slice pa' P.length pc') m0 0 := ⟨by rw [hlen]; exact hP, fun i _ hi => absurd hi (Nat.not_lt_zero i), fun i j _ _ hi => absurd hi (Nat.not_lt_zero i)⟩
    have H0 := Lib.hid (And.intro hown0 (And.intro hL (And.intro hN' hu1)))
    have n2' := cells_of hN' 2 _ rfl
    clear hP hL hu1 hown0 hN' n2 n3 f2 f3
    go_wp2
    go_loopg [3, 15] P.length (fun gk _ i wx => ∃ (k : Nat) (m : List (Value × Pt)), k ≤ P.length ∧ gk = P.length - k ∧ i = .int .i64 k ∧ m.map (·.2) = P ∧ (∀ i (h1 : i < m.length) (h2 : i < m0.length), k ≤ i → m[i].1 = m0[i].1) ∧
      OwnK wx wa.heap.size (.slice pa' P.length pc') m k ∧ wx.ownsRow wa.heap.size 134 2 (.slice la' L.length lc') L.length (lifeCells L) ∧
      wx.heap[w.heap.size]? = some (.cells #[.int .i64 nodes, .int .i64 copies, .slice pa' P.length pc', .slice la' L.length lc'] 52 (0, 0)) ∧ Upd (fun b => b = w.heap.size) wa wx)
    case atStart =>
      exact ⟨0, m0, Nat.zero_le _, rfl, rfl, HM.out.1, fun _ _ _ _ => rfl, H0.out.1, H0.out.2.1, H0.out.2.2.1, H0.out.2.2.2⟩
    case round =>
      clear n2' H0
      obtain ⟨k, m, hk, rfl, rfl, hmp, hrest, hown, hL, hN', hu1⟩ := hrel
      have HX := Lib.hid (And.intro hmp (And.intro hrest (And.intro hown (And.intro hL (And.intro hN' hu1)))))
      have hsz1 := hu1.size
      have hml : m.length = P.length := by rw [← hmp]; simp
      have n2' := cells_of hN' 2 _ rfl
      by_cases hlt : k < P.length
      · have hkm : k < m.length := by omega
        have hkm0 : k < m0.length := by omega
        have e1 := hrest k hkm hkm0 (Nat.le_refl _)
        have e2 : m0[k].2 = P[k] := by simp [← HM.out.1]
        have e3 : m[k].2 = P[k] := by simp [← hmp]
        have hchk := HM.out.2.1 _ (List.getElem_mem hkm0)
        have hc3 := HS3.out _ (List.getElem_mem hlt)
        rw [e2] at hchk
        obtain ⟨ca, cc, e4, -⟩ := Rd.shape hchk
        rw [e4] at hchk e1
        obtain ⟨g, hpa⟩ : ∃ g, pa' = some ⟨g, 0, none⟩ := by
          rcases hown.own.2 with ⟨h1, h2⟩ | ⟨g, cap, cur, h1, -⟩
          · omega
          · simp only [Value.slice.injEq] at h1; exact ⟨g, h1.1⟩
        subst hpa
        have hpg := partCells_get m k hkm
        have hbelr : Below w.heap.size w wr := hbwa.trans (hu1.toBelow (by omega) (fun b e => by omega))
        have hchr := hchk.below hbelr
        have hglo := owns_lt hown.own g rfl
        have hown' : wr.ownsRow wa.heap.size 36 3 (.slice (some ⟨g, 0, none⟩) P.length pc') P.length (partCells m) := by have := hown.own; rw [hml] at this; exact this
        have hkeep : ∀ W, Below wr.heap.size wr W → W.cell? ⟨w.heap.size, 2, none⟩ = some (.slice (some ⟨g, 0, none⟩) P.length pc') ∧ W.cell? ⟨g, k * 3 + 1, none⟩ = some (.slice ca P[k].chain.length cc) ∧ W.frozen? ⟨g, k * 3 + 1, none⟩ = false := by
          intro W hb
          have hN2 := (hb.block w.heap.size (by omega)).trans hN'
          have ho := owns_upd hown' (Upd.of_below (F := fun _ => False) hb) (fun _ _ h => h)
          refine ⟨cells_of hN2 2 _ rfl, ?_, ho.frozenAt _⟩
          rw [ho.cellAt _ (by omega), hpg.2.1, e1]
        have hchW : ∀ W, Below wr.heap.size wr W → IntsRd W (.slice ca P[k].chain.length cc) P[k].chain := fun W hb => hchr.below hb
        have htk : ∀ cv, (m.set k (cv, ⟨m[k].2.epoch, P[k].chain, m[k].2.learner⟩)).map (·.2) = P := by
          intro cv
          have : (⟨m[k].2.epoch, P[k].chain, m[k].2.learner⟩ : Pt) = P[k] := by rw [e3]
          rw [this, List.map_set, hmp]
          exact List.set_getElem_self _
        obtain ⟨n2r, cr, fr⟩ := hkeep wr (Below.refl _ _)
        have HK2 := Lib.hid hkeep
        have HCH := Lib.hid hchW
        have HT := Lib.hid htk
        have HC3 := Lib.hid hc3
        clear hkeep hchW htk hchk hchr hc3 hown hL hN' hmp hrest hu1 hpg e1 e2 e3 e4 hown'
        generalize P[k].chain = ch at *
        have i1 : (k : Int) < (P.length : Int) := by omega
        have i2 : (0 : Int) ≤ (k : Int) := by omega
        have hne : g ≠ w.heap.size := by omega
        go_wp2
        go_region_law
          (first
            | (go_simp; go_at_call 73; refine (CloneInts_any (HCH.out _ (Below.refl _ _).drew) (by have := HC3.out; omega)).mono ?_; rintro e w5 ⟨v5, rfl, hown5, hb5⟩; obtain ⟨a5, q5, rfl, -⟩ := (Sl.of_owns hown5).shape; have hw5 : Below wr.heap.size wr w5 := (Below.refl _ wr).drew.trans (hb5.mono (Nat.le_refl _)); obtain ⟨c52, c53, e53⟩ := HK2.out w5 hw5))
        all_goals
          have z5 := owns_mono (base' := wr.heap.size) hown5 (Nat.le_refl _)
          have HZ := Lib.hid (And.intro z5 hw5)
          clear z5 hw5 hown5 hb5 c52 c53 e53 n2r cr fr
          go_wp2
          go_roundg (P.length - (k + 1))
          case measure => omega
          case rel =>
            obtain ⟨z5, hw5⟩ := HZ.out
            obtain ⟨q1, q2, q3, q4, q5', q6⟩ := HX.out
            have hs := upd_set1 w5 g (k * 3 + 1) (.slice a5 ch.length q5)
            refine ⟨k + 1, m.set k (.slice a5 ch.length q5, ⟨m[k].2.epoch, ch, m[k].2.learner⟩), by omega, rfl, by go_num, HT.out _, ?_, ?_, ?_, ?_, ?_⟩
            · intro i h1 h2 hki
              rw [List.getElem_set, if_neg (by omega)]
              exact q2 i (by simpa using h1) h2 (by omega)
            · exact (q3.below hw5).setChain (by omega) k hkm (by omega) (owns_mono z5 (by omega)) (fun i hi hik _ g' hg' hg2 => by
                have := (owns_lt (q3.chain i hi hik) g' hg').2
                have := (owns_lt z5 g' hg2).1
                omega)
            · have h4 := owns_upd q4 (Upd.of_below (F := fun _ => False) hw5) (fun _ _ h => h)
              have h3 := owns_upd q3.own (Upd.of_below (F := fun _ => False) hw5) (fun _ _ h => h)
              exact owns_upd h4 hs (fun g' hg' e => owns_types h4 h3 (by decide) g' hg' (by rw [e]; rfl))
            · rw [hs.block _ (by have := hw5.size; omega) (by omega), hw5.block _ (by omega)]
              exact q5'
            · exact upd_thenBelowC q6 ((hw5.mono hsz1).trans (hs.toBelow (by have := hw5.size; omega) (fun b e => by omega)))
      · have i1 : ¬ (k : Int) < (P.length : Int) := by omega
        have hkP : k = m.length := by omega
        subst hkP
        have x0 := cells_of hN' 0 _ rfl
        have x1 := cells_of hN' 1 _ rfl
        have x3 := cells_of hN' 3 _ rfl
        have hN1 := (hu1.block (w.heap.size + 1) (by omega) (by omega)).trans HM.out.2.2.2.1
        have y0 := cells_of hN1 0 _ rfl
        have y1 := cells_of hN1 1 _ rfl
        have y2 := cells_of hN1 2 _ rfl
        have y3 := cells_of hN1 3 _ rfl
        have g0 := frozen_of (j := 0) hN1
        have g1 := frozen_of (j := 1) hN1
        have g2 := frozen_of (j := 2) hN1
        have g3 := frozen_of (j := 3) hN1
        have HN1 := Lib.hid hN1
        clear hmp hrest hown hL hN' hu1 hN1
        go_wp2
        have hf := setCell_same (o := 3) (v := .slice la' L.length lc') (setCell_same (o := 2) (v := .slice pa' P.length pc') (setCell_same (o := 1) (v := .int .i64 copies) (setCell_same (o := 0) (v := .int .i64 nodes) HN1.out)))
        have r0 := cells_of hf 0 _ rfl
        have r1 := cells_of hf 1 _ rfl
        have r2 := cells_of hf 2 _ rfl
        have r3 := cells_of hf 3 _ rfl
        have hset := upd_set4 wr (w.heap.size + 1) (.int .i64 nodes) (.int .i64 copies) (.slice pa' P.length pc') (.slice la' L.length lc')
        obtain ⟨q1, q2, q3, q4, q5, q6⟩ := HX.out
        refine bodyPost_ret (v := .agg #[.int .i64 nodes, .int .i64 copies, .slice pa' P.length pc', .slice la' L.length lc']) (by simp [results, Tryz.results80, go_sem, r0, r1, r2, r3]) rfl ⟨pa', la', pc', lc', rfl, m, q1, ?_, ?_, ?_⟩
        · exact (q3.low hset (fun b e => by omega)).mono (by omega)
        · exact owns_mono (owns_upd q4 hset (fun g hg e => by have := (owns_lt q4 g hg).1; omega)) (by omega)
        · exact hbwa.trans ((q6.toBelow (by omega) (fun b e => by omega)).trans (hset.toBelow (by omega) (fun b e => by omega)))
end Go.Proofs.YtcpaaleogmiamaaGreatDoor
