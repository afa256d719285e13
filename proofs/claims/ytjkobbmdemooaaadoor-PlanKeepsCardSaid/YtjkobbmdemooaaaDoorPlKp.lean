/- The walk of PlanKeeps. -/
import Derived.Test.YtjkobbmdemooaaaDoorPlR3
import Derived.Test.YtjkobbmdemooaaaDoorPlBg
import Derived.Test.YtjkobbmdemooaaaDoorPlP4
import Derived.Test.YtjkobbmdemooaaaDoorPlAw
namespace Go.Proofs.YtjkobbmdemooaaaDoor
open Go.RowKit

set_option maxRecDepth 100000 in
set_option maxHeartbeats 4000000 in
theorem PKeeps_any {w : World} {v : Value} {E : List Event} (h : EventsRd w v E) (s0 s1 s2 : Int) (hE : Env w) : Calls Tryd.prog 7 #[.agg #[.int .i64 s0, .int .i64 s1, .int .i64 s2], v] w fun e w' => e = .returned (.bool true) ∧ Below w.heap.size w w' := by
  obtain ⟨ea, ec, rfl, hml, hC⟩ := h.cells
  obtain ⟨w0, hw0⟩ : ∃ w0, w0 = w.alloc (.cells #[.int .i64 s0, .int .i64 s1, .int .i64 s2] 22) := ⟨_, rfl⟩
  have hb0 : Below w.heap.size w w0 := by rw [hw0]; exact below_alloc _ _
  have hk0 : w0.heap[w.heap.size]? = some (.cells #[.int .i64 s0, .int .i64 s1, .int .i64 s2] 22 (0, 0)) := by rw [hw0]; exact heap_alloc_new _ _
  have haw : Calls Tryd.prog 8 #[] w0 fun e w1 => e = .returned (.bool true) ∧ Below w.heap.size w w1 ∧ w1.cell? ⟨w.heap.size, 0, none⟩ = some (.int .i64 s0) ∧ w1.cell? ⟨w.heap.size, 1, none⟩ = some (.int .i64 s1) ∧ w1.cell? ⟨w.heap.size, 2, none⟩ = some (.int .i64 s2) := by
    refine (awake_any (hE.below hb0)).mono ?_
    rintro e w1 ⟨rfl, hb1⟩
    have hk := (hb1.block w.heap.size (Array.getElem?_eq_some_iff.1 hk0).1).trans hk0
    exact ⟨rfl, hb0.trans (hb1.mono hb0.size), cells_of hk 0 _ rfl, cells_of hk 1 _ rfl, cells_of hk 2 _ rfl⟩
  have HAW := Lib.hid haw
  have HC := Lib.hid hC
  have hml' : (E.length : Int) ≤ 9223372036854775807 := by have : maxLen = 9223372036854775807 := rfl; omega
  clear h hC haw hE hb0 hk0
  go_enter Tryd.func7, Tryd.ntmps7
  go_upto_region 1 with fail
  rw [← hw0]
  clear hw0
  go_upto_region 5 with (first | (go_at_call 8; refine HAW.out.mono ?_; rintro _ w1 ⟨rfl, hb1, c0, c1, c2⟩) | (go_at_call 9; refine (begun_any s0 s1 s2 _).mono ?_; rintro _ w2 ⟨pa, la, pc, lc, l, j, n, p, c, n', k', rfl, hok, hfr, hb2⟩))
  have hs1 := hb1.size
  have hs2 := hb2.size
  have hat := PlanAt.new hfr hs2
  have hbw : Below w.heap.size w (w2.alloc (.cells #[.int .i64 n', .int .i64 k', .slice pa l pc, .slice la j lc] 28)) := (hb1.trans (hb2.mono hs1)).alloc (by omega) _
  have hat := hat.mono hs1
  clear hfr hb1 hb2 c0 c1 c2
  generalize w2.alloc (.cells #[.int .i64 n', .int .i64 k', .slice pa l pc, .slice la j lc] 28) = w3 at *
  generalize w2.heap.size = X at *
  go_loopg [6] E.length (fun gk i wr => ∃ (k : Nat) (p : Pl), k ≤ E.length ∧ gk = E.length - k ∧ i = .int .i64 k ∧ PlanAt wr w.heap.size X p ∧ Below w.heap.size w wr)
  case atStart => exact ⟨0, _, Nat.zero_le _, rfl, rfl, hat, hbw⟩
  case round =>
    obtain ⟨k, p, hk, rfl, rfl, hX, hbel⟩ := hrel
    by_cases hlt : k < E.length
    · by_cases h150 : k < 150
      · obtain ⟨b, off, rfl, hb, c0, c1, c2, c3⟩ := HC.out k hlt
        have i1 : (k : Int) < (E.length : Int) := by omega
        have i2 : (0 : Int) ≤ (k : Int) := by omega
        have i3 : (k : Int) < 150 := by omega
        obtain ⟨pa, la, pc, lc, hrdy⟩ := Ready.make hX hbel hb c0 c1 c2 c3
        have RDY := Lib.hid hrdy
        have HX := Lib.hid (And.intro hX hbel)
        have HB := Lib.hid (And.intro c0 (And.intro c1 (And.intro c2 (And.intro c3 hb))))
        obtain ⟨y0, y1, y2, y3, e0, e1, e2, e3⟩ := (hrdy wr (Below.refl _ _)).1
        have hal := fun o => (hrdy (wr.alloc o) (below_alloc wr o)).1
        have a0 := fun o => (hal o).1
        have a1 := fun o => (hal o).2.1
        have a2 := fun o => (hal o).2.2.1
        have a3 := fun o => (hal o).2.2.2.1
        have a4 := fun o => (hal o).2.2.2.2.1
        have a5 := fun o => (hal o).2.2.2.2.2.1
        have a6 := fun o => (hal o).2.2.2.2.2.2.1
        have a7 := fun o => (hal o).2.2.2.2.2.2.2
        clear hal c0 c1 c2 c3 hX hbel hrdy
        obtain ⟨x, hx⟩ : ∃ x, E[k] = x := ⟨_, rfl⟩
        rw [hx] at RDY HB e0 e1 e2 e3 a4 a5 a6 a7
        obtain ⟨R, hR⟩ : ∃ R, applyP p x = R := ⟨_, rfl⟩
        have HAP := Lib.hid (fun W hW => (RDY.out).apply hR W hW)
        have HR := Lib.hid hR
        clear hx hR
        go_upto_region 7 with fail
        go_cut [7, 8, 9] from 20 to 81 (fun v7 _ v9 wx => ∃ Y, v7 = .pointer (some ⟨Y, 0, none⟩) ∧ v9 = .int .i64 R.2.2 ∧ PlanAt wx wr.heap.size Y R.1 ∧ Below wr.heap.size wr wx)
        case first =>
          go_region_law
            (first
              | (go_simp; go_at_call 10; refine (HAP.out _ (by first | exact (Below.refl _ _).drew | exact (below_alloc _ _).drew)).mono ?_; rintro e w5 ⟨pa5, la5, ta, pc5, lc5, tc, l5, j5, m5, n5, k5, rfl, h5, -, -, hb5⟩; (first | (have hz := zero_kept (wr := wr) hb5; have z0 := cells_of hz 0 _ rfl; have z1 := cells_of hz 1 _ rfl; have z2 := cells_of hz 2 _ rfl; have z3 := cells_of hz 3 _ rfl; have g0 := frozen_of (j := 0) hz; have g1 := frozen_of (j := 1) hz; have g2 := frozen_of (j := 2) hz; have g3 := frozen_of (j := 3) hz) | skip)))
          all_goals
            first
              | have H5 := Lib.hid (cutB h5 hb5)
              | have H5 := Lib.hid (cutA h5 hb5)
            clear h5 hb5
            go_wp2_with fail
            go_meet
            exact ⟨_, rfl, rfl, H5.out.1, H5.out.2⟩
        case rest =>
          obtain ⟨Y, rfl, rfl, hY, hbx⟩ := hcut
          obtain ⟨wd, hwd⟩ : ∃ wd, wd = wc := ⟨_, rfl⟩
          subst hwd
          have RD2 := Lib.hid (RDY.out.later hbx)
          have HY := Lib.hid (And.intro hY hbx)
          clear y0 y1 y2 y3 e0 e1 e2 e3 a0 a1 a2 a3 a4 a5 a6 a7 HAP hY hbx
          obtain ⟨y0, y1, y2, y3, e0, e1, e2, e3⟩ := (RD2.out wd (Below.refl _ _)).1
          have hal := fun o => (RD2.out (wd.alloc o) (below_alloc wd o)).1
          have a0 := fun o => (hal o).1
          have a1 := fun o => (hal o).2.1
          have a2 := fun o => (hal o).2.2.1
          have a3 := fun o => (hal o).2.2.2.1
          have a4 := fun o => (hal o).2.2.2.2.1
          have a5 := fun o => (hal o).2.2.2.2.2.1
          have a6 := fun o => (hal o).2.2.2.2.2.2.1
          have a7 := fun o => (hal o).2.2.2.2.2.2.2
          clear hal
          have HAP := Lib.hid (fun W hW => (RD2.out).apply HR.out W hW)
          go_upto_region 8 with fail
          go_cut [10, 11, 12] from 20 to 81 (fun v10 _ v12 wx => ∃ Z, v10 = .pointer (some ⟨Z, 0, none⟩) ∧ v12 = .int .i64 R.2.2 ∧ PlanAt wx wd.heap.size Z R.1 ∧ Below wd.heap.size wd wx)
          case first =>
            go_region_law
              (first
                | (go_simp; go_at_call 10; refine (HAP.out _ (by first | exact (Below.refl _ _).drew | exact (below_alloc _ _).drew)).mono ?_; rintro e w5 ⟨pa5, la5, ta, pc5, lc5, tc, l5, j5, m5, n5, k5, rfl, h5, -, -, hb5⟩; (first | (have hz := zero_kept (wr := wd) hb5; have z0 := cells_of hz 0 _ rfl; have z1 := cells_of hz 1 _ rfl; have z2 := cells_of hz 2 _ rfl; have z3 := cells_of hz 3 _ rfl; have g0 := frozen_of (j := 0) hz; have g1 := frozen_of (j := 1) hz; have g2 := frozen_of (j := 2) hz; have g3 := frozen_of (j := 3) hz) | skip)))
            all_goals
              first
                | have H5 := Lib.hid (cutB h5 hb5)
                | have H5 := Lib.hid (cutA h5 hb5)
              clear h5 hb5
              go_wp2_with fail
              go_meet
              exact ⟨_, rfl, rfl, H5.out.1, H5.out.2⟩
          case rest =>
            obtain ⟨Z, rfl, rfl, hZ, hbz⟩ := hcut
            obtain ⟨we, hwe⟩ : ∃ we, we = wc := ⟨_, rfl⟩
            subst hwe
            clear y0 y1 y2 y3 e0 e1 e2 e3 a0 a1 a2 a3 a4 a5 a6 a7 HAP
            have hY := HY.out.1.below hbz
            have hsd := HY.out.2.size
            obtain ⟨hX0, hbel⟩ := HX.out
            have hXl := hX0.2.1
            have hXn := hX0.1
            obtain ⟨-, -, pa, la, pc, lc, hXb, -⟩ := hX0
            have hbe : Below wr.heap.size wr we := HY.out.2.trans (hbz.mono hsd)
            have hse := hbe.size
            have hss := hbel.size
            have hXe := (hbe.block X hXl).trans hXb
            obtain ⟨pa1, la1, pc1, lc1, y0, y1, y2, y3, hfY⟩ := hY.cells
            obtain ⟨pa2, la2, pc2, lc2, x0, x1, x2, x3, hfZ⟩ := hZ.cells
            have hsame : Calls Tryd.prog 11 #[.agg #[.int .i64 R.1.nodes, .int .i64 R.1.copies, .slice pa1 R.1.parts.length pc1, .slice la1 R.1.lives.length lc1], .agg #[.int .i64 R.1.nodes, .int .i64 R.1.copies, .slice pa2 R.1.parts.length pc2, .slice la2 R.1.lives.length lc2]] we fun e w' => e = .returned (.bool true) ∧ Below we.heap.size we w' := by
              refine (RSame_any hfY.rd hfZ.rd).mono ?_
              rintro e w' ⟨rfl, hb⟩
              exact ⟨by simp, hb⟩
            have HSM := Lib.hid hsame
            have hbwe : Below w.heap.size w we := hbel.trans (hbe.mono hss)
            by_cases hz : R.2.2 = 0
            · have haft : ∀ w9, Below we.heap.size we w9 → (w9.cell? ⟨Y, 0, none⟩ = some (.int .i64 R.1.nodes) ∧ w9.cell? ⟨Y, 1, none⟩ = some (.int .i64 R.1.copies) ∧ w9.cell? ⟨Y, 2, none⟩ = some (.slice pa1 R.1.parts.length pc1) ∧ w9.cell? ⟨Y, 3, none⟩ = some (.slice la1 R.1.lives.length lc1)) ∧
                  w9.heap[X]? = some (.cells #[.int .i64 p.nodes, .int .i64 p.copies, .slice pa p.parts.length pc, .slice la p.lives.length lc] 28 (0, 0)) ∧ PlanAt w9 wr.heap.size Y R.1 := by
                intro w9 hb9
                have hl := hY.2.1
                exact ⟨⟨below_some hb9 y0 hl, below_some hb9 y1 hl, below_some hb9 y2 hl, below_some hb9 y3 hl⟩, (hb9.block X (by omega)).trans hXe, hY.below hb9⟩
              have HAF := Lib.hid haft
              have HBW := Lib.hid (And.intro hbwe (And.intro hss (And.intro hse (And.intro hXl hXn))))
              clear haft hY hZ hbz hbe hbel hXb hXe hfY hfZ hsame hbwe hsd hXl hXn hss hse
              go_upto_region 13 with (first | (go_at_call 11; with_reducible refine HSM.out.mono ?_; rintro _ w9 ⟨rfl, hb9⟩; obtain ⟨⟨v0, v1, v2, v3⟩, hx9, hy9⟩ := HAF.out w9 hb9; have z0 := cells_of hx9 0 _ rfl; have z1 := cells_of hx9 1 _ rfl; have z2 := cells_of hx9 2 _ rfl; have z3 := cells_of hx9 3 _ rfl; have g0 := frozen_of (j := 0) hx9; have g1 := frozen_of (j := 1) hx9; have g2 := frozen_of (j := 2) hx9; have g3 := frozen_of (j := 3) hx9; have HX9 := Lib.hid (And.intro hx9 (And.intro hy9 hb9)); clear hx9 hy9 hb9))
              obtain ⟨hx9, hy9, hb9⟩ := HX9.out
              obtain ⟨hbwe, hss, hse, hXl, hXn⟩ := HBW.out
              have hXq := hy9.copy hXl hXn hx9 v0 v1 v2 v3
              have hset := upd_set4 w9 X (.int .i64 R.1.nodes) (.int .i64 R.1.copies) (.slice pa1 R.1.parts.length pc1) (.slice la1 R.1.lives.length lc1)
              have hbq : Below w.heap.size w ((((w9.setCell ⟨X, 0, none⟩ (.int .i64 R.1.nodes)).setCell ⟨X, 1, none⟩ (.int .i64 R.1.copies)).setCell ⟨X, 2, none⟩ (.slice pa1 R.1.parts.length pc1)).setCell ⟨X, 3, none⟩ (.slice la1 R.1.lives.length lc1)) :=
                (hbwe.trans (hb9.mono (by omega))).trans (hset.toBelow (by have := hb9.size; omega) (fun b e => by omega))
              clear hset hx9 hy9 hb9 hbwe hss hse hXl hXn v0 v1 v2 v3 z0 z1 z2 z3 g0 g1 g2 g3 y0 y1 y2 y3 x0 x1 x2 x3 HX9 HAF HSM
              generalize (((w9.setCell ⟨X, 0, none⟩ (.int .i64 R.1.nodes)).setCell ⟨X, 1, none⟩ (.int .i64 R.1.copies)).setCell ⟨X, 2, none⟩ (.slice pa1 R.1.parts.length pc1)).setCell ⟨X, 3, none⟩ (.slice la1 R.1.lives.length lc1) = wq at *
              obtain ⟨c0, c1, c2, c3, hb⟩ := HB.out
              obtain ⟨pa3, la3, pc3, lc3, hrdy⟩ := Ready.make hXq hbq hb c0 c1 c2 c3
              have RD3 := Lib.hid hrdy
              have HQ := Lib.hid (And.intro hXq (And.intro hbq hbq.size))
              clear hrdy hXq hbq c0 c1 c2 c3
              obtain ⟨S, hS⟩ : ∃ S, applyP R.1 x = S := ⟨_, rfl⟩
              have hag : ¬ x.kind = 4 → S.2.2 = 21 := by
                intro h4
                rw [← hS]
                exact applyP_again (t := R.2.1) (by rw [HR.out, ← hz]) h4
              have HAG := Lib.hid hag
              have HAP := Lib.hid (fun W hW => (RD3.out).apply hS W hW)
              clear hag hS
              obtain ⟨y0, y1, y2, y3, e0, e1, e2, e3⟩ := (RD3.out wq (Below.refl _ _)).1
              have hal := fun o => (RD3.out (wq.alloc o) (below_alloc wq o)).1
              have a0 := fun o => (hal o).1
              have a1 := fun o => (hal o).2.1
              have a2 := fun o => (hal o).2.2.1
              have a3 := fun o => (hal o).2.2.2.1
              have a4 := fun o => (hal o).2.2.2.2.1
              have a5 := fun o => (hal o).2.2.2.2.2.1
              have a6 := fun o => (hal o).2.2.2.2.2.2.1
              have a7 := fun o => (hal o).2.2.2.2.2.2.2
              clear hal
              go_cut [13, 14, 15] from 20 to 81 (fun _ _ v15 wx => v15 = .int .i64 S.2.2 ∧ Below wq.heap.size wq wx)
              case first =>
                go_region_law
                  (first
                    | (go_simp; go_at_call 10; refine (HAP.out _ (by first | exact (Below.refl _ _).drew | exact (below_alloc _ _).drew)).mono ?_; rintro e w5 ⟨pa5, la5, ta, pc5, lc5, tc, l5, j5, m5, n5, k5, rfl, h5, -, -, hb5⟩; (first | (have hz := zero_kept (wr := wq) hb5; have z0 := cells_of hz 0 _ rfl; have z1 := cells_of hz 1 _ rfl; have z2 := cells_of hz 2 _ rfl; have z3 := cells_of hz 3 _ rfl; have g0 := frozen_of (j := 0) hz; have g1 := frozen_of (j := 1) hz; have g2 := frozen_of (j := 2) hz; have g3 := frozen_of (j := 3) hz) | skip)))
                all_goals
                  first
                    | have H5 := Lib.hid (cutB h5 hb5).2
                    | have H5 := Lib.hid (cutA h5 hb5).2
                  clear h5 hb5
                  go_wp2_with fail
                  go_meet
                  exact ⟨rfl, H5.out⟩
              case rest =>
                obtain ⟨rfl, hbx⟩ := hcut
                have e9 := below_some hbx e0 (Nat.lt_of_lt_of_le (by assumption) HQ.out.2.2)
                have HBX := Lib.hid hbx
                clear y0 y1 y2 y3 e0 e1 e2 e3 a0 a1 a2 a3 a4 a5 a6 a7 hbx
                by_cases h4 : x.kind = 4
                · go_wp2
                  go_roundg (E.length - (k + 1))
                  case measure => omega
                  case rel => exact ⟨k + 1, R.1, by omega, rfl, by go_num, HQ.out.1.below HBX.out, HQ.out.2.1.trans (HBX.out.mono HQ.out.2.2)⟩
                · have h21 := HAG.out h4
                  go_wp2
                  go_roundg (E.length - (k + 1))
                  case measure => omega
                  case rel => exact ⟨k + 1, R.1, by omega, rfl, by go_num, HQ.out.1.below HBX.out, HQ.out.2.1.trans (HBX.out.mono HQ.out.2.2)⟩
            · have HFN := Lib.hid (And.intro HX.out.1 (And.intro hbe (And.intro hbwe hXl)))
              clear hXb hXe hfY hfZ hsame hbwe hsd hXl hXn hss hse hY hZ hbz hbe hbel
              go_wp2_with (first | (go_at_call 11; with_reducible refine HSM.out.mono ?_; rintro _ w9 ⟨rfl, hb9⟩))
              go_roundg (E.length - (k + 1))
              case measure => omega
              case rel => exact ⟨k + 1, p, by omega, rfl, by go_num, (HFN.out.1.below HFN.out.2.1).below hb9, HFN.out.2.2.1.trans (hb9.mono HFN.out.2.2.1.size)⟩
      · have i1 : (k : Int) < (E.length : Int) := by omega
        have i3 : ¬ (k : Int) < 150 := by omega
        have HB := Lib.hid hbel
        clear hbel hX
        go_wp2
        go_ret
        exact ⟨rfl, HB.out⟩
    · have i1 : ¬ (k : Int) < (E.length : Int) := by omega
      have HB := Lib.hid hbel
      clear hbel hX
      go_wp2
      go_ret
      exact ⟨rfl, HB.out⟩
end Go.Proofs.YtjkobbmdemooaaaDoor
