/- The walk of PlanBrings. -/
import Derived.Test.YtjkobbmdemooaaaDoorPlR3
import Derived.Test.YtjkobbmdemooaaaDoorPlBg
import Derived.Test.YtjkobbmdemooaaaDoorPlV
import Derived.Test.YtjkobbmdemooaaaDoorPlAw
namespace Go.Proofs.YtjkobbmdemooaaaDoor
open Go.RowKit

set_option maxRecDepth 100000 in
set_option maxHeartbeats 4000000 in
theorem PBrings_any {w : World} {v : Value} {E : List Event} (h : EventsRd w v E) (s0 s1 s2 nd : Int) (hE : Env w) : Calls Tryd.prog 5 #[.agg #[.int .i64 s0, .int .i64 s1, .int .i64 s2], v, .int .i64 nd] w fun e w' => e = .returned (.bool true) ∧ Below w.heap.size w w' := by
  obtain ⟨ea, ec, rfl, hml, hC⟩ := h.cells
  obtain ⟨w0, hw0⟩ : ∃ w0, w0 = w.alloc (.cells #[.int .i64 s0, .int .i64 s1, .int .i64 s2] 22) := ⟨_, rfl⟩
  have hb0 : Below w.heap.size w w0 := by rw [hw0]; exact below_alloc _ _
  have hk0 : w0.heap[w.heap.size]? = some (.cells #[.int .i64 s0, .int .i64 s1, .int .i64 s2] 22 (0, 0)) := by rw [hw0]; exact heap_alloc_new _ _
  have haw : Calls Tryd.prog 8 #[] w0 fun e w1 => e = .returned (.bool true) ∧ Below w.heap.size w w1 ∧ w1.cell? ⟨w.heap.size, 0, none⟩ = some (.int .i64 s0) ∧ w1.cell? ⟨w.heap.size, 1, none⟩ = some (.int .i64 s1) ∧ w1.cell? ⟨w.heap.size, 2, none⟩ = some (.int .i64 s2) := by
    refine (awake_any (hE.below hb0)).mono ?_
    rintro e w1 ⟨rfl, hb1⟩
    have hk := (hb1.block w.heap.size (Array.getElem?_eq_some_iff.1 hk0).1).trans hk0
    exact ⟨rfl, hb0.trans (hb1.mono hb0.size), cells_of hk 0 _ rfl, cells_of hk 1 _ rfl, cells_of hk 2 _ rfl⟩
  have HAW := Lib.hid haw
  have HC := Lib.hid hC
  have hml' : (E.length : Int) ≤ 9223372036854775807 := by have : maxLen = 9223372036854775807 := rfl; omega
  clear h hC haw hE hb0 hk0
  go_enter Tryd.func5, Tryd.ntmps5
  go_upto_region 1 with fail
  rw [← hw0]
  clear hw0
  go_upto_region 5 with (first | (go_at_call 8; refine HAW.out.mono ?_; rintro _ w1 ⟨rfl, hb1, c0, c1, c2⟩) | (go_at_call 9; refine (begun_any s0 s1 s2 _).mono ?_; rintro _ w2 ⟨pa, la, pc, lc, l, j, n, p, c, n', k', rfl, hok, hfr, hb2⟩))
  have hs1 := hb1.size
  have hs2 := hb2.size
  have hat := PlanAt.new hfr hs2
  have hbw : Below w.heap.size w (w2.alloc (.cells #[.int .i64 n', .int .i64 k', .slice pa l pc, .slice la j lc] 28)) := (hb1.trans (hb2.mono hs1)).alloc (by omega) _
  have hat := hat.mono hs1
  clear hfr hb1 hb2 c0 c1 c2
  generalize w2.alloc (.cells #[.int .i64 n', .int .i64 k', .slice pa l pc, .slice la j lc] 28) = w3 at *
  generalize w2.heap.size = X at *
  have hg0 := newP_good hok
  have he0 := newP_ep n p c
  generalize newP n p c = pz at *
  have HG0 := Lib.hid (And.intro hg0 he0)
  clear hok hg0 he0
  go_loopg [8] E.length (fun gk i wr => ∃ (k : Nat) (p : Pl), k ≤ E.length ∧ k ≤ 150 ∧ gk = E.length - k ∧ i = .int .i64 k ∧ goodP p = true ∧ EpLe p (1 + k) ∧ PlanAt wr w.heap.size X p ∧ Below w.heap.size w wr)
  case atStart => exact ⟨0, _, Nat.zero_le _, Nat.zero_le _, rfl, rfl, HG0.out.1, HG0.out.2, hat, hbw⟩
  case round =>
    obtain ⟨k, p, hk, hk150, rfl, rfl, hgd, hep, hX, hbel⟩ := hrel
    have HGD := Lib.hid (And.intro hgd hep)
    have HX := Lib.hid (And.intro hX hbel)
    clear hgd hep hX hbel
    go_upto_region 5 with fail
    go_cut [38] from 31 to 53 (fun v38 wx => v38 = .bool (decide (k < E.length ∧ k < 150)) ∧ wr = wx)
    case first =>
      by_cases hlt : k < E.length
      · have i1 : (k : Int) < (E.length : Int) := by omega
        by_cases h150 : k < 150
        · have i3 : (k : Int) < 150 := by omega
          go_wp2
          go_meet
          exact ⟨by simp [hlt, h150], rfl⟩
        · have i3 : ¬ (k : Int) < 150 := by omega
          go_wp2
          go_meet
          exact ⟨by simp [h150], rfl⟩
      · have i1 : ¬ (k : Int) < (E.length : Int) := by omega
        go_wp2
        go_meet
        exact ⟨by simp [hlt], rfl⟩
    case rest =>
    obtain ⟨rfl, rfl⟩ := hcut
    by_cases hcond : k < E.length ∧ k < 150
    · obtain ⟨hlt, h150⟩ := hcond
      have hd : decide (k < E.length ∧ k < 150) = true := by simp [hlt, h150]
      rw [hd]
      obtain ⟨b, off, rfl, hb, c0, c1, c2, c3⟩ := HC.out k hlt
      have i1 : (k : Int) < (E.length : Int) := by omega
      have i2 : (0 : Int) ≤ (k : Int) := by omega
      obtain ⟨pa, la, pc, lc, hrdy⟩ := Ready.make HX.out.1 HX.out.2 hb c0 c1 c2 c3
      have RDY := Lib.hid hrdy
      clear c0 c1 c2 c3 hrdy hd
      obtain ⟨x, hx⟩ : ∃ x, E[k] = x := ⟨_, rfl⟩
      rw [hx] at RDY
      obtain ⟨R, hR⟩ : ∃ R, applyP p x = R := ⟨_, rfl⟩
      have HAP := Lib.hid (fun W hW => (RDY.out).apply hR W hW)
      have HR := Lib.hid hR
      clear hx hR
      obtain ⟨y0, y1, y2, y3, e0, e1, e2, e3⟩ := (RDY.out wr (Below.refl _ _)).1
      have hal := fun o => (RDY.out (wr.alloc o) (below_alloc wr o)).1
      have a0 := fun o => (hal o).1
      have a1 := fun o => (hal o).2.1
      have a2 := fun o => (hal o).2.2.1
      have a3 := fun o => (hal o).2.2.2.1
      have a4 := fun o => (hal o).2.2.2.2.1
      have a5 := fun o => (hal o).2.2.2.2.2.1
      have a6 := fun o => (hal o).2.2.2.2.2.2.1
      have a7 := fun o => (hal o).2.2.2.2.2.2.2
      clear hal
      go_upto_region 7 with fail
      go_cut [9, 10, 11] from 31 to 53 (fun v9 _ v11 wx => ∃ Y, v9 = .pointer (some ⟨Y, 0, none⟩) ∧ v11 = .int .i64 R.2.2 ∧ PlanAt wx wr.heap.size Y R.1 ∧ Below wr.heap.size wr wx)
      case first =>
        go_region_law
          (first
            | (go_simp; go_at_call 10; refine (HAP.out _ (by first | exact (Below.refl _ _).drew | exact (below_alloc _ _).drew)).mono ?_; rintro e w5 ⟨pa5, la5, ta, pc5, lc5, tc, l5, j5, m5, n5, k5, rfl, h5, -, -, hb5⟩; (first | (have hz := zero_kept (wr := wr) hb5; have z0 := cells_of hz 0 _ rfl; have z1 := cells_of hz 1 _ rfl; have z2 := cells_of hz 2 _ rfl; have z3 := cells_of hz 3 _ rfl; have g0 := frozen_of (j := 0) hz; have g1 := frozen_of (j := 1) hz; have g2 := frozen_of (j := 2) hz; have g3 := frozen_of (j := 3) hz) | skip)))
        all_goals
          first
            | have H5 := Lib.hid (cutB h5 hb5)
            | have H5 := Lib.hid (cutA h5 hb5)
          clear h5 hb5
          go_wp2_with fail
          go_meet
          exact ⟨_, rfl, rfl, H5.out.1, H5.out.2⟩
      case rest =>
        obtain ⟨Y, rfl, rfl, hY, hbx⟩ := hcut
        clear y0 y1 y2 y3 e0 e1 e2 e3 a0 a1 a2 a3 a4 a5 a6 a7 HAP
        obtain ⟨hX0, hbel⟩ := HX.out
        have hXl := hX0.2.1
        have hXn := hX0.1
        obtain ⟨-, -, pa, la, pc, lc, hXb, -⟩ := hX0
        have hXe := (hbx.block X hXl).trans hXb
        obtain ⟨pa1, la1, pc1, lc1, y0, y1, y2, y3, hfY⟩ := hY.cells
        have hse := hbx.size
        have hss := hbel.size
        by_cases hz : R.2.2 = 0
        · have hRe : applyP p x = (R.1, R.2.1, 0) := by rw [HR.out, ← hz]
          have z0 := cells_of hXe 0 _ rfl
          have z1 := cells_of hXe 1 _ rfl
          have z2 := cells_of hXe 2 _ rfl
          have z3 := cells_of hXe 3 _ rfl
          have g0 := frozen_of (j := 0) hXe
          have g1 := frozen_of (j := 1) hXe
          have g2 := frozen_of (j := 2) hXe
          have g3 := frozen_of (j := 3) hXe
          have hXq := hY.copy hXl hXn hXe y0 y1 y2 y3
          have hset := upd_set4 wc X (.int .i64 R.1.nodes) (.int .i64 R.1.copies) (.slice pa1 R.1.parts.length pc1) (.slice la1 R.1.lives.length lc1)
          have hbq := (hbel.trans (hbx.mono (by omega))).trans (hset.toBelow (by omega) (fun b e => by omega))
          have hgq := applyP_good hRe
          have heq := applyP_ep hRe (by omega) HGD.out.2
          have HQ := Lib.hid (And.intro hXq (And.intro hbq (And.intro hgq heq)))
          clear hRe hXq hset hbq hgq heq hse hss hfY hXe hXb hXl hXn hbel hY hbx
          go_wp2
          go_roundg (E.length - (k + 1))
          case measure => omega
          case rel => exact ⟨k + 1, R.1, by omega, by omega, rfl, by go_num, HQ.out.2.2.1, by have := HQ.out.2.2.2; rwa [show (1 : Int) + ((k + 1 : Nat) : Int) = 1 + (k : Int) + 1 by omega], HQ.out.1, HQ.out.2.1⟩
        · have HQ := Lib.hid (And.intro (HX.out.1.below hbx) (hbel.trans (hbx.mono hss)))
          clear hse hss hfY hXe hXb hXl hXn hbel hY hbx
          go_wp2
          go_roundg (E.length - (k + 1))
          case measure => omega
          case rel => exact ⟨k + 1, p, by omega, by omega, rfl, by go_num, HGD.out.1, fun y hy => by have := HGD.out.2 y hy; omega, HQ.out.1, HQ.out.2⟩
    · have hd : decide (k < E.length ∧ k < 150) = false := by simpa using hcond
      rw [hd]
      obtain ⟨hgd, hep⟩ := HGD.out
      obtain ⟨g1, g2, g3, g4, g5, g6⟩ := goodP_iff.1 hgd
      obtain ⟨n0, en, hn0⟩ := u64_mod nd p.nodes (by omega)
      obtain ⟨n, hn⟩ : ∃ n : Int, n = (n0 : Int) + 1 := ⟨_, rfl⟩
      have hn1 : 1 ≤ n ∧ n ≤ p.nodes := by omega
      have hep' : EpLe p 1073741823 := fun y hy => by have := hep y hy; omega
      have hwake := applyP_wake hgd hn1 hep'
      have q1 : IntKind.u64.wrap p.nodes = p.nodes := IntWalk.u64_in _ (by omega)
      have q2 : IntKind.i64.wrap (n0 : Int) = n0 := IntWalk.i64_in _ (by omega)
      have q3 : IntKind.i64.wrap (1 + (n0 : Int)) = n := by rw [IntWalk.i64_in _ (by omega)]; omega
      have q4 : max p.nodes 1 = p.nodes := by omega
      have q8 : ¬ p.nodes = 0 := by omega
      obtain ⟨pa, la, pc, lc, hXC, -⟩ := HX.out.1.toIn.cells
      obtain ⟨y0, y1, y2, y3, hfX⟩ := hXC wr (Below.refl _ _)
      have HXC := Lib.hid hXC
      clear hXC
      have HD := Lib.hid hwake
      have HP := Lib.hid (And.intro hfX (And.intro g3 (And.intro hn1 g6)))
      clear hgd hep hep' g1 g2 g3 g4 g5 g6 hwake hfX hn hn1 hd
      have hLf : Calls Tryd.prog 15 #[.agg #[.int .i64 p.nodes, .int .i64 p.copies, .slice pa p.parts.length pc, .slice la p.lives.length lc], .int .i64 n] wr fun e w' => e = .returned (.int .i64 (lifeP p.lives n)) ∧ Below wr.heap.size wr w' :=
        Life_any HP.out.1 HP.out.2.2.2 (by have := (small_of_good HGD.out.1).2.2; omega) n
      have HLF := Lib.hid hLf
      obtain ⟨R, hR⟩ : ∃ R, applyP p ⟨1, n, 0, 1⟩ = R := ⟨_, rfl⟩
      have hap : ∀ W, Below wr.heap.size wr W → Calls Tryd.prog 10 #[.agg #[.int .i64 p.nodes, .int .i64 p.copies, .slice pa p.parts.length pc, .slice la p.lives.length lc], .agg #[.int .i64 1, .int .i64 n, .int .i64 0, .int .i64 1]] W fun e w' =>
          ∃ (pa la ta : Option Addr) (pc lc tc l j m : Nat) (n k : Int), e = .returned (.tuple #[.agg #[.int .i64 n, .int .i64 k, .slice pa l pc, .slice la j lc], .slice ta m tc, .int .i64 R.2.2]) ∧
            PlanFrom w' W.heap.size (.agg #[.int .i64 n, .int .i64 k, .slice pa l pc, .slice la j lc]) R.1 ∧ TurnRd w' (.slice ta m tc) R.2.1 ∧ m = R.2.1.length ∧ Below W.heap.size W w' := by
        intro W hW
        rw [← hR]
        exact Apply_out (HP.out.1.below hW) ⟨1, n, 0, 1⟩
      rw [hR] at HD
      have HAP := Lib.hid hap
      have HR := Lib.hid hR
      clear hap hR hLf
      go_upto_region 10 with fail
      go_cut [12] from 54 to 62 (fun v wx => v = .int .i64 n ∧ wr = wx)
      case first =>
        go_wp2
        go_meet
        exact ⟨rfl, rfl⟩
      case rest =>
      obtain ⟨rfl, rfl⟩ := hcut
      go_step
      go_step
      go_cut [13] from 63 to 77 (fun _ wx => ∃ p', PlanAt wx w.heap.size X p' ∧ Below w.heap.size w wx ∧ goodP p' = true ∧ EpLe p' 200 ∧ lifeP p'.lives n ≠ 0 ∧ p'.nodes = p.nodes)
      case first =>
        by_cases hl0 : lifeP p.lives n = 0
        · obtain ⟨q, t, hq, hqn, -, hql⟩ := HD.out hl0
          have h22 : R.2.2 = 0 := by rw [hq]
          have hq1 : R.1 = q := by rw [hq]
          obtain ⟨hX0, hbel⟩ := HX.out
          have hXl := hX0.2.1
          have hXn := hX0.1
          obtain ⟨-, -, pa4, la4, pc4, lc4, hXb, -⟩ := hX0
          have HQ := Lib.hid (And.intro hq (And.intro hqn (And.intro hql (And.intro hq1 (And.intro hbel (And.intro hXl (And.intro hXn hXb)))))))
          rw [hl0] at HLF
          clear hq hqn hql hq1 hbel hXl hXn hXb hl0 q1 q2 q3 q4 q8 en
          go_upto_region 13 with (first | (go_at_call 15; refine HLF.out.mono ?_; rintro _ w8 ⟨rfl, hb8⟩; obtain ⟨y0, y1, y2, y3, -⟩ := HXC.out w8 hb8; have HB8 := Lib.hid hb8; clear hb8) | (go_at_call 10; refine (HAP.out _ HB8.out).mono ?_; rintro e w5 ⟨pa5, la5, ta, pc5, lc5, tc, l5, j5, m5, n5, k5, rfl, h5, -, -, hb5⟩; have H5 := Lib.hid (And.intro h5 hb5); clear h5 hb5))
          obtain ⟨h5, hb5⟩ := H5.out
          obtain ⟨hq, hqn, hql, hq1, hbel, hXl, hXn, hXb⟩ := HQ.out
          have hs8 := HB8.out.size
          have hs5 := hb5.size
          have hZ := PlanAt.new h5 hs5
          have hbz := (HB8.out.trans (hb5.mono hs8)).alloc (Nat.le_trans hs8 hs5) (.cells #[.int .i64 n5, .int .i64 k5, .slice pa5 l5 pc5, .slice la5 j5 lc5] 28)
          clear y0 y1 y2 y3 H5 h5 hb5
          generalize w5.alloc (.cells #[.int .i64 n5, .int .i64 k5, .slice pa5 l5 pc5, .slice la5 j5 lc5] 28) = wz at *
          have hZ := hZ.mono hs8
          have hXz := (hbz.block X hXl).trans hXb
          obtain ⟨pa6, la6, pc6, lc6, y0, y1, y2, y3, -⟩ := hZ.cells
          have z0 := cells_of hXz 0 _ rfl
          have z1 := cells_of hXz 1 _ rfl
          have z2 := cells_of hXz 2 _ rfl
          have z3 := cells_of hXz 3 _ rfl
          have g0 := frozen_of (j := 0) hXz
          have g1 := frozen_of (j := 1) hXz
          have g2 := frozen_of (j := 2) hXz
          have g3 := frozen_of (j := 3) hXz
          have hXq := hZ.copy hXl hXn hXz y0 y1 y2 y3
          have hset := upd_set4 wz X (.int .i64 R.1.nodes) (.int .i64 R.1.copies) (.slice pa6 R.1.parts.length pc6) (.slice la6 R.1.lives.length lc6)
          have hbq := (hbel.trans (hbz.mono hbel.size)).trans (hset.toBelow (by have := hbel.size; have := hbz.size; omega) (fun b e => by omega))
          have hRe : applyP p ⟨1, n, 0, 1⟩ = (R.1, R.2.1, 0) := by rw [HR.out, ← h22]
          have hgq := applyP_good hRe
          have heq := applyP_ep hRe (by omega) HGD.out.2
          have HF := Lib.hid (And.intro hXq (And.intro hbq (And.intro hgq heq)))
          generalize w5.heap.size = Z at *
          clear hXq hset hbq hRe hgq heq hXz hZ hbz hs5 hs8 hq hqn hql hq1 hbel hXl hXn hXb
          go_wp2
          go_meet
          refine ⟨R.1, HF.out.1, HF.out.2.1, HF.out.2.2.1, fun y hy => ?_, ?_, ?_⟩
          · have := HF.out.2.2.2 y hy; omega
          · rw [HQ.out.2.2.2.1, HQ.out.2.2.1]; decide
          · rw [HQ.out.2.2.2.1]; exact HQ.out.2.1
        · clear q1 q2 q3 q4 q8 en
          have HFN := Lib.hid (And.intro HX.out.1 (And.intro HX.out.2 HGD.out))
          go_wp2_with (first | (go_at_call 15; refine HLF.out.mono ?_; rintro _ w8 ⟨rfl, hb8⟩))
          go_meet
          exact ⟨p, HX.out.1.below hb8, HX.out.2.trans (hb8.mono HX.out.2.size), HGD.out.1, fun y hy => by have := HGD.out.2 y hy; omega, hl0, rfl⟩
      case rest =>
      obtain ⟨p', hX', hb', hgd', hep', hlf', hnd'⟩ := hcut
      obtain ⟨wf, hwf⟩ : ∃ wf, wf = wc := ⟨_, rfl⟩
      subst hwf
      have hn1 : 1 ≤ n ∧ n ≤ p'.nodes := by have := HP.out.2.2.1; omega
      have hw4 : (wantsP p' n).length ≤ 4 := by
        have h1 := (goodP_iff.1 hgd').2.2.1
        have h2 : (wantsP p' n).length ≤ p'.parts.length := by
          unfold wantsP
          rw [placesB_count]
          exact List.countP_le_length
        omega
      have hep1 : EpLe p' (1000 - 2 * ((wantsP p' n).length : Int)) := fun y hy => by have := hep' y hy; omega
      have HI := Lib.hid (And.intro hX' (And.intro hb' (And.intro hgd' (And.intro hn1 (And.intro hlf' hep1)))))
      clear hX' hb' hgd' hep' hlf' hnd' hn1 hw4 hep1 HD HR HAP HLF HP HXC HX HGD q1 q2 q3 q4 q8 en y0 y1 y2 y3
      go_wp2
      go_loopg [16] (wantsP p' n).length (fun gk _ wr => ∃ p : Pl, gk = (wantsP p n).length ∧ PlanAt wr w.heap.size X p ∧ Below w.heap.size w wr ∧ goodP p = true ∧ (1 ≤ n ∧ n ≤ p.nodes) ∧ lifeP p.lives n ≠ 0 ∧ EpLe p (1000 - 2 * ((wantsP p n).length : Int)))
      case atStart => exact ⟨p', rfl, HI.out⟩
      case round =>
      obtain ⟨p, rfl, hX, hbt, hgd, hn1, hlf, hep⟩ := hrel
      obtain ⟨L, hL⟩ : ∃ L, wantsP p n = L := ⟨_, rfl⟩
      obtain ⟨pa, la, pc, lc, hXC, hXP⟩ := hX.toIn.cells
      obtain ⟨y0, y1, y2, y3, -⟩ := hXC wr (Below.refl _ _)
      have hp4 := (goodP_iff.1 hgd).2.2.1
      have hwt : ∀ W, Below wr.heap.size wr W → Calls Tryd.prog 18 #[.agg #[.int .i64 p.nodes, .int .i64 p.copies, .slice pa p.parts.length pc, .slice la p.lives.length lc], .int .i64 n] W fun e w' =>
          ∃ (a : Option Addr) (c : Nat), e = .returned (.slice a L.length c) ∧ Below wr.heap.size wr w' ∧ IntsRd w' (.slice a L.length c) L := by
        intro W hW
        refine (Wants_any (hXC W hW).2.2.2.2 (by omega) n).mono ?_
        rw [hL]
        rintro e w' ⟨tv, rfl, hi, hb⟩
        obtain ⟨a, c, rfl, -⟩ := hi.cells
        exact ⟨a, c, rfl, hW.trans (hb.mono hW.size), hi⟩
      have HWT := Lib.hid hwt
      have HXC := Lib.hid (And.intro hXC hXP)
      by_cases hl0 : L.length = 0
      · have HF := Lib.hid hbt
        clear hXC hXP hX hgd hn1 hlf hep hL hwt hbt
        go_wp2_with (first | (go_at_call 18; refine (HWT.out _ (Below.refl _ _)).mono ?_; rintro _ w8 ⟨a8, c8, rfl, hb8, -⟩))
        go_ret
        exact ⟨rfl, HF.out.trans (hb8.mono HF.out.size)⟩
      · have hl1 : 0 < (L.length : Int) := by omega
        have hmem : L[0]'(by omega) ∈ placesB (wantP p n) p.parts := by
          have : placesB (wantP p n) p.parts = L := hL
          rw [this]
          exact List.getElem_mem _
        obtain ⟨k, hk0, hk, hw⟩ : ∃ k : Nat, L[0]'(by omega) = (k : Int) ∧ ∃ hk : k < p.parts.length, wantP p n p.parts[k] = true := by
          obtain ⟨h1, h2⟩ := placesB_range hmem
          obtain ⟨k, hk⟩ := Int.eq_ofNat_of_zero_le h1
          have h3 : k < p.parts.length := by omega
          rw [hk] at hmem
          exact ⟨k, hk, h3, (mem_placesB h3).1 hmem⟩
        have HM := Lib.hid (show (p.parts[k].chain.length : Int) ≤ 5 by have := (small_of_good hgd).2.1 _ (List.getElem_mem hk); omega)
        have hepb : 0 ≤ p.parts[k].epoch ∧ p.parts[k].epoch ≤ 1000000 := by
          have h3 := (goodP_iff.1 hgd).2.2.2.1 _ (List.getElem_mem hk)
          have h4 := (isPlaceB_iff.1 h3).2.2.1
          have h5 := hep _ (List.getElem_mem hk)
          omega
        have HEP := Lib.hid hepb
        have hbring := bring hgd hn1 (N := 1000 - 2 * (L.length : Int)) (by omega) (by rw [← hL]; exact hep) hlf k hk hw
        rw [hL] at hbring
        obtain ⟨q, t, r, s, e1, ql, qle, e2, e3, rl, rch, rn, rlf, rep, rw'⟩ := hbring
        have hwt2 : ∀ W, Below wr.heap.size wr W → Calls Tryd.prog 18 #[.agg #[.int .i64 p.nodes, .int .i64 p.copies, .slice pa p.parts.length pc, .slice la p.lives.length lc], .int .i64 n] W fun e w' =>
            ∃ (b off c : Nat), e = .returned (.slice (some ⟨b, off, none⟩) L.length c) ∧ Below wr.heap.size wr w' ∧ w'.cell? ⟨b, off, none⟩ = some (.int .i64 (k : Int)) := by
          intro W hW
          refine (hwt W hW).mono ?_
          rintro e w' ⟨a, c, rfl, hb, hi⟩
          obtain ⟨b, off, rfl, hc⟩ := hi.at 0 (by omega)
          have := hc w' (Below.refl _ _)
          rw [hk0] at this
          exact ⟨b, off, c, rfl, hb, this⟩
        have HWT2 := Lib.hid hwt2
        have HE := Lib.hid (And.intro e1 (And.intro e2 e3))
        have HQ := Lib.hid (And.intro ql qle)
        have HR := Lib.hid (And.intro rl (And.intro rch (And.intro rn (And.intro rlf (And.intro rep rw')))))
        have HX := Lib.hid (And.intro hX (And.intro hbt hn1))
        have hk4 : (k : Int) ≤ 3 := by omega
        have HLQ := Lib.hid hL
        clear hXC hXP hX hgd hn1 hlf hep hL hwt hwt2 hbt e1 e2 e3 ql qle rl rch rn rlf rep rw' hmem hk0 hw hepb
        go_upto_region 18 with (first | (go_at_call 18; with_reducible refine (HWT2.out w8 HB8.out).mono ?_; rintro _ w9 ⟨b9, o9, c9, rfl, hb9, hc9⟩; obtain ⟨y0, y1, y2, y3, -⟩ := HXC.out.1 _ hb9) | (go_at_call 18; refine (HWT.out _ (Below.refl _ _)).mono ?_; rintro _ w8 ⟨a8, c8, rfl, hb8, -⟩; have HB8 := Lib.hid hb8; obtain ⟨y0, y1, y2, y3, -⟩ := HXC.out.1 _ hb8; clear hb8))
        have HB9 := Lib.hid (And.intro hb9 (HX.out.1.below hb9))
        have hap1 := Apply_to (HXC.out.1 _ hb9).2.2.2.2 5 n k 0 HE.out.1
        have HAP1 := Lib.hid hap1
        clear hap1 hb9 hc9 HWT HWT2 HB8
        go_cut [17, 19] from 78 to 185 (fun v17 v19 wx => ∃ Z, v17 = .pointer (some ⟨Z, 0, none⟩) ∧ v19 = .int .i64 0 ∧ PlanAt wx w9.heap.size Z q ∧ Below w9.heap.size w9 wx)
        case first =>
          go_wp2_with (first | (go_at_call 10; refine HAP1.out.mono ?_; rintro e w5 ⟨pa5, la5, ta, pc5, lc5, tc, l5, j5, n5, k5, rfl, h5, hb5⟩; have H5 := Lib.hid (And.intro h5 hb5); clear h5 hb5))
          go_meet
          exact ⟨_, rfl, rfl, PlanAt.new H5.out.1 H5.out.2.size, H5.out.2.alloc H5.out.2.size _⟩
        case rest =>
        obtain ⟨Z, rfl, rfl, hZ, hbz⟩ := hcut
        obtain ⟨wd, hwd⟩ : ∃ wd, wd = wc := ⟨_, rfl⟩
        subst hwd
        have hXd := HB9.out.2.below hbz
        have hbw : Below w.heap.size w wd := HX.out.2.1.trans ((HB9.out.1.trans (hbz.mono HB9.out.1.size)).mono HX.out.2.1.size)
        have HD := Lib.hid (And.intro hXd hbw)
        obtain ⟨pa1, la1, pc1, lc1, hXC, hXP⟩ := hXd.toIn.cells
        obtain ⟨pa2, la2, pc2, lc2, hZC, hZP⟩ := hZ.toIn.cells
        have hkq : k < q.parts.length := by have := HQ.out.1; omega
        obtain ⟨b, off, ca, cc, rfl, hpX⟩ := hXP k hk
        obtain ⟨b2, off2, ca2, cc2, rfl, hpZ⟩ := hZP k hkq
        have hle := HQ.out.2 hkq
        obtain ⟨ep, hepk⟩ : ∃ ep, p.parts[k].epoch = ep := ⟨_, rfl⟩
        rw [hepk] at HE hpX HEP
        rw [hle] at hpZ
        obtain ⟨-, -, x2, -, -⟩ := hXC wd (Below.refl _ _)
        obtain ⟨-, -, z2, -, -⟩ := hZC wd (Below.refl _ _)
        obtain ⟨e0, -, -, -⟩ := hpX wd (Below.refl _ _)
        obtain ⟨-, -, d2, -⟩ := hpZ wd (Below.refl _ _)
        have i0 : (0 : Int) ≤ (k : Int) := by omega
        have i1 : (k : Int) < (p.parts.length : Int) := by omega
        have i2 : (k : Int) < (q.parts.length : Int) := by omega
        have HXC2 := Lib.hid (And.intro hXC hpX)
        have HZC2 := Lib.hid hZC
        clear hXC hXP hZC hZP hpX hpZ hle hepk hXd hbw hZ hbz HAP1 HXC y0 y1 y2 y3
        go_upto_region 22 with fail
        have hv : (wd.alloc (.cells #[.int .i64 3, .int .i64 n, .int .i64 k, .int .i64 ep] 35)).heap[wd.heap.size]? = some (.cells #[.int .i64 3, .int .i64 n, .int .i64 k, .int .i64 ep] 35 (0, 0)) := heap_alloc_new _ _
        have hbe : Below wd.heap.size wd (wd.alloc (.cells #[.int .i64 3, .int .i64 n, .int .i64 k, .int .i64 ep] 35)) := below_alloc _ _
        clear x2 z2 e0 d2
        generalize wd.alloc (.cells #[.int .i64 3, .int .i64 n, .int .i64 k, .int .i64 ep] 35) = we at *
        obtain ⟨z0, z1, z2, z3, hzr⟩ := HZC2.out we hbe
        have v0 := cells_of hv 0 _ rfl
        have v1 := cells_of hv 1 _ rfl
        have v2 := cells_of hv 2 _ rfl
        have v3 := cells_of hv 3 _ rfl
        have hap2 := Apply_to hzr 3 n k ep (q := (applyP q ⟨3, n, k, ep⟩).1) (t := (applyP q ⟨3, n, k, ep⟩).2.1) (e0 := 21) (by rw [← HE.out.2.1])
        have HAP2 := Lib.hid hap2
        have HV := Lib.hid (And.intro hv hbe)
        clear hap2 hv hbe hzr
        go_cut [23] from 78 to 185 (fun v23 wx => v23 = .int .i64 21 ∧ Below we.heap.size we wx)
        case first =>
          go_wp2_with (first | (go_at_call 10; refine HAP2.out.mono ?_; rintro e w5 ⟨pa5, la5, ta, pc5, lc5, tc, l5, j5, n5, k5, rfl, h5, hb5⟩; have H5 := Lib.hid hb5; clear h5 hb5))
          go_meet
          exact ⟨rfl, H5.out.alloc H5.out.size _⟩
        case rest =>
        obtain ⟨rfl, hbx⟩ := hcut
        obtain ⟨wg, hwg⟩ : ∃ wg, wg = wc := ⟨_, rfl⟩
        subst hwg
        have hvl := (Array.getElem?_eq_some_iff.1 HV.out.1).1
        have hvg := (hbx.block _ hvl).trans HV.out.1
        have hbg := HV.out.2.trans (hbx.mono HV.out.2.size)
        have v0 := cells_of hvg 0 _ rfl
        have v1 := cells_of hvg 1 _ rfl
        have v2 := cells_of hvg 2 _ rfl
        have v3 := cells_of hvg 3 _ rfl
        have f3 := frozen_of (j := 3) hvg
        have hep1 := HEP.out
        have q5 : wrap64 (ep + 1) = ep + 1 := IntWalk.wrap64_in _ (by omega)
        have hset := upd_set1 wg wd.heap.size 3 (.int .i64 (ep + 1))
        have hvh := setCell_same (o := 3) (v := .int .i64 (ep + 1)) hvg
        have hbh := hbg.trans (hset.toBelow hbg.size (fun b e => by omega))
        have HH := Lib.hid (And.intro hvh hbh)
        clear hvl hvg hbg hep1 hset hvh hbh z0 z1 z2 z3 hbx
        go_upto_region 26 with fail
        obtain ⟨hvh, hbh⟩ := HH.out
        clear v0 v1 v2 v3 f3 q5
        generalize wg.setCell ⟨wd.heap.size, 3, none⟩ (.int .i64 (ep + 1)) = wh at *
        obtain ⟨z0, z1, z2, z3, hzr⟩ := HZC2.out wh hbh
        have v0 := cells_of hvh 0 _ rfl
        have v1 := cells_of hvh 1 _ rfl
        have v2 := cells_of hvh 2 _ rfl
        have v3 := cells_of hvh 3 _ rfl
        have hap3 := Apply_to hzr 3 n k (ep + 1) HE.out.2.2
        have HAP3 := Lib.hid hap3
        clear hap3 hvh hzr hbh
        go_cut [24, 19] from 78 to 185 (fun v24 v19 wx => ∃ Y, v24 = .pointer (some ⟨Y, 0, none⟩) ∧ v19 = .int .i64 0 ∧ PlanAt wx wh.heap.size Y r ∧ Below wh.heap.size wh wx)
        case first =>
          go_wp2_with (first | (go_at_call 10; refine HAP3.out.mono ?_; rintro e w5 ⟨pa5, la5, ta, pc5, lc5, tc, l5, j5, n5, k5, rfl, h5, hb5⟩; have H5 := Lib.hid (And.intro h5 hb5); clear h5 hb5))
          go_meet
          exact ⟨_, rfl, rfl, PlanAt.new H5.out.1 H5.out.2.size, H5.out.2.alloc H5.out.2.size _⟩
        case rest =>
        obtain ⟨Y, rfl, rfl, hY, hby⟩ := hcut
        obtain ⟨wi, hwi⟩ : ∃ wi, wi = wc := ⟨_, rfl⟩
        subst hwi
        have hbi := HH.out.2.trans (hby.mono HH.out.2.size)
        have hkr : k < r.parts.length := by have := HR.out.1; omega
        obtain ⟨pa3, la3, pc3, lc3, hYC, hYP⟩ := hY.toIn.cells
        obtain ⟨b3, off3, ca3, cc3, rfl, hpY⟩ := hYP k hkr
        obtain ⟨rch, rle⟩ := HR.out.2.1 hkr
        rw [rch, rle] at hpY
        obtain ⟨m, hm⟩ : ∃ m, p.parts[k].chain.length = m := ⟨_, rfl⟩
        rw [hm] at HXC2 HM
        have hln : (p.parts[k].chain ++ [n]).length = m + 1 := by simp [hm]
        obtain ⟨y0, y1, y2, y3, -⟩ := hYC wi (Below.refl _ _)
        obtain ⟨-, d1, d2, hri⟩ := hpY wi (Below.refl _ _)
        obtain ⟨b4, off4, rfl, hc4⟩ := hri.at m (by omega)
        have c4 := hc4 wi (Below.refl _ _)
        have hgm : (p.parts[k].chain ++ [n])[m]'(by omega) = n := by simp [← hm]
        rw [hgm] at c4
        rw [hln] at d1
        have hX := HD.out.1.below hbi
        obtain ⟨-, -, x2, -, -⟩ := HXC2.out.1 wi hbi
        obtain ⟨-, e1, -, -⟩ := HXC2.out.2 wi hbi
        have hm5 : (m : Int) ≤ 5 := HM.out
        have i3 : (k : Int) < (r.parts.length : Int) := by omega
        have j0 : (0 : Int) ≤ (m : Int) := by omega
        have j1 : (m : Int) < ((m + 1 : Nat) : Int) := by omega
        have j2 : IntKind.i64.wrap (((m + 1 : Nat) : Int) - 1) = (m : Int) := by rw [IntWalk.i64_in _ (by omega)]; omega
        have j3 : IntKind.i64.wrap ((m : Int) + 1) = ((m + 1 : Nat) : Int) := by rw [IntWalk.i64_in _ (by omega)]; omega
        have hbw := HD.out.2.trans (hbi.mono HD.out.2.size)
        obtain ⟨hXn, hXl, pa8, la8, pc8, lc8, hXb, -⟩ := hX
        have HF := Lib.hid (And.intro hY (And.intro hbw (And.intro hXn (And.intro hXb (And.intro hbi.size HD.out.1.2.1)))))
        have f0 := cells_of hXb 0 _ rfl
        have f1 := cells_of hXb 1 _ rfl
        have f2 := cells_of hXb 2 _ rfl
        have f3 := cells_of hXb 3 _ rfl
        have g0 := frozen_of (j := 0) hXb
        have g1 := frozen_of (j := 1) hXb
        have g2 := frozen_of (j := 2) hXb
        have g3 := frozen_of (j := 3) hXb
        clear hY hby hbi hYC hYP hpY rch rle hm hln hri hc4 hgm hbw hXn hXl hXb v0 v1 v2 v3 z0 z1 z2 z3
        go_upto_region 28 with fail
        go_quiet (fail)
        obtain ⟨hY, hbw, hXn, hXb, hsi, hXl⟩ := HF.out
        have hdr := below_drewN (Below.refl wi.heap.size wi) nq
        have hYj := hY.below hdr
        have hXj := (hdr.block X (by omega)).trans hXb
        have hbj := hbw.trans (hdr.mono hbw.size)
        clear y0 y1 y2 y3 f0 f1 f2 f3 g0 g1 g2 g3 d1 d2 c4 x2 e1 hY hbw hXb hdr
        generalize wi.drewN nq = wj at *
        obtain ⟨pa9, la9, pc9, lc9, y0, y1, y2, y3, -⟩ := hYj.cells
        have f0 := cells_of hXj 0 _ rfl
        have f1 := cells_of hXj 1 _ rfl
        have f2 := cells_of hXj 2 _ rfl
        have f3 := cells_of hXj 3 _ rfl
        have g0 := frozen_of (j := 0) hXj
        have g1 := frozen_of (j := 1) hXj
        have g2 := frozen_of (j := 2) hXj
        have g3 := frozen_of (j := 3) hXj
        have hsh := HH.out.2.size
        have hXq := hYj.copy (by omega) hXn hXj y0 y1 y2 y3
        have hset := upd_set4 wj X (.int .i64 r.nodes) (.int .i64 r.copies) (.slice pa9 r.parts.length pc9) (.slice la9 r.lives.length lc9)
        have hbq := hbj.trans (hset.toBelow hbj.size (fun b e => by omega))
        have HG := Lib.hid (And.intro hXq hbq)
        clear hXq hset hbq hYj hXj hbj hsh hXn hsi hXl
        go_wp2
        go_roundg (wantsP r n).length
        case measure => rw [HLQ.out]; exact HR.out.2.2.2.2.2
        case rel =>
          refine ⟨r, rfl, HG.out.1, HG.out.2, applyP_good HE.out.2.2, ?_, HR.out.2.2.2.1, fun y hy => ?_⟩
          · rw [HR.out.2.2.1]; exact HX.out.2.2
          · have h1 := HR.out.2.2.2.2.1 y hy
            have h2 := HR.out.2.2.2.2.2
            omega
end Go.Proofs.YtjkobbmdemooaaaDoor
