/- The walk of PlanLeaves. -/
import Derived.Test.YtjkobbmdemooaaaDoorPlR3
import Derived.Test.YtjkobbmdemooaaaDoorPlBg
import Derived.Test.YtjkobbmdemooaaaDoorPlV
import Derived.Test.YtjkobbmdemooaaaDoorPlIn
import Derived.Test.YtjkobbmdemooaaaDoorPlAw
namespace Go.Proofs.YtjkobbmdemooaaaDoor
open Go.RowKit

set_option maxRecDepth 100000 in
set_option maxHeartbeats 4000000 in
theorem PLeaves_any {w : World} {v : Value} {E : List Event} (h : EventsRd w v E) (s0 s1 s2 nd : Int) (hE : Env w) : Calls Tryd.prog 6 #[.agg #[.int .i64 s0, .int .i64 s1, .int .i64 s2], v, .int .i64 nd] w fun e w' => e = .returned (.bool true) ∧ Below w.heap.size w w' := by
  obtain ⟨ea, ec, rfl, hml, hC⟩ := h.cells
  obtain ⟨w0, hw0⟩ : ∃ w0, w0 = w.alloc (.cells #[.int .i64 s0, .int .i64 s1, .int .i64 s2] 22) := ⟨_, rfl⟩
  have hb0 : Below w.heap.size w w0 := by rw [hw0]; exact below_alloc _ _
  have hk0 : w0.heap[w.heap.size]? = some (.cells #[.int .i64 s0, .int .i64 s1, .int .i64 s2] 22 (0, 0)) := by rw [hw0]; exact heap_alloc_new _ _
  have haw : Calls Tryd.prog 8 #[] w0 fun e w1 => e = .returned (.bool true) ∧ Below w.heap.size w w1 ∧ w1.cell? ⟨w.heap.size, 0, none⟩ = some (.int .i64 s0) ∧ w1.cell? ⟨w.heap.size, 1, none⟩ = some (.int .i64 s1) ∧ w1.cell? ⟨w.heap.size, 2, none⟩ = some (.int .i64 s2) := by
    refine (awake_any (hE.below hb0)).mono ?_
    rintro e w1 ⟨rfl, hb1⟩
    have hk := (hb1.block w.heap.size (Array.getElem?_eq_some_iff.1 hk0).1).trans hk0
    exact ⟨rfl, hb0.trans (hb1.mono hb0.size), cells_of hk 0 _ rfl, cells_of hk 1 _ rfl, cells_of hk 2 _ rfl⟩
  have HAW := Lib.hid haw
  have HC := Lib.hid hC
  have hml' : (E.length : Int) ≤ 9223372036854775807 := by have : maxLen = 9223372036854775807 := rfl; omega
  clear h hC haw hE hb0 hk0
  go_enter Tryd.func6, Tryd.ntmps6
  go_upto_region 1 with fail
  rw [← hw0]
  clear hw0
  go_upto_region 5 with (first | (go_at_call 8; refine HAW.out.mono ?_; rintro _ w1 ⟨rfl, hb1, c0, c1, c2⟩) | (go_at_call 9; refine (begun_any s0 s1 s2 _).mono ?_; rintro _ w2 ⟨pa, la, pc, lc, l, j, n, p, c, n', k', rfl, hok, hfr, hb2⟩))
  have hs1 := hb1.size
  have hs2 := hb2.size
  have hat := PlanAt.new hfr hs2
  have hbw : Below w.heap.size w (w2.alloc (.cells #[.int .i64 n', .int .i64 k', .slice pa l pc, .slice la j lc] 28)) := (hb1.trans (hb2.mono hs1)).alloc (by omega) _
  have hat := hat.mono hs1
  clear hfr hb1 hb2 c0 c1 c2
  generalize w2.alloc (.cells #[.int .i64 n', .int .i64 k', .slice pa l pc, .slice la j lc] 28) = w3 at *
  generalize w2.heap.size = X at *
  have hg0 := newP_good hok
  have he0 := newP_ep n p c
  generalize newP n p c = pz at *
  have HG0 := Lib.hid (And.intro hg0 he0)
  clear hok hg0 he0
  go_loopg [8] E.length (fun gk i wr => ∃ (k : Nat) (p : Pl), k ≤ E.length ∧ k ≤ 150 ∧ gk = E.length - k ∧ i = .int .i64 k ∧ goodP p = true ∧ EpLe p (1 + k) ∧ PlanAt wr w.heap.size X p ∧ Below w.heap.size w wr)
  case atStart => exact ⟨0, _, Nat.zero_le _, Nat.zero_le _, rfl, rfl, HG0.out.1, HG0.out.2, hat, hbw⟩
  case round =>
    obtain ⟨k, p, hk, hk150, rfl, rfl, hgd, hep, hX, hbel⟩ := hrel
    have HGD := Lib.hid (And.intro hgd hep)
    have HX := Lib.hid (And.intro hX hbel)
    clear hgd hep hX hbel
    go_upto_region 5 with fail
    go_cut [32] from 25 to 47 (fun v32 wx => v32 = .bool (decide (k < E.length ∧ k < 150)) ∧ wr = wx)
    case first =>
      by_cases hlt : k < E.length
      · have i1 : (k : Int) < (E.length : Int) := by omega
        by_cases h150 : k < 150
        · have i3 : (k : Int) < 150 := by omega
          go_wp2
          go_meet
          exact ⟨by simp [hlt, h150], rfl⟩
        · have i3 : ¬ (k : Int) < 150 := by omega
          go_wp2
          go_meet
          exact ⟨by simp [h150], rfl⟩
      · have i1 : ¬ (k : Int) < (E.length : Int) := by omega
        go_wp2
        go_meet
        exact ⟨by simp [hlt], rfl⟩
    case rest =>
    obtain ⟨rfl, rfl⟩ := hcut
    by_cases hcond : k < E.length ∧ k < 150
    · obtain ⟨hlt, h150⟩ := hcond
      have hd : decide (k < E.length ∧ k < 150) = true := by simp [hlt, h150]
      rw [hd]
      obtain ⟨b, off, rfl, hb, c0, c1, c2, c3⟩ := HC.out k hlt
      have i1 : (k : Int) < (E.length : Int) := by omega
      have i2 : (0 : Int) ≤ (k : Int) := by omega
      obtain ⟨pa, la, pc, lc, hrdy⟩ := Ready.make HX.out.1 HX.out.2 hb c0 c1 c2 c3
      have RDY := Lib.hid hrdy
      clear c0 c1 c2 c3 hrdy hd
      obtain ⟨x, hx⟩ : ∃ x, E[k] = x := ⟨_, rfl⟩
      rw [hx] at RDY
      obtain ⟨R, hR⟩ : ∃ R, applyP p x = R := ⟨_, rfl⟩
      have HAP := Lib.hid (fun W hW => (RDY.out).apply hR W hW)
      have HR := Lib.hid hR
      clear hx hR
      obtain ⟨y0, y1, y2, y3, e0, e1, e2, e3⟩ := (RDY.out wr (Below.refl _ _)).1
      have hal := fun o => (RDY.out (wr.alloc o) (below_alloc wr o)).1
      have a0 := fun o => (hal o).1
      have a1 := fun o => (hal o).2.1
      have a2 := fun o => (hal o).2.2.1
      have a3 := fun o => (hal o).2.2.2.1
      have a4 := fun o => (hal o).2.2.2.2.1
      have a5 := fun o => (hal o).2.2.2.2.2.1
      have a6 := fun o => (hal o).2.2.2.2.2.2.1
      have a7 := fun o => (hal o).2.2.2.2.2.2.2
      clear hal
      go_upto_region 7 with fail
      go_cut [9, 10, 11] from 25 to 47 (fun v9 _ v11 wx => ∃ Y, v9 = .pointer (some ⟨Y, 0, none⟩) ∧ v11 = .int .i64 R.2.2 ∧ PlanAt wx wr.heap.size Y R.1 ∧ Below wr.heap.size wr wx)
      case first =>
        go_region_law
          (first
            | (go_simp; go_at_call 10; refine (HAP.out _ (by first | exact (Below.refl _ _).drew | exact (below_alloc _ _).drew)).mono ?_; rintro e w5 ⟨pa5, la5, ta, pc5, lc5, tc, l5, j5, m5, n5, k5, rfl, h5, -, -, hb5⟩; (first | (have hz := zero_kept (wr := wr) hb5; have z0 := cells_of hz 0 _ rfl; have z1 := cells_of hz 1 _ rfl; have z2 := cells_of hz 2 _ rfl; have z3 := cells_of hz 3 _ rfl; have g0 := frozen_of (j := 0) hz; have g1 := frozen_of (j := 1) hz; have g2 := frozen_of (j := 2) hz; have g3 := frozen_of (j := 3) hz) | skip)))
        all_goals
          first
            | have H5 := Lib.hid (cutB h5 hb5)
            | have H5 := Lib.hid (cutA h5 hb5)
          clear h5 hb5
          go_wp2_with fail
          go_meet
          exact ⟨_, rfl, rfl, H5.out.1, H5.out.2⟩
      case rest =>
        obtain ⟨Y, rfl, rfl, hY, hbx⟩ := hcut
        clear y0 y1 y2 y3 e0 e1 e2 e3 a0 a1 a2 a3 a4 a5 a6 a7 HAP
        obtain ⟨hX0, hbel⟩ := HX.out
        have hXl := hX0.2.1
        have hXn := hX0.1
        obtain ⟨-, -, pa, la, pc, lc, hXb, -⟩ := hX0
        have hXe := (hbx.block X hXl).trans hXb
        obtain ⟨pa1, la1, pc1, lc1, y0, y1, y2, y3, hfY⟩ := hY.cells
        have hse := hbx.size
        have hss := hbel.size
        by_cases hz : R.2.2 = 0
        · have hRe : applyP p x = (R.1, R.2.1, 0) := by rw [HR.out, ← hz]
          have z0 := cells_of hXe 0 _ rfl
          have z1 := cells_of hXe 1 _ rfl
          have z2 := cells_of hXe 2 _ rfl
          have z3 := cells_of hXe 3 _ rfl
          have g0 := frozen_of (j := 0) hXe
          have g1 := frozen_of (j := 1) hXe
          have g2 := frozen_of (j := 2) hXe
          have g3 := frozen_of (j := 3) hXe
          have hXq := hY.copy hXl hXn hXe y0 y1 y2 y3
          have hset := upd_set4 wc X (.int .i64 R.1.nodes) (.int .i64 R.1.copies) (.slice pa1 R.1.parts.length pc1) (.slice la1 R.1.lives.length lc1)
          have hbq := (hbel.trans (hbx.mono (by omega))).trans (hset.toBelow (by omega) (fun b e => by omega))
          have hgq := applyP_good hRe
          have heq := applyP_ep hRe (by omega) HGD.out.2
          have HQ := Lib.hid (And.intro hXq (And.intro hbq (And.intro hgq heq)))
          clear hRe hXq hset hbq hgq heq hse hss hfY hXe hXb hXl hXn hbel hY hbx
          go_wp2
          go_roundg (E.length - (k + 1))
          case measure => omega
          case rel => exact ⟨k + 1, R.1, by omega, by omega, rfl, by go_num, HQ.out.2.2.1, by have := HQ.out.2.2.2; rwa [show (1 : Int) + ((k + 1 : Nat) : Int) = 1 + (k : Int) + 1 by omega], HQ.out.1, HQ.out.2.1⟩
        · have HQ := Lib.hid (And.intro (HX.out.1.below hbx) (hbel.trans (hbx.mono hss)))
          clear hse hss hfY hXe hXb hXl hXn hbel hY hbx
          go_wp2
          go_roundg (E.length - (k + 1))
          case measure => omega
          case rel => exact ⟨k + 1, p, by omega, by omega, rfl, by go_num, HGD.out.1, fun y hy => by have := HGD.out.2 y hy; omega, HQ.out.1, HQ.out.2⟩
    · have hd : decide (k < E.length ∧ k < 150) = false := by simpa using hcond
      rw [hd]
      obtain ⟨hgd, hep⟩ := HGD.out
      obtain ⟨g1, g2, g3, g4, g5, g6⟩ := goodP_iff.1 hgd
      obtain ⟨n0, en, hn0⟩ := u64_mod nd p.nodes (by omega)
      obtain ⟨n, hn⟩ : ∃ n : Int, n = (n0 : Int) + 1 := ⟨_, rfl⟩
      have hn1 : 1 ≤ n ∧ n ≤ p.nodes := by omega
      have hep' : EpLe p 1073741823 := fun y hy => by have := hep y hy; omega
      have hdead := applyP_dead hgd hn1 hep'
      have q1 : IntKind.u64.wrap p.nodes = p.nodes := IntWalk.u64_in _ (by omega)
      have q2 : IntKind.i64.wrap (n0 : Int) = n0 := IntWalk.i64_in _ (by omega)
      have q3 : IntKind.i64.wrap (1 + (n0 : Int)) = n := by rw [IntWalk.i64_in _ (by omega)]; omega
      have q4 : max p.nodes 1 = p.nodes := by omega
      have q8 : ¬ p.nodes = 0 := by omega
      obtain ⟨pa, la, pc, lc, y0, y1, y2, y3, hfX⟩ := HX.out.1.cells
      have HD := Lib.hid hdead
      have HP := Lib.hid (And.intro hfX (And.intro g3 hn1))
      clear hgd hep hep' g1 g2 g3 g4 g5 g6 hdead hfX hn hn1 hd
      obtain ⟨R, hR⟩ : ∃ R, applyP p ⟨2, n, 0, 0⟩ = R := ⟨_, rfl⟩
      have hap : Calls Tryd.prog 10 #[.agg #[.int .i64 p.nodes, .int .i64 p.copies, .slice pa p.parts.length pc, .slice la p.lives.length lc], .agg #[.int .i64 2, .int .i64 n, .int .i64 0, .int .i64 0]] wr fun e w' =>
          ∃ (pa la ta : Option Addr) (pc lc tc l j m : Nat) (n k : Int), e = .returned (.tuple #[.agg #[.int .i64 n, .int .i64 k, .slice pa l pc, .slice la j lc], .slice ta m tc, .int .i64 R.2.2]) ∧
            PlanFrom w' wr.heap.size (.agg #[.int .i64 n, .int .i64 k, .slice pa l pc, .slice la j lc]) R.1 ∧ TurnRd w' (.slice ta m tc) R.2.1 ∧ m = R.2.1.length ∧ Below wr.heap.size wr w' := by
        rw [← hR]
        exact Apply_out HP.out.1.rd ⟨2, n, 0, 0⟩
      rw [hR] at HD
      have HAP := Lib.hid hap
      have HR := Lib.hid hR
      clear hap hR
      go_upto_region 11 with fail
      go_cut [13, 14, 15] from 57 to 64 (fun v13 v14 v15 wx => ∃ (Z : Nat) (ta : Option Addr) (tc : Nat), v13 = .pointer (some ⟨Z, 0, none⟩) ∧ v14 = .slice ta R.2.1.length tc ∧ v15 = .int .i64 R.2.2 ∧ PlanAt wx wr.heap.size Z R.1 ∧ Below wr.heap.size wr wx)
      case first =>
        go_wp2_with (first | (go_at_call 10; refine HAP.out.mono ?_; rintro e w5 ⟨pa5, la5, ta, pc5, lc5, tc, l5, j5, m5, n5, k5, rfl, h5, -, rfl, hb5⟩; have H5 := Lib.hid (And.intro h5 hb5); clear h5 hb5))
        go_meet
        exact ⟨_, _, _, rfl, rfl, rfl, PlanAt.new H5.out.1 H5.out.2.size, H5.out.2.alloc H5.out.2.size _⟩
      case rest =>
      obtain ⟨Z, ta, tc, rfl, rfl, rfl, hZ, hbz⟩ := hcut
      obtain ⟨we, hwe⟩ : ∃ we, we = wc := ⟨_, rfl⟩
      subst hwe
      have HZ := Lib.hid (And.intro hZ hbz)
      clear y0 y1 y2 y3 HAP q1 q2 q3 q4 q8 en hZ hbz
      go_step
      go_step
      go_cut [13] from 65 to 74 (fun v13 wx => ∃ (V : Nat) (q : Pl), v13 = .pointer (some ⟨V, 0, none⟩) ∧ PlanIn wx V q ∧ Below wr.heap.size wr wx ∧ q.parts.length = p.parts.length ∧ ∀ k (hk : k < p.parts.length) (hk' : k < q.parts.length), Left n p.parts[k] q.parts[k])
      case first =>
        rcases HD.out with ⟨q, t, hq, ht, hlen, hL⟩ | ⟨h22, hL⟩
        · have h22 : R.2.2 = 0 := by rw [hq]
          have hT : ¬ (R.2.1.length : Int) = 0 := by
            rw [hq]
            intro h
            exact ht (List.length_eq_zero_iff.1 (by simp only at h; omega))
          have hT' : ¬ R.2.1.length = 0 := by omega
          have HL := Lib.hid (And.intro hlen hL)
          have HQ := Lib.hid (show R.1 = q by rw [hq])
          clear hq ht hlen hL
          go_wp2
          go_meet
          refine ⟨Z, R.1, rfl, HZ.out.1.toIn, HZ.out.2, ?_⟩
          rw [HQ.out]
          exact HL.out
        · have HL := Lib.hid hL
          have hX := HX.out.1.below HZ.out.2
          obtain ⟨pa1, la1, pc1, lc1, y0, y1, y2, y3, hfX⟩ := hX.cells
          obtain ⟨hZn, hZl, pa2, la2, pc2, lc2, hZb, -⟩ := HZ.out.1
          have z0 := cells_of hZb 0 _ rfl
          have z1 := cells_of hZb 1 _ rfl
          have z2 := cells_of hZb 2 _ rfl
          have z3 := cells_of hZb 3 _ rfl
          have g0 := frozen_of (j := 0) hZb
          have g1 := frozen_of (j := 1) hZb
          have g2 := frozen_of (j := 2) hZb
          have g3 := frozen_of (j := 3) hZb
          have hset := upd_set4 we Z (.int .i64 p.nodes) (.int .i64 p.copies) (.slice pa1 p.parts.length pc1) (.slice la1 p.lives.length lc1)
          have hbs := HZ.out.2.trans (hset.toBelow HZ.out.2.size (fun b e => by omega))
          have hin : PlanIn ((((we.setCell ⟨Z, 0, none⟩ (.int .i64 p.nodes)).setCell ⟨Z, 1, none⟩ (.int .i64 p.copies)).setCell ⟨Z, 2, none⟩ (.slice pa1 p.parts.length pc1)).setCell ⟨Z, 3, none⟩ (.slice la1 p.lives.length lc1)) Z p := by
            refine ⟨by have := hset.size; omega, pa1, la1, pc1, lc1, setCell_same (setCell_same (setCell_same (setCell_same hZb))), ?_⟩
            obtain ⟨-, -, pa3, la3, pc3, lc3, hXb, hf3⟩ := HX.out.1
            have e0 := (HZ.out.2.block X (Array.getElem?_eq_some_iff.1 hXb).1).trans hXb
            have e2 := cells_of e0 2 _ rfl
            have e3 := cells_of e0 3 _ rfl
            rw [y2] at e2
            rw [y3] at e3
            simp at e2 e3
            obtain ⟨rfl, rfl⟩ := e2
            obtain ⟨rfl, rfl⟩ := e3
            exact hf3.rd.below hbs
          have HQ := Lib.hid (And.intro hin hbs)
          clear hL hset hbs hin hX hfX hZn hZl hZb
          go_wp2
          go_meet
          exact ⟨Z, p, rfl, HQ.out.1, HQ.out.2, rfl, fun k hk _ => HL.out k hk⟩
      case rest =>
      obtain ⟨V, q, rfl, hV, hbv, hlen, hL⟩ := hcut
      obtain ⟨wf, hwf⟩ : ∃ wf, wf = wc := ⟨_, rfl⟩
      subst hwf
      obtain ⟨pa1, la1, pc1, lc1, hVC, hVP⟩ := hV.cells
      obtain ⟨pa2, la2, pc2, lc2, hXC, hXP⟩ := (HX.out.1.toIn.below hbv).cells
      have HV := Lib.hid (And.intro hVC hVP)
      have HXC := Lib.hid (And.intro hXC hXP)
      have HL := Lib.hid hL
      have hp4 : (p.parts.length : Int) ≤ 4 := HP.out.2.1.2
      have hq4 : (q.parts.length : Int) ≤ 4 := by omega
      have HW := Lib.hid (HX.out.2.trans (hbv.mono HX.out.2.size))
      have HLE := Lib.hid hlen
      have HS := Lib.hid (small_of_good HGD.out.1).2.1
      clear hVC hXC hVP hXP hL hV hbv hlen HD HR HZ
      go_wp2
      go_loopg [16] q.parts.length (fun gk i wt => ∃ k : Nat, k ≤ q.parts.length ∧ gk = q.parts.length - k ∧ i = .int .i64 k ∧ Below wf.heap.size wf wt)
      case atStart => exact ⟨0, Nat.zero_le _, rfl, rfl, Below.refl _ _⟩
      case round =>
      obtain ⟨s, hs, rfl, rfl, hbt⟩ := hrel
      obtain ⟨-, -, v2, -, -⟩ := HV.out.1 _ hbt
      have HBT := Lib.hid hbt
      clear hbt
      by_cases hlt : s < q.parts.length
      · have hsp : s < p.parts.length := by have := HLE.out; omega
        have i1 : (s : Int) < (q.parts.length : Int) := by omega
        have i2 : (0 : Int) ≤ (s : Int) := by omega
        have i3 : (s : Int) < (p.parts.length : Int) := by omega
        obtain ⟨b, off, ca, cc, rfl, hcV⟩ := HV.out.2 s hlt
        obtain ⟨b2, off2, ca2, cc2, rfl, hcX⟩ := HXC.out.2 s hsp
        have hleft := HL.out s hsp hlt
        have hch := HS.out _ (List.getElem_mem hsp)
        obtain ⟨y, hy⟩ : ∃ y, q.parts[s] = y := ⟨_, rfl⟩
        obtain ⟨z, hz⟩ : ∃ z, p.parts[s] = z := ⟨_, rfl⟩
        rw [hy, hz] at hleft
        rw [hy] at hcV
        rw [hz] at hcX hch
        obtain ⟨hl1, hl2, hl3⟩ := hleft
        obtain ⟨-, d1, -, -⟩ := hcV _ HBT.out
        have HCV := Lib.hid hcV
        have HCX := Lib.hid hcX
        have HL3 := Lib.hid hl3
        obtain ⟨cn, hcn⟩ : ∃ cn, y.chain.contains n = cn := ⟨_, rfl⟩
        have hin : ∀ W, Below wf.heap.size wf W → Calls Tryd.prog 13 #[.slice ca y.chain.length cc, .int .i64 n] W fun e w' => e = .returned (.bool cn) ∧ Below wf.heap.size wf w' := by
          intro W hW
          refine (Lin_any (HCV.out W hW).2.2.2 n).mono ?_
          rintro e w' ⟨rfl, hb⟩
          rw [hcn]
          exact ⟨rfl, hW.trans (hb.mono hW.size)⟩
        have HIN := Lib.hid hin
        clear hy hz hcV hcX hl3 hin
        go_upto_region 20 with fail
        go_cut [105] from 75 to 152 (fun v wx => v = .bool false ∧ Below wf.heap.size wf wx)
        case first =>
          have hl2' : ¬ y.learner = n := hl2
          cases cn
          · go_wp2_with (first | (go_at_call 13; refine (HIN.out _ HBT.out).mono ?_; rintro _ w9 ⟨rfl, hb9⟩; obtain ⟨-, -, v2, -, -⟩ := HV.out.1 _ hb9; obtain ⟨-, d1, d2, -⟩ := HCV.out _ hb9))
            go_meet
            exact ⟨by simp [hl2'], hb9⟩
          · have hm : n ∈ y.chain := by simpa using hcn
            have h1 : ¬ (1 : Int) < (y.chain.length : Int) := fun h => hl1 ⟨hm, by omega⟩
            have H9 := Lib.hid (show decide ((1 : Int) < (y.chain.length : Int)) = false from decide_eq_false h1)
            go_wp2_with (first | (go_at_call 13; refine (HIN.out _ HBT.out).mono ?_; rintro _ w9 ⟨rfl, hb9⟩; obtain ⟨-, -, v2, -, -⟩ := HV.out.1 _ hb9; obtain ⟨-, d1, d2, -⟩ := HCV.out _ hb9))
            go_meet
            exact ⟨by rw [H9.out]; simp [hl2'], hb9⟩
        case rest =>
        obtain ⟨rfl, hbx⟩ := hcut
        have HBX := Lib.hid hbx
        clear hbx v2 d1 hl1 hl2
        have HZA := Lib.hid (HCX.out wf (Below.refl _ _)).2.2.2.at
        have HYA := Lib.hid (HCV.out wf (Below.refl _ _)).2.2.2.at
        go_wp2
        go_loopg [18, 19] z.chain.length (fun gk v18 v19 wt => ∃ j : Nat, j ≤ z.chain.length ∧ gk = z.chain.length - j ∧ v18 = .int .i64 (leftAt n y.chain (z.chain.take j) : Nat) ∧ v19 = .int .i64 j ∧ Below wf.heap.size wf wt)
        case atStart => exact ⟨0, Nat.zero_le _, rfl, by rw [List.take_zero, leftAt_nil]; rfl, rfl, HBX.out⟩
        case round =>
        obtain ⟨j, hj, rfl, rfl, rfl, hbt⟩ := hrel
        obtain ⟨-, -, x2, -, -⟩ := HXC.out.1 _ hbt
        obtain ⟨-, f1, -, -⟩ := HCX.out _ hbt
        have HBT2 := Lib.hid hbt
        clear hbt
        by_cases hjl : j < z.chain.length
        · obtain ⟨hst1, hst2⟩ := leftAt_step HL3.out j hjl
          obtain ⟨zb, zo, rfl, hzc⟩ := HZA.out j hjl
          have k1 : (j : Int) < (z.chain.length : Int) := by omega
          have k2 : (0 : Int) ≤ (j : Int) := by omega
          have g1 := hzc _ HBT2.out
          obtain ⟨t, ht⟩ : ∃ t, leftAt n y.chain (z.chain.take j) = t := ⟨_, rfl⟩
          obtain ⟨t', ht'⟩ : ∃ t, leftAt n y.chain (z.chain.take (j + 1)) = t := ⟨_, rfl⟩
          rw [ht, ht'] at hst1 hst2
          rw [ht]
          have hnext : ∀ W, Below wf.heap.size wf W → ∃ j' : Nat, j' ≤ z.chain.length ∧ z.chain.length - (j + 1) = z.chain.length - j' ∧ Value.int .i64 (t' : Int) = .int .i64 (leftAt n y.chain (z.chain.take j') : Nat) ∧ Value.int .i64 ((j + 1 : Nat) : Int) = .int .i64 (j' : Int) ∧ Below wf.heap.size wf W :=
            fun W hW => ⟨j + 1, by omega, rfl, by rw [ht'], rfl, hW⟩
          have HNX := Lib.hid hnext
          obtain ⟨m, hm⟩ : ∃ m, z.chain[j] = m := ⟨_, rfl⟩
          rw [hm] at g1 hst1 hst2
          have HS1 := Lib.hid (And.intro hst1 hst2)
          have hcn' : cn = true ↔ n ∈ y.chain := by rw [← hcn]; simp
          have HCN := Lib.hid hcn'
          clear hst1 hst2 hzc ht ht' hnext hm hcn hcn'
          go_upto_region 27 with fail
          go_cut [134] from 106 to 148 (fun v wx => v = .bool (decide (m = n ∧ n ∉ y.chain)) ∧ Below wf.heap.size wf wx)
          case first =>
            by_cases hmn : m = n
            · subst hmn
              go_wp2_with (first | (go_at_call 13; refine (HIN.out _ HBT2.out).mono ?_; rintro _ w9 ⟨rfl, hb9⟩))
              go_meet
              refine ⟨congrArg Value.bool ?_, hb9⟩
              have h0 := HCN.out
              by_cases h2 : m ∈ y.chain
              · rw [h0.2 h2]
                exact (decide_eq_false (fun h => h.2 h2)).symm
              · have hc : cn = false := by
                  cases cn
                  · rfl
                  · exact absurd (h0.1 rfl) h2
                rw [hc]
                exact (decide_eq_true ⟨by trivial, h2⟩).symm
            · go_wp2
              go_meet
              exact ⟨by simp [hmn], HBT2.out⟩
          case rest =>
          obtain ⟨rfl, hbx⟩ := hcut
          by_cases hA : m = n ∧ n ∉ y.chain
          · have hd : decide (m = n ∧ n ∉ y.chain) = true := by simpa using hA
            rw [hd]
            have htt := HS1.out.1 hA
            subst htt
            have HBX2 := Lib.hid hbx
            clear hbx hA hd
            go_wp2
            go_roundg (z.chain.length - (j + 1))
            case measure => omega
            case rel =>
              obtain ⟨j', q1, q2, q3, q4, q5⟩ := HNX.out _ HBX2.out
              exact ⟨j', q1, q2, q3, by rw [← q4]; go_num, q5⟩
          · have hd : decide (m = n ∧ n ∉ y.chain) = false := by simpa using hA
            rw [hd]
            obtain ⟨htt, hget⟩ := HS1.out.2 hA
            subst htt
            obtain ⟨htl, hget⟩ := List.getElem?_eq_some_iff.1 hget
            obtain ⟨yb, yo, rfl, hyc⟩ := HYA.out t htl
            have g2 := hyc _ hbx
            rw [hget] at g2
            have k3 : (t : Int) < (y.chain.length : Int) := by omega
            have k4 : (0 : Int) ≤ (t : Int) := by omega
            have HBX2 := Lib.hid hbx
            have hyl : y.chain.length ≤ maxLen := by
              obtain ⟨a', c', e', -, hmx, -⟩ := (HCV.out wf (Below.refl _ _)).2.2.2.cells
              exact hmx
            have hyl' : (y.chain.length : Int) ≤ 9223372036854775807 := by have : maxLen = 9223372036854775807 := rfl; omega
            clear hbx hA hd hyc hget hyl
            go_wp2
            go_roundg (z.chain.length - (j + 1))
            case measure => omega
            case rel =>
              obtain ⟨j', q1, q2, q3, q4, q5⟩ := HNX.out _ HBX2.out
              exact ⟨j', q1, q2, by rw [← q3]; go_num, by rw [← q4]; go_num, q5⟩
        · have k1 : ¬ (j : Int) < (z.chain.length : Int) := by omega
          have hfull : leftAt n y.chain (z.chain.take j) = y.chain.length := by
            rw [List.take_of_length_le (by omega)]
            exact leftAt_all HL3.out
          rw [hfull]
          clear hfull
          go_wp2
          go_roundg (q.parts.length - (s + 1))
          case measure => omega
          case rel => exact ⟨s + 1, by omega, rfl, by go_num, HBT2.out⟩
      · have i1 : ¬ (s : Int) < (q.parts.length : Int) := by omega
        have hfin := HW.out.trans (HBT.out.mono HW.out.size)
        have HF := Lib.hid hfin
        clear hfin
        go_wp2
        go_ret
        exact ⟨rfl, HF.out⟩
end Go.Proofs.YtjkobbmdemooaaaDoor
