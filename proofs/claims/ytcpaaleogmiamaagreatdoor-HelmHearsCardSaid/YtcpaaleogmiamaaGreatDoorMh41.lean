/- The walk of heliographlaw13.awake. -/
/- The walk of heliographlaw13.conf. -/
import Derived.Test.YtcpaaleogmiamaaGreatDoorMh40
namespace Go.Proofs.YtcpaaleogmiamaaGreatDoor
open Go.RowKit

theorem HPlan_from {w : World} {hb b mb q : Nat} {T : TpL} {t : Tp} {v : Value} {p : Pl} {M : List (Int × Int)} {life : Int} {dead : Bool} (h : HmAt w hb b mb q T t v p M life dead) (hg : goodP p = true) :
    Calls Tryz.prog 18 #[.pointer (some ⟨hb, 0, none⟩)] w fun e w' => ∃ (pa la : Option Addr) (pc lc : Nat), e = .returned (planV p pa pc la lc) ∧ PlanFrom w' w.heap.size (planV p pa pc la lc) p ∧ Below w.heap.size w w' := by
  refine (HPlan_any h (small_of_good hg).1).mono ?_
  rintro e w' ⟨pa, la, pc, lc, m, he, hm, h1, h2, h3⟩
  exact ⟨pa, la, pc, lc, he, PlanFrom.of_owns h1 hm h2, h3⟩

theorem fld_Parts (n k : Int) (pa la : Option Addr) (l pc j lc : Nat) (W : World) : (Instr.field 52 (.agg #[.int .i64 n, .int .i64 k, .slice pa l pc, .slice la j lc]) 2).run Tryz.prog W = .ok (.slice pa l pc) W := by kernel_rfl

theorem missP_one (k : Int) : incM aw1.lives [(2, k)] = [(2, k + 1)] := by
  simp [incM, missP, missG]

/-- The tape of a master that is no more. -/
theorem HmW.tape {w0 w : World} {hb b mb q : Nat} {L : TpL} {t : Tp} {v : Value} {p : Pl} {M : List (Int × Int)} {life : Int} {dead : Bool} (h : HmW w0 w hb b mb q L t v p M life dead) : TpAt w b mb L t ∧ Below w0.heap.size w0 w ∧ ∀ k, TpF b mb L k → w0.heap.size ≤ k :=
  ⟨h.hm.tape, h.base, fun k hk => h.above k (.inr (.inr hk))⟩

theorem TNew_from (r : Int) (w : World) : Calls Tryz.prog 15 #[.int .i64 r] w fun e w' => ∃ b mb, e = .returned (.pointer (some ⟨b, 0, none⟩)) ∧ TpAt w' b mb [] (newT r) ∧ (∀ k, TpF b mb [] k → w.heap.size ≤ k) ∧ Below w.heap.size w w' := by
  refine (TNew_any r w).mono ?_
  rintro e w' ⟨h1, h2, h3⟩
  refine ⟨_, _, h1, h2, fun k hk => ?_, h3⟩
  rcases hk with e | e | hk
  · omega
  · omega
  · cases hk

theorem awOpen {w0 W : World} {b mb : Nat} {L : TpL} {t : Tp} (hE : Env w0) (h0 : Below w0.heap.size w0 W) (hab : ∀ k, TpF b mb L k → w0.heap.size ≤ k) (ht : TpAt W b mb L t) (hd : t.down = false) {t' : Tp} {p' : Pl} (hr : openR t aw0 = (t', p', 0)) :
    Calls Tryz.prog 14 #[.pointer (some ⟨b, 0, none⟩), .agg #[.int .i64 3, .int .i64 0, .int .i64 2, .int .i64 2, .int .i64 0, .int .i64 0, .int .i64 0, .int .i64 0]] W fun e w' =>
      ∃ L' hb q v, e = .returned (.tuple #[.pointer (some ⟨hb, 0, none⟩), .int .i64 0]) ∧ HmW w0 w' hb b mb q L' t' v p' [] t.life false := by
  have h := HOpen_any hE h0 hab ht hd 3 2 2 0 0 0 0 0 (by decide)
  rw [aw_new, hr] at h
  refine Calls.mono h ?_
  rintro e w' ⟨L', hb, -, -, he, -, q, v, -, hm, -⟩
  exact ⟨L', hb, q, v, he, hm⟩

set_option maxRecDepth 100000 in
set_option maxHeartbeats 8000000 in
theorem L13awake_any {w : World} (hE : Env w) : Calls Tryz.prog 13 #[] w fun e w' => e = .returned (.bool true) ∧ Below w.heap.size w w' := by
  go_enter Tryz.func13, Tryz.ntmps13
  go_upto_region 2 with fail
  obtain ⟨wA, hwA⟩ : ∃ wA, wA = w.alloc (.cells #[.int .i64 3, .int .i64 0, .int .i64 2, .int .i64 2, .int .i64 0, .int .i64 0, .int .i64 0, .int .i64 0] 25) := ⟨_, rfl⟩
  have hbA : Below w.heap.size w wA := by rw [hwA]; exact below_alloc _ _
  have hxA : wA.heap[w.heap.size]? = some (.cells #[.int .i64 3, .int .i64 0, .int .i64 2, .int .i64 2, .int .i64 0, .int .i64 0, .int .i64 0, .int .i64 0] 25 (0, 0)) := by rw [hwA]; exact heap_alloc_new _ _
  have hcf : ∀ W, Below wA.heap.size wA W → W.cell? ⟨w.heap.size, 0, none⟩ = some (.int .i64 3) ∧ W.cell? ⟨w.heap.size, 1, none⟩ = some (.int .i64 0) ∧ W.cell? ⟨w.heap.size, 2, none⟩ = some (.int .i64 2) ∧ W.cell? ⟨w.heap.size, 3, none⟩ = some (.int .i64 2) ∧
      W.cell? ⟨w.heap.size, 4, none⟩ = some (.int .i64 0) ∧ W.cell? ⟨w.heap.size, 5, none⟩ = some (.int .i64 0) ∧ W.cell? ⟨w.heap.size, 6, none⟩ = some (.int .i64 0) ∧ W.cell? ⟨w.heap.size, 7, none⟩ = some (.int .i64 0) := by
    intro W hb
    have hx := (hb.block _ (Array.getElem?_eq_some_iff.1 hxA).1).trans hxA
    exact ⟨cells_of hx 0 _ rfl, cells_of hx 1 _ rfl, cells_of hx 2 _ rfl, cells_of hx 3 _ rfl, cells_of hx 4 _ rfl, cells_of hx 5 _ rfl, cells_of hx 6 _ rfl, cells_of hx 7 _ rfl⟩
  have hEA := hE.below hbA
  rw [← hwA]
  have HCF := Lib.hid hcf
  have HA := Lib.hid (And.intro hbA hEA)
  clear hwA hbA hxA hcf hEA
  go_wp2_with fail
  refine (TNew_from 65536 _).mono ?_
  rintro _ w1 ⟨b, mb, rfl, ht1, hab, hb1⟩
  obtain ⟨f0, f1, f2, f3, f4, f5, f6, f7⟩ := HCF.out _ hb1
  have hc0 := calm_new (room := 65536) (by omega) aw0
  have hop := awOpen HA.out.2 hb1 hab ht1 rfl (openR_new 65536 aw0)
  generalize newT 65536 = t0 at *
  have HC0 := Lib.hid hc0
  have HOP := Lib.hid hop
  clear hc0 hop ht1 hab hb1
  go_wp2_with fail
  refine HOP.out.mono ?_
  rintro _ w2 ⟨L2, hb, q, v, rfl, hm2⟩
  obtain ⟨hbt, t1, hbr, hc1, hlf⟩ := aw_beat HC0.out
  have hrd2 : readyB t0 t0.life false = false := by obtain ⟨es, h1, -⟩ := HC0.out.disk; simp [readyB, h1.down]
  have hhr := HHear_beat HA.out.2 hm2 KeepAt.none hrd2 aw_good.1 2 1 (by decide) (by decide) (by decide) (fun _ => .inl hbt)
  rw [hbr] at hhr
  have HHR := Lib.hid hhr
  have HC1 := Lib.hid (And.intro hc1 hlf)
  clear hm2 hbt hbr hc1 hlf hhr f0 f1 f2 f3 f4 f5 f6 f7 hrd2
  go_wp2_with fail
  refine HHR.out.mono ?_
  rintro _ w3 ⟨a3, c3, L3, v3, rfl, hm3, hr3, -, -⟩
  obtain ⟨ms, hrd, -, hms⟩ := hr3.rd
  obtain ⟨rb, ro, cap, e3, -, -, -, hcc⟩ := Rd.at hrd (by decide)
  obtain ⟨rfl, rfl⟩ : a3 = some ⟨rb, ro, none⟩ ∧ c3 = cap := by simpa using e3
  obtain ⟨cs, ⟨ca, la, cl, ccp, lcp, rfl⟩, hcs⟩ := hms.at 0 (by decide)
  have x0 : w3.cell? ⟨rb, ro, none⟩ = some (.int .i64 4) := hcc _ _ (hcs 0 _ rfl)
  have x2 : w3.cell? ⟨rb, ro + 2, none⟩ = some (.int .i64 2) := hcc _ _ (hcs 2 _ rfl)
  have x4 : w3.cell? ⟨rb, ro + 4, none⟩ = some (.int .i64 2) := hcc _ _ (hcs 4 _ rfl)
  have x11 : w3.cell? ⟨rb, ro + 11, none⟩ = some (.slice la 1 lcp) := hcc _ _ (hcs 11 _ rfl)
  have H3 := Lib.hid hm3
  clear hrd hms hcc hcs e3 hm3 hr3
  go_upto_region 9 with fail
  have hm0 : missP [] 2 0 = [((2 : Int), (0 : Int))] := rfl
  rw [hm0] at H3
  clear x0 x2 x4 x11 hm0 HHR HOP
  go_wp2
  go_loopg [7] 4 (fun gk v7 wt => ∃ (k : Nat) (L' : TpL) (v' : Value), k ≤ 4 ∧ gk = 4 - k ∧ v7 = .int .i64 k ∧ HmW wA wt hb b mb q L' t1 v' aw1 [(2, (k : Int))] t0.life false)
  case atStart => exact ⟨0, L3, v3, by omega, rfl, rfl, H3.out⟩
  case round =>
    obtain ⟨k, L', v', hk, rfl, rfl, hm⟩ := hrel
    have hrd : readyB t1 t0.life false = false := by obtain ⟨es, h1, -⟩ := HC1.out.1.disk; simp [readyB, h1.down, HC1.out.2]
    have htk := HTick_any HA.out.2 hm KeepAt.none hrd aw_good.2.1 (fun n => by
      have : missG [((2 : Int), (k : Int))] n = if n = 2 then (k : Int) else 0 := by
        by_cases e : n = 2
        · subst e; simp [missG]
        · have e2 : ((2 : Int) == n) = false := by simpa using fun h : (2 : Int) = n => e h.symm
          simp [missG, e2, e]
      rw [this]
      split <;> omega)
    rw [missP_one] at htk
    have HM := Lib.hid hm
    by_cases hkt : k < 4
    · have j1 : (k : Int) < 4 := by omega
      rw [aw_tick t1 t0.life (k := (k : Int) + 1) (by omega)] at htk
      have HTK := Lib.hid htk
      clear htk hm hrd
      go_wp2_with fail
      refine HTK.out.mono ?_
      rintro _ w4 ⟨a4, c4, L4, v4, rfl, hm4, -⟩
      have HM4 := Lib.hid hm4
      clear hm4
      go_wp2
      go_roundg (4 - (k + 1))
      case measure => omega
      case rel => exact ⟨k + 1, L4, v4, by omega, rfl, by go_num, by simpa using HM4.out⟩
    · have j1 : ¬ (k : Int) < 4 := by omega
      obtain rfl : k = 4 := by omega
      obtain ⟨t2, h5, hc2⟩ := aw_tick5 HC1.out.1
      rw [HC1.out.2] at h5
      rw [show (((4 : Nat) : Int) + 1) = 5 from rfl, h5] at htk
      have HTK := Lib.hid htk
      have HC2 := Lib.hid hc2
      clear htk hm hrd h5 hc2 j1
      go_upto_region 15 with fail
      go_wp2_with fail
      refine HTK.out.mono ?_
      rintro _ w5 ⟨a5, c5, L5, v5, rfl, hm5, -⟩
      have HM5 := Lib.hid (HmW.tape hm5)
      have hof := TOff_any HM5.out.1
      have HOF := Lib.hid hof
      clear hm5 hof
      go_wp2_with fail
      refine HOF.out.mono ?_
      rintro _ w6 ⟨rfl, ht6, hu6⟩
      have hu6' : Upd (TpF b mb L5) w5 w6 := hu6.or (fun k e => .inl e)
      have hb6 : Below wA.heap.size wA w6 := HM5.out.2.1.trans (hu6'.toBelow HM5.out.2.1.size HM5.out.2.2)
      have hon := TOn_any ht6 (fun x hx => HC2.out.onlyPlan x (by rw [offT_files] at hx; exact hx)) (fv := .slice none 0 0) (l := []) (fun W _ => IntsRd.nil W)
      have HON := Lib.hid hon
      have HB6 := Lib.hid hb6
      clear ht6 hu6 hu6' hb6 hon
      go_wp2_with fail
      refine HON.out.mono ?_
      rintro _ w7 ⟨rfl, L7, t7, ht7, hbk, ho7, hu7⟩
      have hd6 : (offT t2).down = true := by obtain ⟨es, h1, -⟩ := HC2.out.disk; exact h1.off.2
      unfold OnAt at ho7
      rw [if_pos hd6] at ho7
      obtain ⟨t8, hre⟩ := HC2.out.again ho7
      have hb7 : Below wA.heap.size wA w7 := HB6.out.trans (hu7.toBelow HB6.out.size HM5.out.2.2)
      have hab7 : ∀ k, TpF b mb L7 k → wA.heap.size ≤ k := fun k hk => HM5.out.2.2 k (by unfold TpF at hk ⊢; rw [hbk] at hk; exact hk)
      have hop := awOpen HA.out.2 hb7 hab7 ht7 ho7.2.1 hre
      obtain ⟨f0, f1, f2, f3, f4, f5, f6, f7⟩ := HCF.out _ hb7
      have HOP := Lib.hid hop
      clear hop ht7 hbk ho7 hu7 hd6 hre hb7 hab7
      go_wp2_with fail
      refine HOP.out.mono ?_
      rintro _ w8 ⟨L8, hb8, q8, v8, rfl, hm8⟩
      have hpl : ∀ W, Below w8.heap.size w8 W → Calls Tryz.prog 18 #[.pointer (some ⟨hb8, 0, none⟩)] W fun e w' => ∃ (pa la : Option Addr) (pc lc : Nat), e = .returned (.agg #[.int .i64 3, .int .i64 2, .slice pa 2 pc, .slice la 1 lc]) ∧ PlanFrom w' W.heap.size (.agg #[.int .i64 3, .int .i64 2, .slice pa 2 pc, .slice la 1 lc]) aw2 ∧ Below W.heap.size W w' :=
        fun W hb => HPlan_from (hm8.below hb).hm aw_good.2.2
      have HPL := Lib.hid hpl
      have hfd := fld_Parts
      have H8 := Lib.hid hm8.base
      clear hpl hm8 f0 f1 f2 f3 f4 f5 f6 f7
      go_wp2_with fail
      refine (HPL.out _ (Below.refl _ _)).mono ?_
      rintro _ w9 ⟨pa9, la9, pc9, lc9, rfl, hf9, hb9⟩
      obtain ⟨pv9, lv9, e9, hp9, -⟩ := hf9.rd
      simp only [Value.agg.injEq, Array.mk.injEq, List.cons.injEq, and_true, true_and] at e9
      obtain ⟨rfl, rfl⟩ := e9
      obtain ⟨a, c, e, -, -, hcc⟩ := hp9.cells
      simp only [Value.slice.injEq] at e
      obtain ⟨rfl, -, rfl⟩ := e
      obtain ⟨bb, off, ca, cc, rfl, -, -, x1, -⟩ := hcc 0 (by decide)
      have y1 : w9.cell? ⟨bb, off + 1, none⟩ = some (.slice ca 1 cc) := x1
      have H9 := Lib.hid hb9
      clear hcc x1 hf9 hp9 hb9
      go_wp2_with fail
      refine (HPL.out _ H9.out).mono ?_
      rintro _ wz ⟨paz, laz, pcz, lcz, rfl, hfz, hbz⟩
      obtain ⟨pvz, lvz, ez, hpz, -⟩ := hfz.rd
      simp only [Value.agg.injEq, Array.mk.injEq, List.cons.injEq, and_true, true_and] at ez
      obtain ⟨rfl, rfl⟩ := ez
      obtain ⟨a, c, e, -, -, hcc⟩ := hpz.cells
      simp only [Value.slice.injEq] at e
      obtain ⟨rfl, -, rfl⟩ := e
      obtain ⟨bz, offz, caz, ccz, rfl, -, x1, -, -⟩ := hcc 1 (by decide)
      have z1 : wz.cell? ⟨bz, offz + 3, none⟩ = some (.int .i64 3) := x1
      have hfin : Below w.heap.size w wz := HA.out.1.trans (((H8.out.trans (H9.out.mono H8.out.size)).trans (hbz.mono (Nat.le_trans H8.out.size H9.out.size))).mono HA.out.1.size)
      have HF := Lib.hid hfin
      clear hcc x1 hfz hpz hbz hfin
      go_wp2
      go_ret
      exact ⟨rfl, HF.out⟩
end Go.Proofs.YtcpaaleogmiamaaGreatDoor
namespace Go.Proofs.YtcpaaleogmiamaaGreatDoor
open Go.RowKit

theorem u64_mod (s m : Int) (hm : 0 < m) : ∃ n : Nat, (IntKind.u64.wrap s).tmod m = (n : Int) ∧ (n : Int) < m := by
  have h0 : 0 ≤ IntKind.u64.wrap s := by
    rw [IntKind.wrap_u64]
    omega
  have h1 := Int.tmod_nonneg m h0
  obtain ⟨n, hn⟩ := Int.eq_ofNat_of_zero_le h1
  exact ⟨n, hn, by rw [← hn]; exact Int.tmod_lt_of_pos _ hm⟩

set_option maxRecDepth 100000 in
set_option maxHeartbeats 2000000 in
theorem L13conf_any (s0 s1 s2 : Int) (w : World) : Calls Tryz.prog 22 #[.agg #[.int .i64 s0, .int .i64 s1, .int .i64 s2]] w fun e w' =>
    ∃ n p c : Nat, e = .returned (.agg #[.int .i64 (n : Int), .int .i64 0, .int .i64 (p : Int), .int .i64 (c : Int), .int .i64 0, .int .i64 0, .int .i64 0, .int .i64 0]) ∧ newOkB n p c = true ∧ Below w.heap.size w w' := by
  obtain ⟨n0, e0, l0⟩ := u64_mod s0 5 (by omega)
  obtain ⟨c0, e1, l1⟩ := u64_mod s1 ((n0 : Int) + 1) (by omega)
  obtain ⟨p0, e2, l2⟩ := u64_mod s2 3 (by omega)
  obtain ⟨n, hn⟩ : ∃ n, n = n0 + 1 := ⟨_, rfl⟩
  obtain ⟨c, hc⟩ : ∃ c, c = c0 + 1 := ⟨_, rfl⟩
  obtain ⟨p, hp⟩ : ∃ p, p = p0 + 2 := ⟨_, rfl⟩
  have hok : newOkB n p c = true := by simp [newOkB, inB_iff]; omega
  have HOK := Lib.hid hok
  have q0 : wrap64 (1 + wrap64 ((IntKind.u64.wrap s0).tmod 5)) = (n : Int) := by
    rw [e0]
    have h1 : wrap64 (n0 : Int) = n0 := IntWalk.wrap64_in _ (by omega)
    rw [h1]
    have h2 : wrap64 (1 + (n0 : Int)) = 1 + n0 := IntWalk.wrap64_in _ (by omega)
    rw [h2]; omega
  have q1 : IntKind.u64.wrap (n : Int) = (n : Int) := IntWalk.u64_in _ (by omega)
  have q2 : (IntKind.u64.wrap s1).tmod (n : Int) = (c0 : Int) := by rw [← e1]; congr 1; omega
  have q3 : IntKind.i64.wrap (c0 : Int) = (c0 : Int) := IntWalk.i64_in _ (by omega)
  have q4 : IntKind.i64.wrap (1 + (c0 : Int)) = (c : Int) := by rw [IntWalk.i64_in _ (by omega)]; omega
  have q6 : IntKind.i64.wrap (p0 : Int) = (p0 : Int) := IntWalk.i64_in _ (by omega)
  have q7 : IntKind.i64.wrap (2 + (p0 : Int)) = (p : Int) := by rw [IntWalk.i64_in _ (by omega)]; omega
  have q8 : ¬ (n : Int) = 0 := by omega
  have q9 : ¬ n = 0 := by omega
  clear hok e0 e1 hn hc hp l0 l1 l2
  have Q0 := Lib.hid q0
  clear q0
  obtain ⟨wa, hwa⟩ : ∃ wa, wa = (w.alloc (.cells #[.int .i64 s0, .int .i64 s1, .int .i64 s2] 60)).alloc (.cells #[.int .i64 0, .int .i64 0, .int .i64 0, .int .i64 0, .int .i64 0, .int .i64 0, .int .i64 0, .int .i64 0] 25) := ⟨_, rfl⟩
  have hbwa : Below w.heap.size w wa := by rw [hwa]; exact below_alloc2 _ _ _
  have b0 : wa.heap[w.heap.size]? = some (.cells #[.int .i64 s0, .int .i64 s1, .int .i64 s2] 60 (0, 0)) := by rw [hwa, Below.heap_alloc _ _ _ (by simp)]; exact heap_alloc_new _ _
  have b1 : wa.heap[w.heap.size + 1]? = some (.cells #[.int .i64 0, .int .i64 0, .int .i64 0, .int .i64 0, .int .i64 0, .int .i64 0, .int .i64 0, .int .i64 0] 25 (0, 0)) := by rw [hwa]; exact heap_new1 _ _ _
  have x1 := cells_of b0 1 _ rfl
  have x2 := cells_of b0 2 _ rfl
  have y0 := cells_of b1 0 _ rfl
  have y1 := cells_of b1 1 _ rfl
  have y2 := cells_of b1 2 _ rfl
  have y3 := cells_of b1 3 _ rfl
  have y4 := cells_of b1 4 _ rfl
  have y5 := cells_of b1 5 _ rfl
  have y6 := cells_of b1 6 _ rfl
  have y7 := cells_of b1 7 _ rfl
  have g : ∀ j, wa.frozen? ⟨w.heap.size + 1, j, none⟩ = false := fun j => frozen_of b1
  have g0 := g 0
  have g1 := g 1
  have g2 := g 2
  have g3 := g 3
  have g4 := g 4
  have g5 := g 5
  have g6 := g 6
  have g7 := g 7
  have HB := Lib.hid (And.intro hbwa b1)
  clear hbwa b0 b1 g
  go_enter Tryz.func22, Tryz.ntmps22
  go_upto_region 2 with fail
  rw [← hwa, Q0.out]
  clear hwa
  have hz : ∀ W, W = ((((((((wa.setCell ⟨w.heap.size + 1, 0, none⟩ (.int .i64 (n : Int))).setCell ⟨w.heap.size + 1, 1, none⟩ (.int .i64 0)).setCell ⟨w.heap.size + 1, 2, none⟩ (.int .i64 (p : Int))).setCell ⟨w.heap.size + 1, 3, none⟩ (.int .i64 (c : Int))).setCell ⟨w.heap.size + 1, 4, none⟩ (.int .i64 0)).setCell ⟨w.heap.size + 1, 5, none⟩ (.int .i64 0)).setCell ⟨w.heap.size + 1, 6, none⟩ (.int .i64 0)).setCell ⟨w.heap.size + 1, 7, none⟩ (.int .i64 0)).drew → W.heap[w.heap.size + 1]? = some (.cells #[.int .i64 (n : Int), .int .i64 0, .int .i64 (p : Int), .int .i64 (c : Int), .int .i64 0, .int .i64 0, .int .i64 0, .int .i64 0] 25 (0, 0)) ∧ Below w.heap.size w W := by
    intro W hW
    obtain ⟨v0, hv0⟩ : ∃ v0, v0 = wa.setCell ⟨w.heap.size + 1, 0, none⟩ (.int .i64 (n : Int)) := ⟨_, rfl⟩
    have e0 : v0.heap[w.heap.size + 1]? = some (.cells #[.int .i64 (n : Int), .int .i64 0, .int .i64 0, .int .i64 0, .int .i64 0, .int .i64 0, .int .i64 0, .int .i64 0] 25 (0, 0)) := by rw [hv0]; exact setCell_same (o := 0) HB.out.2
    have u0 : Upd (fun k => k = w.heap.size + 1) wa v0 := by rw [hv0]; exact (Upd.refl _ wa).trans (upd_set1 wa (w.heap.size + 1) 0 (.int .i64 (n : Int)))
    rw [← hv0] at hW
    obtain ⟨v1, hv1⟩ : ∃ v1, v1 = v0.setCell ⟨w.heap.size + 1, 1, none⟩ (.int .i64 0) := ⟨_, rfl⟩
    have e1 : v1.heap[w.heap.size + 1]? = some (.cells #[.int .i64 (n : Int), .int .i64 0, .int .i64 0, .int .i64 0, .int .i64 0, .int .i64 0, .int .i64 0, .int .i64 0] 25 (0, 0)) := by rw [hv1]; exact setCell_same (o := 1) e0
    have u1 : Upd (fun k => k = w.heap.size + 1) wa v1 := by rw [hv1]; exact (u0).trans (upd_set1 v0 (w.heap.size + 1) 1 (.int .i64 0))
    rw [← hv1] at hW
    obtain ⟨v2, hv2⟩ : ∃ v2, v2 = v1.setCell ⟨w.heap.size + 1, 2, none⟩ (.int .i64 (p : Int)) := ⟨_, rfl⟩
    have e2 : v2.heap[w.heap.size + 1]? = some (.cells #[.int .i64 (n : Int), .int .i64 0, .int .i64 (p : Int), .int .i64 0, .int .i64 0, .int .i64 0, .int .i64 0, .int .i64 0] 25 (0, 0)) := by rw [hv2]; exact setCell_same (o := 2) e1
    have u2 : Upd (fun k => k = w.heap.size + 1) wa v2 := by rw [hv2]; exact (u1).trans (upd_set1 v1 (w.heap.size + 1) 2 (.int .i64 (p : Int)))
    rw [← hv2] at hW
    obtain ⟨v3, hv3⟩ : ∃ v3, v3 = v2.setCell ⟨w.heap.size + 1, 3, none⟩ (.int .i64 (c : Int)) := ⟨_, rfl⟩
    have e3 : v3.heap[w.heap.size + 1]? = some (.cells #[.int .i64 (n : Int), .int .i64 0, .int .i64 (p : Int), .int .i64 (c : Int), .int .i64 0, .int .i64 0, .int .i64 0, .int .i64 0] 25 (0, 0)) := by rw [hv3]; exact setCell_same (o := 3) e2
    have u3 : Upd (fun k => k = w.heap.size + 1) wa v3 := by rw [hv3]; exact (u2).trans (upd_set1 v2 (w.heap.size + 1) 3 (.int .i64 (c : Int)))
    rw [← hv3] at hW
    obtain ⟨v4, hv4⟩ : ∃ v4, v4 = v3.setCell ⟨w.heap.size + 1, 4, none⟩ (.int .i64 0) := ⟨_, rfl⟩
    have e4 : v4.heap[w.heap.size + 1]? = some (.cells #[.int .i64 (n : Int), .int .i64 0, .int .i64 (p : Int), .int .i64 (c : Int), .int .i64 0, .int .i64 0, .int .i64 0, .int .i64 0] 25 (0, 0)) := by rw [hv4]; exact setCell_same (o := 4) e3
    have u4 : Upd (fun k => k = w.heap.size + 1) wa v4 := by rw [hv4]; exact (u3).trans (upd_set1 v3 (w.heap.size + 1) 4 (.int .i64 0))
    rw [← hv4] at hW
    obtain ⟨v5, hv5⟩ : ∃ v5, v5 = v4.setCell ⟨w.heap.size + 1, 5, none⟩ (.int .i64 0) := ⟨_, rfl⟩
    have e5 : v5.heap[w.heap.size + 1]? = some (.cells #[.int .i64 (n : Int), .int .i64 0, .int .i64 (p : Int), .int .i64 (c : Int), .int .i64 0, .int .i64 0, .int .i64 0, .int .i64 0] 25 (0, 0)) := by rw [hv5]; exact setCell_same (o := 5) e4
    have u5 : Upd (fun k => k = w.heap.size + 1) wa v5 := by rw [hv5]; exact (u4).trans (upd_set1 v4 (w.heap.size + 1) 5 (.int .i64 0))
    rw [← hv5] at hW
    obtain ⟨v6, hv6⟩ : ∃ v6, v6 = v5.setCell ⟨w.heap.size + 1, 6, none⟩ (.int .i64 0) := ⟨_, rfl⟩
    have e6 : v6.heap[w.heap.size + 1]? = some (.cells #[.int .i64 (n : Int), .int .i64 0, .int .i64 (p : Int), .int .i64 (c : Int), .int .i64 0, .int .i64 0, .int .i64 0, .int .i64 0] 25 (0, 0)) := by rw [hv6]; exact setCell_same (o := 6) e5
    have u6 : Upd (fun k => k = w.heap.size + 1) wa v6 := by rw [hv6]; exact (u5).trans (upd_set1 v5 (w.heap.size + 1) 6 (.int .i64 0))
    rw [← hv6] at hW
    obtain ⟨v7, hv7⟩ : ∃ v7, v7 = v6.setCell ⟨w.heap.size + 1, 7, none⟩ (.int .i64 0) := ⟨_, rfl⟩
    have e7 : v7.heap[w.heap.size + 1]? = some (.cells #[.int .i64 (n : Int), .int .i64 0, .int .i64 (p : Int), .int .i64 (c : Int), .int .i64 0, .int .i64 0, .int .i64 0, .int .i64 0] 25 (0, 0)) := by rw [hv7]; exact setCell_same (o := 7) e6
    have u7 : Upd (fun k => k = w.heap.size + 1) wa v7 := by rw [hv7]; exact (u6).trans (upd_set1 v6 (w.heap.size + 1) 7 (.int .i64 0))
    rw [← hv7] at hW
    have u8 : Upd (fun k => k = w.heap.size + 1) wa W := by rw [hW]; exact u7.trans (upd_drew _ _)
    have e8 : W.heap = v7.heap := by rw [hW]; rfl
    exact ⟨by rw [e8]; exact e7, HB.out.1.trans (u8.toBelow HB.out.1.size (fun b e => by omega))⟩
  go_region
  all_goals
    obtain ⟨hz1, hz2⟩ := hz _ rfl
    have r0 := cells_of hz1 0 _ rfl
    have r1 := cells_of hz1 1 _ rfl
    have r2 := cells_of hz1 2 _ rfl
    have r3 := cells_of hz1 3 _ rfl
    have r4 := cells_of hz1 4 _ rfl
    have r5 := cells_of hz1 5 _ rfl
    have r6 := cells_of hz1 6 _ rfl
    have r7 := cells_of hz1 7 _ rfl
    have HF := Lib.hid (And.intro hz1 hz2)
    clear hz hz1 hz2 x1 x2 y0 y1 y2 y3 y4 y5 y6 y7 g0 g1 g2 g3 g4 g5 g6 g7
    go_wp2
    exact bodyPost_ret (v := .agg #[.int .i64 (n : Int), .int .i64 0, .int .i64 (p : Int), .int .i64 (c : Int), .int .i64 0, .int .i64 0, .int .i64 0, .int .i64 0]) (by simp [results, Tryz.results22, go_sem, r0, r1, r2, r3, r4, r5, r6, r7]) rfl ⟨n, p, c, rfl, HOK.out, HF.out.2⟩
end Go.Proofs.YtcpaaleogmiamaaGreatDoor
