/- The walk of PlanSafe. -/
import Derived.Test.YtjkobbmdemooaaaDoorPlSr
namespace Go.Proofs.YtjkobbmdemooaaaDoor
open Go.RowKit

set_option maxRecDepth 100000 in
set_option maxHeartbeats 4000000 in
theorem PSafe_any {w : World} {v : Value} {E : List Event} (h : EventsRd w v E) (s0 s1 s2 : Int) (hE : Env w) : Calls Tryd.prog 3 #[.agg #[.int .i64 s0, .int .i64 s1, .int .i64 s2], v] w fun e w' => e = .returned (.bool true) ∧ Below w.heap.size w w' := by
  obtain ⟨ea, ec, rfl, hml, hC⟩ := h.cells
  obtain ⟨w0, hw0⟩ : ∃ w0, w0 = w.alloc (.cells #[.int .i64 s0, .int .i64 s1, .int .i64 s2] 22) := ⟨_, rfl⟩
  have hb0 : Below w.heap.size w w0 := by rw [hw0]; exact below_alloc _ _
  have hk0 : w0.heap[w.heap.size]? = some (.cells #[.int .i64 s0, .int .i64 s1, .int .i64 s2] 22 (0, 0)) := by rw [hw0]; exact heap_alloc_new _ _
  have haw : Calls Tryd.prog 8 #[] w0 fun e w1 => e = .returned (.bool true) ∧ Below w.heap.size w w1 ∧ w1.cell? ⟨w.heap.size, 0, none⟩ = some (.int .i64 s0) ∧ w1.cell? ⟨w.heap.size, 1, none⟩ = some (.int .i64 s1) ∧ w1.cell? ⟨w.heap.size, 2, none⟩ = some (.int .i64 s2) := by
    refine (awake_any (hE.below hb0)).mono ?_
    rintro e w1 ⟨rfl, hb1⟩
    have hk := (hb1.block w.heap.size (Array.getElem?_eq_some_iff.1 hk0).1).trans hk0
    exact ⟨rfl, hb0.trans (hb1.mono hb0.size), cells_of hk 0 _ rfl, cells_of hk 1 _ rfl, cells_of hk 2 _ rfl⟩
  have HAW := Lib.hid haw
  have HC := Lib.hid hC
  have hml' : (E.length : Int) ≤ 9223372036854775807 := by have : maxLen = 9223372036854775807 := rfl; omega
  clear h hC haw hE hb0 hk0
  go_enter Tryd.func3, Tryd.ntmps3
  go_upto_region 1 with fail
  rw [← hw0]
  clear hw0
  go_upto_region 5 with (first | (go_at_call 8; refine HAW.out.mono ?_; rintro _ w1 ⟨rfl, hb1, c0, c1, c2⟩) | (go_at_call 9; refine (begun_any s0 s1 s2 _).mono ?_; rintro _ w2 ⟨pa, la, pc, lc, l, j, n, p, c, n', k', rfl, hok, hfr, hb2⟩))
  have hs1 := hb1.size
  have hs2 := hb2.size
  have hat := PlanAt.new hfr hs2
  have hbw : Below w.heap.size w (w2.alloc (.cells #[.int .i64 n', .int .i64 k', .slice pa l pc, .slice la j lc] 28)) := (hb1.trans (hb2.mono hs1)).alloc (by omega) _
  have hat := hat.mono hs1
  clear hfr hb1 hb2 c0 c1 c2
  generalize w2.alloc (.cells #[.int .i64 n', .int .i64 k', .slice pa l pc, .slice la j lc] 28) = w3 at *
  generalize w2.heap.size = X at *
  generalize newP n p c = pz at *
  clear hok
  go_loopg [6] E.length (fun gk i wr => ∃ (k : Nat) (p : Pl), k ≤ E.length ∧ k ≤ 150 ∧ gk = E.length - k ∧ i = .int .i64 k ∧ PlanAt wr w.heap.size X p ∧ Below w.heap.size w wr)
  case atStart => exact ⟨0, _, Nat.zero_le _, Nat.zero_le _, rfl, rfl, hat, hbw⟩
  case round =>
    obtain ⟨k, p, hk, hk150, rfl, rfl, hX, hbel⟩ := hrel
    have HX := Lib.hid (And.intro hX hbel)
    clear hX hbel
    by_cases hcond : k < E.length ∧ k < 150
    case neg =>
      by_cases hlt : k < E.length
      · have i1 : (k : Int) < (E.length : Int) := by omega
        have i3 : ¬ (k : Int) < 150 := by omega
        go_wp2
        go_ret
        exact ⟨rfl, HX.out.2⟩
      · have i1 : ¬ (k : Int) < (E.length : Int) := by omega
        go_wp2
        go_ret
        exact ⟨rfl, HX.out.2⟩
    case pos =>
      obtain ⟨hlt, h150⟩ := hcond
      obtain ⟨b, off, rfl, hb, c0, c1, c2, c3⟩ := HC.out k hlt
      have i1 : (k : Int) < (E.length : Int) := by omega
      have i2 : (0 : Int) ≤ (k : Int) := by omega
      have i3 : (k : Int) < 150 := by omega
      obtain ⟨pa, la, pc, lc, hrdy⟩ := Ready.make HX.out.1 HX.out.2 hb c0 c1 c2 c3
      have RDY := Lib.hid hrdy
      clear c0 c1 c2 c3 hrdy
      obtain ⟨x, hx⟩ : ∃ x, E[k] = x := ⟨_, rfl⟩
      rw [hx] at RDY
      obtain ⟨R, hR⟩ : ∃ R, applyP p x = R := ⟨_, rfl⟩
      have HR := Lib.hid hR
      clear hx hR
      go_upto_region 7 with fail
      go_cut [7, 8, 9] from 21 to 189 (fun v7 v8 v9 wx => ∃ (Y : Nat) (ta : Option Addr) (tc : Nat), v7 = .pointer (some ⟨Y, 0, none⟩) ∧ v8 = .slice ta R.2.1.length tc ∧ v9 = .int .i64 R.2.2 ∧ PlanAt wx wr.heap.size Y R.1 ∧ Below wr.heap.size wr wx ∧ IntsRd wx (.slice ta R.2.1.length tc) R.2.1)
      case first =>
        refine sf_r7 (by kernel_rfl) RDY.out HR.out i1 i2 (fun a' w' h => ?_) (by assumption)
        obtain ⟨v7, v8, v9, v30, v31, v32, v33, v34, v35, v36, v37, v38, v39, v40, ⟨Y, ta, tc, rfl, rfl, rfl, hh⟩, rfl⟩ := h
        go_step
        repeat apply Exists.intro
        exact ⟨⟨Y, ta, tc, rfl, rfl, rfl, hh⟩, rfl⟩
      case rest =>
        obtain ⟨Y, ta, tc, rfl, rfl, rfl, hY, hbx, hti⟩ := hcut
        obtain ⟨wd, hwd⟩ : ∃ wd, wd = wc := ⟨_, rfl⟩
        subst hwd
        have hXd := HX.out.1.below hbx
        have hbw := HX.out.2.trans (hbx.mono HX.out.2.size)
        obtain ⟨pa1, la1, pc1, lc1, hXC, hXP⟩ := hXd.toIn.cells
        obtain ⟨pa2, la2, pc2, lc2, hYC, hYP⟩ := hY.toIn.cells
        have HD := Lib.hid (And.intro hXd (And.intro hbw (And.intro hY (And.intro hbx.size HX.out.1.2.1))))
        have HXC := Lib.hid (And.intro hXC hXP)
        have HYC := Lib.hid (And.intro hYC hYP)
        have HTI := Lib.hid hti
        obtain ⟨y0, y1, y2, y3, hyr⟩ := hYC wd (Below.refl _ _)
        obtain ⟨x0, x1, x2, x3, hxr⟩ := hXC wd (Below.refl _ _)
        clear hXd hbw hY hbx hti hXC hXP hYC hYP
        by_cases hz : R.2.2 = 0
        case neg =>
          obtain ⟨hq0, ht0⟩ := applyP_no (p := p) (x := x) (by rw [HR.out]; exact hz)
          rw [HR.out] at hq0 ht0
          have hl0 : R.2.1.length = 0 := by rw [ht0]; rfl
          have hsame : Calls Tryd.prog 11 #[.agg #[.int .i64 R.1.nodes, .int .i64 R.1.copies, .slice pa2 R.1.parts.length pc2, .slice la2 R.1.lives.length lc2], .agg #[.int .i64 0, .int .i64 0, .slice none 0 0, .slice none 0 0]] wd fun e w' => e = .returned (.bool true) ∧ Below wd.heap.size wd w' := by
            refine (RSame_any hyr (PlanFrom.zero wd 0).rd).mono ?_
            rintro e w' ⟨rfl, hb⟩
            exact ⟨by rw [decide_eq_true hq0], hb⟩
          have HSM := Lib.hid hsame
          clear hq0 ht0 hsame hyr hxr
          go_wp2_with (first | (go_at_call 11; with_reducible refine HSM.out.mono ?_; rintro _ w9 ⟨rfl, hb9⟩))
          go_roundg (E.length - (k + 1))
          case measure => omega
          case rel => exact ⟨k + 1, p, by omega, by omega, rfl, by go_num, HD.out.1.below hb9, HD.out.2.1.trans (hb9.mono HD.out.2.1.size)⟩
        case pos =>
          have hRe : applyP p x = (R.1, R.2.1, 0) := by rw [HR.out, ← hz]
          have hg := applyP_good hRe
          have hgp := (canB_iff.1 (applyP_yes hRe).1).1
          obtain ⟨hs1', hs2', hst⟩ := applyP_step hRe
          have hlv := applyP_lives hRe
          have hgd : Calls Tryd.prog 12 #[.agg #[.int .i64 R.1.nodes, .int .i64 R.1.copies, .slice pa2 R.1.parts.length pc2, .slice la2 R.1.lives.length lc2]] wd fun e w' => e = .returned (.bool true) ∧ Below wd.heap.size wd w' := by
            refine (Good_any hyr).mono ?_
            rintro e w' ⟨rfl, hb⟩
            exact ⟨by rw [hg], hb⟩
          have hp4 := (goodP_iff.1 hgp).2.2.1
          have m1 : ¬ (R.1.parts.length : Int) < (p.parts.length : Int) := by omega
          have m2 : ¬ ((p.parts.length : Int) + 1) < (R.1.parts.length : Int) := by omega
          have m3 : wrap64 ((p.parts.length : Int) + 1) = (p.parts.length : Int) + 1 := IntWalk.wrap64_in _ (by omega)
          have HGD := Lib.hid hgd
          have HM := Lib.hid (And.intro (show decide (R.1.parts.length < p.parts.length) = false from decide_eq_false (Nat.not_lt.2 hs1')) (show decide ((p.parts.length : Int) + 1 < (R.1.parts.length : Int)) = false from decide_eq_false m2))
          have HG := Lib.hid (And.intro hg (And.intro hgp (And.intro hs1' (And.intro hst hlv))))
          rw [hz]
          clear hRe hg hgp hst hlv hgd hyr hxr hz
          go_upto_region 11 with fail
          go_cut [73] from 21 to 189 (fun v wx => v = .bool false ∧ Below wd.heap.size wd wx)
          case first =>
            go_wp2_with (first | (go_at_call 12; refine HGD.out.mono ?_; rintro _ w9 ⟨rfl, hb9⟩; obtain ⟨y0, y1, y2, y3, -⟩ := HYC.out.1 w9 hb9; obtain ⟨x0, x1, x2, x3, -⟩ := HXC.out.1 w9 hb9))
            go_meet
            exact ⟨by rw [HM.out.1, HM.out.2]; rfl, hb9⟩
          case rest =>
          obtain ⟨rfl, hbx⟩ := hcut
          obtain ⟨we, hwe⟩ : ∃ we, we = wc := ⟨_, rfl⟩
          subst hwe
          have HBX := Lib.hid hbx
          clear hbx m1 m2 m3 y0 y1 y2 y3 x0 x1 x2 x3 HGD
          go_wp2
          go_loopg [10] p.parts.length (fun gk i wt => ∃ s : Nat, s ≤ p.parts.length ∧ gk = p.parts.length - s ∧ i = .int .i64 s ∧ Below wd.heap.size wd wt)
          case atStart => exact ⟨0, Nat.zero_le _, rfl, rfl, HBX.out⟩
          case round =>
          obtain ⟨s, hs, rfl, rfl, hbt⟩ := hrel
          have HBT := Lib.hid hbt
          obtain ⟨-, -, x2, -, -⟩ := HXC.out.1 wr hbt
          obtain ⟨-, -, y2, -, -⟩ := HYC.out.1 wr hbt
          clear hbt
          by_cases hsl : s < p.parts.length
          · have hsq : s < R.1.parts.length := by omega
            have n1 : (s : Int) < (p.parts.length : Int) := by omega
            have n2 : (s : Int) < (R.1.parts.length : Int) := by omega
            have n0 : (0 : Int) ≤ (s : Int) := by omega
            obtain ⟨b1, o1, ca, cc, rfl, hpX⟩ := HXC.out.2 s hsl
            obtain ⟨b2, o2, cb, cd, rfl, hpY⟩ := HYC.out.2 s hsq
            have hst := HG.out.2.2.2.1 s hsl hsq
            have hga := (goodP_iff.1 HG.out.2.1).2.2.2.1 _ (List.getElem_mem hsl)
            have hgb := (goodP_iff.1 HG.out.1).2.2.2.1 _ (List.getElem_mem hsq)
            have hla := (small_of_good HG.out.2.1).2.1 _ (List.getElem_mem hsl)
            have hlb := (small_of_good HG.out.1).2.1 _ (List.getElem_mem hsq)
            obtain ⟨a, ha⟩ : ∃ a, p.parts[s] = a := ⟨_, rfl⟩
            obtain ⟨c, hc⟩ : ∃ c, R.1.parts[s] = c := ⟨_, rfl⟩
            rw [ha] at hpX hst hga hla
            rw [hc] at hpY hst hgb hlb
            have HPX := Lib.hid hpX
            have HPY := Lib.hid hpY
            have HST := Lib.hid hst
            have HE := Lib.hid (And.intro (isPlaceB_iff.1 hga).2.2.1 (isPlaceB_iff.1 hgb).2.2.1)
            obtain ⟨p0, p1, p2, -⟩ := hpX wr HBT.out
            obtain ⟨q0, q1, q2, -⟩ := hpY wr HBT.out
            clear ha hc hpX hpY hst hga hgb
            have hal := fun o => HBT.out.alloc HBT.out.size o
            have y2' := fun o => (HYC.out.1 (wr.alloc o) (hal o)).2.2.1
            have q0' := fun o => (HPY.out (wr.alloc o) (hal o)).1
            have q1' := fun o => (HPY.out (wr.alloc o) (hal o)).2.1
            have q2' := fun o => (HPY.out (wr.alloc o) (hal o)).2.2.1
            clear hal
            go_upto_region 18 with fail
            have hb2 := below_alloc2 wr (.cells #[.int .i64 a.epoch, .slice ca a.chain.length cc, .int .i64 a.learner] 39) (.cells #[.int .i64 c.epoch, .slice cb c.chain.length cd, .int .i64 c.learner] 39)
            have hA : ((wr.alloc (.cells #[.int .i64 a.epoch, .slice ca a.chain.length cc, .int .i64 a.learner] 39)).alloc (.cells #[.int .i64 c.epoch, .slice cb c.chain.length cd, .int .i64 c.learner] 39)).heap[wr.heap.size]? = some (.cells #[.int .i64 a.epoch, .slice ca a.chain.length cc, .int .i64 a.learner] 39 (0, 0)) := by
              rw [Below.heap_alloc _ _ _ (by simp)]; exact heap_alloc_new _ _
            have hB := heap_new1 wr (.cells #[.int .i64 a.epoch, .slice ca a.chain.length cc, .int .i64 a.learner] 39) (.cells #[.int .i64 c.epoch, .slice cb c.chain.length cd, .int .i64 c.learner] 39)
            clear x2 y2 p0 p1 p2 q0 q1 q2 y2' q0' q1' q2'
            generalize (wr.alloc (.cells #[.int .i64 a.epoch, .slice ca a.chain.length cc, .int .i64 a.learner] 39)).alloc (.cells #[.int .i64 c.epoch, .slice cb c.chain.length cd, .int .i64 c.learner] 39) = wb at *
            have hkeep : ∀ W, Below wb.heap.size wb W → (W.cell? ⟨wr.heap.size, 0, none⟩ = some (.int .i64 a.epoch) ∧ W.cell? ⟨wr.heap.size, 1, none⟩ = some (.slice ca a.chain.length cc) ∧ W.cell? ⟨wr.heap.size, 2, none⟩ = some (.int .i64 a.learner) ∧
                W.cell? ⟨wr.heap.size + 1, 0, none⟩ = some (.int .i64 c.epoch) ∧ W.cell? ⟨wr.heap.size + 1, 1, none⟩ = some (.slice cb c.chain.length cd) ∧ W.cell? ⟨wr.heap.size + 1, 2, none⟩ = some (.int .i64 c.learner)) ∧ Below wd.heap.size wd W := by
              intro W hW
              have h1 := (hW.block _ (Array.getElem?_eq_some_iff.1 hA).1).trans hA
              have h2 := (hW.block _ (Array.getElem?_eq_some_iff.1 hB).1).trans hB
              exact ⟨⟨cells_of h1 0 _ rfl, cells_of h1 1 _ rfl, cells_of h1 2 _ rfl, cells_of h2 0 _ rfl, cells_of h2 1 _ rfl, cells_of h2 2 _ rfl⟩, HBT.out.trans ((hb2.trans (hW.mono hb2.size)).mono HBT.out.size)⟩
            have HK := Lib.hid hkeep
            obtain ⟨is, his⟩ : ∃ is, R.2.1.contains (s : Int) = is := ⟨_, rfl⟩
            have hin : Calls Tryd.prog 13 #[.slice ta R.2.1.length tc, .int .i64 s] wb fun e w' => e = .returned (.bool is) ∧ Below wb.heap.size wb w' := by
              refine (Lin_any (HTI.out.below (hkeep wb (Below.refl _ _)).2) s).mono ?_
              rintro e w' ⟨rfl, hb⟩
              rw [his]
              exact ⟨rfl, hb⟩
            have HIN := Lib.hid hin
            have HIS := Lib.hid his
            clear hkeep hA hB hb2 his hin
            go_cut [13] from 74 to 177 (fun v13 wx => v13 = .bool is ∧ Below wb.heap.size wb wx)
            case first =>
              go_wp2_with (first | (go_at_call 13; refine HIN.out.mono ?_; rintro _ w9 ⟨rfl, hb9⟩))
              go_meet
              exact ⟨rfl, hb9⟩
            case rest =>
            obtain ⟨rfl, hbg⟩ := hcut
            obtain ⟨wg, hwg⟩ : ∃ wg, wg = wc := ⟨_, rfl⟩
            subst hwg
            have HBG := Lib.hid hbg
            obtain ⟨⟨a0, a1, a2, b0, b1, b2⟩, -⟩ := HK.out wg hbg
            clear hbg HIN
            go_upto_region 19 with fail
            go_cut [125] from 74 to 177 (fun v wx => v = .bool false ∧ Below wb.heap.size wb wx)
            case first =>
              rcases HST.out with ⟨hnm, heq⟩ | ⟨hm, hep, -⟩
              · have hf : is = false := by rw [← HIS.out]; simpa using hnm
                subst hf
                have hpl : Calls Tryd.prog 14 #[.agg #[.int .i64 a.epoch, .slice ca a.chain.length cc, .int .i64 a.learner], .agg #[.int .i64 c.epoch, .slice cb c.chain.length cd, .int .i64 c.learner]] wg fun e w' => e = .returned (.bool true) ∧ Below wb.heap.size wb w' := by
                  have hbd := (HK.out wg HBG.out).2
                  refine (RPlaces_any (HPX.out wg hbd).2.2.2 (HPY.out wg hbd).2.2.2).mono ?_
                  rintro e w' ⟨rfl, hb⟩
                  exact ⟨by rw [decide_eq_true heq.symm], HBG.out.trans (hb.mono HBG.out.size)⟩
                have HPL := Lib.hid hpl
                have m0 : c.epoch = a.epoch := by rw [heq]
                have m1 : ¬ c.epoch < a.epoch := by omega
                have m2 : ¬ a.epoch < c.epoch := by omega
                have m3 : wrap64 (c.epoch - a.epoch) = 0 := by rw [m0, Int.sub_self]; exact IntWalk.wrap64_in _ (by omega)
                have M4 := Lib.hid (show decide (1 < c.epoch - a.epoch) = false from decide_eq_false (by omega))
                clear hnm heq hpl m0
                go_wp2_with (first | (go_at_call 14; refine HPL.out.mono ?_; rintro _ w9 ⟨rfl, hb9⟩; obtain ⟨⟨a0, a1, a2, b0, b1, b2⟩, -⟩ := HK.out w9 hb9))
                go_meet
                exact ⟨by first | rfl | rw [M4.out], hb9⟩
              · have hf : is = true := by rw [← HIS.out]; simpa using hm
                subst hf
                have m1 : ¬ c.epoch < a.epoch := by omega
                have m2 : a.epoch < c.epoch := by omega
                have m3 : wrap64 (c.epoch - a.epoch) = 1 := by rw [hep, show a.epoch + 1 - a.epoch = 1 by omega]; exact IntWalk.wrap64_in _ (by omega)
                have M4 := Lib.hid (show decide (1 < c.epoch - a.epoch) = false from decide_eq_false (by omega))
                clear hm hep
                go_wp2
                go_meet
                exact ⟨by first | rfl | rw [M4.out], HBG.out⟩
            case rest =>
            obtain ⟨rfl, hbh⟩ := hcut
            have hsub : c = a ∨ ChainTo a c := by
              rcases HST.out with ⟨-, h⟩ | ⟨-, -, h⟩
              · exact .inl h
              · exact .inr h
            have hthin : Thin a.chain c.chain a.learner := by
              rcases hsub with h | h
              · rw [h]; exact Thin.start (.inl (List.Sublist.refl _))
              · exact Thin.start h
            have hfc : ∀ W, Below wb.heap.size wb W → W.cell? ⟨wr.heap.size, 1, none⟩ = some (.slice ca a.chain.length cc) ∧ W.cell? ⟨wr.heap.size, 2, none⟩ = some (.int .i64 a.learner) ∧ W.cell? ⟨wr.heap.size + 1, 1, none⟩ = some (.slice cb c.chain.length cd) := by
              intro W hW
              obtain ⟨⟨a0, a1, a2, b0, b1, b2⟩, -⟩ := HK.out W hW
              exact ⟨a1, a2, b1⟩
            have hia := (HPX.out wb (HK.out wb (Below.refl _ _)).2).2.2.2
            have hic := (HPY.out wb (HK.out wb (Below.refl _ _)).2).2.2.2
            have HF := Lib.hid (And.intro hfc (And.intro hia (And.intro hic (And.intro hthin hbh))))
            clear hsub hthin hfc hia hic hbh a0 a1 a2 b0 b1 b2
            go_upto_block 4 with fail
            refine sf_b4 (by kernel_rfl) HF.out.1 HF.out.2.1 HF.out.2.2.1 hla hlb HF.out.2.2.2.1 HF.out.2.2.2.2 (fun a' w' h => ?_)
            obtain ⟨u4, h⟩ := h
            obtain ⟨u14, h⟩ := h
            obtain ⟨u15, h⟩ := h
            obtain ⟨u126, h⟩ := h
            obtain ⟨u127, h⟩ := h
            obtain ⟨u128, h⟩ := h
            obtain ⟨u129, h⟩ := h
            obtain ⟨u130, h⟩ := h
            obtain ⟨u131, h⟩ := h
            obtain ⟨u132, h⟩ := h
            obtain ⟨u133, h⟩ := h
            obtain ⟨u134, h⟩ := h
            obtain ⟨u135, h⟩ := h
            obtain ⟨u136, h⟩ := h
            obtain ⟨u137, h⟩ := h
            obtain ⟨u138, h⟩ := h
            obtain ⟨u139, h⟩ := h
            obtain ⟨u140, h⟩ := h
            obtain ⟨u141, h⟩ := h
            obtain ⟨u142, h⟩ := h
            obtain ⟨u143, h⟩ := h
            obtain ⟨u144, h⟩ := h
            obtain ⟨u145, h⟩ := h
            obtain ⟨u146, h⟩ := h
            obtain ⟨u147, h⟩ := h
            obtain ⟨u148, h⟩ := h
            obtain ⟨u149, h⟩ := h
            obtain ⟨u150, h⟩ := h
            obtain ⟨u151, h⟩ := h
            obtain ⟨u152, h⟩ := h
            obtain ⟨u153, h⟩ := h
            obtain ⟨u154, h⟩ := h
            obtain ⟨u155, h⟩ := h
            obtain ⟨u156, h⟩ := h
            obtain ⟨u157, h⟩ := h
            obtain ⟨u158, h⟩ := h
            obtain ⟨u159, h⟩ := h
            obtain ⟨u160, h⟩ := h
            obtain ⟨u161, h⟩ := h
            obtain ⟨u162, h⟩ := h
            obtain ⟨u163, h⟩ := h
            obtain ⟨u164, h⟩ := h
            obtain ⟨u165, h⟩ := h
            obtain ⟨u166, h⟩ := h
            obtain ⟨u167, h⟩ := h
            obtain ⟨u168, h⟩ := h
            obtain ⟨u169, h⟩ := h
            obtain ⟨u170, h⟩ := h
            obtain ⟨u171, h⟩ := h
            obtain ⟨u172, h⟩ := h
            obtain ⟨u173, h⟩ := h
            obtain ⟨u174, h⟩ := h
            obtain ⟨u175, h⟩ := h
            obtain ⟨u176, h⟩ := h
            obtain ⟨u177, h⟩ := h
            obtain ⟨hbi, rfl⟩ := h
            have HBI := Lib.hid (HK.out _ hbi).2
            clear hbi
            go_wp2
            go_roundg (p.parts.length - (s + 1))
            case measure => omega
            case rel => exact ⟨s + 1, by omega, rfl, by go_num, HBI.out⟩
          · have n1 : ¬ (s : Int) < (p.parts.length : Int) := by omega
            have hs5 := (small_of_good HG.out.2.1).2.2
            have hs6 := (small_of_good HG.out.1).2.2
            clear y2
            go_upto_block 8 with fail
            refine sf_b8 (by kernel_rfl) HXC.out.1 HYC.out.1 (goodP_iff.1 HG.out.2.1).2.2.2.2.2 (goodP_iff.1 HG.out.1).2.2.2.2.2 (by omega) (by omega) HG.out.2.2.2.2 HBT.out (fun a' w' h => ?_)
            obtain ⟨u4, h⟩ := h
            obtain ⟨u16, h⟩ := h
            obtain ⟨u178, h⟩ := h
            obtain ⟨u179, h⟩ := h
            obtain ⟨u180, h⟩ := h
            obtain ⟨u181, h⟩ := h
            obtain ⟨u182, h⟩ := h
            obtain ⟨u183, h⟩ := h
            obtain ⟨u184, h⟩ := h
            obtain ⟨u185, h⟩ := h
            obtain ⟨u186, h⟩ := h
            obtain ⟨u187, h⟩ := h
            obtain ⟨u188, h⟩ := h
            obtain ⟨hbj, rfl⟩ := h
            obtain ⟨hXd, hbw, hYd, hsz, hXlt⟩ := HD.out
            obtain ⟨hXn, hXl, pa8, la8, pc8, lc8, hXb, -⟩ := hXd.below hbj
            have hYj := hYd.below hbj
            obtain ⟨pa9, la9, pc9, lc9, y0, y1, y2, y3, -⟩ := hYj.cells
            have f0 := cells_of hXb 0 _ rfl
            have f1 := cells_of hXb 1 _ rfl
            have f2 := cells_of hXb 2 _ rfl
            have f3 := cells_of hXb 3 _ rfl
            have g0 := frozen_of (j := 0) hXb
            have g1 := frozen_of (j := 1) hXb
            have g2 := frozen_of (j := 2) hXb
            have g3 := frozen_of (j := 3) hXb
            have hXq := hYj.copy hXlt hXn hXb y0 y1 y2 y3
            have hset := upd_set4 w' X (.int .i64 R.1.nodes) (.int .i64 R.1.copies) (.slice pa9 R.1.parts.length pc9) (.slice la9 R.1.lives.length lc9)
            have hbq := (hbw.trans (hbj.mono hbw.size)).trans (hset.toBelow (by have := hbw.size; have := hbj.size; omega) (fun b e => by omega))
            have HQ := Lib.hid (And.intro hXq hbq)
            clear hXd hbw hYd hsz hXn hXl hXb hYj hXq hset hbq hbj
            go_wp2
            go_roundg (E.length - (k + 1))
            case measure => omega
            case rel => exact ⟨k + 1, R.1, by omega, by omega, rfl, by go_num, HQ.out.1, HQ.out.2⟩
end Go.Proofs.YtjkobbmdemooaaaDoor
