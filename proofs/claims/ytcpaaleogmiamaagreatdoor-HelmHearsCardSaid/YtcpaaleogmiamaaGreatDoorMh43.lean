/- The walk of the reference's Same. -/
/- What HelmPower carries through its loop. -/
import Derived.Test.YtcpaaleogmiamaaGreatDoorMh42
import Derived.Test.YtcpaaleogmiamaaGreatDoorMh23
namespace Go.Proofs.YtcpaaleogmiamaaGreatDoor
open Go.RowKit

theorem take_next {α : Type} {l l' : List α} {k : Nat} (h : l.take k = l'.take k) (h1 : k < l.length) (h2 : k < l'.length) (e : l[k] = l'[k]) : l.take (k + 1) = l'.take (k + 1) := by
  rw [List.take_succ_eq_append_getElem h1, List.take_succ_eq_append_getElem h2, h, e]

set_option maxRecDepth 100000 in
set_option maxHeartbeats 4000000 in
theorem RSame_any {w : World} {v v' : Value} {p q : Pl} (h : PlanRd w v p) (h' : PlanRd w v' q) : Calls Tryz.prog 27 #[v, v'] w fun e w' => e = .returned (.bool (decide (p = q))) ∧ Below w.heap.size w w' := by
  obtain ⟨pv, lv, rfl, hp, hl⟩ := h
  obtain ⟨pv', lv', rfl, hp', hl'⟩ := h'
  obtain ⟨pa, pc, rfl, -, hm1, hP⟩ := hp.cells
  obtain ⟨la, lc, rfl, -, hm2, hLc⟩ := hl.cells
  obtain ⟨pa', pc', rfl, -, hm3, hP'⟩ := hp'.cells
  obtain ⟨la', lc', rfl, -, hm4, hLc'⟩ := hl'.cells
  obtain ⟨n1, c1, P, L⟩ := p
  obtain ⟨n2, c2, P', L'⟩ := q
  simp only at *
  have hmx : maxLen = 9223372036854775807 := rfl
  have hm1 : (P.length : Int) ≤ 9223372036854775807 := by omega
  have hm2 : (L.length : Int) ≤ 9223372036854775807 := by omega
  obtain ⟨R, hR⟩ : ∃ R, decide ((⟨n1, c1, P, L⟩ : Pl) = ⟨n2, c2, P', L'⟩) = R := ⟨_, rfl⟩
  rw [hR]
  have hRf : ¬ (n1 = n2 ∧ c1 = c2 ∧ P = P' ∧ L = L') → R = false := by
    intro h
    rw [← hR, decide_eq_false_iff_not, Pl.mk.injEq]
    exact h
  have hRt : (n1 = n2 ∧ c1 = c2 ∧ P = P' ∧ L = L') → R = true := by
    intro h
    rw [← hR, decide_eq_true_iff, Pl.mk.injEq]
    exact h
  obtain ⟨wa, hwa⟩ : ∃ wa, wa = (w.alloc (.cells #[.int .i64 n1, .int .i64 c1, .slice pa P.length pc, .slice la L.length lc] 52)).alloc (.cells #[.int .i64 n2, .int .i64 c2, .slice pa' P'.length pc', .slice la' L'.length lc'] 52) := ⟨_, rfl⟩
  have hbwa : Below w.heap.size w wa := by rw [hwa]; exact below_alloc2 _ _ _
  have b0 : wa.heap[w.heap.size]? = some (.cells #[.int .i64 n1, .int .i64 c1, .slice pa P.length pc, .slice la L.length lc] 52 (0, 0)) := by rw [hwa, Below.heap_alloc _ _ _ (by simp)]; exact heap_alloc_new _ _
  have b1 : wa.heap[w.heap.size + 1]? = some (.cells #[.int .i64 n2, .int .i64 c2, .slice pa' P'.length pc', .slice la' L'.length lc'] 52 (0, 0)) := by rw [hwa]; exact heap_new1 _ _ _
  have hsz : wa.heap.size = w.heap.size + 2 := by rw [hwa]; simp
  have hkeep : ∀ W, Below wa.heap.size wa W → W.cell? ⟨w.heap.size, 2, none⟩ = some (.slice pa P.length pc) ∧ W.cell? ⟨w.heap.size, 3, none⟩ = some (.slice la L.length lc) ∧ W.cell? ⟨w.heap.size + 1, 2, none⟩ = some (.slice pa' P'.length pc') ∧ W.cell? ⟨w.heap.size + 1, 3, none⟩ = some (.slice la' L'.length lc') ∧ Below w.heap.size w W := by
    intro W hb
    have d0 := (hb.block w.heap.size (by omega)).trans b0
    have d1 := (hb.block (w.heap.size + 1) (by omega)).trans b1
    exact ⟨cells_of d0 2 _ rfl, cells_of d0 3 _ rfl, cells_of d1 2 _ rfl, cells_of d1 3 _ rfl, hbwa.trans (hb.mono (by omega))⟩
  have x0 := cells_of b0 0 _ rfl
  have x1 := cells_of b0 1 _ rfl
  have x2 := cells_of b0 2 _ rfl
  have x3 := cells_of b0 3 _ rfl
  have y0 := cells_of b1 0 _ rfl
  have y1 := cells_of b1 1 _ rfl
  have y2 := cells_of b1 2 _ rfl
  have y3 := cells_of b1 3 _ rfl
  have HRF := Lib.hid hRf
  have HRT := Lib.hid hRt
  have HK := Lib.hid hkeep
  have HB := Lib.hid hbwa
  have HP := Lib.hid hP
  have HP' := Lib.hid hP'
  have HL := Lib.hid hLc
  have HL' := Lib.hid hLc'
  have hszl : w.heap.size < wa.heap.size := by omega
  clear hR hRf hRt hkeep b0 b1 hsz hbwa hp hp' hl hl' hP hP' hLc hLc' hm3 hm4 hmx
  by_cases e1 : n1 = n2
  case neg =>
    have hr := HRF.out (fun h => e1 h.1)
    subst hr
    go_enter Tryz.func27, Tryz.ntmps27
    go_upto_region 1 with fail
    rw [← hwa]
    clear hwa
    go_wp2
    go_ret
    exact ⟨rfl, HB.out⟩
  subst e1
  by_cases e2 : c1 = c2
  case neg =>
    have hr := HRF.out (fun h => e2 h.2.1)
    subst hr
    go_enter Tryz.func27, Tryz.ntmps27
    go_upto_region 1 with fail
    rw [← hwa]
    clear hwa
    go_wp2
    go_ret
    exact ⟨rfl, HB.out⟩
  subst e2
  by_cases e3 : P.length = P'.length
  case neg =>
    have hr := HRF.out (fun h => e3 (by rw [h.2.2.1]))
    subst hr
    have e3' : ¬ (P.length : Int) = (P'.length : Int) := by omega
    go_enter Tryz.func27, Tryz.ntmps27
    go_upto_region 1 with fail
    rw [← hwa]
    clear hwa
    go_wp2
    go_ret
    exact ⟨rfl, HB.out⟩
  by_cases e4 : L.length = L'.length
  case neg =>
    have hr := HRF.out (fun h => e4 (by rw [h.2.2.2]))
    subst hr
    have e3' : (P.length : Int) = (P'.length : Int) := by omega
    have e4' : ¬ (L.length : Int) = (L'.length : Int) := by omega
    clear e3
    go_enter Tryz.func27, Tryz.ntmps27
    go_upto_region 1 with fail
    rw [← hwa]
    clear hwa
    go_wp2
    go_ret
    exact ⟨rfl, HB.out⟩
  have HE := Lib.hid (And.intro e3 e4)
  have e3' : ((P'.length : Int)) = (P.length : Int) := by omega
  have e4' : ((L'.length : Int)) = (L.length : Int) := by omega
  clear e3 e4
  go_enter Tryz.func27, Tryz.ntmps27
  go_upto_region 1 with fail
  rw [← hwa]
  clear hwa
  go_wp2
  clear x0 x1 x2 x3 y0 y1 y2 y3
  go_loopg [5] P.length (fun gk i wr => ∃ k : Nat, k ≤ P.length ∧ gk = P.length - k ∧ i = .int .i64 k ∧ P.take k = P'.take k ∧ Below wa.heap.size wa wr)
  case atStart => exact ⟨0, Nat.zero_le _, rfl, rfl, rfl, Below.refl _ _⟩
  case round =>
    obtain ⟨k, hk, rfl, rfl, heq, hbel⟩ := hrel
    have HQ := Lib.hid heq
    obtain ⟨x2, x3, y2, y3, hbw⟩ := HK.out wr hbel
    clear heq
    by_cases hlt : k < P.length
    · have hlt' : k < P'.length := by have := HE.out.1; omega
      obtain ⟨b, off, ca, cc, rfl, hb, g0, g1, g2, hr⟩ := HP.out k hlt
      obtain ⟨b', off', ca', cc', rfl, hb', g0', g1', g2', hr'⟩ := HP'.out k hlt'
      have HNX := Lib.hid (fun e => take_next HQ.out hlt hlt' e)
      have HNE := Lib.hid (fun (h : ¬ P[k] = P'[k]) => HRF.out (fun h2 => h (by simp only [h2.2.2.1])))
      have hpl : ∀ W, Below wr.heap.size wr W → Calls Tryz.prog 83 #[partV P[k] ca cc, partV P'[k] ca' cc'] W fun e w' => e = .returned (.bool (decide (P[k] = P'[k]))) ∧ Below wr.heap.size wr w' := by
        intro W hbW
        refine (RPlaces_any ((hr.below hbw).below hbW) ((hr'.below hbw).below hbW)).mono ?_
        rintro e w' ⟨rfl, hb5⟩
        exact ⟨rfl, hbW.trans (hb5.mono hbW.size)⟩
      have hcl : ∀ W, Below wr.heap.size wr W → W.cell? ⟨w.heap.size, 2, none⟩ = some (.slice (some ⟨b, off, none⟩) P.length pc) ∧ W.cell? ⟨w.heap.size + 1, 2, none⟩ = some (.slice (some ⟨b', off', none⟩) P'.length pc') ∧
          W.cell? ⟨b, off + k * 3, none⟩ = some (.int .i64 P[k].epoch) ∧ W.cell? ⟨b, off + k * 3 + 1, none⟩ = some (.slice ca P[k].chain.length cc) ∧ W.cell? ⟨b, off + k * 3 + 2, none⟩ = some (.int .i64 P[k].learner) ∧
          W.cell? ⟨b', off' + k * 3, none⟩ = some (.int .i64 P'[k].epoch) ∧ W.cell? ⟨b', off' + k * 3 + 1, none⟩ = some (.slice ca' P'[k].chain.length cc') ∧ W.cell? ⟨b', off' + k * 3 + 2, none⟩ = some (.int .i64 P'[k].learner) := by
        intro W hbW
        have hbz := hbw.size
        have hW : Below w.heap.size w W := hbw.trans (hbW.mono hbz)
        obtain ⟨z2, -, z3, -, -⟩ := HK.out W (hbel.trans (hbW.mono hbel.size))
        exact ⟨z2, z3, below_some hW g0 hb, below_some hW g1 hb, below_some hW g2 hb, below_some hW g0' hb', below_some hW g1' hb', below_some hW g2' hb'⟩
      have HPL := Lib.hid hpl
      have HCL := Lib.hid hcl
      have HBE := Lib.hid hbel
      have i1 : (k : Int) < (P.length : Int) := by omega
      have i2 : (0 : Int) ≤ (k : Int) := by omega
      obtain ⟨bb, hbb⟩ : ∃ bb, decide (P[k] = P'[k]) = bb := ⟨_, rfl⟩
      rw [hbb] at HPL
      have HBB := Lib.hid hbb
      clear g0 g1 g2 g0' g1' g2' hr hr' hpl hcl hbel hbw x2 x3 y2 y3 hbb
      generalize P[k] = pk at *
      generalize P'[k] = pk' at *
      obtain ⟨ep, ch, le⟩ := pk
      obtain ⟨ep', ch', le'⟩ := pk'
      simp only at *
      obtain ⟨x2, -, y2, -, -⟩ := HK.out wr HBE.out
      go_upto_region 6 with fail
      refine wp_region_belowP wr.heap.size (by kernel_rfl) (by kernel_rfl) ?_
      iterate 12 (first
        | go_big_quiet_skip
        | (go_big_quiet_want; rename_i K hK
           unfold Oper.quiet
           apply Exists.intro
           refine ⟨fun w' hw' => ?_, hK _ ?_⟩
           · obtain ⟨q0, q1, q2, q3, q4, q5, q6, q7⟩ := HCL.out w' hw'
             unfold Oper.quietAt
             go_simp
             first
               | with_reducible rfl
               | with_reducible exact HPL.out w' hw'
           clear hK K
           simp only [Act.put, List.setIfInBounds_toArray, List.set_cons_zero, List.set_cons_succ]))
      refine wpQuiet_nil ?_
      intro w2 hw2
      have hb2 : Below wa.heap.size wa w2 := HBE.out.trans (hw2.mono HBE.out.size)
      cases bb
      · have hr := HNE.out (by have := HBB.out; simpa using this)
        subst hr
        go_wp2
        go_ret
        exact ⟨rfl, (HK.out w2 hb2).2.2.2.2⟩
      · go_wp2
        go_roundg (P.length - (k + 1))
        case measure => omega
        case rel => exact ⟨k + 1, by omega, rfl, by go_num, HNX.out (by have := HBB.out; simpa using this), hb2⟩
    · have i1 : ¬ (k : Int) < (P.length : Int) := by omega
      have hPP : P = P' := by
        have := HQ.out
        rw [List.take_of_length_le (by omega), List.take_of_length_le (by have := HE.out.1; omega)] at this
        exact this
      have HPP := Lib.hid hPP
      have HBE := Lib.hid hbel
      clear hPP hbel hbw
      go_wp2
      go_loopg [6] L.length (fun gk i wr => ∃ k : Nat, k ≤ L.length ∧ gk = L.length - k ∧ i = .int .i64 k ∧ L.take k = L'.take k ∧ Below wa.heap.size wa wr)
      case atStart => exact ⟨0, Nat.zero_le _, rfl, rfl, rfl, HBE.out⟩
      case round =>
        clear x2 x3 y2 y3
        obtain ⟨j, hj, rfl, rfl, heq, hbel⟩ := hrel
        have HQ := Lib.hid heq
        obtain ⟨-, x3, -, y3, hbw⟩ := HK.out wr hbel
        have HBW := Lib.hid (And.intro hbw hbel)
        clear heq
        by_cases hlt : j < L.length
        · have hlt' : j < L'.length := by have := HE.out.2; omega
          obtain ⟨b, off, rfl, hb, g0, g1⟩ := HL.out j hlt
          obtain ⟨b', off', rfl, hb', g0', g1'⟩ := HL'.out j hlt'
          have g0 := below_some hbw g0 hb
          have g1 := below_some hbw g1 hb
          have g0' := below_some hbw g0' hb'
          have g1' := below_some hbw g1' hb'
          have HNX := Lib.hid (fun e => take_next HQ.out hlt hlt' e)
          have HNE := Lib.hid (fun (h : ¬ L[j] = L'[j]) => HRF.out (fun h2 => h (by simp only [h2.2.2.2])))
          have i1 : (j : Int) < (L.length : Int) := by omega
          have i2 : (0 : Int) ≤ (j : Int) := by omega
          clear hbel hbw
          generalize L[j] = lk at *
          generalize L'[j] = lk' at *
          obtain ⟨a1, a2⟩ := lk
          obtain ⟨d1, d2⟩ := lk'
          simp only at *
          by_cases h1 : a1 = d1
          · subst h1
            by_cases h2 : a2 = d2
            · subst h2
              go_wp2
              go_quiet (fail)
              go_wp2
              go_roundg (L.length - (j + 1))
              case measure => omega
              case rel => exact ⟨j + 1, by omega, rfl, by go_num, HNX.out (by first | rfl | trivial), below_drewN HBW.out.2 _⟩
            · have hr := HNE.out (by simp [h2])
              subst hr
              go_wp2
              go_quiet (fail)
              go_wp2
              go_ret
              exact ⟨rfl, below_drewN HBW.out.1 _⟩
          · have hr := HNE.out (by simp [h1])
            subst hr
            go_wp2
            go_quiet (fail)
            go_wp2
            go_ret
            exact ⟨rfl, below_drewN HBW.out.1 _⟩
        · have i1 : ¬ (j : Int) < (L.length : Int) := by omega
          have hLL : L = L' := by
            have := HQ.out
            rw [List.take_of_length_le (by omega), List.take_of_length_le (by have := HE.out.2; omega)] at this
            exact this
          have hr := HRT.out ⟨by first | rfl | trivial, by first | rfl | trivial, HPP.out, hLL⟩
          subst hr
          clear hLL
          go_wp2
          go_ret
          exact ⟨rfl, HBW.out.1⟩
end Go.Proofs.YtcpaaleogmiamaaGreatDoor
namespace Go.Proofs.YtcpaaleogmiamaaGreatDoor
open Go.RowKit

/-- A plan in a variable of its own, whose words stand whatever is written in G. -/
def NowAt (w : World) (G : Nat → Prop) (nb : Nat) (P : Pl) : Prop := ∃ (pa la : Option Addr) (pc lc : Nat), w.heap[nb]? = some (.cells #[.int .i64 P.nodes, .int .i64 P.copies, .slice pa P.parts.length pc, .slice la P.lives.length lc] 52 (0, 0)) ∧ PlanOff w G (planV P pa pc la lc) P

theorem NowAt.moved {w w' : World} {F G G' : Nat → Prop} {nb : Nat} {P : Pl} (h : NowAt w G nb P) (hu : Upd F w w') (hF : ∀ k, F k → G k) (hnb : ¬ F nb) (hG : ∀ k, G' k → G k ∨ w.heap.size ≤ k) : NowAt w' G' nb P := by
  obtain ⟨pa, la, pc, lc, h1, h2⟩ := h
  refine ⟨pa, la, pc, lc, (hu.block nb (Array.getElem?_eq_some_iff.1 h1).1 hnb).trans h1, ?_⟩
  have h3 : PlanOff w (fun k => G k ∨ w.heap.size ≤ k) (planV P pa pc la lc) P := h2.grow (fun k hk => hk)
  exact (h3.upd hu (fun k hk => .inl (hF k hk))).grow (fun k hk => .inl (hG k hk))
theorem NowAt.below {w w' : World} {G : Nat → Prop} {nb : Nat} {P : Pl} (h : NowAt w G nb P) (hb : Below w.heap.size w w') : NowAt w' G nb P :=
  h.moved (F := fun _ => False) (.of_below hb) (fun _ h => h.elim) (fun h => h) (fun _ h => .inl h)
theorem NowAt.cells {w : World} {G : Nat → Prop} {nb : Nat} {P : Pl} (h : NowAt w G nb P) : ∃ (pa la : Option Addr) (pc lc : Nat), PlanRd w (planV P pa pc la lc) P ∧ w.cell? ⟨nb, 0, none⟩ = some (.int .i64 P.nodes) ∧ w.cell? ⟨nb, 1, none⟩ = some (.int .i64 P.copies) ∧ w.cell? ⟨nb, 2, none⟩ = some (.slice pa P.parts.length pc) ∧ w.cell? ⟨nb, 3, none⟩ = some (.slice la P.lives.length lc) ∧
    ∀ j, w.frozen? ⟨nb, j, none⟩ = false := by
  obtain ⟨pa, la, pc, lc, h1, h2⟩ := h
  exact ⟨pa, la, pc, lc, h2.rd, cells_of h1 0 _ rfl, cells_of h1 1 _ rfl, cells_of h1 2 _ rfl, cells_of h1 3 _ rfl, fun _ => frozen_of h1⟩
/-- The variable is another plan. -/
theorem NowAt.set {w : World} {G : Nat → Prop} {nb : Nat} {P Q : Pl} (h : NowAt w G nb P) {pa la : Option Addr} {pc lc : Nat} (hq : PlanOff w G (planV Q pa pc la lc) Q) (hnb : G nb) :
    NowAt ((((w.setCell ⟨nb, 0, none⟩ (.int .i64 Q.nodes)).setCell ⟨nb, 1, none⟩ (.int .i64 Q.copies)).setCell ⟨nb, 2, none⟩ (.slice pa Q.parts.length pc)).setCell ⟨nb, 3, none⟩ (.slice la Q.lives.length lc)) G nb Q ∧
    Upd (fun k => k = nb) w ((((w.setCell ⟨nb, 0, none⟩ (.int .i64 Q.nodes)).setCell ⟨nb, 1, none⟩ (.int .i64 Q.copies)).setCell ⟨nb, 2, none⟩ (.slice pa Q.parts.length pc)).setCell ⟨nb, 3, none⟩ (.slice la Q.lives.length lc)) := by
  obtain ⟨pa0, la0, pc0, lc0, h1, h2⟩ := h
  have hu : Upd (fun k => k = nb) w ((((w.setCell ⟨nb, 0, none⟩ (.int .i64 Q.nodes)).setCell ⟨nb, 1, none⟩ (.int .i64 Q.copies)).setCell ⟨nb, 2, none⟩ (.slice pa Q.parts.length pc)).setCell ⟨nb, 3, none⟩ (.slice la Q.lives.length lc)) :=
    (((upd_set1 w nb 0 _).trans (upd_set1 _ nb 1 _)).trans (upd_set1 _ nb 2 _)).trans (upd_set1 _ nb 3 _)
  exact ⟨⟨pa, la, pc, lc, setCell_same (o := 3) (v := .slice la Q.lives.length lc) (setCell_same (o := 2) (v := .slice pa Q.parts.length pc) (setCell_same (o := 1) (v := .int .i64 Q.copies) (setCell_same (o := 0) (v := .int .i64 Q.nodes) h1))), hq.upd hu (fun k e => by rw [e]; exact hnb)⟩, hu⟩
theorem NowAt.off {w : World} {G : Nat → Prop} {nb : Nat} {P : Pl} (h : NowAt w G nb P) : ∃ (pa la : Option Addr) (pc lc : Nat), PlanOff w G (planV P pa pc la lc) P ∧ w.cell? ⟨nb, 0, none⟩ = some (.int .i64 P.nodes) ∧ w.cell? ⟨nb, 1, none⟩ = some (.int .i64 P.copies) ∧ w.cell? ⟨nb, 2, none⟩ = some (.slice pa P.parts.length pc) ∧ w.cell? ⟨nb, 3, none⟩ = some (.slice la P.lives.length lc) := by
  obtain ⟨pa, la, pc, lc, h1, h2⟩ := h
  exact ⟨pa, la, pc, lc, h2, cells_of h1 0 _ rfl, cells_of h1 1 _ rfl, cells_of h1 2 _ rfl, cells_of h1 3 _ rfl⟩

theorem HmW.notPlan {w0 w : World} {hb b mb q : Nat} {L : TpL} {t : Tp} {v : Value} {p : Pl} {M : List (Int × Int)} {life : Int} {dead : Bool} (h : HmW w0 w hb b mb q L t v p M life dead) {P : Pl} {G : Nat → Prop} {nb : Nat} (hn : NowAt w G nb P) : ¬ HmF hb b mb q L nb := by
  obtain ⟨pa, la, pc, lc, hc, -⟩ := hn
  intro hk
  rcases hk with rfl | rfl | hk
  · obtain ⟨pv, lv, -, hblk⟩ := h.hm.blk
    rw [hblk] at hc
    simp at hc
  · obtain ⟨es, cl, m1, -⟩ := h.hm.miss
    rw [m1] at hc
    simp at hc
  · rcases h.hm.tape.kinds nb hk with ⟨cs, h1⟩ | ⟨es, cl, h1⟩ | ⟨cs, h1⟩ <;> rw [h1] at hc <;> simp at hc

/-- A variable of the law's own is written; the master stays. -/
theorem HmW.other {w0 w w' : World} {hb b mb q : Nat} {L : TpL} {t : Tp} {v : Value} {p : Pl} {M : List (Int × Int)} {life : Int} {dead : Bool} (h : HmW w0 w hb b mb q L t v p M life dead) {nb : Nat} (hu : Upd (fun k => k = nb) w w') (hn : ¬ HmF hb b mb q L nb) (hab : w0.heap.size ≤ nb)
    (hoff : PlanOff w (fun k => HmF hb b mb q L k ∨ k = nb) v p) : HmW w0 w' hb b mb q L t v p M life dead := by
  have hn' : ∀ k, HmF hb b mb q L k → ¬ k = nb := fun k hk e => hn (by rw [← e]; exact hk)
  obtain ⟨pv, lv, e, hblk⟩ := h.hm.blk
  exact ⟨⟨⟨pv, lv, e, (hu.block _ (h.fLt hb (.inl rfl)) (hn' hb (.inl rfl))).trans hblk⟩, h.hm.tape.upd hu (fun k hk => hn' k (.inr (.inr hk))), (hoff.upd hu (fun k e => .inr e)).grow (fun k hk => .inl (.inl hk)), h.hm.miss.upd hu (hn' q (.inr (.inl rfl))), h.hm.ne⟩, h.base.trans (hu.toBelow h.base.size (fun k e => by rw [e]; exact hab)), h.above⟩

theorem pwOpen {w0 W : World} {b mb : Nat} {L : TpL} {t : Tp} {n p c : Nat} (hE : Env w0) (h0 : Below w0.heap.size w0 W) (hab : ∀ k, TpF b mb L k → w0.heap.size ≤ k) (ht : TpAt W b mb L t) (hd : t.down = false) (hok : newOkB n p c = true) {t' : Tp} {p' : Pl} (hr : openR t (newP n p c) = (t', p', 0)) :
    Calls Tryz.prog 14 #[.pointer (some ⟨b, 0, none⟩), .agg #[.int .i64 (n : Int), .int .i64 0, .int .i64 (p : Int), .int .i64 (c : Int), .int .i64 0, .int .i64 0, .int .i64 0, .int .i64 0]] W fun e w' =>
      ∃ L' hb q v, e = .returned (.tuple #[.pointer (some ⟨hb, 0, none⟩), .int .i64 0]) ∧ HmW w0 w' hb b mb q L' t' v p' [] t.life false ∧ Upd (TpF b mb L) W w' ∧ (∀ k ∈ tpBlocks L', k ∈ tpBlocks L ∨ W.heap.size ≤ k) ∧ W.heap.size ≤ hb ∧ W.heap.size ≤ q ∧ PlanOff w' (fun k => k < W.heap.size ∨ HmF hb b mb q L' k) v p' := by
  have h := HOpen_any hE h0 hab ht hd n p c 0 0 0 0 0 hok
  rw [hr] at h
  refine Calls.mono h ?_
  rintro e w' ⟨L', hb, h1, h2, he, h3, q, v, h4, hm, ho⟩
  exact ⟨L', hb, q, v, he, hm, h1, h2, h3, h4, ho⟩

theorem foldE_good : ∀ (es : List Event) {p q : Pl}, goodP p = true → foldE p es = some q → goodP q = true
  | [], p, q, h, hf => by
    simp only [foldE, Option.some.injEq] at hf
    subst hf; exact h
  | x :: es, p, q, h, hf => by
    simp only [foldE] at hf
    split at hf
    · rename_i h2
      exact foldE_good es (applyP_good (x := x) (q := (applyP p x).1) (t := (applyP p x).2.1) (by rw [← h2])) hf
    · cases hf
theorem HmW.notKind {w0 w : World} {hb b mb q : Nat} {L : TpL} {t : Tp} {v : Value} {p : Pl} {M : List (Int × Int)} {life : Int} {dead : Bool} (h : HmW w0 w hb b mb q L t v p M life dead) {k : Nat} {cs : Array Value} {T : TypeId} (hc : w.heap[k]? = some (.cells cs T (0, 0))) (h1 : T ≠ 122) (h2 : T ≠ 129) (h3 : T ≠ 150) : ¬ HmF hb b mb q L k := by
  intro hk
  rcases hk with rfl | rfl | hk
  · obtain ⟨pv, lv, -, hblk⟩ := h.hm.blk
    rw [hblk] at hc
    simp at hc
    exact h1 hc.2.symm
  · obtain ⟨es, cl, m1, -⟩ := h.hm.miss
    rw [m1] at hc
    simp at hc
  · rcases h.hm.tape.kinds k hk with ⟨cs, h4⟩ | ⟨es, cl, h4⟩ | ⟨cs, h4⟩
    · rw [h4] at hc
      simp at hc
      exact h2 hc.2.symm
    · rw [h4] at hc
      simp at hc
    · rw [h4] at hc
      simp at hc
      exact h3 hc.2.symm

end Go.Proofs.YtcpaaleogmiamaaGreatDoor
