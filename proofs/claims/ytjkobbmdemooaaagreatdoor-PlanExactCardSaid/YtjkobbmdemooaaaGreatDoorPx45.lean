/- The walks of the reference's Ints, Places, Same. -/
/- The walks of the reference's Places and Same. -/
/- The walk of the reference's Same. -/
import Derived.Test.YtjkobbmdemooaaaGreatDoorPx7
import Derived.Test.YtjkobbmdemooaaaGreatDoorPx15
import Derived.Test.YtjkobbmdemooaaaGreatDoorPx26
namespace Go.Proofs.YtjkobbmdemooaaaGreatDoor
open Go.RowKit

set_option maxRecDepth 100000 in
set_option maxHeartbeats 2000000 in
theorem RInts_any {w : World} {v v' : Value} {l l' : List Int} (h : IntsRd w v l) (h' : IntsRd w v' l') : Calls Tryz.prog 14 #[v, v'] w fun e w' => e = .returned (.bool (decide (l = l'))) ∧ Below w.heap.size w w' := by
  obtain ⟨a, c, rfl, -, hm, hC⟩ := h.cells
  obtain ⟨a', c', rfl, -, hm', hC'⟩ := h'.cells
  have hm1 : (l.length : Int) ≤ 9223372036854775807 := by have : maxLen = 9223372036854775807 := rfl; omega
  have hm2 : (l'.length : Int) ≤ 9223372036854775807 := by have : maxLen = 9223372036854775807 := rfl; omega
  have HC := Lib.hid hC
  have HC' := Lib.hid hC'
  clear h h' hC hC' hm hm'
  by_cases hl : l.length = l'.length
  case neg =>
    have hne : ¬ (l.length : Int) = (l'.length : Int) := by omega
    have hd : decide (l = l') = false := by rw [decide_eq_false_iff_not]; intro e; exact hl (by rw [e])
    rw [hd]
    clear hd hl
    go_enter Tryz.func14, Tryz.ntmps14
    go_wp2
    go_ret
    exact ⟨rfl, Below.refl _ _⟩
  case pos =>
    have HL := Lib.hid hl
    obtain ⟨R, hR⟩ : ∃ R, decide (l = l') = R := ⟨_, rfl⟩
    rw [hR]
    have HR := Lib.hid hR
    rw [← hl]
    clear hR hm2 hl
    go_enter Tryz.func14, Tryz.ntmps14
    go_wp2
    go_loopg [5] l.length (fun gk i wr => ∃ k : Nat, k ≤ l.length ∧ gk = l.length - k ∧ i = .int .i64 k ∧ l.take k = l'.take k ∧ Below w.heap.size w wr)
    case atStart => exact ⟨0, Nat.zero_le _, rfl, rfl, rfl, Below.refl _ _⟩
    case round =>
      obtain ⟨k, hk, rfl, rfl, heq, hbel⟩ := hrel
      have HQ := Lib.hid heq
      clear heq
      by_cases hlt : k < l.length
      · obtain ⟨b, off, rfl, hb, c0⟩ := HC.out k hlt
        obtain ⟨b', off', rfl, hb', c0'⟩ := HC'.out k (by have := HL.out; omega)
        have c1 := below_some hbel c0 hb
        have c1' := below_some hbel c0' hb'
        have i1 : (k : Int) < (l.length : Int) := by omega
        have i2 : (0 : Int) ≤ (k : Int) := by omega
        have hlt' : k < l'.length := by have := HL.out; omega
        have htk : l[k] = l'[k] → l.take (k + 1) = l'.take (k + 1) := by
          intro e
          rw [List.take_succ_eq_append_getElem hlt, List.take_succ_eq_append_getElem hlt', HQ.out, e]
        have hne : ¬ l[k] = l'[k] → R = false := by
          intro e
          rw [← HR.out, decide_eq_false_iff_not]
          intro e2
          subst e2
          exact e rfl
        have HTK := Lib.hid htk
        have HNE := Lib.hid hne
        clear htk hne c0 c0'
        generalize l[k] = x at *
        generalize l'[k] = y at *
        by_cases hxy : x = y
        · subst hxy
          go_wp2
          go_quiet (fail)
          go_wp2
          go_roundg (l.length - (k + 1))
          case measure => omega
          case rel => exact ⟨k + 1, by omega, rfl, by go_num, HTK.out (by first | rfl | trivial), below_drewN hbel _⟩
        · have hRf := HNE.out hxy
          subst hRf
          go_wp2
          go_quiet (fail)
          go_wp2
          go_ret
          exact ⟨rfl, below_drewN hbel _⟩
      · have i1 : ¬ (k : Int) < (l.length : Int) := by omega
        have hRt : R = true := by
          rw [← HR.out, decide_eq_true_iff]
          have := HQ.out
          rw [List.take_of_length_le (by omega), List.take_of_length_le (by have := HL.out; omega)] at this
          exact this
        subst hRt
        go_wp2
        go_ret
        exact ⟨rfl, hbel⟩
end Go.Proofs.YtjkobbmdemooaaaGreatDoor
namespace Go.Proofs.YtjkobbmdemooaaaGreatDoor
open Go.RowKit

set_option maxRecDepth 100000 in
set_option maxHeartbeats 2000000 in
theorem RPlaces_any {w : World} {x y : Pt} {ca cb : Option Addr} {cc cd : Nat} (h : IntsRd w (.slice ca x.chain.length cc) x.chain) (h' : IntsRd w (.slice cb y.chain.length cd) y.chain) :
    Calls Tryz.prog 48 #[partV x ca cc, partV y cb cd] w fun e w' => e = .returned (.bool (decide (x = y))) ∧ Below w.heap.size w w' := by
  obtain ⟨e1, c1, l1⟩ := x
  obtain ⟨e2, c2, l2⟩ := y
  simp only [partV] at *
  obtain ⟨wa, hwa⟩ : ∃ wa, wa = (w.alloc (.cells #[.int .i64 e1, .slice ca c1.length cc, .int .i64 l1] 74)).alloc (.cells #[.int .i64 e2, .slice cb c2.length cd, .int .i64 l2] 74) := ⟨_, rfl⟩
  have hbwa : Below w.heap.size w wa := by rw [hwa]; exact below_alloc2 _ _ _
  have hi := RInts_any (h.below hbwa) (h'.below hbwa)
  have HI := Lib.hid hi
  obtain ⟨b3, hb3⟩ : ∃ b3, decide (c1 = c2) = b3 := ⟨_, rfl⟩
  rw [hb3] at HI
  have hR : decide ((⟨e1, c1, l1⟩ : Pt) = ⟨e2, c2, l2⟩) = (decide (e1 = e2) && (decide (l1 = l2) && b3)) := by
    rw [← hb3, Bool.eq_iff_iff]
    simp only [Pt.mk.injEq, decide_eq_true_eq, Bool.and_eq_true]
    constructor
    · rintro ⟨a, b, c⟩; exact ⟨a, c, b⟩
    · rintro ⟨a, c, b⟩; exact ⟨a, b, c⟩
  rw [hR]
  have n0 : wa.heap[w.heap.size]? = some (.cells #[.int .i64 e1, .slice ca c1.length cc, .int .i64 l1] 74 (0, 0)) := by rw [hwa, Below.heap_alloc _ _ _ (by simp)]; exact heap_alloc_new _ _
  have n1 : wa.heap[w.heap.size + 1]? = some (.cells #[.int .i64 e2, .slice cb c2.length cd, .int .i64 l2] 74 (0, 0)) := by rw [hwa]; exact heap_new1 _ _ _
  have x0 := cells_of n0 0 _ rfl
  have x1 := cells_of n0 1 _ rfl
  have x2 := cells_of n0 2 _ rfl
  have y0 := cells_of n1 0 _ rfl
  have y1 := cells_of n1 1 _ rfl
  have y2 := cells_of n1 2 _ rfl
  have HB := Lib.hid hbwa
  have hsz : w.heap.size ≤ wa.heap.size := hbwa.size
  clear h h' hi hb3 hR n0 n1 hbwa
  by_cases h1 : e1 = e2
  · subst h1
    by_cases h2 : l1 = l2
    · subst h2
      go_enter Tryz.func48, Tryz.ntmps48
      go_upto_region 1 with fail
      rw [← hwa]
      clear hwa
      go_wp2_with (first | (go_at_call 14; with_reducible refine HI.out.mono ?_; rintro _ w5 ⟨rfl, hb5⟩))
      go_ret
      exact ⟨by simp, HB.out.trans (hb5.mono hsz)⟩
    · go_enter Tryz.func48, Tryz.ntmps48
      go_upto_region 1 with fail
      rw [← hwa]
      clear hwa
      go_wp2
      go_ret
      exact ⟨by simp [h2], HB.out⟩
  · go_enter Tryz.func48, Tryz.ntmps48
    go_upto_region 1 with fail
    rw [← hwa]
    clear hwa
    go_wp2
    go_ret
    exact ⟨by simp [h1], HB.out⟩
end Go.Proofs.YtjkobbmdemooaaaGreatDoor
namespace Go.Proofs.YtjkobbmdemooaaaGreatDoor
open Go.RowKit

theorem take_next {α : Type} {l l' : List α} {k : Nat} (h : l.take k = l'.take k) (h1 : k < l.length) (h2 : k < l'.length) (e : l[k] = l'[k]) : l.take (k + 1) = l'.take (k + 1) := by
  rw [List.take_succ_eq_append_getElem h1, List.take_succ_eq_append_getElem h2, h, e]

set_option maxRecDepth 100000 in
set_option maxHeartbeats 4000000 in
theorem RSame_any {w : World} {v v' : Value} {p q : Pl} (h : PlanRd w v p) (h' : PlanRd w v' q) : Calls Tryz.prog 13 #[v, v'] w fun e w' => e = .returned (.bool (decide (p = q))) ∧ Below w.heap.size w w' := by
  obtain ⟨pv, lv, rfl, hp, hl⟩ := h
  obtain ⟨pv', lv', rfl, hp', hl'⟩ := h'
  obtain ⟨pa, pc, rfl, -, hm1, hP⟩ := hp.cells
  obtain ⟨la, lc, rfl, -, hm2, hLc⟩ := hl.cells
  obtain ⟨pa', pc', rfl, -, hm3, hP'⟩ := hp'.cells
  obtain ⟨la', lc', rfl, -, hm4, hLc'⟩ := hl'.cells
  obtain ⟨n1, c1, P, L⟩ := p
  obtain ⟨n2, c2, P', L'⟩ := q
  simp only at *
  have hmx : maxLen = 9223372036854775807 := rfl
  have hm1 : (P.length : Int) ≤ 9223372036854775807 := by omega
  have hm2 : (L.length : Int) ≤ 9223372036854775807 := by omega
  obtain ⟨R, hR⟩ : ∃ R, decide ((⟨n1, c1, P, L⟩ : Pl) = ⟨n2, c2, P', L'⟩) = R := ⟨_, rfl⟩
  rw [hR]
  have hRf : ¬ (n1 = n2 ∧ c1 = c2 ∧ P = P' ∧ L = L') → R = false := by
    intro h
    rw [← hR, decide_eq_false_iff_not, Pl.mk.injEq]
    exact h
  have hRt : (n1 = n2 ∧ c1 = c2 ∧ P = P' ∧ L = L') → R = true := by
    intro h
    rw [← hR, decide_eq_true_iff, Pl.mk.injEq]
    exact h
  obtain ⟨wa, hwa⟩ : ∃ wa, wa = (w.alloc (.cells #[.int .i64 n1, .int .i64 c1, .slice pa P.length pc, .slice la L.length lc] 25)).alloc (.cells #[.int .i64 n2, .int .i64 c2, .slice pa' P'.length pc', .slice la' L'.length lc'] 25) := ⟨_, rfl⟩
  have hbwa : Below w.heap.size w wa := by rw [hwa]; exact below_alloc2 _ _ _
  have b0 : wa.heap[w.heap.size]? = some (.cells #[.int .i64 n1, .int .i64 c1, .slice pa P.length pc, .slice la L.length lc] 25 (0, 0)) := by rw [hwa, Below.heap_alloc _ _ _ (by simp)]; exact heap_alloc_new _ _
  have b1 : wa.heap[w.heap.size + 1]? = some (.cells #[.int .i64 n2, .int .i64 c2, .slice pa' P'.length pc', .slice la' L'.length lc'] 25 (0, 0)) := by rw [hwa]; exact heap_new1 _ _ _
  have hsz : wa.heap.size = w.heap.size + 2 := by rw [hwa]; simp
  have hkeep : ∀ W, Below wa.heap.size wa W → W.cell? ⟨w.heap.size, 2, none⟩ = some (.slice pa P.length pc) ∧ W.cell? ⟨w.heap.size, 3, none⟩ = some (.slice la L.length lc) ∧ W.cell? ⟨w.heap.size + 1, 2, none⟩ = some (.slice pa' P'.length pc') ∧ W.cell? ⟨w.heap.size + 1, 3, none⟩ = some (.slice la' L'.length lc') ∧ Below w.heap.size w W := by
    intro W hb
    have d0 := (hb.block w.heap.size (by omega)).trans b0
    have d1 := (hb.block (w.heap.size + 1) (by omega)).trans b1
    exact ⟨cells_of d0 2 _ rfl, cells_of d0 3 _ rfl, cells_of d1 2 _ rfl, cells_of d1 3 _ rfl, hbwa.trans (hb.mono (by omega))⟩
  have x0 := cells_of b0 0 _ rfl
  have x1 := cells_of b0 1 _ rfl
  have x2 := cells_of b0 2 _ rfl
  have x3 := cells_of b0 3 _ rfl
  have y0 := cells_of b1 0 _ rfl
  have y1 := cells_of b1 1 _ rfl
  have y2 := cells_of b1 2 _ rfl
  have y3 := cells_of b1 3 _ rfl
  have HRF := Lib.hid hRf
  have HRT := Lib.hid hRt
  have HK := Lib.hid hkeep
  have HB := Lib.hid hbwa
  have HP := Lib.hid hP
  have HP' := Lib.hid hP'
  have HL := Lib.hid hLc
  have HL' := Lib.hid hLc'
  have hszl : w.heap.size < wa.heap.size := by omega
  clear hR hRf hRt hkeep b0 b1 hsz hbwa hp hp' hl hl' hP hP' hLc hLc' hm3 hm4 hmx
  by_cases e1 : n1 = n2
  case neg =>
    have hr := HRF.out (fun h => e1 h.1)
    subst hr
    go_enter Tryz.func13, Tryz.ntmps13
    go_upto_region 1 with fail
    rw [← hwa]
    clear hwa
    go_wp2
    go_ret
    exact ⟨rfl, HB.out⟩
  subst e1
  by_cases e2 : c1 = c2
  case neg =>
    have hr := HRF.out (fun h => e2 h.2.1)
    subst hr
    go_enter Tryz.func13, Tryz.ntmps13
    go_upto_region 1 with fail
    rw [← hwa]
    clear hwa
    go_wp2
    go_ret
    exact ⟨rfl, HB.out⟩
  subst e2
  by_cases e3 : P.length = P'.length
  case neg =>
    have hr := HRF.out (fun h => e3 (by rw [h.2.2.1]))
    subst hr
    have e3' : ¬ (P.length : Int) = (P'.length : Int) := by omega
    go_enter Tryz.func13, Tryz.ntmps13
    go_upto_region 1 with fail
    rw [← hwa]
    clear hwa
    go_wp2
    go_ret
    exact ⟨rfl, HB.out⟩
  by_cases e4 : L.length = L'.length
  case neg =>
    have hr := HRF.out (fun h => e4 (by rw [h.2.2.2]))
    subst hr
    have e3' : (P.length : Int) = (P'.length : Int) := by omega
    have e4' : ¬ (L.length : Int) = (L'.length : Int) := by omega
    clear e3
    go_enter Tryz.func13, Tryz.ntmps13
    go_upto_region 1 with fail
    rw [← hwa]
    clear hwa
    go_wp2
    go_ret
    exact ⟨rfl, HB.out⟩
  have HE := Lib.hid (And.intro e3 e4)
  have e3' : ((P'.length : Int)) = (P.length : Int) := by omega
  have e4' : ((L'.length : Int)) = (L.length : Int) := by omega
  clear e3 e4
  go_enter Tryz.func13, Tryz.ntmps13
  go_upto_region 1 with fail
  rw [← hwa]
  clear hwa
  go_wp2
  clear x0 x1 x2 x3 y0 y1 y2 y3
  go_loopg [5] P.length (fun gk i wr => ∃ k : Nat, k ≤ P.length ∧ gk = P.length - k ∧ i = .int .i64 k ∧ P.take k = P'.take k ∧ Below wa.heap.size wa wr)
  case atStart => exact ⟨0, Nat.zero_le _, rfl, rfl, rfl, Below.refl _ _⟩
  case round =>
    obtain ⟨k, hk, rfl, rfl, heq, hbel⟩ := hrel
    have HQ := Lib.hid heq
    obtain ⟨x2, x3, y2, y3, hbw⟩ := HK.out wr hbel
    clear heq
    by_cases hlt : k < P.length
    · have hlt' : k < P'.length := by have := HE.out.1; omega
      obtain ⟨b, off, ca, cc, rfl, hb, g0, g1, g2, hr⟩ := HP.out k hlt
      obtain ⟨b', off', ca', cc', rfl, hb', g0', g1', g2', hr'⟩ := HP'.out k hlt'
      have HNX := Lib.hid (fun e => take_next HQ.out hlt hlt' e)
      have HNE := Lib.hid (fun (h : ¬ P[k] = P'[k]) => HRF.out (fun h2 => h (by simp only [h2.2.2.1])))
      have hpl : ∀ W, Below wr.heap.size wr W → Calls Tryz.prog 48 #[partV P[k] ca cc, partV P'[k] ca' cc'] W fun e w' => e = .returned (.bool (decide (P[k] = P'[k]))) ∧ Below wr.heap.size wr w' := by
        intro W hbW
        refine (RPlaces_any ((hr.below hbw).below hbW) ((hr'.below hbw).below hbW)).mono ?_
        rintro e w' ⟨rfl, hb5⟩
        exact ⟨rfl, hbW.trans (hb5.mono hbW.size)⟩
      have hcl : ∀ W, Below wr.heap.size wr W → W.cell? ⟨w.heap.size, 2, none⟩ = some (.slice (some ⟨b, off, none⟩) P.length pc) ∧ W.cell? ⟨w.heap.size + 1, 2, none⟩ = some (.slice (some ⟨b', off', none⟩) P'.length pc') ∧
          W.cell? ⟨b, off + k * 3, none⟩ = some (.int .i64 P[k].epoch) ∧ W.cell? ⟨b, off + k * 3 + 1, none⟩ = some (.slice ca P[k].chain.length cc) ∧ W.cell? ⟨b, off + k * 3 + 2, none⟩ = some (.int .i64 P[k].learner) ∧
          W.cell? ⟨b', off' + k * 3, none⟩ = some (.int .i64 P'[k].epoch) ∧ W.cell? ⟨b', off' + k * 3 + 1, none⟩ = some (.slice ca' P'[k].chain.length cc') ∧ W.cell? ⟨b', off' + k * 3 + 2, none⟩ = some (.int .i64 P'[k].learner) := by
        intro W hbW
        have hbz := hbw.size
        have hW : Below w.heap.size w W := hbw.trans (hbW.mono hbz)
        obtain ⟨z2, -, z3, -, -⟩ := HK.out W (hbel.trans (hbW.mono hbel.size))
        exact ⟨z2, z3, below_some hW g0 hb, below_some hW g1 hb, below_some hW g2 hb, below_some hW g0' hb', below_some hW g1' hb', below_some hW g2' hb'⟩
      have HPL := Lib.hid hpl
      have HCL := Lib.hid hcl
      have HBE := Lib.hid hbel
      have i1 : (k : Int) < (P.length : Int) := by omega
      have i2 : (0 : Int) ≤ (k : Int) := by omega
      obtain ⟨bb, hbb⟩ : ∃ bb, decide (P[k] = P'[k]) = bb := ⟨_, rfl⟩
      rw [hbb] at HPL
      have HBB := Lib.hid hbb
      clear g0 g1 g2 g0' g1' g2' hr hr' hpl hcl hbel hbw x2 x3 y2 y3 hbb
      generalize P[k] = pk at *
      generalize P'[k] = pk' at *
      obtain ⟨ep, ch, le⟩ := pk
      obtain ⟨ep', ch', le'⟩ := pk'
      simp only at *
      obtain ⟨x2, -, y2, -, -⟩ := HK.out wr HBE.out
      go_upto_region 6 with fail
      refine wp_region_belowP wr.heap.size (by kernel_rfl) (by kernel_rfl) ?_
      iterate 12 (first
        | go_big_quiet_skip
        | (go_big_quiet_want; rename_i K hK
           unfold Oper.quiet
           apply Exists.intro
           refine ⟨fun w' hw' => ?_, hK _ ?_⟩
           · obtain ⟨q0, q1, q2, q3, q4, q5, q6, q7⟩ := HCL.out w' hw'
             unfold Oper.quietAt
             go_simp
             first
               | with_reducible rfl
               | with_reducible exact HPL.out w' hw'
           clear hK K
           simp only [Act.put, List.setIfInBounds_toArray, List.set_cons_zero, List.set_cons_succ]))
      refine wpQuiet_nil ?_
      intro w2 hw2
      have hb2 : Below wa.heap.size wa w2 := HBE.out.trans (hw2.mono HBE.out.size)
      cases bb
      · have hr := HNE.out (by have := HBB.out; simpa using this)
        subst hr
        go_wp2
        go_ret
        exact ⟨rfl, (HK.out w2 hb2).2.2.2.2⟩
      · go_wp2
        go_roundg (P.length - (k + 1))
        case measure => omega
        case rel => exact ⟨k + 1, by omega, rfl, by go_num, HNX.out (by have := HBB.out; simpa using this), hb2⟩
    · have i1 : ¬ (k : Int) < (P.length : Int) := by omega
      have hPP : P = P' := by
        have := HQ.out
        rw [List.take_of_length_le (by omega), List.take_of_length_le (by have := HE.out.1; omega)] at this
        exact this
      have HPP := Lib.hid hPP
      have HBE := Lib.hid hbel
      clear hPP hbel hbw
      go_wp2
      go_loopg [6] L.length (fun gk i wr => ∃ k : Nat, k ≤ L.length ∧ gk = L.length - k ∧ i = .int .i64 k ∧ L.take k = L'.take k ∧ Below wa.heap.size wa wr)
      case atStart => exact ⟨0, Nat.zero_le _, rfl, rfl, rfl, HBE.out⟩
      case round =>
        clear x2 x3 y2 y3
        obtain ⟨j, hj, rfl, rfl, heq, hbel⟩ := hrel
        have HQ := Lib.hid heq
        obtain ⟨-, x3, -, y3, hbw⟩ := HK.out wr hbel
        have HBW := Lib.hid (And.intro hbw hbel)
        clear heq
        by_cases hlt : j < L.length
        · have hlt' : j < L'.length := by have := HE.out.2; omega
          obtain ⟨b, off, rfl, hb, g0, g1⟩ := HL.out j hlt
          obtain ⟨b', off', rfl, hb', g0', g1'⟩ := HL'.out j hlt'
          have g0 := below_some hbw g0 hb
          have g1 := below_some hbw g1 hb
          have g0' := below_some hbw g0' hb'
          have g1' := below_some hbw g1' hb'
          have HNX := Lib.hid (fun e => take_next HQ.out hlt hlt' e)
          have HNE := Lib.hid (fun (h : ¬ L[j] = L'[j]) => HRF.out (fun h2 => h (by simp only [h2.2.2.2])))
          have i1 : (j : Int) < (L.length : Int) := by omega
          have i2 : (0 : Int) ≤ (j : Int) := by omega
          clear hbel hbw
          generalize L[j] = lk at *
          generalize L'[j] = lk' at *
          obtain ⟨a1, a2⟩ := lk
          obtain ⟨d1, d2⟩ := lk'
          simp only at *
          by_cases h1 : a1 = d1
          · subst h1
            by_cases h2 : a2 = d2
            · subst h2
              go_wp2
              go_quiet (fail)
              go_wp2
              go_roundg (L.length - (j + 1))
              case measure => omega
              case rel => exact ⟨j + 1, by omega, rfl, by go_num, HNX.out (by first | rfl | trivial), below_drewN HBW.out.2 _⟩
            · have hr := HNE.out (by simp [h2])
              subst hr
              go_wp2
              go_quiet (fail)
              go_wp2
              go_ret
              exact ⟨rfl, below_drewN HBW.out.1 _⟩
          · have hr := HNE.out (by simp [h1])
            subst hr
            go_wp2
            go_quiet (fail)
            go_wp2
            go_ret
            exact ⟨rfl, below_drewN HBW.out.1 _⟩
        · have i1 : ¬ (j : Int) < (L.length : Int) := by omega
          have hLL : L = L' := by
            have := HQ.out
            rw [List.take_of_length_le (by omega), List.take_of_length_le (by have := HE.out.2; omega)] at this
            exact this
          have hr := HRT.out ⟨by first | rfl | trivial, by first | rfl | trivial, HPP.out, hLL⟩
          subst hr
          clear hLL
          go_wp2
          go_ret
          exact ⟨rfl, HBW.out.1⟩
end Go.Proofs.YtjkobbmdemooaaaGreatDoor
