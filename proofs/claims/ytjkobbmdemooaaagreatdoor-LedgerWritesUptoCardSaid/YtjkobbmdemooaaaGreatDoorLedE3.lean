/- The walk of the reference's Good. Printed by gen_lede3.py. -/
import Derived.Test.YtjkobbmdemooaaaGreatDoorLedE2
namespace Go.Proofs.YtjkobbmdemooaaaGreatDoor
open Go.RowKit

theorem seen_parts (pre : Option Int) (x : Int × List Slot) : seenB pre x = (isNumB x.1 && (match pre with | none => true | some y => decide (y < x.1)) && isRowB x.2) := rfl

set_option maxRecDepth 100000 in
set_option maxHeartbeats 4000000 in
theorem R6Good_any {w : World} {v : Value} {T : List (Int × List Slot)} (h : SeensRd w v T) :
    Calls Tryz.prog 67 #[v] w fun e w' => e = .returned (.bool (isTableB T)) ∧ Below w.heap.size w w' := by
  obtain ⟨a, cap, rfl, hml, hC⟩ := h.cells
  have hml : (T.length : Int) ≤ 9223372036854775807 := by unfold maxLen at hml; omega
  have HC := Lib.hid hC
  clear h hC
  by_cases h64 : T.length ≤ 64
  case neg =>
    have i1 : (64 : Int) < (T.length : Int) := by omega
    have HF := Lib.hid (by unfold isTableB; rw [decide_eq_false h64, Bool.and_false] : isTableB T = false)
    go_enter Tryz.func67, Tryz.ntmps67
    go_wp2
    go_ret
    exact ⟨ret_b (by first | exact HF.out.symm | rfl), Below.refl _ _⟩
  have i1 : ¬ (64 : Int) < (T.length : Int) := by omega
  go_enter Tryz.func67, Tryz.ntmps67
  go_wp2
  go_loopg [3] T.length (fun gk i wr => ∃ k : Nat, k ≤ T.length ∧ gk = T.length - k ∧ i = .int .i64 k ∧ (∀ j (_ : j < T.length), j < k → seenB (preT T j) T[j] = true) ∧ Below w.heap.size w wr)
  case atStart => exact ⟨0, Nat.zero_le _, rfl, rfl, fun j _ h => absurd h (Nat.not_lt_zero j), Below.refl _ _⟩
  case round =>
    obtain ⟨k, hk, rfl, rfl, hall, hbel⟩ := hrel
    have HA := Lib.hid hall
    clear hall
    by_cases hlt : k < T.length
    · obtain ⟨b, off, sa, sc, rfl, hb, c0, c1, hsl⟩ := HC.out k hlt
      have hml2 : (T[k].2.length : Int) ≤ 9223372036854775807 := by have := Rd.maxlen hsl; unfold maxLen at this; omega
      have HR := Lib.hid hsl.cells
      clear hsl
      have c0 := below_some hbel c0 hb
      have c1 := below_some hbel c1 hb
      have i2 : (k : Int) < (T.length : Int) := by omega
      have i3 : (0 : Int) ≤ (k : Int) := by omega
      obtain ⟨pb, hpb⟩ : ∃ pb, pb = (match preT T k with | none => true | some y => decide (y < T[k].1)) := ⟨_, rfl⟩
      have hS : seenB (preT T k) T[k] = (isNumB T[k].1 && pb && isRowB T[k].2) := by rw [seen_parts, hpb]
      have hpp : (k = 0 ∧ pb = true) ∨ ∃ j, k = j + 1 ∧ ∃ pp, wr.cell? ⟨b, off + j * 2, none⟩ = some (.int .i64 pp) ∧ pb = decide (pp < T[k].1) := by
        cases k with
        | zero => exact .inl ⟨rfl, by rw [hpb]; rfl⟩
        | succ j =>
          right
          have hjl : j < T.length := by omega
          obtain ⟨b', off', _, _, e, hb', d0, -, -⟩ := HC.out j hjl
          simp only [Option.some.injEq, Addr.mk.injEq, and_true] at e
          obtain ⟨rfl, rfl⟩ := e
          exact ⟨j, rfl, _, below_some hbel d0 hb', by rw [hpb]; simp [preT, List.getElem?_eq_getElem hjl]⟩
      have hrow : ∀ (hx : (isNumB T[k].1 && pb && decide (1 ≤ T[k].2.length) && decide (T[k].2.length ≤ 5)) = false), isTableB T = false := by
        intro hx
        refine isTableB_false hlt ?_
        rw [hS]
        unfold isRowB
        revert hx
        cases isNumB T[k].1 <;> cases pb <;> cases decide (1 ≤ T[k].2.length) <;> cases decide (T[k].2.length ≤ 5) <;> simp
      have HS := Lib.hid (And.intro hS (And.intro hpp hrow))
      clear hS hpb hpp hrow
      have hq1 := fun w => R6num_any T[k].1 w
      generalize hp : T[k].1 = p at *
      generalize hl : T[k].2 = l at *
      have HP := Lib.hid (And.intro hp hl)
      clear hp hl
      have HN := Lib.hid (rfl : isNumB p = isNumB p)
      generalize hb1 : isNumB p = b1 at *
      have HB1 := Lib.hid hb1
      clear hb1 HN
      obtain ⟨m, hm⟩ : ∃ m, l.length = m := ⟨_, rfl⟩
      rw [hm] at c1 hml2
      have HM := Lib.hid hm
      clear hm
      go_upto_region 7 with fail
      go_cut [54] from 9 to 129 (fun c wx => c = .bool (!(b1 && pb && decide (1 ≤ m) && decide (m ≤ 5))) ∧ Below w.heap.size w wx)
      case first =>
        rcases HS.out.2.1 with ⟨rfl, rfl⟩ | ⟨j, rfl, pp, hcp, rfl⟩
        · have hd : decide ((0 : Int) < ((0 : Nat) : Int)) = false := by decide
          simp only [Nat.zero_mul, Nat.add_zero] at c0 c1
          cases b1
          · skip
            go_wp2
            go_quiet ((go_at_call 95; with_reducible exact Calls.quiet_of_same (hq1 _)))
            go_wp2
            go_meet
            exact ⟨rfl, below_drewN hbel _⟩
          · skip
            by_cases n1 : 1 ≤ m
            · have k1 : decide ((m : Int) < 1) = false := by rw [decide_eq_false_iff_not]; omega
              by_cases n5 : m ≤ 5
              · have k5 : decide ((5 : Int) < (m : Int)) = false := by rw [decide_eq_false_iff_not]; omega
                go_wp2
                go_quiet ((go_at_call 95; with_reducible exact Calls.quiet_of_same (hq1 _)))
                go_wp2
                go_meet
                exact ⟨by rw [decide_eq_true n1, decide_eq_true n5]; rfl, below_drewN hbel _⟩
              · have k5 : (5 : Int) < (m : Int) := by omega
                go_wp2
                go_quiet ((go_at_call 95; with_reducible exact Calls.quiet_of_same (hq1 _)))
                go_wp2
                go_meet
                exact ⟨by rw [decide_eq_false n5, Bool.and_false]; rfl, below_drewN hbel _⟩
            · have k1 : (m : Int) < 1 := by omega
              go_wp2
              go_quiet ((go_at_call 95; with_reducible exact Calls.quiet_of_same (hq1 _)))
              go_wp2
              go_meet
              exact ⟨by rw [decide_eq_false n1, Bool.and_false, Bool.false_and]; rfl, below_drewN hbel _⟩
        · have hd : decide ((0 : Int) < (j : Int) + 1) = true := decide_eq_true (by omega)
          have j1 : IntKind.i64.wrap ((j : Int) + 1 - 1) = (j : Int) := by rw [IntWalk.i64_in _ (by omega)]; omega
          have j2 : IntKind.i64.wrap (j : Int) = (j : Int) := IntWalk.i64_in _ (by omega)
          have j3 : (j : Int) < (T.length : Int) := by omega
          have j4 : (0 : Int) ≤ (j : Int) := by omega
          have j5 : (j : Int) + 1 < (T.length : Int) := by omega
          have j6 : (0 : Int) ≤ (j : Int) + 1 := by omega
          by_cases hlp : pp < p
          · have hge : decide (p ≤ pp) = false := by rw [decide_eq_false_iff_not]; omega
            have HL := Lib.hid (decide_eq_true hlp)
            clear hlp
            cases b1
            · skip
              go_wp2
              go_quiet ((go_at_call 95; with_reducible exact Calls.quiet_of_same (hq1 _)))
              go_wp2
              go_meet
              exact ⟨rfl, below_drewN hbel _⟩
            · skip
              by_cases n1 : 1 ≤ m
              · have k1 : decide ((m : Int) < 1) = false := by rw [decide_eq_false_iff_not]; omega
                by_cases n5 : m ≤ 5
                · have k5 : decide ((5 : Int) < (m : Int)) = false := by rw [decide_eq_false_iff_not]; omega
                  go_wp2
                  go_quiet ((go_at_call 95; with_reducible exact Calls.quiet_of_same (hq1 _)))
                  go_wp2
                  go_meet
                  exact ⟨by rw [HL.out, decide_eq_true n1, decide_eq_true n5]; rfl, below_drewN hbel _⟩
                · have k5 : (5 : Int) < (m : Int) := by omega
                  go_wp2
                  go_quiet ((go_at_call 95; with_reducible exact Calls.quiet_of_same (hq1 _)))
                  go_wp2
                  go_meet
                  exact ⟨by rw [HL.out, decide_eq_false n5, Bool.and_false]; rfl, below_drewN hbel _⟩
              · have k1 : (m : Int) < 1 := by omega
                go_wp2
                go_quiet ((go_at_call 95; with_reducible exact Calls.quiet_of_same (hq1 _)))
                go_wp2
                go_meet
                exact ⟨by rw [HL.out, decide_eq_false n1, Bool.and_false, Bool.false_and]; rfl, below_drewN hbel _⟩
          · have hge : p ≤ pp := by omega
            have HL := Lib.hid (decide_eq_false hlp)
            clear hlp
            cases b1
            · skip
              go_wp2
              go_quiet ((go_at_call 95; with_reducible exact Calls.quiet_of_same (hq1 _)))
              go_wp2
              go_meet
              exact ⟨rfl, below_drewN hbel _⟩
            · skip
              go_wp2
              go_quiet ((go_at_call 95; with_reducible exact Calls.quiet_of_same (hq1 _)))
              go_wp2
              go_meet
              exact ⟨by rw [HL.out]; rfl, below_drewN hbel _⟩
      case rest =>
        obtain ⟨rfl, hbc⟩ := hcut
        cases hH : (b1 && pb && decide (1 ≤ m) && decide (m ≤ 5))
        case false =>
          have HF := Lib.hid (HS.out.2.2 (by rw [HM.out]; exact hH))
          clear hH
          go_wp2
          go_ret
          exact ⟨ret_b (by first | exact HF.out.symm | rfl), hbc⟩
        case true =>
          have hH' : b1 = true ∧ pb = true ∧ 1 ≤ m ∧ m ≤ 5 := by
            simp only [Bool.and_eq_true, decide_eq_true_eq] at hH
            exact ⟨hH.1.1.1, hH.1.1.2, hH.1.2, hH.2⟩
          have HH := Lib.hid hH'
          clear hH'
          have hgood : isRowB l = true → seenB (preT T k) T[k] = true := by
            intro hx
            rw [HS.out.1, HH.out.1, HH.out.2.1, hx]; rfl
          have hbad : isRowB l = false → isTableB T = false := by
            intro hx
            refine isTableB_false hlt ?_
            rw [HS.out.1, hx, Bool.and_false]
          have HG := Lib.hid (And.intro hgood hbad)
          clear hgood hbad hH
          go_wp2
          go_loopg [5] m (fun gq i wq => ∃ q : Nat, q ≤ m ∧ gq = m - q ∧ i = .int .i64 q ∧ (∀ j (_ : j < l.length), j < q → slotB (preOf l j) l[j] = true) ∧ Below w.heap.size w wq)
          case atStart => exact ⟨0, Nat.zero_le _, rfl, rfl, fun j _ h => absurd h (Nat.not_lt_zero j), hbc⟩
          case round =>
            obtain ⟨q, hq, rfl, rfl, hall2, hbq⟩ := hrel
            have HA2 := Lib.hid hall2
            clear hall2
            by_cases hql : q < m
            · have hql' : q < l.length := by rw [HM.out]; exact hql
              obtain ⟨rb, ro, rfl, hrb, f0, f1, f2⟩ := HR.out q hql'
              have f0 := below_some hbq f0 hrb
              have f1 := below_some hbq f1 hrb
              have f2 := below_some hbq f2 hrb
              have m2 : (q : Int) < (m : Int) := by omega
              have m3 : (0 : Int) ≤ (q : Int) := by omega
              have hfail : slotB (preOf l q) l[q] = false → isTableB T = false := fun hx => HG.out.2 (isRowB_false hql' hx)
              have hnext : slotB (preOf l q) l[q] = true → ∀ j (_ : j < l.length), j < q + 1 → slotB (preOf l j) l[j] = true := fun hx => all_succ HA2.out hql' hx
              have hsl : slotB (preOf l q) l[q] = (isNumB l[q].seq && isNumB l[q].base && isNumB l[q].fin && decide (l[q].base < l[q].fin) && (match preOf l q with | none => true | some y => decide (l[q].seq = y.seq + 1) && decide (y.fin ≤ l[q].base))) := rfl
              have hpre : (q = 0 ∧ preOf l q = none) ∨ ∃ j, q = j + 1 ∧ ∃ y, preOf l q = some y ∧ wr.cell? ⟨rb, ro + j * 3, none⟩ = some (.int .i64 y.seq) ∧ wr.cell? ⟨rb, ro + j * 3 + 2, none⟩ = some (.int .i64 y.fin) ∧ isNumB y.seq = true := by
                cases q with
                | zero => exact .inl ⟨rfl, rfl⟩
                | succ j =>
                  right
                  have hjl : j < l.length := by omega
                  obtain ⟨b', off', e, hb', d0, -, d2⟩ := HR.out j hjl
                  simp only [Option.some.injEq, Addr.mk.injEq, and_true] at e
                  obtain ⟨rfl, rfl⟩ := e
                  refine ⟨j, rfl, l[j], by simp [preOf, List.getElem?_eq_getElem hjl], below_some hbq d0 hb', below_some hbq d2 hb', ?_⟩
                  have hpg := HA2.out j hjl (by omega)
                  simp only [slotB, Bool.and_eq_true] at hpg
                  exact hpg.1.1.1.1
              have HS2 := Lib.hid (And.intro hsl hpre)
              have HF2 := Lib.hid (And.intro hfail hnext)
              clear hsl hpre hfail hnext
              have hq1 := fun w => R6num_any l[q].seq w
              have hq2 := fun w => R6num_any l[q].base w
              have hq3 := fun w => R6num_any l[q].fin w
              obtain ⟨x0, hx0⟩ : ∃ x, l[q].seq = x := ⟨_, rfl⟩
              obtain ⟨x1, hx1⟩ : ∃ x, l[q].base = x := ⟨_, rfl⟩
              obtain ⟨x2, hx2⟩ : ∃ x, l[q].fin = x := ⟨_, rfl⟩
              rw [hx0] at f0 hq1
              rw [hx1] at f1 hq2
              rw [hx2] at f2 hq3
              have hbb : ∃ b1 b2 b3, isNumB x0 = b1 ∧ isNumB x1 = b2 ∧ isNumB x2 = b3 := ⟨_, _, _, rfl, rfl, rfl⟩
              obtain ⟨c1', c2', c3', g1, g2, g3⟩ := hbb
              rw [g1] at hq1
              rw [g2] at hq2
              rw [g3] at hq3
              have HSL := Lib.hid (HS2.out.1.trans (by rw [hx0, hx1, hx2, g1, g2, g3]) : slotB (preOf l q) l[q] = (c1' && c2' && c3' && decide (x1 < x2) && (match preOf l q with | none => true | some y => decide (x0 = y.seq + 1) && decide (y.fin ≤ x1))))
              clear hx0 hx1 hx2 g1 g2 g3
              cases c1'
              case false =>
                go_wp2
                go_quiet ((go_at_call 95; first | with_reducible exact Calls.quiet_of_same (hq1 _) | with_reducible exact Calls.quiet_of_same (hq2 _) | with_reducible exact Calls.quiet_of_same (hq3 _)))
                go_wp2
                go_ret
                exact ⟨ret_b (Eq.symm (HF2.out.1 (by rw [HSL.out]; rfl))), below_drewN hbq _⟩
              cases c2'
              case false =>
                go_wp2
                go_quiet ((go_at_call 95; first | with_reducible exact Calls.quiet_of_same (hq1 _) | with_reducible exact Calls.quiet_of_same (hq2 _) | with_reducible exact Calls.quiet_of_same (hq3 _)))
                go_wp2
                go_ret
                exact ⟨ret_b (Eq.symm (HF2.out.1 (by rw [HSL.out]; rfl))), below_drewN hbq _⟩
              cases c3'
              case false =>
                go_wp2
                go_quiet ((go_at_call 95; first | with_reducible exact Calls.quiet_of_same (hq1 _) | with_reducible exact Calls.quiet_of_same (hq2 _) | with_reducible exact Calls.quiet_of_same (hq3 _)))
                go_wp2
                go_ret
                exact ⟨ret_b (Eq.symm (HF2.out.1 (by rw [HSL.out]; rfl))), below_drewN hbq _⟩
              by_cases hbf : x1 < x2
              case neg =>
                have hbf' : x2 ≤ x1 := by omega
                have HBF := Lib.hid hbf
                clear hbf
                go_wp2
                go_quiet ((go_at_call 95; first | with_reducible exact Calls.quiet_of_same (hq1 _) | with_reducible exact Calls.quiet_of_same (hq2 _) | with_reducible exact Calls.quiet_of_same (hq3 _)))
                go_wp2
                go_ret
                exact ⟨ret_b (Eq.symm (HF2.out.1 (by rw [HSL.out]; rw [decide_eq_false (by have := HBF.out; omega : ¬ x1 < x2)]; rfl))), below_drewN hbq _⟩
              have hbf' : decide (x2 ≤ x1) = false := by rw [decide_eq_false_iff_not]; omega
              have HBF := Lib.hid hbf
              clear hbf
              rcases HS2.out.2 with ⟨rfl, hpn⟩ | ⟨j, rfl, ⟨y0, y1, y2⟩, hpy, d0, d2, hyn⟩
              · have hd : decide ((0 : Int) < ((0 : Nat) : Int)) = false := by decide
                have HPN := Lib.hid hpn
                clear hpn
                simp only [Nat.zero_mul, Nat.add_zero] at f0 f1 f2
                go_wp2
                go_quiet ((go_at_call 95; first | with_reducible exact Calls.quiet_of_same (hq1 _) | with_reducible exact Calls.quiet_of_same (hq2 _) | with_reducible exact Calls.quiet_of_same (hq3 _)))
                go_wp2
                go_quiet (fail)
                go_wp2
                go_roundg (m - 1)
                case measure => omega
                case rel => exact ⟨1, by omega, rfl, by go_num, HF2.out.2 (by rw [HSL.out, HPN.out, decide_eq_true HBF.out]; rfl), below_drewN hbq _⟩
              · have HPY := Lib.hid hpy
                clear hpy
                dsimp only at d0 d2 hyn
                have hd : decide ((0 : Int) < (j : Int) + 1) = true := decide_eq_true (by omega)
                have j1 : IntKind.i64.wrap ((j : Int) + 1 - 1) = (j : Int) := by rw [IntWalk.i64_in _ (by omega)]; omega
                have j2 : IntKind.i64.wrap (j : Int) = (j : Int) := IntWalk.i64_in _ (by omega)
                have j3 : (j : Int) < (m : Int) := by omega
                have j4 : (0 : Int) ≤ (j : Int) := by omega
                have j5 : (j : Int) + 1 < (m : Int) := by omega
                have j6 : (0 : Int) ≤ (j : Int) + 1 := by omega
                have hyn' : 0 ≤ y0 ∧ y0 ≤ 1099511627776 := by simpa [isNumB] using hyn
                have j7 : IntKind.i64.wrap (y0 + 1) = y0 + 1 := IntWalk.i64_in _ (by omega)
                clear hyn hyn'
                by_cases e1 : x0 = y0 + 1
                · subst e1
                  have e3 : (y0 + 1 != y0 + 1) = false := by simp
                  by_cases e2 : y2 ≤ x1
                  · have e2d : decide (x1 < y2) = false := by rw [decide_eq_false_iff_not]; omega
                    have HE2 := Lib.hid e2
                    clear e2
                    go_wp2
                    go_quiet ((go_at_call 95; first | with_reducible exact Calls.quiet_of_same (hq1 _) | with_reducible exact Calls.quiet_of_same (hq2 _) | with_reducible exact Calls.quiet_of_same (hq3 _)))
                    go_wp2
                    go_quiet (fail)
                    go_wp2
                    go_roundg (m - (j + 1 + 1))
                    case measure => omega
                    case rel => exact ⟨j + 1 + 1, by omega, rfl, by go_num, HF2.out.2 (by rw [HSL.out, HPY.out, decide_eq_true HBF.out]; dsimp only; rw [decide_eq_true HE2.out, decide_eq_true rfl]; rfl), below_drewN hbq _⟩
                  · have e2d : x1 < y2 := by omega
                    have HE2 := Lib.hid e2
                    clear e2
                    go_wp2
                    go_quiet ((go_at_call 95; first | with_reducible exact Calls.quiet_of_same (hq1 _) | with_reducible exact Calls.quiet_of_same (hq2 _) | with_reducible exact Calls.quiet_of_same (hq3 _)))
                    go_wp2
                    go_quiet (fail)
                    go_wp2
                    go_ret
                    exact ⟨ret_b (Eq.symm (HF2.out.1 (by rw [HSL.out, HPY.out]; dsimp only; rw [decide_eq_false (by have := HE2.out; omega : ¬ y2 ≤ x1), Bool.and_false, Bool.and_false]))), below_drewN (below_drewN hbq _) _⟩
                · have e3 : (x0 != y0 + 1) = true := by simpa using e1
                  have HE1 := Lib.hid e1
                  clear e1
                  go_wp2
                  go_quiet ((go_at_call 95; first | with_reducible exact Calls.quiet_of_same (hq1 _) | with_reducible exact Calls.quiet_of_same (hq2 _) | with_reducible exact Calls.quiet_of_same (hq3 _)))
                  go_wp2
                  go_quiet (fail)
                  go_wp2
                  go_ret
                  exact ⟨ret_b (Eq.symm (HF2.out.1 (by rw [HSL.out, HPY.out]; dsimp only; rw [decide_eq_false (by have := HE1.out; omega : ¬ x0 = y0 + 1), Bool.false_and, Bool.and_false]))), below_drewN (below_drewN hbq _) _⟩
            · have m2 : ¬ (q : Int) < (m : Int) := by omega
              have hrg : isRowB l = true := by
                rw [isRowB_end (fun j hj => HA2.out j hj (by have := HM.out; omega)), HM.out, decide_eq_true HH.out.2.2.1, decide_eq_true HH.out.2.2.2]; rfl
              have hns := seen_succ HA.out hlt (HG.out.1 hrg)
              have HNS := Lib.hid hns
              clear hrg hns
              go_wp2
              go_roundg (T.length - (k + 1))
              case measure => omega
              case rel => exact ⟨k + 1, by omega, rfl, by go_num, HNS.out, hbq⟩
    · have i2 : ¬ (k : Int) < (T.length : Int) := by omega
      have hfin : isTableB T = true := by
        rw [isTableB_end (fun j hj => HA.out j hj (by omega)), decide_eq_true h64]
      have HF := Lib.hid hfin
      clear hfin
      go_wp2
      go_ret
      exact ⟨ret_b (by first | exact HF.out.symm | rfl), hbel⟩
end Go.Proofs.YtjkobbmdemooaaaGreatDoor
