/- The walks of the reference's Same (two equal tables) and Good. -/
import Derived.Test.YtjkobbmdemooaaaGreatDoorLedE0
namespace Go.Proofs.YtjkobbmdemooaaaGreatDoor
open Go.RowKit

set_option maxRecDepth 100000 in
set_option maxHeartbeats 2000000 in
theorem R6Same_eq {w : World} {v v' : Value} {T : List (Int × List Slot)} (h : SeensRd w v T) (h' : SeensRd w v' T) :
    Calls Tryz.prog 31 #[v, v'] w fun e w' => e = .returned (.bool true) ∧ Below w.heap.size w w' := by
  obtain ⟨a, cap, rfl, hml, hC⟩ := h.cells
  obtain ⟨a', cap', rfl, -, hC'⟩ := h'.cells
  have hml : (T.length : Int) ≤ 9223372036854775807 := by unfold maxLen at hml; omega
  have HC := Lib.hid (And.intro hC hC')
  clear h h' hC hC'
  go_enter Tryz.func31, Tryz.ntmps31
  go_wp2
  go_loopg [5] T.length (fun gk i wr => ∃ k : Nat, k ≤ T.length ∧ gk = T.length - k ∧ i = .int .i64 k ∧ Below w.heap.size w wr)
  case atStart => exact ⟨0, Nat.zero_le _, rfl, rfl, Below.refl _ _⟩
  case round =>
    obtain ⟨k, hk, rfl, rfl, hbel⟩ := hrel
    by_cases hlt : k < T.length
    · obtain ⟨b, off, sa, sc, rfl, hb, c0, c1, hsl⟩ := HC.out.1 k hlt
      obtain ⟨b', off', sa', sc', rfl, hb', c0', c1', hsl'⟩ := HC.out.2 k hlt
      have hml2 : (T[k].2.length : Int) ≤ 9223372036854775807 := by have := Rd.maxlen hsl; unfold maxLen at this; omega
      have HR := Lib.hid (And.intro hsl.cells (And.intro hsl'.cells (And.intro c1 c1')))
      clear hsl hsl'
      have c0 := below_some hbel c0 hb
      have c1 := below_some hbel c1 hb
      have c0' := below_some hbel c0' hb'
      have c1' := below_some hbel c1' hb'
      have i2 : (k : Int) < (T.length : Int) := by omega
      have i3 : (0 : Int) ≤ (k : Int) := by omega
      generalize T[k].1 = p at *
      generalize T[k].2 = l at *
      have e1 : (p != p) = false := by simp
      have e2 : ((l.length : Int) != (l.length : Int)) = false := by simp
      have e3 : (l.length != l.length) = false := by simp
      go_wp2
      go_quiet (fail)
      go_wp2
      go_loopg [6] l.length (fun gk i wq => ∃ q : Nat, q ≤ l.length ∧ gk = l.length - q ∧ i = .int .i64 q ∧ Below w.heap.size w wq)
      case atStart => exact ⟨0, Nat.zero_le _, rfl, rfl, below_drewN hbel _⟩
      case round =>
        obtain ⟨q, hq, rfl, rfl, hbq⟩ := hrel
        have c1 := below_some hbq HR.out.2.2.1 hb
        have c1' := below_some hbq HR.out.2.2.2 hb'
        by_cases hql : q < l.length
        · obtain ⟨rb, ro, rfl, hrb, f0, f1, f2⟩ := HR.out.1 q hql
          obtain ⟨rb', ro', rfl, hrb', f0', f1', f2'⟩ := HR.out.2.1 q hql
          have f0 := below_some hbq f0 hrb
          have f1 := below_some hbq f1 hrb
          have f2 := below_some hbq f2 hrb
          have f0' := below_some hbq f0' hrb'
          have f1' := below_some hbq f1' hrb'
          have f2' := below_some hbq f2' hrb'
          generalize l[q].seq = x0 at *
          generalize l[q].base = x1 at *
          generalize l[q].fin = x2 at *
          have j2 : (q : Int) < (l.length : Int) := by omega
          have j3 : (0 : Int) ≤ (q : Int) := by omega
          have g0 : (x0 != x0) = false := by simp
          have g1 : (x1 != x1) = false := by simp
          have g2 : (x2 != x2) = false := by simp
          go_wp2
          go_quiet (fail)
          go_wp2
          go_roundg (l.length - (q + 1))
          case measure => omega
          case rel => exact ⟨q + 1, by omega, rfl, by go_num, below_drewN hbq _⟩
        · have j2 : ¬ (q : Int) < (l.length : Int) := by omega
          go_wp2
          go_roundg (T.length - (k + 1))
          case measure => omega
          case rel => exact ⟨k + 1, by omega, rfl, by go_num, hbq⟩
    · have i2 : ¬ (k : Int) < (T.length : Int) := by omega
      go_wp2
      go_ret
      exact ⟨rfl, hbel⟩
end Go.Proofs.YtjkobbmdemooaaaGreatDoor
