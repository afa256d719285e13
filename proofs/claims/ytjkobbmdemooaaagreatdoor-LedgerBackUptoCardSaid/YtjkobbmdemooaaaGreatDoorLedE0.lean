/- The walks of the reference's readers: great, num, at, Check, Same. -/
import Derived.Test.YtjkobbmdemooaaaGreatDoorLedF0
namespace Go.Proofs.YtjkobbmdemooaaaGreatDoor
open Go.RowKit

def greatB (T : List (Int × List Slot)) : Bool := decide (100 < T.length) || decide (∃ k, ∃ h : k < T.length, 20 < T[k].2.length)

set_option maxRecDepth 100000 in
set_option maxHeartbeats 1000000 in
theorem great_any {w : World} {v : Value} {T : List (Int × List Slot)} (h : SeensRd w v T) :
    Calls Tryz.prog 26 #[v] w fun e w' => e = .returned (.bool (greatB T)) ∧ w' = w := by
  obtain ⟨a, cap, rfl, hml, hC⟩ := h.cells
  have hml : (T.length : Int) ≤ 9223372036854775807 := by unfold maxLen at hml; omega
  have HC := Lib.hid hC
  clear h hC
  go_enter Tryz.func26, Tryz.ntmps26
  by_cases h100 : 100 < T.length
  · have i1 : (100 : Int) < (T.length : Int) := by omega
    go_wp2
    go_ret
    exact ⟨ret_b (by simp [greatB, h100]), rfl⟩
  · have i1 : ¬ (100 : Int) < (T.length : Int) := by omega
    go_wp2
    go_loopg [3] T.length (fun gk i wr => ∃ k : Nat, k ≤ T.length ∧ gk = T.length - k ∧ i = .int .i64 k ∧ (∀ j (_ : j < T.length), j < k → ¬ 20 < T[j].2.length) ∧ wr = w)
    case atStart => exact ⟨0, Nat.zero_le _, rfl, rfl, fun j _ h => absurd h (Nat.not_lt_zero j), rfl⟩
    case round =>
      obtain ⟨k, hk, rfl, rfl, hall, rfl⟩ := hrel
      have HA := Lib.hid hall
      clear hall
      by_cases hlt : k < T.length
      · obtain ⟨b, off, sa, sc, rfl, hb, c0, c1, -⟩ := HC.out k hlt
        have i2 : (k : Int) < (T.length : Int) := by omega
        by_cases h20 : 20 < T[k].2.length
        · have i3 : (20 : Int) < (T[k].2.length : Int) := by omega
          have HG : greatB T = true := by
            simp only [greatB, Bool.or_eq_true, decide_eq_true_eq]; exact .inr ⟨k, hlt, h20⟩
          have HG := Lib.hid HG
          generalize T[k].2.length = n at *
          go_wp2
          go_ret
          exact ⟨ret_b (by first | exact HG.out.symm | rfl), rfl⟩
        · have i3 : ¬ (20 : Int) < (T[k].2.length : Int) := by omega
          have HA2 : ∀ j (_ : j < T.length), j < k + 1 → ¬ 20 < T[j].2.length := by
            intro j hj h1
            by_cases e : j = k
            · subst e; exact h20
            · exact HA.out j hj (by omega)
          have HA2 := Lib.hid HA2
          generalize T[k].2.length = n at *
          go_wp2
          go_roundg (T.length - (k + 1))
          case measure => omega
          case rel => exact ⟨k + 1, by omega, rfl, by go_num, HA2.out, rfl⟩
      · have i2 : ¬ (k : Int) < (T.length : Int) := by omega
        have HG : greatB T = false := by
          simp only [greatB, Bool.or_eq_false_iff, decide_eq_false_iff_not]
          refine ⟨h100, ?_⟩
          rintro ⟨j, hj, h2⟩
          exact HA.out j hj (by omega) h2
        have HG := Lib.hid HG
        go_wp2
        go_ret
        exact ⟨ret_b (by first | exact HG.out.symm | rfl), rfl⟩

set_option maxHeartbeats 400000 in
theorem R6num_any (n : Int) (w : World) : Calls Tryz.prog 95 #[.int .i64 n] w fun e w' => e = .returned (.bool (isNumB n)) ∧ w' = w := by
  go_enter Tryz.func95, Tryz.ntmps95
  go_wp2
  all_goals go_ret
  all_goals simp [isNumB]; omega

end Go.Proofs.YtjkobbmdemooaaaGreatDoor
