/- The walks of the reference's Ints, Places, Same. -/
import Derived.Test.YtjkobbmdemooaaaGreatDoorPlD
namespace Go.Proofs.YtjkobbmdemooaaaGreatDoor
open Go.RowKit

set_option maxRecDepth 100000 in
set_option maxHeartbeats 2000000 in
theorem RInts_any {w : World} {v v' : Value} {l l' : List Int} (h : IntsRd w v l) (h' : IntsRd w v' l') : Calls Tryz.prog 14 #[v, v'] w fun e w' => e = .returned (.bool (decide (l = l'))) ∧ Below w.heap.size w w' := by
  obtain ⟨a, c, rfl, -, hm, hC⟩ := h.cells
  obtain ⟨a', c', rfl, -, hm', hC'⟩ := h'.cells
  have hm1 : (l.length : Int) ≤ 9223372036854775807 := by have : maxLen = 9223372036854775807 := rfl; omega
  have hm2 : (l'.length : Int) ≤ 9223372036854775807 := by have : maxLen = 9223372036854775807 := rfl; omega
  have HC := Lib.hid hC
  have HC' := Lib.hid hC'
  clear h h' hC hC' hm hm'
  by_cases hl : l.length = l'.length
  case neg =>
    have hne : ¬ (l.length : Int) = (l'.length : Int) := by omega
    have hd : decide (l = l') = false := by rw [decide_eq_false_iff_not]; intro e; exact hl (by rw [e])
    rw [hd]
    clear hd hl
    go_enter Tryz.func14, Tryz.ntmps14
    go_wp2
    go_ret
    exact ⟨rfl, Below.refl _ _⟩
  case pos =>
    have HL := Lib.hid hl
    obtain ⟨R, hR⟩ : ∃ R, decide (l = l') = R := ⟨_, rfl⟩
    rw [hR]
    have HR := Lib.hid hR
    rw [← hl]
    clear hR hm2 hl
    go_enter Tryz.func14, Tryz.ntmps14
    go_wp2
    go_loopg [5] l.length (fun gk i wr => ∃ k : Nat, k ≤ l.length ∧ gk = l.length - k ∧ i = .int .i64 k ∧ l.take k = l'.take k ∧ Below w.heap.size w wr)
    case atStart => exact ⟨0, Nat.zero_le _, rfl, rfl, rfl, Below.refl _ _⟩
    case round =>
      obtain ⟨k, hk, rfl, rfl, heq, hbel⟩ := hrel
      have HQ := Lib.hid heq
      clear heq
      by_cases hlt : k < l.length
      · obtain ⟨b, off, rfl, hb, c0⟩ := HC.out k hlt
        obtain ⟨b', off', rfl, hb', c0'⟩ := HC'.out k (by have := HL.out; omega)
        have c1 := below_some hbel c0 hb
        have c1' := below_some hbel c0' hb'
        have i1 : (k : Int) < (l.length : Int) := by omega
        have i2 : (0 : Int) ≤ (k : Int) := by omega
        have hlt' : k < l'.length := by have := HL.out; omega
        have htk : l[k] = l'[k] → l.take (k + 1) = l'.take (k + 1) := by
          intro e
          rw [List.take_succ_eq_append_getElem hlt, List.take_succ_eq_append_getElem hlt', HQ.out, e]
        have hne : ¬ l[k] = l'[k] → R = false := by
          intro e
          rw [← HR.out, decide_eq_false_iff_not]
          intro e2
          subst e2
          exact e rfl
        have HTK := Lib.hid htk
        have HNE := Lib.hid hne
        clear htk hne c0 c0'
        generalize l[k] = x at *
        generalize l'[k] = y at *
        by_cases hxy : x = y
        · subst hxy
          go_wp2
          go_quiet (fail)
          go_wp2
          go_roundg (l.length - (k + 1))
          case measure => omega
          case rel => exact ⟨k + 1, by omega, rfl, by go_num, HTK.out (by first | rfl | trivial), below_drewN hbel _⟩
        · have hRf := HNE.out hxy
          subst hRf
          go_wp2
          go_quiet (fail)
          go_wp2
          go_ret
          exact ⟨rfl, below_drewN hbel _⟩
      · have i1 : ¬ (k : Int) < (l.length : Int) := by omega
        have hRt : R = true := by
          rw [← HR.out, decide_eq_true_iff]
          have := HQ.out
          rw [List.take_of_length_le (by omega), List.take_of_length_le (by have := HL.out; omega)] at this
          exact this
        subst hRt
        go_wp2
        go_ret
        exact ⟨rfl, hbel⟩
end Go.Proofs.YtjkobbmdemooaaaGreatDoor
