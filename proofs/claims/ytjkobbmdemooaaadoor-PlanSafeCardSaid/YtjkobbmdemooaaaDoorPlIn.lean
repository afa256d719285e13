/- The walk of in of layer 12. -/
import Derived.Test.YtjkobbmdemooaaaDoorPlD
namespace Go.Proofs.YtjkobbmdemooaaaDoor
open Go.RowKit

set_option maxRecDepth 100000 in
set_option maxHeartbeats 2000000 in
theorem Lin_any {w : World} {v : Value} {l : List Int} (h : IntsRd w v l) (n : Int) : Calls Tryd.prog 13 #[v, .int .i64 n] w fun e w' => e = .returned (.bool (l.contains n)) ∧ Below w.heap.size w w' := by
  obtain ⟨a, c, rfl, -, hm, hC⟩ := h.cells
  have hm1 : (l.length : Int) ≤ 9223372036854775807 := by have : maxLen = 9223372036854775807 := rfl; omega
  have HC := Lib.hid hC
  obtain ⟨R, hR⟩ : ∃ R, l.contains n = R := ⟨_, rfl⟩
  rw [hR]
  have HR := Lib.hid hR
  clear h hC hm hR
  go_enter Tryd.func13, Tryd.ntmps13
  go_wp2
  go_loopg [5] l.length (fun gk i wr => ∃ k : Nat, k ≤ l.length ∧ gk = l.length - k ∧ i = .int .i64 k ∧ n ∉ l.take k ∧ Below w.heap.size w wr)
  case atStart => exact ⟨0, Nat.zero_le _, rfl, rfl, by simp, Below.refl _ _⟩
  case round =>
    obtain ⟨k, hk, rfl, rfl, hno, hbel⟩ := hrel
    have HQ := Lib.hid hno
    clear hno
    by_cases hlt : k < l.length
    · obtain ⟨b, off, rfl, hb, c0⟩ := HC.out k hlt
      have c1 := below_some hbel c0 hb
      have i1 : (k : Int) < (l.length : Int) := by omega
      have i2 : (0 : Int) ≤ (k : Int) := by omega
      have htk : ¬ l[k] = n → n ∉ l.take (k + 1) := by
        intro e h2
        rw [List.take_succ_eq_append_getElem hlt, List.mem_append] at h2
        rcases h2 with h2 | h2
        · exact HQ.out h2
        · simp at h2; exact e h2.symm
      have hyes : l[k] = n → R = true := by
        intro e
        rw [← HR.out]
        simp only [List.contains_eq_mem, decide_eq_true_eq]
        exact e ▸ List.getElem_mem hlt
      have HTK := Lib.hid htk
      have HY := Lib.hid hyes
      clear htk hyes c0
      generalize l[k] = x at *
      by_cases hx : x = n
      · have hr := HY.out hx
        subst hr
        go_wp2
        go_ret
        exact ⟨rfl, hbel⟩
      · have hx' : ¬ (x = n) := hx
        go_wp2
        go_roundg (l.length - (k + 1))
        case measure => omega
        case rel => exact ⟨k + 1, by omega, rfl, by go_num, HTK.out hx, hbel⟩
    · have i1 : ¬ (k : Int) < (l.length : Int) := by omega
      have hr : R = false := by
        rw [← HR.out]
        have := HQ.out
        rw [List.take_of_length_le (by omega)] at this
        simpa using this
      subst hr
      go_wp2
      go_ret
      exact ⟨rfl, hbel⟩
end Go.Proofs.YtjkobbmdemooaaaDoor
