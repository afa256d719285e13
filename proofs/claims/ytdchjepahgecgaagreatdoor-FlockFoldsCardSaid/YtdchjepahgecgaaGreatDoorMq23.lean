/- The walk of a reader's More. -/
import Derived.Test.YtdchjepahgecgaaGreatDoorMq5
namespace Go.Proofs.YtdchjepahgecgaaGreatDoor
open Go.RowKit

theorem BrMore_any {w : World} {p : Nat} {st : RS} (h : RdAt w p st) :
    Calls Tryz.prog 50 #[.pointer (some ⟨p, 0, none⟩)] w fun e w' => e = .returned (.bool (rdM st)) ∧ w' = w := by
  obtain ⟨s, b⟩ := st
  have R := Lib.hid (ready_any h)
  have c0 := h.cell0
  clear h
  cases b
  · cases s with
    | nil =>
      have hM : rdM ([], false) = false := rfl
      rw [hM]
      have e0 : (bs []).toList = [] := bs_toList []
      go_enter Tryz.func50, Tryz.ntmps50
      go_wp2_with (first | (go_at_call 84; refine R.out.mono ?_; rintro e w1 ⟨rfl, rfl⟩))
      go_ret
      exact ⟨rfl, rfl⟩
    | cons a r =>
      have e0 : ¬ (bs (a :: r)).toList = [] := by rw [bs_toList]; simp
      have hz : (0 : Int) < ((bs (a :: r)).size : Int) := by rw [bs_size]; simp only [List.length_cons]; omega
      go_enter Tryz.func50, Tryz.ntmps50
      go_wp2_with (first | (go_at_call 84; refine R.out.mono ?_; rintro e w1 ⟨rfl, rfl⟩))
      go_ret
      refine ⟨ret_b ?_, rfl⟩
      rw [bs_get, bs_toList]
      simp only [rdM, List.isEmpty_cons, Bool.not_false, Bool.true_and, List.getElem_cons_zero, List.head?_cons, ne_eq, Option.some.injEq]
      exact byte_ne a 101
  · have hM : rdM (s, true) = false := rfl
    rw [hM]
    go_enter Tryz.func50, Tryz.ntmps50
    go_wp2_with (first | (go_at_call 84; refine R.out.mono ?_; rintro e w1 ⟨rfl, rfl⟩))
    go_ret
    exact ⟨rfl, rfl⟩
end Go.Proofs.YtdchjepahgecgaaGreatDoor
