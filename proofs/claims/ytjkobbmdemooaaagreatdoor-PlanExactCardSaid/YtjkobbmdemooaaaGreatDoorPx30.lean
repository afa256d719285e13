/- The walk of plan.isEvent. -/
import Derived.Test.YtjkobbmdemooaaaGreatDoorPx6
namespace Go.Proofs.YtjkobbmdemooaaaGreatDoor
open Go.RowKit

set_option maxRecDepth 100000 in
set_option maxHeartbeats 8000000 in
theorem isEvent_any (x : Event) (w : World) : Calls Tryz.prog 38 #[x.v] w fun e w' => e = .returned (.bool (eventB x)) ∧ Below w.heap.size w w' := by
  obtain ⟨k, nd, pt, n⟩ := x
  unfold Event.v
  dsimp only
  have W1 := Lib.hid (fun w => within_any nd 1 5 w)
  have W2 := Lib.hid (fun w => within_any pt 0 3 w)
  have W3 := Lib.hid (fun w => within_any n 1 1073741824 w)
  have he0 : eventB ⟨k, nd, pt, n⟩ = if k = 1 then inB nd 1 5 && decide (pt = 0) && inB n 1 1073741824
    else if k = 2 then inB nd 1 5 && decide (pt = 0) && decide (n = 0)
    else if k = 3 then inB nd 1 5 && inB pt 0 3 && inB n 1 1073741824
    else if k = 4 then decide (nd = 0) && decide (pt = 0) && decide (n = 0)
    else if k = 5 then inB nd 1 5 && inB pt 0 3 && decide (n = 0)
    else false := rfl
  obtain ⟨eb, heb⟩ : ∃ eb, eventB ⟨k, nd, pt, n⟩ = eb := ⟨_, rfl⟩
  rw [heb] at he0 ⊢
  clear heb
  obtain ⟨b1, h1⟩ : ∃ b, inB nd 1 5 = b := ⟨_, rfl⟩
  obtain ⟨b2, h2⟩ : ∃ b, inB pt 0 3 = b := ⟨_, rfl⟩
  obtain ⟨b3, h3⟩ : ∃ b, inB n 1 1073741824 = b := ⟨_, rfl⟩
  rw [h1, h2, h3] at he0
  have HE := Lib.hid he0
  clear he0
  have H1 := Lib.hid h1
  have H2 := Lib.hid h2
  have H3 := Lib.hid h3
  clear h1 h2 h3
  by_cases k1 : k = 1
  · subst k1
    cases b1
    · go_enter Tryz.func38, Tryz.ntmps38
      go_wp2_with (first | (go_at_call 46; with_reducible refine (W1.out _).mono ?_; rintro e w1 ⟨rfl, rfl⟩; rw [H1.out]) | (go_at_call 46; with_reducible refine (W2.out _).mono ?_; rintro e w1 ⟨rfl, rfl⟩; rw [H2.out]) | (go_at_call 46; with_reducible refine (W3.out _).mono ?_; rintro e w1 ⟨rfl, rfl⟩; rw [H3.out]))
      exact bodyPost_ret (v := .bool false) (by simp [results, Tryz.results38, go_sem] <;> omega) rfl ⟨by rw [HE.out]; (first | (simp; done) | (simp <;> omega)), below_alloc _ _⟩
    · by_cases hp : pt = 0
      · subst hp
        go_enter Tryz.func38, Tryz.ntmps38
        go_wp2_with (first | (go_at_call 46; with_reducible refine (W1.out _).mono ?_; rintro e w1 ⟨rfl, rfl⟩; rw [H1.out]) | (go_at_call 46; with_reducible refine (W2.out _).mono ?_; rintro e w1 ⟨rfl, rfl⟩; rw [H2.out]) | (go_at_call 46; with_reducible refine (W3.out _).mono ?_; rintro e w1 ⟨rfl, rfl⟩; rw [H3.out]))
        exact bodyPost_ret (v := .bool b3) (by simp [results, Tryz.results38, go_sem] <;> omega) rfl ⟨by rw [HE.out]; (first | (simp; done) | (simp <;> omega)), below_alloc _ _⟩
      · go_enter Tryz.func38, Tryz.ntmps38
        go_wp2_with (first | (go_at_call 46; with_reducible refine (W1.out _).mono ?_; rintro e w1 ⟨rfl, rfl⟩; rw [H1.out]) | (go_at_call 46; with_reducible refine (W2.out _).mono ?_; rintro e w1 ⟨rfl, rfl⟩; rw [H2.out]) | (go_at_call 46; with_reducible refine (W3.out _).mono ?_; rintro e w1 ⟨rfl, rfl⟩; rw [H3.out]))
        exact bodyPost_ret (v := .bool false) (by simp [results, Tryz.results38, go_sem] <;> omega) rfl ⟨by rw [HE.out]; (first | (simp; done) | (simp <;> omega)), below_alloc _ _⟩
  by_cases k2 : k = 2
  · subst k2
    cases b1
    · go_enter Tryz.func38, Tryz.ntmps38
      go_wp2_with (first | (go_at_call 46; with_reducible refine (W1.out _).mono ?_; rintro e w1 ⟨rfl, rfl⟩; rw [H1.out]) | (go_at_call 46; with_reducible refine (W2.out _).mono ?_; rintro e w1 ⟨rfl, rfl⟩; rw [H2.out]) | (go_at_call 46; with_reducible refine (W3.out _).mono ?_; rintro e w1 ⟨rfl, rfl⟩; rw [H3.out]))
      exact bodyPost_ret (v := .bool false) (by simp [results, Tryz.results38, go_sem] <;> omega) rfl ⟨by rw [HE.out]; (first | (simp; done) | (simp <;> omega)), below_alloc _ _⟩
    · by_cases hp : pt = 0
      · subst hp
        by_cases hn : n = 0
        · subst hn
          go_enter Tryz.func38, Tryz.ntmps38
          go_wp2_with (first | (go_at_call 46; with_reducible refine (W1.out _).mono ?_; rintro e w1 ⟨rfl, rfl⟩; rw [H1.out]) | (go_at_call 46; with_reducible refine (W2.out _).mono ?_; rintro e w1 ⟨rfl, rfl⟩; rw [H2.out]) | (go_at_call 46; with_reducible refine (W3.out _).mono ?_; rintro e w1 ⟨rfl, rfl⟩; rw [H3.out]))
          exact bodyPost_ret (v := .bool true) (by simp [results, Tryz.results38, go_sem] <;> omega) rfl ⟨by rw [HE.out]; (first | (simp; done) | (simp <;> omega)), below_alloc _ _⟩
        · go_enter Tryz.func38, Tryz.ntmps38
          go_wp2_with (first | (go_at_call 46; with_reducible refine (W1.out _).mono ?_; rintro e w1 ⟨rfl, rfl⟩; rw [H1.out]) | (go_at_call 46; with_reducible refine (W2.out _).mono ?_; rintro e w1 ⟨rfl, rfl⟩; rw [H2.out]) | (go_at_call 46; with_reducible refine (W3.out _).mono ?_; rintro e w1 ⟨rfl, rfl⟩; rw [H3.out]))
          exact bodyPost_ret (v := .bool false) (by simp [results, Tryz.results38, go_sem] <;> omega) rfl ⟨by rw [HE.out]; (first | (simp; done) | (simp <;> omega)), below_alloc _ _⟩
      · go_enter Tryz.func38, Tryz.ntmps38
        go_wp2_with (first | (go_at_call 46; with_reducible refine (W1.out _).mono ?_; rintro e w1 ⟨rfl, rfl⟩; rw [H1.out]) | (go_at_call 46; with_reducible refine (W2.out _).mono ?_; rintro e w1 ⟨rfl, rfl⟩; rw [H2.out]) | (go_at_call 46; with_reducible refine (W3.out _).mono ?_; rintro e w1 ⟨rfl, rfl⟩; rw [H3.out]))
        exact bodyPost_ret (v := .bool false) (by simp [results, Tryz.results38, go_sem] <;> omega) rfl ⟨by rw [HE.out]; (first | (simp; done) | (simp <;> omega)), below_alloc _ _⟩
  by_cases k3 : k = 3
  · subst k3
    cases b1
    · go_enter Tryz.func38, Tryz.ntmps38
      go_wp2_with (first | (go_at_call 46; with_reducible refine (W1.out _).mono ?_; rintro e w1 ⟨rfl, rfl⟩; rw [H1.out]) | (go_at_call 46; with_reducible refine (W2.out _).mono ?_; rintro e w1 ⟨rfl, rfl⟩; rw [H2.out]) | (go_at_call 46; with_reducible refine (W3.out _).mono ?_; rintro e w1 ⟨rfl, rfl⟩; rw [H3.out]))
      exact bodyPost_ret (v := .bool false) (by simp [results, Tryz.results38, go_sem] <;> omega) rfl ⟨by rw [HE.out]; (first | (simp; done) | (simp <;> omega)), below_alloc _ _⟩
    · cases b2
      · go_enter Tryz.func38, Tryz.ntmps38
        go_wp2_with (first | (go_at_call 46; with_reducible refine (W1.out _).mono ?_; rintro e w1 ⟨rfl, rfl⟩; rw [H1.out]) | (go_at_call 46; with_reducible refine (W2.out _).mono ?_; rintro e w1 ⟨rfl, rfl⟩; rw [H2.out]) | (go_at_call 46; with_reducible refine (W3.out _).mono ?_; rintro e w1 ⟨rfl, rfl⟩; rw [H3.out]))
        exact bodyPost_ret (v := .bool false) (by simp [results, Tryz.results38, go_sem] <;> omega) rfl ⟨by rw [HE.out]; (first | (simp; done) | (simp <;> omega)), below_alloc _ _⟩
      · go_enter Tryz.func38, Tryz.ntmps38
        go_wp2_with (first | (go_at_call 46; with_reducible refine (W1.out _).mono ?_; rintro e w1 ⟨rfl, rfl⟩; rw [H1.out]) | (go_at_call 46; with_reducible refine (W2.out _).mono ?_; rintro e w1 ⟨rfl, rfl⟩; rw [H2.out]) | (go_at_call 46; with_reducible refine (W3.out _).mono ?_; rintro e w1 ⟨rfl, rfl⟩; rw [H3.out]))
        exact bodyPost_ret (v := .bool b3) (by simp [results, Tryz.results38, go_sem] <;> omega) rfl ⟨by rw [HE.out]; (first | (simp; done) | (simp <;> omega)), below_alloc _ _⟩
  by_cases k4 : k = 4
  · subst k4
    by_cases hA : nd = 0
    · subst hA
      by_cases hB : pt = 0
      · subst hB
        by_cases hC : n = 0
        · subst hC
          go_enter Tryz.func38, Tryz.ntmps38
          go_wp2_with (first | (go_at_call 46; with_reducible refine (W1.out _).mono ?_; rintro e w1 ⟨rfl, rfl⟩; rw [H1.out]) | (go_at_call 46; with_reducible refine (W2.out _).mono ?_; rintro e w1 ⟨rfl, rfl⟩; rw [H2.out]) | (go_at_call 46; with_reducible refine (W3.out _).mono ?_; rintro e w1 ⟨rfl, rfl⟩; rw [H3.out]))
          exact bodyPost_ret (v := .bool true) (by simp [results, Tryz.results38, go_sem]) rfl ⟨by rw [HE.out]; simp, below_alloc _ _⟩
        · go_enter Tryz.func38, Tryz.ntmps38
          go_wp2_with (first | (go_at_call 46; with_reducible refine (W1.out _).mono ?_; rintro e w1 ⟨rfl, rfl⟩; rw [H1.out]) | (go_at_call 46; with_reducible refine (W2.out _).mono ?_; rintro e w1 ⟨rfl, rfl⟩; rw [H2.out]) | (go_at_call 46; with_reducible refine (W3.out _).mono ?_; rintro e w1 ⟨rfl, rfl⟩; rw [H3.out]))
          exact bodyPost_ret (v := .bool false) (by simp [results, Tryz.results38, go_sem]) rfl ⟨by rw [HE.out]; simp [hC], below_alloc _ _⟩
      · go_enter Tryz.func38, Tryz.ntmps38
        go_wp2_with (first | (go_at_call 46; with_reducible refine (W1.out _).mono ?_; rintro e w1 ⟨rfl, rfl⟩; rw [H1.out]) | (go_at_call 46; with_reducible refine (W2.out _).mono ?_; rintro e w1 ⟨rfl, rfl⟩; rw [H2.out]) | (go_at_call 46; with_reducible refine (W3.out _).mono ?_; rintro e w1 ⟨rfl, rfl⟩; rw [H3.out]))
        exact bodyPost_ret (v := .bool false) (by simp [results, Tryz.results38, go_sem]) rfl ⟨by rw [HE.out]; simp [hB], below_alloc _ _⟩
    · go_enter Tryz.func38, Tryz.ntmps38
      go_wp2_with (first | (go_at_call 46; with_reducible refine (W1.out _).mono ?_; rintro e w1 ⟨rfl, rfl⟩; rw [H1.out]) | (go_at_call 46; with_reducible refine (W2.out _).mono ?_; rintro e w1 ⟨rfl, rfl⟩; rw [H2.out]) | (go_at_call 46; with_reducible refine (W3.out _).mono ?_; rintro e w1 ⟨rfl, rfl⟩; rw [H3.out]))
      exact bodyPost_ret (v := .bool false) (by simp [results, Tryz.results38, go_sem]) rfl ⟨by rw [HE.out]; simp [hA], below_alloc _ _⟩
  by_cases k5 : k = 5
  · subst k5
    cases b1
    · go_enter Tryz.func38, Tryz.ntmps38
      go_wp2_with (first | (go_at_call 46; with_reducible refine (W1.out _).mono ?_; rintro e w1 ⟨rfl, rfl⟩; rw [H1.out]) | (go_at_call 46; with_reducible refine (W2.out _).mono ?_; rintro e w1 ⟨rfl, rfl⟩; rw [H2.out]) | (go_at_call 46; with_reducible refine (W3.out _).mono ?_; rintro e w1 ⟨rfl, rfl⟩; rw [H3.out]))
      exact bodyPost_ret (v := .bool false) (by simp [results, Tryz.results38, go_sem] <;> omega) rfl ⟨by rw [HE.out]; (first | (simp; done) | (simp <;> omega)), below_alloc _ _⟩
    · cases b2
      · go_enter Tryz.func38, Tryz.ntmps38
        go_wp2_with (first | (go_at_call 46; with_reducible refine (W1.out _).mono ?_; rintro e w1 ⟨rfl, rfl⟩; rw [H1.out]) | (go_at_call 46; with_reducible refine (W2.out _).mono ?_; rintro e w1 ⟨rfl, rfl⟩; rw [H2.out]) | (go_at_call 46; with_reducible refine (W3.out _).mono ?_; rintro e w1 ⟨rfl, rfl⟩; rw [H3.out]))
        exact bodyPost_ret (v := .bool false) (by simp [results, Tryz.results38, go_sem] <;> omega) rfl ⟨by rw [HE.out]; (first | (simp; done) | (simp <;> omega)), below_alloc _ _⟩
      · by_cases hn : n = 0
        · subst hn
          go_enter Tryz.func38, Tryz.ntmps38
          go_wp2_with (first | (go_at_call 46; with_reducible refine (W1.out _).mono ?_; rintro e w1 ⟨rfl, rfl⟩; rw [H1.out]) | (go_at_call 46; with_reducible refine (W2.out _).mono ?_; rintro e w1 ⟨rfl, rfl⟩; rw [H2.out]) | (go_at_call 46; with_reducible refine (W3.out _).mono ?_; rintro e w1 ⟨rfl, rfl⟩; rw [H3.out]))
          exact bodyPost_ret (v := .bool true) (by simp [results, Tryz.results38, go_sem] <;> omega) rfl ⟨by rw [HE.out]; (first | (simp; done) | (simp <;> omega)), below_alloc _ _⟩
        · go_enter Tryz.func38, Tryz.ntmps38
          go_wp2_with (first | (go_at_call 46; with_reducible refine (W1.out _).mono ?_; rintro e w1 ⟨rfl, rfl⟩; rw [H1.out]) | (go_at_call 46; with_reducible refine (W2.out _).mono ?_; rintro e w1 ⟨rfl, rfl⟩; rw [H2.out]) | (go_at_call 46; with_reducible refine (W3.out _).mono ?_; rintro e w1 ⟨rfl, rfl⟩; rw [H3.out]))
          exact bodyPost_ret (v := .bool false) (by simp [results, Tryz.results38, go_sem] <;> omega) rfl ⟨by rw [HE.out]; (first | (simp; done) | (simp <;> omega)), below_alloc _ _⟩
  go_enter Tryz.func38, Tryz.ntmps38
  go_wp2_with (first | (go_at_call 46; with_reducible refine (W1.out _).mono ?_; rintro e w1 ⟨rfl, rfl⟩; rw [H1.out]) | (go_at_call 46; with_reducible refine (W2.out _).mono ?_; rintro e w1 ⟨rfl, rfl⟩; rw [H2.out]) | (go_at_call 46; with_reducible refine (W3.out _).mono ?_; rintro e w1 ⟨rfl, rfl⟩; rw [H3.out]))
  exact bodyPost_ret (v := .bool false) (by simp [results, Tryz.results38, go_sem] <;> omega) rfl ⟨by rw [HE.out]; simp [k1, k2, k3, k4, k5], below_alloc _ _⟩
end Go.Proofs.YtjkobbmdemooaaaGreatDoor
