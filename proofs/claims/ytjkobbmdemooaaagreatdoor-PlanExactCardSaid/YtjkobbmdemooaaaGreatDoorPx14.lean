/- The walks of the reference's node, num, Event of layer 12. -/
import Derived.Test.YtjkobbmdemooaaaGreatDoorPx6
namespace Go.Proofs.YtjkobbmdemooaaaGreatDoor
open Go.RowKit

theorem R12node_any (n N : Int) (w : World) : Calls Tryz.prog 51 #[.int .i64 n, .int .i64 N] w fun e w' => e = .returned (.bool (inB n 1 N)) ∧ w' = w := by
  by_cases h1 : 1 ≤ n
  · by_cases h2 : n ≤ N
    · have h : inB n 1 N = true := by simp [inB, h1, h2]
      rw [h]
      clear h
      go_enter Tryz.func51, Tryz.ntmps51
      go_wp2
      go_ret
      exact ⟨rfl, rfl⟩
    · have h : inB n 1 N = false := by simp [inB, h2]
      rw [h]
      clear h
      go_enter Tryz.func51, Tryz.ntmps51
      go_wp2
      go_ret
      exact ⟨rfl, rfl⟩
  · have h : inB n 1 N = false := by simp [inB, h1]
    rw [h]
    clear h
    go_enter Tryz.func51, Tryz.ntmps51
    go_wp2
    go_ret
    exact ⟨rfl, rfl⟩

theorem R12num_any (n : Int) (w : World) : Calls Tryz.prog 50 #[.int .i64 n] w fun e w' => e = .returned (.bool (inB n 1 1073741824)) ∧ w' = w := by
  by_cases h1 : 1 ≤ n
  · by_cases h2 : n ≤ 1073741824
    · have h : inB n 1 1073741824 = true := by simp [inB, h1, h2]
      rw [h]
      clear h
      go_enter Tryz.func50, Tryz.ntmps50
      go_wp2
      go_ret
      exact ⟨rfl, rfl⟩
    · have h : inB n 1 1073741824 = false := by simp [inB, h2]
      rw [h]
      clear h
      go_enter Tryz.func50, Tryz.ntmps50
      go_wp2
      go_ret
      exact ⟨rfl, rfl⟩
  · have h : inB n 1 1073741824 = false := by simp [inB, h1]
    rw [h]
    clear h
    go_enter Tryz.func50, Tryz.ntmps50
    go_wp2
    go_ret
    exact ⟨rfl, rfl⟩

set_option maxRecDepth 100000 in
set_option maxHeartbeats 8000000 in
theorem R12Event_any (x : Event) (w : World) : Calls Tryz.prog 41 #[x.v] w fun e w' => e = .returned (.bool (eventB x)) ∧ Below w.heap.size w w' := by
  obtain ⟨k, nd, pt, n⟩ := x
  unfold Event.v
  dsimp only
  have W1 := Lib.hid (fun w => R12node_any nd 5 w)
  have W3 := Lib.hid (fun w => R12num_any n w)
  have he0 : eventB ⟨k, nd, pt, n⟩ = if k = 1 then inB nd 1 5 && decide (pt = 0) && inB n 1 1073741824
    else if k = 2 then inB nd 1 5 && decide (pt = 0) && decide (n = 0)
    else if k = 3 then inB nd 1 5 && inB pt 0 3 && inB n 1 1073741824
    else if k = 4 then decide (nd = 0) && decide (pt = 0) && decide (n = 0)
    else if k = 5 then inB nd 1 5 && inB pt 0 3 && decide (n = 0)
    else false := rfl
  obtain ⟨eb, heb⟩ : ∃ eb, eventB ⟨k, nd, pt, n⟩ = eb := ⟨_, rfl⟩
  rw [heb] at he0 ⊢
  clear heb
  obtain ⟨b1, h1⟩ : ∃ b, inB nd 1 5 = b := ⟨_, rfl⟩
  obtain ⟨b2, h2⟩ : ∃ b, inB pt 0 3 = b := ⟨_, rfl⟩
  obtain ⟨b3, h3⟩ : ∃ b, inB n 1 1073741824 = b := ⟨_, rfl⟩
  rw [h1, h2, h3] at he0
  have HE := Lib.hid he0
  clear he0
  have H1 := Lib.hid h1
  have H2 := Lib.hid h2
  have H3 := Lib.hid h3
  clear h1 h2 h3
  go_enter Tryz.func41, Tryz.ntmps41
  go_upto_region 1 with fail
  obtain ⟨wa, hwa⟩ : ∃ wa, wa = w.alloc (.cells #[.int .i64 k, .int .i64 nd, .int .i64 pt, .int .i64 n] 27) := ⟨_, rfl⟩
  have hb : Below w.heap.size w wa := by rw [hwa]; exact below_alloc _ _
  have hx : wa.heap[w.heap.size]? = some (.cells #[.int .i64 k, .int .i64 nd, .int .i64 pt, .int .i64 n] 27 (0, 0)) := by rw [hwa]; exact heap_alloc_new _ _
  rw [← hwa]
  have c0 := cell_of_row wa w.heap.size 0 _ _ _ hx
  have c1 := cell_of_row wa w.heap.size 1 _ _ _ hx
  have c2 := cell_of_row wa w.heap.size 2 _ _ _ hx
  have c3 := cell_of_row wa w.heap.size 3 _ _ _ hx
  simp only [List.getElem?_toArray, List.getElem?_cons_zero, List.getElem?_cons_succ] at c0 c1 c2 c3
  clear hwa hx
  have HB := Lib.hid hb
  clear hb
  go_cut [3] from 4 to 84 (fun v wx => v = .bool b2 ∧ wx = wa)
  case first =>
    by_cases hA : 0 ≤ pt
    · by_cases hB : pt ≤ 3
      · go_wp2
        go_meet
        exact ⟨by rw [← H2.out]; (first | (simp [inB]; done) | (simp [inB]; omega)), rfl⟩
      · go_wp2
        go_meet
        exact ⟨by rw [← H2.out]; (first | (simp [inB]; done) | (simp [inB]; omega)), rfl⟩
    · go_wp2
      go_meet
      exact ⟨by rw [← H2.out]; (first | (simp [inB]; done) | (simp [inB]; omega)), rfl⟩
  case rest =>
  obtain ⟨rfl, hwc⟩ := hcut
  subst hwc
  by_cases k1 : k = 1
  · subst k1
    cases b1
    · go_wp2_with (first | (go_at_call 51; with_reducible refine (W1.out _).mono ?_; rintro e w1 ⟨rfl, rfl⟩; rw [H1.out]) | (go_at_call 50; with_reducible refine (W3.out _).mono ?_; rintro e w1 ⟨rfl, rfl⟩; rw [H3.out]))
      exact bodyPost_ret (v := .bool false) (by simp [results, Tryz.results41, go_sem] <;> omega) rfl ⟨by rw [HE.out]; (first | (simp; done) | (simp [*]; done) | (simp <;> omega)), HB.out⟩
    · by_cases hp : pt = 0
      · subst hp
        go_wp2_with (first | (go_at_call 51; with_reducible refine (W1.out _).mono ?_; rintro e w1 ⟨rfl, rfl⟩; rw [H1.out]) | (go_at_call 50; with_reducible refine (W3.out _).mono ?_; rintro e w1 ⟨rfl, rfl⟩; rw [H3.out]))
        exact bodyPost_ret (v := .bool b3) (by simp [results, Tryz.results41, go_sem] <;> omega) rfl ⟨by rw [HE.out]; (first | (simp; done) | (simp [*]; done) | (simp <;> omega)), HB.out⟩
      · go_wp2_with (first | (go_at_call 51; with_reducible refine (W1.out _).mono ?_; rintro e w1 ⟨rfl, rfl⟩; rw [H1.out]) | (go_at_call 50; with_reducible refine (W3.out _).mono ?_; rintro e w1 ⟨rfl, rfl⟩; rw [H3.out]))
        exact bodyPost_ret (v := .bool false) (by simp [results, Tryz.results41, go_sem] <;> omega) rfl ⟨by rw [HE.out]; (first | (simp; done) | (simp [*]; done) | (simp <;> omega)), HB.out⟩
  by_cases k2 : k = 2
  · subst k2
    cases b1
    · go_wp2_with (first | (go_at_call 51; with_reducible refine (W1.out _).mono ?_; rintro e w1 ⟨rfl, rfl⟩; rw [H1.out]) | (go_at_call 50; with_reducible refine (W3.out _).mono ?_; rintro e w1 ⟨rfl, rfl⟩; rw [H3.out]))
      exact bodyPost_ret (v := .bool false) (by simp [results, Tryz.results41, go_sem] <;> omega) rfl ⟨by rw [HE.out]; (first | (simp; done) | (simp [*]; done) | (simp <;> omega)), HB.out⟩
    · by_cases hp : pt = 0
      · subst hp
        by_cases hn : n = 0
        · subst hn
          go_wp2_with (first | (go_at_call 51; with_reducible refine (W1.out _).mono ?_; rintro e w1 ⟨rfl, rfl⟩; rw [H1.out]) | (go_at_call 50; with_reducible refine (W3.out _).mono ?_; rintro e w1 ⟨rfl, rfl⟩; rw [H3.out]))
          exact bodyPost_ret (v := .bool true) (by simp [results, Tryz.results41, go_sem] <;> omega) rfl ⟨by rw [HE.out]; (first | (simp; done) | (simp [*]; done) | (simp <;> omega)), HB.out⟩
        · go_wp2_with (first | (go_at_call 51; with_reducible refine (W1.out _).mono ?_; rintro e w1 ⟨rfl, rfl⟩; rw [H1.out]) | (go_at_call 50; with_reducible refine (W3.out _).mono ?_; rintro e w1 ⟨rfl, rfl⟩; rw [H3.out]))
          exact bodyPost_ret (v := .bool false) (by simp [results, Tryz.results41, go_sem] <;> omega) rfl ⟨by rw [HE.out]; (first | (simp; done) | (simp [*]; done) | (simp <;> omega)), HB.out⟩
      · go_wp2_with (first | (go_at_call 51; with_reducible refine (W1.out _).mono ?_; rintro e w1 ⟨rfl, rfl⟩; rw [H1.out]) | (go_at_call 50; with_reducible refine (W3.out _).mono ?_; rintro e w1 ⟨rfl, rfl⟩; rw [H3.out]))
        exact bodyPost_ret (v := .bool false) (by simp [results, Tryz.results41, go_sem] <;> omega) rfl ⟨by rw [HE.out]; (first | (simp; done) | (simp [*]; done) | (simp <;> omega)), HB.out⟩
  by_cases k3 : k = 3
  · subst k3
    cases b1
    · go_wp2_with (first | (go_at_call 51; with_reducible refine (W1.out _).mono ?_; rintro e w1 ⟨rfl, rfl⟩; rw [H1.out]) | (go_at_call 50; with_reducible refine (W3.out _).mono ?_; rintro e w1 ⟨rfl, rfl⟩; rw [H3.out]))
      exact bodyPost_ret (v := .bool false) (by simp [results, Tryz.results41, go_sem] <;> omega) rfl ⟨by rw [HE.out]; (first | (simp; done) | (simp [*]; done) | (simp <;> omega)), HB.out⟩
    · cases b2
      · go_wp2_with (first | (go_at_call 51; with_reducible refine (W1.out _).mono ?_; rintro e w1 ⟨rfl, rfl⟩; rw [H1.out]) | (go_at_call 50; with_reducible refine (W3.out _).mono ?_; rintro e w1 ⟨rfl, rfl⟩; rw [H3.out]))
        exact bodyPost_ret (v := .bool false) (by simp [results, Tryz.results41, go_sem] <;> omega) rfl ⟨by rw [HE.out]; (first | (simp; done) | (simp [*]; done) | (simp <;> omega)), HB.out⟩
      · go_wp2_with (first | (go_at_call 51; with_reducible refine (W1.out _).mono ?_; rintro e w1 ⟨rfl, rfl⟩; rw [H1.out]) | (go_at_call 50; with_reducible refine (W3.out _).mono ?_; rintro e w1 ⟨rfl, rfl⟩; rw [H3.out]))
        exact bodyPost_ret (v := .bool b3) (by simp [results, Tryz.results41, go_sem] <;> omega) rfl ⟨by rw [HE.out]; (first | (simp; done) | (simp [*]; done) | (simp <;> omega)), HB.out⟩
  by_cases k4 : k = 4
  · subst k4
    by_cases hA : nd = 0
    · subst hA
      by_cases hp : pt = 0
      · subst hp
        by_cases hn : n = 0
        · subst hn
          go_wp2_with (first | (go_at_call 51; with_reducible refine (W1.out _).mono ?_; rintro e w1 ⟨rfl, rfl⟩; rw [H1.out]) | (go_at_call 50; with_reducible refine (W3.out _).mono ?_; rintro e w1 ⟨rfl, rfl⟩; rw [H3.out]))
          exact bodyPost_ret (v := .bool true) (by simp [results, Tryz.results41, go_sem] <;> omega) rfl ⟨by rw [HE.out]; (first | (simp; done) | (simp [*]; done) | (simp <;> omega)), HB.out⟩
        · go_wp2_with (first | (go_at_call 51; with_reducible refine (W1.out _).mono ?_; rintro e w1 ⟨rfl, rfl⟩; rw [H1.out]) | (go_at_call 50; with_reducible refine (W3.out _).mono ?_; rintro e w1 ⟨rfl, rfl⟩; rw [H3.out]))
          exact bodyPost_ret (v := .bool false) (by simp [results, Tryz.results41, go_sem] <;> omega) rfl ⟨by rw [HE.out]; (first | (simp; done) | (simp [*]; done) | (simp <;> omega)), HB.out⟩
      · go_wp2_with (first | (go_at_call 51; with_reducible refine (W1.out _).mono ?_; rintro e w1 ⟨rfl, rfl⟩; rw [H1.out]) | (go_at_call 50; with_reducible refine (W3.out _).mono ?_; rintro e w1 ⟨rfl, rfl⟩; rw [H3.out]))
        exact bodyPost_ret (v := .bool false) (by simp [results, Tryz.results41, go_sem] <;> omega) rfl ⟨by rw [HE.out]; (first | (simp; done) | (simp [*]; done) | (simp <;> omega)), HB.out⟩
    · go_wp2_with (first | (go_at_call 51; with_reducible refine (W1.out _).mono ?_; rintro e w1 ⟨rfl, rfl⟩; rw [H1.out]) | (go_at_call 50; with_reducible refine (W3.out _).mono ?_; rintro e w1 ⟨rfl, rfl⟩; rw [H3.out]))
      exact bodyPost_ret (v := .bool false) (by simp [results, Tryz.results41, go_sem] <;> omega) rfl ⟨by rw [HE.out]; (first | (simp; done) | (simp [*]; done) | (simp <;> omega)), HB.out⟩
  by_cases k5 : k = 5
  · subst k5
    cases b1
    · go_wp2_with (first | (go_at_call 51; with_reducible refine (W1.out _).mono ?_; rintro e w1 ⟨rfl, rfl⟩; rw [H1.out]) | (go_at_call 50; with_reducible refine (W3.out _).mono ?_; rintro e w1 ⟨rfl, rfl⟩; rw [H3.out]))
      exact bodyPost_ret (v := .bool false) (by simp [results, Tryz.results41, go_sem] <;> omega) rfl ⟨by rw [HE.out]; (first | (simp; done) | (simp [*]; done) | (simp <;> omega)), HB.out⟩
    · cases b2
      · go_wp2_with (first | (go_at_call 51; with_reducible refine (W1.out _).mono ?_; rintro e w1 ⟨rfl, rfl⟩; rw [H1.out]) | (go_at_call 50; with_reducible refine (W3.out _).mono ?_; rintro e w1 ⟨rfl, rfl⟩; rw [H3.out]))
        exact bodyPost_ret (v := .bool false) (by simp [results, Tryz.results41, go_sem] <;> omega) rfl ⟨by rw [HE.out]; (first | (simp; done) | (simp [*]; done) | (simp <;> omega)), HB.out⟩
      · by_cases hn : n = 0
        · subst hn
          go_wp2_with (first | (go_at_call 51; with_reducible refine (W1.out _).mono ?_; rintro e w1 ⟨rfl, rfl⟩; rw [H1.out]) | (go_at_call 50; with_reducible refine (W3.out _).mono ?_; rintro e w1 ⟨rfl, rfl⟩; rw [H3.out]))
          exact bodyPost_ret (v := .bool true) (by simp [results, Tryz.results41, go_sem] <;> omega) rfl ⟨by rw [HE.out]; (first | (simp; done) | (simp [*]; done) | (simp <;> omega)), HB.out⟩
        · go_wp2_with (first | (go_at_call 51; with_reducible refine (W1.out _).mono ?_; rintro e w1 ⟨rfl, rfl⟩; rw [H1.out]) | (go_at_call 50; with_reducible refine (W3.out _).mono ?_; rintro e w1 ⟨rfl, rfl⟩; rw [H3.out]))
          exact bodyPost_ret (v := .bool false) (by simp [results, Tryz.results41, go_sem] <;> omega) rfl ⟨by rw [HE.out]; (first | (simp; done) | (simp [*]; done) | (simp <;> omega)), HB.out⟩
  go_wp2_with (first | (go_at_call 51; with_reducible refine (W1.out _).mono ?_; rintro e w1 ⟨rfl, rfl⟩; rw [H1.out]) | (go_at_call 50; with_reducible refine (W3.out _).mono ?_; rintro e w1 ⟨rfl, rfl⟩; rw [H3.out]))
  exact bodyPost_ret (v := .bool false) (by simp [results, Tryz.results41, go_sem] <;> omega) rfl ⟨by rw [HE.out]; (first | (simp; done) | (simp [*]; done) | (simp <;> omega)), HB.out⟩
end Go.Proofs.YtjkobbmdemooaaaGreatDoor
