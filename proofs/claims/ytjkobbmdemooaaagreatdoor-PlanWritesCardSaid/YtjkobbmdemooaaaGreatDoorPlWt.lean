/- The walk of PlanWrites. -/
import Derived.Test.YtjkobbmdemooaaaGreatDoorPlX3
import Derived.Test.YtjkobbmdemooaaaGreatDoorPlAw
namespace Go.Proofs.YtjkobbmdemooaaaGreatDoor
open Go.RowKit

theorem enc_out {x : Event} {w w' : World} {e : Ending} (h : encOut x w e w') : e = .returned (.tuple #[.string (bs (if eventB x = true then encE x else [])), .int .i64 (if eventB x = true then 0 else 1)]) ∧ Below w.heap.size w w' := by
  unfold encOut at h
  cases hb : eventB x <;> rw [hb] at h <;> exact h
theorem dec_out {s : List UInt8} {w w' : World} {e : Ending} (h : decOut s w e w') : e = .returned (.tuple #[((decE s).getD .zero).v, .int .i64 (if (decE s).isSome then 0 else 3)]) ∧ Below w.heap.size w w' := by
  unfold decOut at h
  cases hb : decE s <;> rw [hb] at h <;> exact h

set_option maxRecDepth 100000 in
set_option maxHeartbeats 2000000 in
theorem PWrites_any (x : Event) (s : List UInt8) (hs : s.length ≤ 140737488355327) {w : World} (hE : Env w) : Calls Tryz.prog 4 #[x.v, .string (bs s)] w fun e w' => e = .returned (.bool true) ∧ Below w.heap.size w w' := by
  obtain ⟨k, nd, pt, cn⟩ := x
  simp only [Event.v]
  obtain ⟨A, hA⟩ : ∃ A, (if eventB ⟨k, nd, pt, cn⟩ = true then encE ⟨k, nd, pt, cn⟩ else []) = A := ⟨_, rfl⟩
  obtain ⟨c, hc⟩ : ∃ c : Int, (if eventB ⟨k, nd, pt, cn⟩ = true then 0 else 1) = c := ⟨_, rfl⟩
  obtain ⟨⟨k2, nd2, pt2, cn2⟩, hy⟩ : ∃ y, (decE s).getD .zero = y := ⟨_, rfl⟩
  obtain ⟨d, hd⟩ : ∃ d : Int, (if (decE s).isSome then 0 else 3) = d := ⟨_, rfl⟩
  obtain ⟨wa, hwa⟩ : ∃ wa, wa = w.alloc (.cells #[.int .i64 k, .int .i64 nd, .int .i64 pt, .int .i64 cn] 27) := ⟨_, rfl⟩
  have hx : wa.heap[w.heap.size]? = some (.cells #[.int .i64 k, .int .i64 nd, .int .i64 pt, .int .i64 cn] 27 (0, 0)) := by rw [hwa]; exact heap_alloc_new _ _
  have hb1 : Below w.heap.size w wa := by rw [hwa]; exact below_alloc _ _
  have hsz : wa.heap.size = w.heap.size + 1 := by rw [hwa]; simp
  have hbw : ∀ W, Below wa.heap.size wa W → Below w.heap.size w W := fun W hb => hb1.trans (hb.mono (by omega))
  have haw : Calls Tryz.prog 7 #[] wa fun e w' => e = .returned (.bool true) ∧ Below wa.heap.size wa w' := awake_any (hE.below hb1)
  have hkeep : ∀ W, Below wa.heap.size wa W → W.cell? ⟨w.heap.size, 0, none⟩ = some (.int .i64 k) ∧ W.cell? ⟨w.heap.size, 1, none⟩ = some (.int .i64 nd) ∧ W.cell? ⟨w.heap.size, 2, none⟩ = some (.int .i64 pt) ∧ W.cell? ⟨w.heap.size, 3, none⟩ = some (.int .i64 cn) := by
    intro W hb
    have h3 := (hb.block w.heap.size (by omega)).trans hx
    exact ⟨cells_of h3 0 _ rfl, cells_of h3 1 _ rfl, cells_of h3 2 _ rfl, cells_of h3 3 _ rfl⟩
  have he1 : ∀ W, Below wa.heap.size wa W → Calls Tryz.prog 21 #[.agg #[.int .i64 k, .int .i64 nd, .int .i64 pt, .int .i64 cn]] W fun e w' => e = .returned (.tuple #[.string (bs A), .int .i64 c]) ∧ Below wa.heap.size wa w' := by
    intro W hb
    refine (Encode_any ⟨k, nd, pt, cn⟩ (hE.below (hbw W hb))).mono fun e w' h => ?_
    obtain ⟨h1, h2⟩ := enc_out h
    rw [hA, hc] at h1
    exact ⟨h1, hb.trans (h2.mono hb.size)⟩
  have he2 : ∀ W, Below wa.heap.size wa W → Calls Tryz.prog 22 #[.agg #[.int .i64 k, .int .i64 nd, .int .i64 pt, .int .i64 cn]] W fun e w' => e = .returned (.tuple #[.string (bs A), .int .i64 c]) ∧ Below wa.heap.size wa w' := by
    intro W hb
    refine (R12Encode_any ⟨k, nd, pt, cn⟩ W).mono fun e w' h => ?_
    obtain ⟨h1, h2⟩ := enc_out h
    rw [hA, hc] at h1
    exact ⟨h1, hb.trans (h2.mono hb.size)⟩
  have hd1 : ∀ W, Below wa.heap.size wa W → Calls Tryz.prog 23 #[.string (bs s)] W fun e w' => e = .returned (.tuple #[.agg #[.int .i64 k2, .int .i64 nd2, .int .i64 pt2, .int .i64 cn2], .int .i64 d]) ∧ Below wa.heap.size wa w' ∧ wa.heap.size ≤ w'.heap.size := by
    intro W hb
    refine (Decode_any s hs (hE.below (hbw W hb))).mono fun e w' h => ?_
    obtain ⟨h1, h2⟩ := dec_out h
    rw [hy, hd] at h1
    have h3 := hb.trans (h2.mono hb.size)
    exact ⟨h1, h3, h3.size⟩
  have hd2 : ∀ W, Below wa.heap.size wa W → Calls Tryz.prog 24 #[.string (bs s)] W fun e w' => e = .returned (.tuple #[.agg #[.int .i64 k2, .int .i64 nd2, .int .i64 pt2, .int .i64 cn2], .int .i64 d]) ∧ Below wa.heap.size wa w' ∧ Below W.heap.size W w' := by
    intro W hb
    refine (R12Decode_any s (by omega) W).mono fun e w' h => ?_
    obtain ⟨h1, h2⟩ := dec_out h
    rw [hy, hd] at h1
    exact ⟨h1, hb.trans (h2.mono hb.size), h2⟩
  have HAW := Lib.hid haw
  have HK := Lib.hid hkeep
  have E1 := Lib.hid he1
  have E2 := Lib.hid he2
  have D1 := Lib.hid hd1
  have D2 := Lib.hid hd2
  have HBW := Lib.hid hbw
  clear hA hc hy hd hE hx hb1 hsz hbw haw hkeep he1 he2 hd1 hd2
  go_enter Tryz.func4, Tryz.ntmps4
  go_upto_region 1 with fail
  rw [← hwa]
  clear hwa
  go_upto_region 6 with (first
    | (go_at_call 7; refine HAW.out.mono ?_; rintro _ w1 ⟨rfl, hb1⟩; have B1 := Lib.hid hb1; obtain ⟨x0, x1, x2, x3⟩ := HK.out _ hb1; clear hb1)
    | (go_at_call 21; refine (E1.out _ B1.out).mono ?_; rintro _ w2 ⟨rfl, hb2⟩; have B2 := Lib.hid hb2; obtain ⟨z0, z1, z2, z3⟩ := HK.out _ hb2; clear hb2)
    | (go_at_call 22; refine (E2.out _ B2.out).mono ?_; rintro _ w3 ⟨rfl, hb3⟩; have B3 := Lib.hid hb3; clear hb3 x0 x1 x2 x3 z0 z1 z2 z3)
    | (go_at_call 23; refine (D1.out _ B3.out).mono ?_; rintro _ w4 ⟨rfl, hb4, hs4⟩; have B4 := Lib.hid (And.intro (hb4.alloc hs4 (.cells #[.int .i64 k2, .int .i64 nd2, .int .i64 pt2, .int .i64 cn2] 27)) (heap_alloc_new w4 (.cells #[.int .i64 k2, .int .i64 nd2, .int .i64 pt2, .int .i64 cn2] 27))); clear hb4 hs4))
  have hl4 : w4.heap.size < (w4.alloc (.cells #[.int .i64 k2, .int .i64 nd2, .int .i64 pt2, .int .i64 cn2] 27)).heap.size := by simp
  generalize w4.alloc (.cells #[.int .i64 k2, .int .i64 nd2, .int .i64 pt2, .int .i64 cn2] 27) = wb at *
  generalize w4.heap.size = Y at *
  go_wp2_with (first
    | (go_at_call 24; refine (D2.out _ B4.out.1).mono ?_; rintro _ w5 ⟨rfl, hb5, hc5⟩; have y5 := (hc5.block Y hl4).trans B4.out.2; have y0 := cells_of y5 0 _ rfl; have y1 := cells_of y5 1 _ rfl; have y2 := cells_of y5 2 _ rfl; have y3 := cells_of y5 3 _ rfl; have hY := (Array.getElem?_eq_some_iff.1 y5).1; have B5 := Lib.hid hb5; clear hb5 hc5 y5))
  go_ret
  exact ⟨rfl, HBW.out _ (B5.out.alloc B5.out.size _)⟩
end Go.Proofs.YtjkobbmdemooaaaGreatDoor
