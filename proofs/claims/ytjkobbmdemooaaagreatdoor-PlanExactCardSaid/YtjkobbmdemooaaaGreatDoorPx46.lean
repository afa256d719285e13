/- The walks of plan.Encode and plan.Decode. -/
import Derived.Test.YtjkobbmdemooaaaGreatDoorPx30
import Derived.Test.YtjkobbmdemooaaaGreatDoorPx7
namespace Go.Proofs.YtjkobbmdemooaaaGreatDoor
open Go.RowKit

theorem encP_le {n : Int} (h : I64 n) : (encI n).length ≤ 23 := by
  have := Lib.itoa_length_le n h.1 h.2
  simp only [encI, List.length_cons, List.length_append, List.length_nil]
  omega

theorem strs_of_alloc (w : World) (xs : List (List UInt8)) (hx : xs.length ≤ 1000) : Strs (w.alloc (.cells (xs.map (fun l => Value.string (bs l))).toArray 9)) (.slice (some ⟨w.heap.size, 0, none⟩) xs.length xs.length) xs := by
  have h : (w.alloc (.cells (xs.map (fun l => Value.string (bs l))).toArray 9)).ownsRow w.heap.size 9 1 (.slice (some ⟨w.heap.size, 0, none⟩) xs.length xs.length) xs.length (xs.map (fun l => Value.string (bs l))) :=
    ⟨by simp, .inr ⟨w.heap.size, xs.length, _, rfl, Nat.le_refl _, heap_alloc_new _ _, Nat.le_refl _, by unfold maxLen; omega, by simp, by rw [List.take_of_length_le (by simp)]⟩⟩
  exact (Sl.of_owns h).rd

def encOut (x : Event) (w : World) (e : Ending) (w' : World) : Prop :=
  e = .returned (if eventB x = true then .tuple #[.string (bs (encE x)), .int .i64 0] else .tuple #[.string (bs []), .int .i64 1]) ∧ Below w.heap.size w w'

set_option maxRecDepth 100000 in
set_option maxHeartbeats 4000000 in
theorem Encode_any (x : Event) {w : World} (hE : Env w) : Calls Tryz.prog 21 #[x.v] w (encOut x w) := by
  have hiE := isEvent_any x
  unfold encOut
  cases hb : eventB x
  · rw [hb] at hiE
    simp only [Event.v] at hiE ⊢
    have HI := Lib.hid hiE
    clear hiE hb
    obtain ⟨k, nd, pt, cn⟩ := x
    simp only at HI ⊢
    go_enter Tryz.func21, Tryz.ntmps21
    go_wp2_with (first | (go_at_call 38; refine (HI.out _).mono ?_; rintro _ w5 ⟨rfl, hb5⟩))
    exact bodyPost_ret (v := .tuple #[.string (bs []), .int .i64 1]) (by simp [results, Tryz.results21, go_sem, bs]) rfl ⟨by simp, below_trans (below_alloc _ _) hb5⟩
  · rw [hb] at hiE
    obtain ⟨k1, k2, k3, k4⟩ := eventB_I64 hb
    have henc : encE x = 108 :: ([encI x.kind, encI x.node, encI x.part, encI x.n].flatten ++ [101]) := by simp [encE]
    simp only [Event.v] at hiE ⊢
    obtain ⟨k, nd, pt, cn⟩ := x
    simp only at *
    have HI := Lib.hid hiE
    have l0 := encP_le k1
    have l1 := encP_le k2
    have l2 := encP_le k3
    have l3 := encP_le k4
    obtain ⟨wa, hwa⟩ : ∃ wa, wa = w.alloc (.cells #[.int .i64 k, .int .i64 nd, .int .i64 pt, .int .i64 cn] 27) := ⟨_, rfl⟩
    have hx : wa.heap[w.heap.size]? = some (.cells #[.int .i64 k, .int .i64 nd, .int .i64 pt, .int .i64 cn] 27 (0, 0)) := by rw [hwa]; exact heap_alloc_new _ _
    have hb1 : Below w.heap.size w wa := by rw [hwa]; exact below_alloc _ _
    have hsz : wa.heap.size = w.heap.size + 1 := by rw [hwa]; simp
    have hkeep : ∀ W, Below wa.heap.size wa W → W.cell? ⟨w.heap.size, 0, none⟩ = some (.int .i64 k) ∧ W.cell? ⟨w.heap.size, 1, none⟩ = some (.int .i64 nd) ∧ W.cell? ⟨w.heap.size, 2, none⟩ = some (.int .i64 pt) ∧ W.cell? ⟨w.heap.size, 3, none⟩ = some (.int .i64 cn) := by
      intro W hb
      have h3 := (hb.block w.heap.size (by omega)).trans hx
      exact ⟨cells_of h3 0 _ rfl, cells_of h3 1 _ rfl, cells_of h3 2 _ rfl, cells_of h3 3 _ rfl⟩
    have bi : ∀ n W, I64 n → Below wa.heap.size wa W → Calls Tryz.prog 55 #[.int .i64 n] W fun e w2 => e = .returned (.string (bs (encI n))) ∧ Below wa.heap.size wa w2 := by
      intro n W hn hb
      refine (BInt_any hn W ((hE.below hb1).below hb)).mono ?_
      rintro e w2 ⟨he, hb2⟩
      exact ⟨he, hb.trans (hb2.mono hb.size)⟩
    have bl : ∀ W, Below wa.heap.size wa W → Calls Tryz.prog 54 #[.slice (some ⟨W.heap.size, 0, none⟩) 4 4] (W.alloc (.cells #[.string (bs (encI k)), .string (bs (encI nd)), .string (bs (encI pt)), .string (bs (encI cn))] 9)) fun e w2 => e = .returned (.string (bs (encE ⟨k, nd, pt, cn⟩))) ∧ Below wa.heap.size wa w2 := by
      intro W hb
      refine (BList_any (xs := [encI k, encI nd, encI pt, encI cn]) (strs_of_alloc W [encI k, encI nd, encI pt, encI cn] (by simp)) (by simp) (by simp; omega)).mono ?_
      rintro e w2 ⟨rfl, hb2⟩
      have hz := hb.size
      exact ⟨by rw [henc], hb.trans ((below_alloc W _).mono hz |>.trans (hb2.mono (by simp; omega)))⟩
    have HBI := Lib.hid bi
    have HBL := Lib.hid bl
    have HK := Lib.hid hkeep
    have H1 := Lib.hid (And.intro hb1 hsz)
    have K1 := Lib.hid (And.intro k1 (And.intro k2 (And.intro k3 k4)))
    obtain ⟨x0, x1, x2, x3⟩ := hkeep wa (Below.refl _ _)
    clear hkeep bi bl hiE henc hx hb1 hsz hE k1 k2 k3 k4 l0 l1 l2 l3 hb
    go_enter Tryz.func21, Tryz.ntmps21
    go_upto_region 1 with fail
    rw [← hwa]
    clear hwa
    go_upto_region 3 with (first | (go_at_call 38; refine (HI.out _).mono ?_; rintro _ w5 ⟨rfl, hb5⟩))
    have HB5 := Lib.hid hb5
    obtain ⟨y0, y1, y2, y3⟩ := HK.out w5 hb5
    clear x0 x1 x2 x3
    obtain ⟨k1, k2, k3, k4⟩ := K1.out
    go_region_held3 (fun w' => w'.cell? ⟨w.heap.size, 0, none⟩ = some (.int .i64 k) ∧ w'.cell? ⟨w.heap.size, 1, none⟩ = some (.int .i64 nd) ∧ w'.cell? ⟨w.heap.size, 2, none⟩ = some (.int .i64 pt) ∧ w'.cell? ⟨w.heap.size, 3, none⟩ = some (.int .i64 cn))
      (first | with_reducible exact HK.out _ HB5.out | with_reducible exact HK.out _ HB5.out.drew | (have hg := hb6; first | with_reducible exact HK.out _ hb6 | with_reducible exact HK.out _ hb6.drew) | (have hg := hb7; first | with_reducible exact HK.out _ hb7 | with_reducible exact HK.out _ hb7.drew) | (have hg := hb8; first | with_reducible exact HK.out _ hb8 | with_reducible exact HK.out _ hb8.drew) | (have hg := hb9; first | with_reducible exact HK.out _ hb9 | with_reducible exact HK.out _ hb9.drew | with_reducible exact HK.out _ (hb9.alloc hz9 _)) | (have hg := hb10; first | with_reducible exact HK.out _ hb10 | with_reducible exact HK.out _ hb10.drew))
      (first
        | (go_at_call 55; have hg := hb8; refine (HBI.out _ _ (by assumption) hb8).mono ?_; rintro e w9 ⟨rfl, hb9⟩; have hz9 := hb9.size)
        | (go_at_call 55; have hg := hb7; refine (HBI.out _ _ (by assumption) hb7).mono ?_; rintro e w8 ⟨rfl, hb8⟩)
        | (go_at_call 55; have hg := hb6; refine (HBI.out _ _ (by assumption) hb6).mono ?_; rintro e w7 ⟨rfl, hb7⟩)
        | (go_at_call 55; refine (HBI.out _ _ (by assumption) ?_).mono ?_; (first | with_reducible exact HB5.out | with_reducible exact HB5.out.drew); rintro e w6 ⟨rfl, hb6⟩)
        | (go_at_call 54; refine (HBL.out _ hb9).mono ?_; rintro e w10 ⟨rfl, hb10⟩))
    go_wp2
    exact bodyPost_ret (v := .tuple #[.string (bs (encE ⟨k, nd, pt, cn⟩)), .int .i64 0]) (by simp [results, Tryz.results21, go_sem]) rfl ⟨by simp, H1.out.1.trans (hb10.mono (by have := H1.out.2; omega))⟩
end Go.Proofs.YtjkobbmdemooaaaGreatDoor
