/- The walk of the reference's Encode of layer 12. -/
import Derived.Test.YtjkobbmdemooaaaGreatDoorPlX1
import Derived.Test.YtjkobbmdemooaaaGreatDoorPlE3
import Derived.Test.YtjkobbmdemooaaaGreatDoorBeadR
namespace Go.Proofs.YtjkobbmdemooaaaGreatDoor
open Go.RowKit

set_option maxRecDepth 100000 in
set_option maxHeartbeats 4000000 in
theorem R12Encode_any (x : Event) (w : World) : Calls Tryz.prog 22 #[x.v] w (encOut x w) := by
  have hiE := R12Event_any x
  unfold encOut
  cases hb : eventB x
  · rw [hb] at hiE
    simp only [Event.v] at hiE ⊢
    have HI := Lib.hid hiE
    clear hiE hb
    obtain ⟨k, nd, pt, cn⟩ := x
    simp only at HI ⊢
    go_enter Tryz.func22, Tryz.ntmps22
    go_wp2_with (first | (go_at_call 41; refine (HI.out _).mono ?_; rintro _ w5 ⟨rfl, hb5⟩))
    exact bodyPost_ret (v := .tuple #[.string (bs []), .int .i64 1]) (by simp [results, Tryz.results22, go_sem, bs]) rfl ⟨by simp, below_trans (below_alloc _ _) hb5⟩
  · rw [hb] at hiE
    obtain ⟨k1, k2, k3, k4⟩ := eventB_I64 hb
    simp only [Event.v] at hiE ⊢
    obtain ⟨k, nd, pt, cn⟩ := x
    simp only at *
    have henc : encE ⟨k, nd, pt, cn⟩ = [108] ++ encI k ++ encI nd ++ encI pt ++ encI cn ++ [101] := by simp [encE]
    have HI := Lib.hid hiE
    have l0 := encP_le k1
    have l1 := encP_le k2
    have l2 := encP_le k3
    have l3 := encP_le k4
    obtain ⟨wa, hwa⟩ : ∃ wa, wa = w.alloc (.cells #[.int .i64 k, .int .i64 nd, .int .i64 pt, .int .i64 cn] 27) := ⟨_, rfl⟩
    have hx : wa.heap[w.heap.size]? = some (.cells #[.int .i64 k, .int .i64 nd, .int .i64 pt, .int .i64 cn] 27 (0, 0)) := by rw [hwa]; exact heap_alloc_new _ _
    have hb1 : Below w.heap.size w wa := by rw [hwa]; exact below_alloc _ _
    have hsz : wa.heap.size = w.heap.size + 1 := by rw [hwa]; simp
    have hkeep : ∀ W, Below wa.heap.size wa W → W.cell? ⟨w.heap.size, 0, none⟩ = some (.int .i64 k) ∧ W.cell? ⟨w.heap.size, 1, none⟩ = some (.int .i64 nd) ∧ W.cell? ⟨w.heap.size, 2, none⟩ = some (.int .i64 pt) ∧ W.cell? ⟨w.heap.size, 3, none⟩ = some (.int .i64 cn) := by
      intro W hb
      have h3 := (hb.block w.heap.size (by omega)).trans hx
      exact ⟨cells_of h3 0 _ rfl, cells_of h3 1 _ rfl, cells_of h3 2 _ rfl, cells_of h3 3 _ rfl⟩
    have bi : ∀ n W, I64 n → Below wa.heap.size wa W → Calls Tryz.prog 56 #[.int .i64 n] W fun e w2 => e = .returned (.string (bs (encI n))) ∧ Below wa.heap.size wa w2 := by
      intro n W hn hb
      refine (R1Int_any hn W).mono ?_
      rintro e w2 ⟨he, hb2⟩
      exact ⟨he, hb.trans (hb2.mono hb.size)⟩
    have q1 : ¬ 9223372036854775807 < 1 + (bs (encI k)).size := by rw [bs_size]; omega
    have q2 : ¬ 9223372036854775807 < 1 + (bs (encI k)).size + (bs (encI nd)).size := by rw [bs_size, bs_size]; omega
    have q3 : ¬ 9223372036854775807 < 1 + (bs (encI k)).size + (bs (encI nd)).size + (bs (encI pt)).size := by rw [bs_size, bs_size, bs_size]; omega
    have q4 : ¬ 9223372036854775807 < 1 + (bs (encI k)).size + (bs (encI nd)).size + (bs (encI pt)).size + (bs (encI cn)).size := by rw [bs_size, bs_size, bs_size, bs_size]; omega
    have q5 : ¬ 9223372036854775807 < 1 + (bs (encI k)).size + (bs (encI nd)).size + (bs (encI pt)).size + (bs (encI cn)).size + 1 := by rw [bs_size, bs_size, bs_size, bs_size]; omega
    have hfin : (⟨#[108]⟩ : ByteArray) ++ bs (encI k) ++ bs (encI nd) ++ bs (encI pt) ++ bs (encI cn) ++ ⟨#[101]⟩ = bs (encE ⟨k, nd, pt, cn⟩) := by
      rw [henc, ← bs_append, ← bs_append, ← bs_append, ← bs_append, ← bs_append]; rfl
    have HBI := Lib.hid bi
    have HK := Lib.hid hkeep
    have H1 := Lib.hid (And.intro hb1 hsz)
    have K1 := Lib.hid (And.intro k1 (And.intro k2 (And.intro k3 k4)))
    have HFIN := Lib.hid hfin
    obtain ⟨x0, x1, x2, x3⟩ := hkeep wa (Below.refl _ _)
    clear hkeep bi hiE henc hx hb1 hsz k1 k2 k3 k4 l0 l1 l2 l3 hb hfin
    go_enter Tryz.func22, Tryz.ntmps22
    go_upto_region 1 with fail
    rw [← hwa]
    clear hwa
    go_upto_region 3 with (first | (go_at_call 41; refine (HI.out _).mono ?_; rintro _ w5 ⟨rfl, hb5⟩))
    have HB5 := Lib.hid hb5
    obtain ⟨y0, y1, y2, y3⟩ := HK.out w5 hb5
    clear x0 x1 x2 x3
    obtain ⟨k1, k2, k3, k4⟩ := K1.out
    go_region_held3 (fun w' => w'.cell? ⟨w.heap.size, 0, none⟩ = some (.int .i64 k) ∧ w'.cell? ⟨w.heap.size, 1, none⟩ = some (.int .i64 nd) ∧ w'.cell? ⟨w.heap.size, 2, none⟩ = some (.int .i64 pt) ∧ w'.cell? ⟨w.heap.size, 3, none⟩ = some (.int .i64 cn))
      (first | with_reducible exact HK.out _ HB5.out | with_reducible exact HK.out _ HB5.out.drew | (have hg := hb6; first | with_reducible exact HK.out _ hb6 | with_reducible exact HK.out _ hb6.drew) | (have hg := hb7; first | with_reducible exact HK.out _ hb7 | with_reducible exact HK.out _ hb7.drew) | (have hg := hb8; first | with_reducible exact HK.out _ hb8 | with_reducible exact HK.out _ hb8.drew) | (have hg := hb9; first | with_reducible exact HK.out _ hb9 | with_reducible exact HK.out _ hb9.drew))
      (first
        | (go_at_call 56; have hg := hb8; refine (HBI.out _ _ (by assumption) hb8).mono ?_; rintro e w9 ⟨rfl, hb9⟩)
        | (go_at_call 56; have hg := hb7; refine (HBI.out _ _ (by assumption) hb7).mono ?_; rintro e w8 ⟨rfl, hb8⟩)
        | (go_at_call 56; have hg := hb6; refine (HBI.out _ _ (by assumption) hb6).mono ?_; rintro e w7 ⟨rfl, hb7⟩)
        | (go_at_call 56; refine (HBI.out _ _ (by assumption) ?_).mono ?_; (first | with_reducible exact HB5.out | with_reducible exact HB5.out.drew); rintro e w6 ⟨rfl, hb6⟩))
    go_wp2
    refine bodyPost_ret (v := .tuple #[.string (bs (encE ⟨k, nd, pt, cn⟩)), .int .i64 0]) ?_ rfl ⟨by simp, H1.out.1.trans (hb9.mono (by have := H1.out.2; omega))⟩
    rw [← HFIN.out]
    simp [results, Tryz.results22, go_sem]
end Go.Proofs.YtjkobbmdemooaaaGreatDoor
