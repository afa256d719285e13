/- The walk of heliographlaw06.awake. -/
import Derived.Test.YtjkobbmdemooaaaGreatDoorLedT
namespace Go.Proofs.YtjkobbmdemooaaaGreatDoor
open Go.RowKit

def bat (p s b : Int) : Batch := ⟨b, 1, p, s, 0, [⟨b, ByteArray.empty, ByteArray.empty, false⟩]⟩

/-- The awake ledger behind k batches. -/
def awL : Nat → List (Int × List Slot)
  | 0 => []
  | k + 1 => (addS (awL k) (bat 1 k (10 * k))).1

theorem awL_step : ∀ k, k < 7 → (addS (awL k) (bat 1 k (10 * k))).2 = 0
  | 0, _ => by decide +kernel
  | 1, _ => by decide +kernel
  | 2, _ => by decide +kernel
  | 3, _ => by decide +kernel
  | 4, _ => by decide +kernel
  | 5, _ => by decide +kernel
  | 6, _ => by decide +kernel
  | n + 7, h => by omega

theorem awL7 : awL 7 = [(1, [⟨2, 20, 21⟩, ⟨3, 30, 31⟩, ⟨4, 40, 41⟩, ⟨5, 50, 51⟩, ⟨6, 60, 61⟩])] := by decide +kernel
theorem aw1 : checkS (rowOf (awL 7) 1) 1 6 = (⟨6, 60, 61⟩, 13) := by decide +kernel
theorem aw2 : checkS (rowOf (awL 7) 1) 1 1 = (Slot.zero, 21) := by decide +kernel
theorem aw3 : checkS (rowOf (awL 7) 1) 1 7 = (Slot.zero, 0) := by decide +kernel
theorem aw4 : checkS (rowOf (awL 7) 1) 1 8 = (Slot.zero, 20) := by decide +kernel
theorem aw5 : checkS (rowOf (awL 7) 2) 2 1 = (Slot.zero, 20) := by decide +kernel
theorem aw6 : tableS (awL 7) = [(1, [⟨2, 20, 21⟩, ⟨3, 30, 31⟩, ⟨4, 40, 41⟩, ⟨5, 50, 51⟩, ⟨6, 60, 61⟩])] := by
  rw [awL7]; simp [tableS, sortedKeys, rowOf]

theorem below_upd {n B : Nat} {w a b : World} (h : Below n w a) (hu : Upd (fun k => k = B) a b) (hB : n ≤ B) (hn : n ≤ a.heap.size) : Below n w b :=
  h.trans ⟨hu.os, hu.tape, hu.output, hu.size, fun k hk => hu.block k (by omega) (by omega)⟩

theorem seens_one {w : World} {v : Value} {p : Int} {l : List Slot} (h : SeensAt w v [(p, l)]) :
    ∃ b off cap a c, v = .slice (some ⟨b, off, none⟩) 1 cap ∧ b < w.heap.size ∧ w.cell? ⟨b, off + 1, none⟩ = some (.slice a l.length c) := by
  obtain ⟨m, hs, hr⟩ := h
  match m, hr with
  | [x], hr =>
    obtain ⟨b, off, cap, e, _, _, hb, hc⟩ := hs.at (by simp)
    obtain ⟨a, c, e2, _⟩ := hr.2.1.shape
    exact ⟨b, off, cap, a, c, e, hb, by have := hc 1 x.2 rfl; rw [this, e2]⟩
  | [], hr => exact hr.elim
  | _ :: _ :: _, hr => exact hr.2.2.elim

theorem awc {p s a b c n : Int} (h : checkS (rowOf (awL 7) p) p s = (⟨a, b, c⟩, n)) {w : World} {v : Value} {B : Nat} (hL : LedAt w v B (awL 7)) :
    Calls Tryz.prog 37 #[v, .int .i64 p, .int .i64 s] w fun e w' => e = .returned (.tuple #[.agg #[.int .i64 a, .int .i64 b, .int .i64 c], .int .i64 n]) ∧ LedAt w' v B (awL 7) ∧ Below w.heap.size w w' := by
  refine (LedCheck_any hL p s).mono ?_
  rintro e w' ⟨rfl, hb⟩
  rw [h]
  exact ⟨rfl, hL.below hb, hb⟩

set_option maxRecDepth 100000 in
set_option maxHeartbeats 2000000 in
theorem awake_any (w : World) : Calls Tryz.prog 25 #[] w fun e w' => e = .returned (.bool true) ∧ Below w.heap.size w w' := by
  go_enter Tryz.func25, Tryz.ntmps25
  go_wp2_with (first | (go_at_call 32; refine (LedNew_any _).mono ?_; rintro e w1 ⟨rfl, rfl⟩))
  go_loopw [2] (fun i wr => ∃ k : Nat, k ≤ 7 ∧ i = .int .i64 k ∧ LedAt wr (.pointer (some ⟨w.heap.size + 1, 0, none⟩)) w.heap.size (awL k) ∧ Below w.heap.size w wr) (fun i _ => 7 - (intOf i).toNat)
  case atStart => exact ⟨0, by omega, rfl, LedAt.fresh w, below_alloc2 _ _ _⟩
  case round =>
    obtain ⟨k, hk, rfl, hL, hbel⟩ := hrel
    by_cases hlt : k < 7
    · have hst := awL_step k hlt
      have HST := Lib.hid (And.intro hL hst)
      clear hL hst
      have hk1 : IntKind.i64.wrap (10 * (k : Int)) = 10 * (k : Int) := IntWalk.i64_in _ (by omega)
      go_wp2_with (first
        | (go_at_call 34; refine (batch_any _ _ _ _).mono ?_; rintro e w2 ⟨rfl, hrec, hb2⟩)
        | (go_at_call 33; refine (LedAdd_any (HST.out.1.below hb2) (bat 1 k (10 * k)) _ hrec).mono ?_; rintro e w3 ⟨rfl, hL3, hu3⟩; rw [HST.out.2]))
      have HX := Lib.hid hL3
      have hz := hbel.size
      have hz2 := hb2.size
      have hb3 := below_upd (hbel.trans (hb2.mono hz)) hu3 (Nat.le_refl _) (by omega)
      clear hL3 hu3
      go_wp2
      go_roundw
      case rel => exact ⟨k + 1, by omega, by go_num, HX.out, hb3⟩
      case measure => simp [intOf]; omega
    · obtain rfl : k = 7 := by omega
      have H1 := Lib.hid hL
      clear hL
      go_wp2_with fail
      refine (awc aw1 H1.out).mono ?_
      rintro e w2 ⟨rfl, hL2, hb2⟩
      have H2 := Lib.hid (hL2.below (below_alloc w2 (.cells #[.int .i64 6, .int .i64 60, .int .i64 61] 69)))
      clear hL2
      go_wp2_with fail
      refine (awc aw2 H2.out).mono ?_
      rintro e w3 ⟨rfl, hL3, hb3⟩
      have H3 := Lib.hid (hL3.below (below_alloc w3 (.cells #[.int .i64 0, .int .i64 0, .int .i64 0] 69)))
      clear hL3
      go_wp2_with fail
      refine (awc aw3 H3.out).mono ?_
      rintro e w4 ⟨rfl, hL4, hb4⟩
      have H4 := Lib.hid (hL4.below (below_alloc w4 (.cells #[.int .i64 0, .int .i64 0, .int .i64 0] 69)))
      clear hL4
      go_wp2_with fail
      refine (awc aw4 H4.out).mono ?_
      rintro e w5 ⟨rfl, hL5, hb5⟩
      have H5 := Lib.hid (hL5.below (below_alloc w5 (.cells #[.int .i64 0, .int .i64 0, .int .i64 0] 69)))
      clear hL5
      go_wp2_with fail
      refine (awc aw5 H5.out).mono ?_
      rintro e w6 ⟨rfl, hL6, hb6⟩
      have H6 := Lib.hid (hL6.below (below_alloc w6 (.cells #[.int .i64 0, .int .i64 0, .int .i64 0] 69)))
      clear hL6
      go_wp2_with fail
      refine (LedTable_any H6.out (by decide)).mono ?_
      rintro e w7 ⟨tv, rfl, hT, hb7⟩
      rw [aw6] at hT
      obtain ⟨tb, toff, tcap, ta, tc, rfl, htb, htc⟩ := seens_one hT
      have s2 := hb2.size
      have s3 := hb3.size
      have s4 := hb4.size
      have s5 := hb5.size
      have s6 := hb6.size
      have s7 := hb7.size
      simp only [World.size_alloc] at s2 s3 s4 s5 s6 s7
      have hc27 : Below (w2.heap.size + 1) (w2.alloc (.cells #[.int .i64 6, .int .i64 60, .int .i64 61] 69)) w7 := by
        have k3 := below_trans hb3 (below_alloc w3 (.cells #[.int .i64 0, .int .i64 0, .int .i64 0] 69))
        have k4 := below_trans hb4 (below_alloc w4 (.cells #[.int .i64 0, .int .i64 0, .int .i64 0] 69))
        have k5 := below_trans hb5 (below_alloc w5 (.cells #[.int .i64 0, .int .i64 0, .int .i64 0] 69))
        have k6 := below_trans hb6 (below_alloc w6 (.cells #[.int .i64 0, .int .i64 0, .int .i64 0] 69))
        have := below_trans (below_trans (below_trans (below_trans k3 k4) k5) k6) hb7
        simpa using this
      have hfin : Below w.heap.size w w7 := (hbel.trans ((below_trans hb2 (below_alloc w2 _)).mono hbel.size)).trans (hc27.mono (by have := hbel.size; omega))
      have c0 : w7.cell? ⟨w2.heap.size, 0, none⟩ = some (.int .i64 6) := below_some hc27 (by simp [go_sem]) (by omega)
      have c1 : w7.cell? ⟨w2.heap.size, 1, none⟩ = some (.int .i64 60) := below_some hc27 (by simp [go_sem]) (by omega)
      have c2 : w7.cell? ⟨w2.heap.size, 2, none⟩ = some (.int .i64 61) := below_some hc27 (by simp [go_sem]) (by omega)
      have HF := Lib.hid hfin
      clear hT hb2 hb3 hb4 hb5 hb6 hb7 hc27 hfin hbel s2 s3 s4 s5 s6 s7
      go_wp2
      go_ret
      exact ⟨rfl, HF.out⟩
end Go.Proofs.YtjkobbmdemooaaaGreatDoor
