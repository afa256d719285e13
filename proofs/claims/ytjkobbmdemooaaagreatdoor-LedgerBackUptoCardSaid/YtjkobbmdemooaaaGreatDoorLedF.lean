/- The walk of ledger.From. -/
import Derived.Test.YtjkobbmdemooaaaGreatDoorLedF0
namespace Go.Proofs.YtjkobbmdemooaaaGreatDoor
open Go.RowKit

def Fromed (w : World) (T : List (Int × List Slot)) (e : Ending) (w' : World) : Prop :=
  (isTableB T = true ∧ ∃ bp B, e = .returned (.tuple #[.pointer (some ⟨bp, 0, none⟩), .int .i64 0]) ∧ w.heap.size ≤ B ∧ LedAt w' (.pointer (some ⟨bp, 0, none⟩)) B T ∧ Below w.heap.size w w') ∨
  (isTableB T = false ∧ e = .returned (.tuple #[.pointer none, .int .i64 1]) ∧ Below w.heap.size w w')

theorem LedFrom_no {w : World} {v : Value} {T : List (Int × List Slot)} (h : SeensRd w v T) (hT : isTableB T = false) :
    Calls Tryz.prog 36 #[v] w (Fromed w T) := by
  have ht := LedisTable_any h
  rw [hT] at ht
  have HT := Lib.hid ht
  have HX := Lib.hid hT
  clear ht hT h
  go_enter Tryz.func36, Tryz.ntmps36
  go_wp2_with (first | (go_at_call 66; refine HT.out.mono ?_; rintro e w1 ⟨rfl, hb1⟩))
  exact bodyPost_ret (v := .tuple #[.pointer none, .int .i64 1]) (by simp [results, Tryz.results36, go_sem]) rfl (.inr ⟨HX.out, rfl, hb1⟩)

set_option maxRecDepth 100000 in
set_option maxHeartbeats 2000000 in
theorem LedFrom_yes {w : World} {v : Value} {T : List (Int × List Slot)} (h : SeensRd w v T) (hT : isTableB T = true) :
    Calls Tryz.prog 36 #[v] w (Fromed w T) := by
  have ht := LedisTable_any h
  rw [hT] at ht
  have HT := Lib.hid ht
  have HX := Lib.hid hT
  obtain ⟨hok, h64⟩ := isTableB_ok hT
  obtain ⟨a, cap, rfl, hml, hC⟩ := h.cells
  have hml : (T.length : Int) ≤ 9223372036854775807 := by omega
  have HC := Lib.hid hC
  have HO := Lib.hid hok
  clear ht hT h hC hok h64
  go_enter Tryz.func36, Tryz.ntmps36
  go_wp2_with fail
  refine HT.out.mono ?_
  rintro e w1 ⟨rfl, hb1⟩
  go_wp2_with fail
  refine (LedNew_any _).mono ?_
  rintro e w2 ⟨rfl, rfl⟩
  go_wp2
  have hN := hb1.size
  go_loopw [13] (fun i wr => ∃ k : Nat, k ≤ T.length ∧ i = .int .i64 k ∧ LedAt wr (.pointer (some ⟨w1.heap.size + 1, 0, none⟩)) w1.heap.size (T.take k) ∧ Below w1.heap.size w1 wr) (fun i _ => T.length - (intOf i).toNat)
  case atStart => exact ⟨0, Nat.zero_le _, rfl, LedAt.fresh w1, below_alloc2 w1 _ _⟩
  case round =>
    obtain ⟨k, hk, rfl, hled, hbel⟩ := hrel
    have HL := Lib.hid hled
    clear hled
    have hsz := hbel.size
    by_cases hlt : k < T.length
    · obtain ⟨b, off, sa, sc, rfl, hb, c0, c1, hsl⟩ := HC.out k hlt
      have hb' : b < w1.heap.size := by omega
      have c0 := below_some hbel (below_some hb1 c0 hb) hb'
      have c1 := below_some hbel (below_some hb1 c1 hb) hb'
      have hsl := hsl.below (hb1.trans (hbel.mono hN))
      obtain ⟨hrk, hnk, -⟩ := HO.out k hlt
      have hput := putL_take (fun k hk => (HO.out k hk).2.2) k hlt
      have h6 := hrk.2.1
      have HP := Lib.hid (And.intro hput (And.intro hrk hnk))
      clear hput hrk hnk
      generalize T[k].1 = p at *
      generalize T[k].2 = l at *
      obtain ⟨bp', m, e, hne, hcp, hm, hr⟩ := HL.out.ptr
      simp only [Value.pointer.injEq, Option.some.injEq, Addr.mk.injEq, and_true] at e
      obtain rfl := e
      have hbw : b < wr.heap.size := by omega
      have hBw : w1.heap.size + 1 < wr.heap.size := World.block_lt_of_cell? wr _ hcp
      have hF : ∀ w', Below (wr.heap.size + 1) (wr.alloc (.cells #[.int .i64 p, .slice sa l.length sc] 105)) w' → w'.cell? ⟨w1.heap.size + 1, 0, none⟩ = some (.map (some w1.heap.size)) ∧ w'.cell? ⟨wr.heap.size, 0, none⟩ = some (.int .i64 p) ∧ w'.cell? ⟨wr.heap.size, 1, none⟩ = some (.slice sa l.length sc) := by
        intro w' hb'
        exact ⟨below_some hb' (below_some (below_alloc wr _) hcp hBw) (by omega), below_some hb' (by simp [go_sem]) (by omega), below_some hb' (by simp [go_sem]) (by omega)⟩
      have clone : ∀ w', Below (wr.heap.size + 1) (wr.alloc (.cells #[.int .i64 p, .slice sa l.length sc] 105)) w' → Calls Tryz.prog 71 #[.slice sa l.length sc] w' (fun e w4 => ∃ va vcap, e = .returned (.slice va l.length vcap) ∧ SlotsAt w4 (.slice va l.length vcap) l ∧
          Below (wr.heap.size + 1) (wr.alloc (.cells #[.int .i64 p, .slice sa l.length sc] 105)) w4 ∧ ∃ w6, (Instr.mapUpdate 107 (.map (some w1.heap.size)) (.int .i64 p) (.slice va l.length vcap)).run Tryz.prog w4 = .ok () w6 ∧ MapIs w6 w1.heap.size (mput m p (.slice va l.length vcap)) ∧ Upd (fun k => k = w1.heap.size) w4 w6 ∧
          (w6.cell? ⟨w1.heap.size + 1, 0, none⟩ = some (.map (some w1.heap.size)) ∧ w6.cell? ⟨wr.heap.size, 0, none⟩ = some (.int .i64 p) ∧ w6.cell? ⟨wr.heap.size, 1, none⟩ = some (.slice sa l.length sc))) := by
        intro w' hb'
        have h1 : Below wr.heap.size wr w' := (below_alloc wr _).trans (hb'.mono (Nat.le_succ _))
        refine (CloneSlots_rd (hsl.below h1) (by omega)).mono ?_
        rintro e w4 ⟨vc, rfl, hown, hb4⟩
        have hsz' := hb'.size
        simp only [World.size_alloc] at hsz'
        have hbw := hb'.trans (hb4.mono hsz')
        have hbr : Below wr.heap.size wr w4 := below_trans h1 hb4
        obtain ⟨k0, k1, k2⟩ := hF _ hbw
        have hV := Sl.of_owns hown
        obtain ⟨va, vcap, rfl, -⟩ := hV.shape
        obtain ⟨w6, hmu, hm6, hu6⟩ := mapUpdate_run und_mapLed und_int (hm.upd (Upd.of_below (F := fun _ => False) hbr) (fun h => h)) p (.slice va l.length vcap)
        exact ⟨va, vcap, rfl, hV, hbw, w6, hmu, hm6, hu6, upd_some hu6 k0 (by omega), upd_some hu6 k1 (by omega), upd_some hu6 k2 (by omega)⟩
      have HCl := Lib.hid clone
      have HF := Lib.hid hF
      have HM := Lib.hid hm
      clear clone hm hr hF
      go_wp2
      go_region_held3 (fun w' => w'.cell? ⟨w1.heap.size + 1, 0, none⟩ = some (.map (some w1.heap.size)) ∧ w'.cell? ⟨wr.heap.size, 0, none⟩ = some (.int .i64 p) ∧ w'.cell? ⟨wr.heap.size, 1, none⟩ = some (.slice sa l.length sc))
        (first | with_reducible exact HF.out _ (Below.refl _ _) | with_reducible exact HF.out _ (Below.refl _ _).drew | (have hg := hS6; with_reducible exact hS6) | (have hg := hbw; with_reducible exact HF.out _ hbw))
        (first
          | (go_at_call 71; refine (HCl.out _ ?_).mono ?_; (first | with_reducible exact Below.refl _ _ | with_reducible exact (Below.refl _ _).drew); rintro e w4 ⟨va, vcap, rfl, hV, hbw, w6, hmu, hm6, hu6, hS6⟩))
      have hbr : Below wr.heap.size wr w4 := (below_alloc wr _).trans (hbw.mono (Nat.le_succ _))
      have hm4 := HM.out.upd (Upd.of_below (F := fun _ => False) hbr) (fun h => h)
      have hput := (HL.out.below hbr).put hm4 hm6 hu6 hV HP.out.2.1 HP.out.2.2
      rw [HP.out.1] at hput
      have hB6 : Below w1.heap.size w1 w6 := hbel.trans ((hbr.mono hsz).trans ⟨hu6.os, hu6.tape, hu6.output, hu6.size, fun k hk => hu6.block k (by have := hbr.size; omega) (by omega)⟩)
      clear hmu
      go_wp2
      go_roundw
      case rel => exact ⟨k + 1, by omega, by go_num, hput, hB6⟩
      case measure => simp [intOf]; omega
    · have hlt' : decide ((k : Int) < (T.length : Int)) = false := by simp; omega
      have hke : T.take k = T := List.take_of_length_le (by omega)
      have HE := Lib.hid hke
      clear hke
      go_wp2
      refine bodyPost_ret (v := .tuple #[.pointer (some ⟨w1.heap.size + 1, 0, none⟩), .int .i64 0]) (by simp [results, Tryz.results36, go_sem]) rfl (.inl ⟨HX.out, w1.heap.size + 1, w1.heap.size, rfl, hN, ?_, hb1.trans (hbel.mono hN)⟩)
      have := HL.out
      rw [HE.out] at this
      exact this

theorem LedFrom_any {w : World} {v : Value} {T : List (Int × List Slot)} (h : SeensRd w v T) : Calls Tryz.prog 36 #[v] w (Fromed w T) := by
  cases hT : isTableB T
  · exact LedFrom_no h hT
  · exact LedFrom_yes h hT
end Go.Proofs.YtjkobbmdemooaaaGreatDoor
