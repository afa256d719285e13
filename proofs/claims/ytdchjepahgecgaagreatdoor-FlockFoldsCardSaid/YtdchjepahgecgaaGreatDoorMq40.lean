/- The walks of the reference's Same and Resps, where both are the same. -/
import Derived.Test.YtdchjepahgecgaaGreatDoorMq29
namespace Go.Proofs.YtdchjepahgecgaaGreatDoor
open Go.RowKit

set_option maxRecDepth 100000 in
set_option maxHeartbeats 2000000 in
theorem RInts_any {w : World} {v v' : Value} {l l' : List Int} (h : IntsRd w v l) (h' : IntsRd w v' l') : Calls Tryz.prog 44 #[v, v'] w fun e w' => e = .returned (.bool (decide (l = l'))) ∧ Below w.heap.size w w' := by
  obtain ⟨a, c, rfl, -, hm, hC⟩ := h.cells
  obtain ⟨a', c', rfl, -, hm', hC'⟩ := h'.cells
  have hm1 : (l.length : Int) ≤ 9223372036854775807 := by have : maxLen = 9223372036854775807 := rfl; omega
  have hm2 : (l'.length : Int) ≤ 9223372036854775807 := by have : maxLen = 9223372036854775807 := rfl; omega
  have HC := Lib.hid hC
  have HC' := Lib.hid hC'
  clear h h' hC hC' hm hm'
  by_cases hl : l.length = l'.length
  case neg =>
    have hne : ¬ (l.length : Int) = (l'.length : Int) := by omega
    have hd : decide (l = l') = false := by rw [decide_eq_false_iff_not]; intro e; exact hl (by rw [e])
    rw [hd]
    clear hd hl
    go_enter Tryz.func44, Tryz.ntmps44
    go_wp2
    go_ret
    exact ⟨rfl, Below.refl _ _⟩
  case pos =>
    have HL := Lib.hid hl
    obtain ⟨R, hR⟩ : ∃ R, decide (l = l') = R := ⟨_, rfl⟩
    rw [hR]
    have HR := Lib.hid hR
    rw [← hl]
    clear hR hm2 hl
    go_enter Tryz.func44, Tryz.ntmps44
    go_wp2
    go_loopg [5] l.length (fun gk i wr => ∃ k : Nat, k ≤ l.length ∧ gk = l.length - k ∧ i = .int .i64 k ∧ l.take k = l'.take k ∧ Below w.heap.size w wr)
    case atStart => exact ⟨0, Nat.zero_le _, rfl, rfl, rfl, Below.refl _ _⟩
    case round =>
      obtain ⟨k, hk, rfl, rfl, heq, hbel⟩ := hrel
      have HQ := Lib.hid heq
      clear heq
      by_cases hlt : k < l.length
      · obtain ⟨b, off, rfl, hb, c0⟩ := HC.out k hlt
        obtain ⟨b', off', rfl, hb', c0'⟩ := HC'.out k (by have := HL.out; omega)
        have c1 := below_some hbel c0 hb
        have c1' := below_some hbel c0' hb'
        have i1 : (k : Int) < (l.length : Int) := by omega
        have i2 : (0 : Int) ≤ (k : Int) := by omega
        have hlt' : k < l'.length := by have := HL.out; omega
        have htk : l[k] = l'[k] → l.take (k + 1) = l'.take (k + 1) := by
          intro e
          rw [List.take_succ_eq_append_getElem hlt, List.take_succ_eq_append_getElem hlt', HQ.out, e]
        have hne : ¬ l[k] = l'[k] → R = false := by
          intro e
          rw [← HR.out, decide_eq_false_iff_not]
          intro e2
          subst e2
          exact e rfl
        have HTK := Lib.hid htk
        have HNE := Lib.hid hne
        clear htk hne c0 c0'
        generalize l[k] = x at *
        generalize l'[k] = y at *
        by_cases hxy : x = y
        · subst hxy
          go_wp2
          go_quiet (fail)
          go_wp2
          go_roundg (l.length - (k + 1))
          case measure => omega
          case rel => exact ⟨k + 1, by omega, rfl, by go_num, HTK.out (by first | rfl | trivial), below_drewN hbel _⟩
        · have hRf := HNE.out hxy
          subst hRf
          go_wp2
          go_quiet (fail)
          go_wp2
          go_ret
          exact ⟨rfl, below_drewN hbel _⟩
      · have i1 : ¬ (k : Int) < (l.length : Int) := by omega
        have hRt : R = true := by
          rw [← HR.out, decide_eq_true_iff]
          have := HQ.out
          rw [List.take_of_length_le (by omega), List.take_of_length_le (by have := HL.out; omega)] at this
          exact this
        subst hRt
        go_wp2
        go_ret
        exact ⟨rfl, hbel⟩

set_option maxRecDepth 100000 in
set_option maxHeartbeats 4000000 in
theorem R11Same_yes {w : World} {v v' : Value} {L : List Fk} (h : FksRd w v L) (h' : FksRd w v' L) : Calls Tryz.prog 12 #[v, v'] w fun e w' => e = .returned (.bool true) ∧ Below w.heap.size w w' := by
  obtain ⟨a, c, rfl, -, hm, hC⟩ := h.cells
  obtain ⟨a', c', rfl, -, hm', hC'⟩ := h'.cells
  have hm1 : (L.length : Int) ≤ 9223372036854775807 := by have : maxLen = 9223372036854775807 := rfl; omega
  have HC := Lib.hid hC
  have HC' := Lib.hid hC'
  clear h h' hC hC' hm hm'
  go_enter Tryz.func12, Tryz.ntmps12
  go_wp2
  go_loopg [5] L.length (fun gk i wr => ∃ k : Nat, k ≤ L.length ∧ gk = L.length - k ∧ i = .int .i64 k ∧ Below w.heap.size w wr)
  case atStart => exact ⟨0, Nat.zero_le _, rfl, rfl, Below.refl _ _⟩
  case round =>
    obtain ⟨k, hk, rfl, rfl, hbel⟩ := hrel
    by_cases hlt : k < L.length
    · obtain ⟨b, off, ma, mc, pa, pc, rfl, hb, x0, x1, x2, x3, x4, hs, hp⟩ := HC.out k hlt
      obtain ⟨b', off', ma', mc', pa', pc', rfl, hb', y0, y1, y2, y3, y4, hs', hp'⟩ := HC'.out k hlt
      have i1 : (k : Int) < (L.length : Int) := by omega
      have i2 : (0 : Int) ≤ (k : Int) := by omega
      generalize L[k] = y at *
      have hkeep : ∀ W, Below w.heap.size w W → (W.cell? ⟨b, off + k * 5 + 3, none⟩ = some (.slice ma y.members.length mc) ∧ W.cell? ⟨b', off' + k * 5 + 3, none⟩ = some (.slice ma' y.members.length mc')) ∧ W.cell? ⟨b, off + k * 5 + 4, none⟩ = some (.slice pa y.points.length pc) ∧ W.cell? ⟨b', off' + k * 5 + 4, none⟩ = some (.slice pa' y.points.length pc') :=
        fun W hW => ⟨⟨below_some hW x3 hb, below_some hW y3 hb'⟩, below_some hW x4 hb, below_some hW y4 hb'⟩
      have x0 := below_some hbel x0 hb
      have x1 := below_some hbel x1 hb
      have x2 := below_some hbel x2 hb
      have x3 := below_some hbel x3 hb
      have x4 := below_some hbel x4 hb
      have y0 := below_some hbel y0 hb'
      have y1 := below_some hbel y1 hb'
      have y2 := below_some hbel y2 hb'
      have y3 := below_some hbel y3 hb'
      have y4 := below_some hbel y4 hb'
      obtain ⟨sa, sc, e1, -, sm, SC⟩ := hs.cells
      obtain ⟨sa', sc', e2, -, sm', SC'⟩ := hs'.cells
      obtain ⟨ta, tc, e3, -, tm, TC⟩ := hp.cells
      obtain ⟨ta', tc', e4, -, tm', TC'⟩ := hp'.cells
      simp only [Value.slice.injEq, true_and] at e1 e2 e3 e4
      obtain ⟨rfl, rfl⟩ := e1
      obtain ⟨rfl, rfl⟩ := e2
      obtain ⟨rfl, rfl⟩ := e3
      obtain ⟨rfl, rfl⟩ := e4
      have SC := Lib.hid SC
      have SC' := Lib.hid SC'
      have TC := Lib.hid TC
      have TC' := Lib.hid TC'
      have HK := Lib.hid hkeep
      have hn1 : (y.members.length : Int) ≤ 9223372036854775807 := by have : maxLen = 9223372036854775807 := rfl; omega
      have hn2 : (y.points.length : Int) ≤ 9223372036854775807 := by have : maxLen = 9223372036854775807 := rfl; omega
      have hbn := beq_dec y.name y.name
      rw [decide_eq_true rfl] at hbn
      clear hs hs' hp hp' sm sm' tm tm' hkeep
      go_wp2
      dsimp only [List.append_eq, List.cons_append, List.nil_append]
      go_quiet (fail)
      go_wp2
      clear x0 x1 x2 x3 x4 y0 y1 y2 y3 y4 hbn
      go_loopg [6] y.members.length (fun gk i wr => ∃ j : Nat, j ≤ y.members.length ∧ gk = y.members.length - j ∧ i = .int .i64 j ∧ Below w.heap.size w wr)
      case atStart => exact ⟨0, Nat.zero_le _, rfl, rfl, below_drewN hbel _⟩
      case round =>
        obtain ⟨j, hj, rfl, rfl, hbel2⟩ := hrel
        obtain ⟨⟨x3, y3⟩, x4, y4⟩ := HK.out _ hbel2
        by_cases hjt : j < y.members.length
        · obtain ⟨d, o, rfl, hd, z0⟩ := SC.out j hjt
          obtain ⟨d', o', rfl, hd', z0'⟩ := SC'.out j hjt
          have z0 := below_some hbel2 z0 hd
          have z0' := below_some hbel2 z0' hd'
          have j1 : (j : Int) < (y.members.length : Int) := by omega
          have j2 : (0 : Int) ≤ (j : Int) := by omega
          have hbq := beq_dec y.members[j] y.members[j]
          rw [decide_eq_true rfl] at hbq
          generalize y.members[j] = u at *
          go_wp2
          go_quiet (fail)
          go_wp2
          go_roundg (y.members.length - (j + 1))
          case measure => omega
          case rel => exact ⟨j + 1, by omega, rfl, by go_num, below_drewN hbel2 _⟩
        · have j1 : ¬ (j : Int) < (y.members.length : Int) := by omega
          go_wp2
          go_loopg [7] y.points.length (fun gk i wr => ∃ j : Nat, j ≤ y.points.length ∧ gk = y.points.length - j ∧ i = .int .i64 j ∧ Below w.heap.size w wr)
          case atStart => exact ⟨0, Nat.zero_le _, rfl, rfl, hbel2⟩
          case round =>
            obtain ⟨j, hj, rfl, rfl, hbel3⟩ := hrel
            obtain ⟨⟨x3, y3⟩, x4, y4⟩ := HK.out _ hbel3
            by_cases hjt : j < y.points.length
            · obtain ⟨d, o, rfl, hd, z0, z1⟩ := TC.out j hjt
              obtain ⟨d', o', rfl, hd', z0', z1'⟩ := TC'.out j hjt
              have z0 := below_some hbel3 z0 hd
              have z0' := below_some hbel3 z0' hd'
              have z1 := below_some hbel3 z1 hd
              have z1' := below_some hbel3 z1' hd'
              have j1 : (j : Int) < (y.points.length : Int) := by omega
              have j2 : (0 : Int) ≤ (j : Int) := by omega
              generalize y.points[j] = u at *
              go_wp2
              go_quiet (fail)
              go_wp2
              go_roundg (y.points.length - (j + 1))
              case measure => omega
              case rel => exact ⟨j + 1, by omega, rfl, by go_num, below_drewN hbel3 _⟩
            · have j1 : ¬ (j : Int) < (y.points.length : Int) := by omega
              go_wp2
              go_roundg (L.length - (k + 1))
              case measure => omega
              case rel => exact ⟨k + 1, by omega, rfl, by go_num, hbel3⟩
    · have i1 : ¬ (k : Int) < (L.length : Int) := by omega
      go_wp2
      go_ret
      exact ⟨rfl, hbel⟩

theorem ints_yes {W : World} {v v' : Value} {l : List Int} (h : IntsRd W v l) (h' : IntsRd W v' l) : Calls Tryz.prog 44 #[v, v'] W fun e w' => e = .returned (.bool true) ∧ Below W.heap.size W w' := by
  have := RInts_any h h'
  rw [decide_eq_true rfl] at this
  exact this

set_option maxRecDepth 100000 in
set_option maxHeartbeats 4000000 in
theorem R11Resps_yes {w : World} {r : Rs} {pa pa' : Option Addr} {pc pc' : Nat} (h : IntsRd w (.slice pa r.parts.length pc) r.parts) (h' : IntsRd w (.slice pa' r.parts.length pc') r.parts) :
    Calls Tryz.prog 21 #[rsV r pa pc, rsV r pa' pc'] w fun e w' => e = .returned (.bool true) ∧ Below w.heap.size w w' := by
  obtain ⟨wa, hwa⟩ : ∃ wa, wa = (w.alloc (.cells (rsC r.client r.n r.code r.off r.gen (.slice pa r.parts.length pc)) 39)).alloc (.cells (rsC r.client r.n r.code r.off r.gen (.slice pa' r.parts.length pc')) 39) := ⟨_, rfl⟩
  have hb1 : Below w.heap.size w wa := by rw [hwa]; exact below_alloc2 _ _ _
  have b0 : wa.heap[w.heap.size]? = some (.cells (rsC r.client r.n r.code r.off r.gen (.slice pa r.parts.length pc)) 39 (0, 0)) := by rw [hwa, Below.heap_alloc _ _ _ (by simp)]; exact heap_alloc_new _ _
  have b1 : wa.heap[w.heap.size + 1]? = some (.cells (rsC r.client r.n r.code r.off r.gen (.slice pa' r.parts.length pc')) 39 (0, 0)) := by rw [hwa]; exact heap_new1 _ _ _
  have hsz : wa.heap.size = w.heap.size + 2 := by rw [hwa]; simp
  have hri := ints_yes (h.below hb1) (h'.below hb1)
  have x0 := cells_of b0 0 (.int .i64 r.client) rfl
  have x1 := cells_of b0 1 (.int .i64 r.n) rfl
  have x2 := cells_of b0 2 (.int .i64 r.code) rfl
  have x3 := cells_of b0 3 (.int .i64 r.off) rfl
  have x4 := cells_of b0 4 (.int .i64 0) rfl
  have x5 := cells_of b0 5 (.int .i64 r.gen) rfl
  have x6 := cells_of b0 6 (.slice pa r.parts.length pc) rfl
  have x7 := cells_of b0 7 (.slice none 0 0) rfl
  have y0 := cells_of b1 0 (.int .i64 r.client) rfl
  have y1 := cells_of b1 1 (.int .i64 r.n) rfl
  have y2 := cells_of b1 2 (.int .i64 r.code) rfl
  have y3 := cells_of b1 3 (.int .i64 r.off) rfl
  have y4 := cells_of b1 4 (.int .i64 0) rfl
  have y5 := cells_of b1 5 (.int .i64 r.gen) rfl
  have y6 := cells_of b1 6 (.slice pa' r.parts.length pc') rfl
  have y7 := cells_of b1 7 (.slice none 0 0) rfl
  have hx7 : ∀ W, Below wa.heap.size wa W → W.cell? ⟨w.heap.size, 7, none⟩ = some (.slice none 0 0) ∧ Below w.heap.size w W := fun W hb => ⟨cells_of ((hb.block _ (by omega)).trans b0) 7 _ rfl, hb1.trans (hb.mono (by omega))⟩
  have HI := Lib.hid hri
  have H7 := Lib.hid hx7
  clear h h' hri hx7 hb1 b0 b1 hsz
  go_enter Tryz.func21, Tryz.ntmps21
  go_upto_region 1 with fail
  rw [← hwa]
  clear hwa
  go_wp2_with (first | (go_at_call 44; refine HI.out.mono ?_; rintro _ w1 ⟨rfl, hb2⟩; obtain ⟨q7, hbw⟩ := H7.out _ hb2))
  go_loopg [5] 0 (fun gk i wr => gk = 0 ∧ i = .int .i64 0 ∧ wr = w1)
  case atStart => exact ⟨rfl, rfl, rfl⟩
  case round =>
    obtain ⟨rfl, rfl, rfl⟩ := hrel
    go_wp2
    go_ret
    exact ⟨rfl, hbw⟩
end Go.Proofs.YtdchjepahgecgaaGreatDoor
