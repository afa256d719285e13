/- The walk of plan.Decode. -/
import Derived.Test.YtcpaaleogmiamaaGreatDoorMh15
namespace Go.Proofs.YtcpaaleogmiamaaGreatDoor
open Go.RowKit

def decV (o : Option Event) : Value := match o with | some x => .tuple #[x.v, .int .i64 0] | none => .tuple #[Event.zero.v, .int .i64 3]

def decOut (s : List UInt8) (w : World) (e : Ending) (w' : World) : Prop :=
  e = .returned (decV (decE s)) ∧ Below w.heap.size w w'

theorem RdAtP.upd {w w' : World} {p : Nat} {st : RS} {F : Nat → Prop} (h : RdAt w p st) (hu : Upd F w w') (hF : ¬ F p) : RdAt w' p st := (hu.block p h.lt hF).trans h

set_option maxRecDepth 100000 in
set_option maxHeartbeats 4000000 in
theorem Decode_any (s : List UInt8) (hs : s.length ≤ 140737488355327) {w : World} (hE : Env w) : Calls Tryz.prog 133 #[.string (bs s)] w (decOut s w) := by
  unfold decOut
  obtain ⟨wa, hwa⟩ : ∃ wa, wa = w.alloc (.cells #[.int .i64 0, .int .i64 0, .int .i64 0, .int .i64 0] 58) := ⟨_, rfl⟩
  have hx : wa.heap[w.heap.size]? = some (.cells #[.int .i64 0, .int .i64 0, .int .i64 0, .int .i64 0] 58 (0, 0)) := by rw [hwa]; exact heap_alloc_new _ _
  have hb1 : Below w.heap.size w wa := by rw [hwa]; exact below_alloc _ _
  have hsz : wa.heap.size = w.heap.size + 1 := by rw [hwa]; simp
  have brint : ∀ W p st, RdAt W p st → fuel st ≤ s.length + 1 → Below w.heap.size w W → Calls Tryz.prog 171 #[.pointer (some ⟨p, 0, none⟩)] W fun e w2 => e = .returned (.int .i64 (rdI st).1) ∧ RdAt w2 p (rdI st).2 ∧ Upd (fun k => k = p) W w2 :=
    fun W p st h hf hb => BrInt_any h (by omega) (hE.below hb)
  have HBI := Lib.hid brint
  -- the readings
  obtain ⟨st0, e0⟩ : ∃ st, rdS 108 (s, false) = st := ⟨_, rfl⟩
  obtain ⟨a1, st1, e1⟩ : ∃ a st, rdI st0 = (a, st) := ⟨_, _, rfl⟩
  obtain ⟨a2, st2, e2⟩ : ∃ a st, rdI st1 = (a, st) := ⟨_, _, rfl⟩
  obtain ⟨a3, st3, e3⟩ : ∃ a st, rdI st2 = (a, st) := ⟨_, _, rfl⟩
  obtain ⟨a4, st4, e4⟩ : ∃ a st, rdI st3 = (a, st) := ⟨_, _, rfl⟩
  have hrd : rdE (s, false) = (⟨a1, a2, a3, a4⟩, rdS 101 st4) := by simp [rdE, e0, e1, e2, e3, e4]
  have f0 : fuel st0 ≤ s.length + 1 := by have := rdS_le 108 (s, false); rw [e0] at this; simpa [fuel] using this
  have f1 : fuel st1 ≤ s.length + 1 := by have := rdI_le st0; rw [e1] at this; simp only at this; omega
  have f2 : fuel st2 ≤ s.length + 1 := by have := rdI_le st1; rw [e2] at this; simp only at this; omega
  have f3 : fuel st3 ≤ s.length + 1 := by have := rdI_le st2; rw [e3] at this; simp only at this; omega
  have HRD := Lib.hid hrd
  have HF := Lib.hid (And.intro f0 (And.intro f1 (And.intro f2 f3)))
  have HEQ := Lib.hid (And.intro e0 (And.intro e1 (And.intro e2 (And.intro e3 e4))))
  have H1 := Lib.hid (And.intro hx (And.intro hb1 hsz))
  have hsa : w.heap.size < wa.heap.size := by omega
  clear hrd f0 f1 f2 f3 e0 e1 e2 e3 e4 hx hb1 hsz brint hE
  go_enter Tryz.func133, Tryz.ntmps133
  go_upto_region 1 with fail
  rw [← hwa]
  clear hwa
  go_upto_region 3 with (first | (go_at_call 169; refine (BNew_any s wa).mono ?_; rintro e w1 ⟨rfl, hR1, hbr1⟩) | (go_at_call 170; refine (BrOpen_any hR1).mono ?_; rintro e w2 ⟨rfl, hR2, hu2⟩; rw [HEQ.out.1] at hR2))
  have hw2 := hR2.lt
  have hx2 : w2.heap[w.heap.size]? = some (.cells #[.int .i64 0, .int .i64 0, .int .i64 0, .int .i64 0] 58 (0, 0)) := by
    have hs1 := hbr1.size
    rw [hu2.block _ (by omega) (by omega), hbr1.block _ hsa]; exact H1.out.1
  have hb2 : Below w.heap.size w w2 := H1.out.2.1.trans ((hbr1.mono (by have := H1.out.2.2; omega)).trans (hu2.toBelow (by have := hbr1.size; omega) (fun b e => by omega)))
  have hb3 : Below w.heap.size w (w2.alloc (.cells #[.pointer (some ⟨w.heap.size, 0, none⟩), .pointer (some ⟨w.heap.size, 1, none⟩), .pointer (some ⟨w.heap.size, 2, none⟩), .pointer (some ⟨w.heap.size, 3, none⟩)] 233)) := hb2.alloc (by omega) _
  have hR3 : RdAt (w2.alloc (.cells #[.pointer (some ⟨w.heap.size, 0, none⟩), .pointer (some ⟨w.heap.size, 1, none⟩), .pointer (some ⟨w.heap.size, 2, none⟩), .pointer (some ⟨w.heap.size, 3, none⟩)] 233)) wa.heap.size st0 := hR2.below (below_alloc _ _)
  have hx3 := (Below.heap_alloc w2 (.cells #[.pointer (some ⟨w.heap.size, 0, none⟩), .pointer (some ⟨w.heap.size, 1, none⟩), .pointer (some ⟨w.heap.size, 2, none⟩), .pointer (some ⟨w.heap.size, 3, none⟩)] 233) _ (by omega)).trans hx2
  have hp3 := heap_alloc_new w2 (.cells #[.pointer (some ⟨w.heap.size, 0, none⟩), .pointer (some ⟨w.heap.size, 1, none⟩), .pointer (some ⟨w.heap.size, 2, none⟩), .pointer (some ⟨w.heap.size, 3, none⟩)] 233)
  have HZ := Lib.hid (And.intro hb3 (And.intro hR3 (And.intro hx3 hp3)))
  clear hb3 hR3 hx3 hp3 hx2 hb2 hR2 hu2 hR1 hbr1
  go_wp2
  go_loopg [6, 17] 4 (fun gk _ i wx => Below w.heap.size w wx ∧ wx.heap[w2.heap.size]? = some (.cells #[.pointer (some ⟨w.heap.size, 0, none⟩), .pointer (some ⟨w.heap.size, 1, none⟩), .pointer (some ⟨w.heap.size, 2, none⟩), .pointer (some ⟨w.heap.size, 3, none⟩)] 233 (0, 0)) ∧
    ((gk = 4 ∧ i = .int .i64 0 ∧ wx.heap[w.heap.size]? = some (.cells #[.int .i64 0, .int .i64 0, .int .i64 0, .int .i64 0] 58 (0, 0)) ∧ RdAt wx wa.heap.size st0) ∨ (gk = 3 ∧ i = .int .i64 1 ∧ wx.heap[w.heap.size]? = some (.cells #[.int .i64 a1, .int .i64 0, .int .i64 0, .int .i64 0] 58 (0, 0)) ∧ RdAt wx wa.heap.size st1) ∨ (gk = 2 ∧ i = .int .i64 2 ∧ wx.heap[w.heap.size]? = some (.cells #[.int .i64 a1, .int .i64 a2, .int .i64 0, .int .i64 0] 58 (0, 0)) ∧ RdAt wx wa.heap.size st2) ∨ (gk = 1 ∧ i = .int .i64 3 ∧ wx.heap[w.heap.size]? = some (.cells #[.int .i64 a1, .int .i64 a2, .int .i64 a3, .int .i64 0] 58 (0, 0)) ∧ RdAt wx wa.heap.size st3) ∨ (gk = 0 ∧ i = .int .i64 4 ∧ wx.heap[w.heap.size]? = some (.cells #[.int .i64 a1, .int .i64 a2, .int .i64 a3, .int .i64 a4] 58 (0, 0)) ∧ RdAt wx wa.heap.size st4)))
  case atStart => exact ⟨HZ.out.1, HZ.out.2.2.2, .inl ⟨rfl, rfl, HZ.out.2.2.1, HZ.out.2.1⟩⟩
  case round =>
    clear HZ
    obtain ⟨hbel, hpp, hrel⟩ := hrel
    have HPP := Lib.hid (And.intro hbel hpp)
    have hwsz := hbel.size
    have hpl : w2.heap.size < wr.heap.size := (Array.getElem?_eq_some_iff.1 hpp).1
    have q0 := cells_of hpp 0 _ rfl
    have q1 := cells_of hpp 1 _ rfl
    have q2 := cells_of hpp 2 _ rfl
    have q3 := cells_of hpp 3 _ rfl
    clear hbel hpp
    rcases hrel with ⟨rfl, rfl, hX, hR⟩ | ⟨rfl, rfl, hX, hR⟩ | ⟨rfl, rfl, hX, hR⟩ | ⟨rfl, rfl, hX, hR⟩ | ⟨rfl, rfl, hX, hR⟩
    · have HXX := Lib.hid hX
      have hxl : w.heap.size < wr.heap.size := by omega
      clear hX
      go_wp2_with (first | (go_at_call 171; refine (HBI.out wr wa.heap.size st0 hR HF.out.1 HPP.out.1).mono ?_; rintro e w5 ⟨rfl, hR5, hu5⟩; rw [HEQ.out.2.1] at hR5 ⊢; have hx5 := (hu5.block w.heap.size hxl (by omega)).trans HXX.out; have c5 := cells_of hx5 0 _ rfl; have g5 : w5.frozen? ⟨w.heap.size, 0, none⟩ = false := frozen_of hx5; have H5 := Lib.hid (And.intro hR5 (And.intro hu5 hx5)); clear hR5 hu5 hx5))
      go_roundg 3
      case measure => omega
      case rel =>
        obtain ⟨hR5, hu5, hx5⟩ := H5.out
        have hs5 := hu5.size
        have hset := upd_set1 w5 w.heap.size 0 (.int .i64 a1)
        refine ⟨?_, ?_, .inr (.inl ⟨rfl, by rfl, ?_, ?_⟩)⟩
        · exact HPP.out.1.trans ((hu5.toBelow hwsz (fun b e => by omega)).trans (hset.toBelow (by omega) (fun b e => by omega)))
        · rw [hset.block _ (by omega) (by omega), hu5.block _ hpl (by omega)]; exact HPP.out.2
        · exact setCell_same hx5
        · exact RdAtP.upd hR5 hset (by omega)
    · have HXX := Lib.hid hX
      have hxl : w.heap.size < wr.heap.size := by omega
      clear hX
      go_wp2_with (first | (go_at_call 171; refine (HBI.out wr wa.heap.size st1 hR HF.out.2.1 HPP.out.1).mono ?_; rintro e w5 ⟨rfl, hR5, hu5⟩; rw [HEQ.out.2.2.1] at hR5 ⊢; have hx5 := (hu5.block w.heap.size hxl (by omega)).trans HXX.out; have c5 := cells_of hx5 1 _ rfl; have g5 : w5.frozen? ⟨w.heap.size, 1, none⟩ = false := frozen_of hx5; have H5 := Lib.hid (And.intro hR5 (And.intro hu5 hx5)); clear hR5 hu5 hx5))
      go_roundg 2
      case measure => omega
      case rel =>
        obtain ⟨hR5, hu5, hx5⟩ := H5.out
        have hs5 := hu5.size
        have hset := upd_set1 w5 w.heap.size 1 (.int .i64 a2)
        refine ⟨?_, ?_, .inr (.inr (.inl ⟨rfl, by rfl, ?_, ?_⟩))⟩
        · exact HPP.out.1.trans ((hu5.toBelow hwsz (fun b e => by omega)).trans (hset.toBelow (by omega) (fun b e => by omega)))
        · rw [hset.block _ (by omega) (by omega), hu5.block _ hpl (by omega)]; exact HPP.out.2
        · exact setCell_same hx5
        · exact RdAtP.upd hR5 hset (by omega)
    · have HXX := Lib.hid hX
      have hxl : w.heap.size < wr.heap.size := by omega
      clear hX
      go_wp2_with (first | (go_at_call 171; refine (HBI.out wr wa.heap.size st2 hR HF.out.2.2.1 HPP.out.1).mono ?_; rintro e w5 ⟨rfl, hR5, hu5⟩; rw [HEQ.out.2.2.2.1] at hR5 ⊢; have hx5 := (hu5.block w.heap.size hxl (by omega)).trans HXX.out; have c5 := cells_of hx5 2 _ rfl; have g5 : w5.frozen? ⟨w.heap.size, 2, none⟩ = false := frozen_of hx5; have H5 := Lib.hid (And.intro hR5 (And.intro hu5 hx5)); clear hR5 hu5 hx5))
      go_roundg 1
      case measure => omega
      case rel =>
        obtain ⟨hR5, hu5, hx5⟩ := H5.out
        have hs5 := hu5.size
        have hset := upd_set1 w5 w.heap.size 2 (.int .i64 a3)
        refine ⟨?_, ?_, .inr (.inr (.inr (.inl ⟨rfl, by rfl, ?_, ?_⟩)))⟩
        · exact HPP.out.1.trans ((hu5.toBelow hwsz (fun b e => by omega)).trans (hset.toBelow (by omega) (fun b e => by omega)))
        · rw [hset.block _ (by omega) (by omega), hu5.block _ hpl (by omega)]; exact HPP.out.2
        · exact setCell_same hx5
        · exact RdAtP.upd hR5 hset (by omega)
    · have HXX := Lib.hid hX
      have hxl : w.heap.size < wr.heap.size := by omega
      clear hX
      go_wp2_with (first | (go_at_call 171; refine (HBI.out wr wa.heap.size st3 hR HF.out.2.2.2 HPP.out.1).mono ?_; rintro e w5 ⟨rfl, hR5, hu5⟩; rw [HEQ.out.2.2.2.2] at hR5 ⊢; have hx5 := (hu5.block w.heap.size hxl (by omega)).trans HXX.out; have c5 := cells_of hx5 3 _ rfl; have g5 : w5.frozen? ⟨w.heap.size, 3, none⟩ = false := frozen_of hx5; have H5 := Lib.hid (And.intro hR5 (And.intro hu5 hx5)); clear hR5 hu5 hx5))
      go_roundg 0
      case measure => omega
      case rel =>
        obtain ⟨hR5, hu5, hx5⟩ := H5.out
        have hs5 := hu5.size
        have hset := upd_set1 w5 w.heap.size 3 (.int .i64 a4)
        refine ⟨?_, ?_, .inr (.inr (.inr (.inr (⟨rfl, by rfl, ?_, ?_⟩))))⟩
        · exact HPP.out.1.trans ((hu5.toBelow hwsz (fun b e => by omega)).trans (hset.toBelow (by omega) (fun b e => by omega)))
        · rw [hset.block _ (by omega) (by omega), hu5.block _ hpl (by omega)]; exact HPP.out.2
        · exact setCell_same hx5
        · exact RdAtP.upd hR5 hset (by omega)
    · have hwl : w.heap.size < wr.heap.size := by omega
      have HX5' : ∀ w5, Upd (fun k => k = wa.heap.size) wr w5 → w5.heap[w.heap.size]? = some (.cells #[.int .i64 a1, .int .i64 a2, .int .i64 a3, .int .i64 a4] 58 (0, 0)) ∧ Below w.heap.size w w5 ∧ w.heap.size < w5.heap.size := by
        intro w5 hu5
        exact ⟨(hu5.block _ hwl (by omega)).trans hX, HPP.out.1.trans (hu5.toBelow hwsz (fun b e => by omega)), by have := hu5.size; omega⟩
      have HX5 := Lib.hid HX5'
      have hiE := isEvent_any ⟨a1, a2, a3, a4⟩
      simp only [Event.v] at hiE
      have HIE := Lib.hid hiE
      clear HX5' hX hiE q0 q1 q2 q3
      obtain ⟨D, hD⟩ : ∃ D, rdD (rdS 101 st4) = D := ⟨_, rfl⟩
      obtain ⟨E, hEv⟩ : ∃ E, eventB ⟨a1, a2, a3, a4⟩ = E := ⟨_, rfl⟩
      have hdec : decE s = if D = true ∧ E = true then some ⟨a1, a2, a3, a4⟩ else none := by
        unfold decE
        rw [HRD.out, hD, hEv]
      have HDE := Lib.hid (And.intro hD (And.intro hEv hdec))
      clear hD hEv hdec
      have hfin : ∀ (W : World) (b1 b2 b3 b4 : Int), Below w.heap.size w W → w.heap.size < W.heap.size → W.heap[w.heap.size]? = some (.cells #[.int .i64 a1, .int .i64 a2, .int .i64 a3, .int .i64 a4] 58 (0, 0)) →
          ∃ W2, W2 = (((W.setCell ⟨w.heap.size, 0, none⟩ (.int .i64 b1)).setCell ⟨w.heap.size, 1, none⟩ (.int .i64 b2)).setCell ⟨w.heap.size, 2, none⟩ (.int .i64 b3)).setCell ⟨w.heap.size, 3, none⟩ (.int .i64 b4) ∧
            W2.cell? ⟨w.heap.size, 0, none⟩ = some (.int .i64 b1) ∧ W2.cell? ⟨w.heap.size, 1, none⟩ = some (.int .i64 b2) ∧ W2.cell? ⟨w.heap.size, 2, none⟩ = some (.int .i64 b3) ∧ W2.cell? ⟨w.heap.size, 3, none⟩ = some (.int .i64 b4) ∧ Below w.heap.size w W2 := by
        intro W b1 b2 b3 b4 hb hl hx
        have hf := setCell_same (o := 3) (v := .int .i64 b4) (setCell_same (o := 2) (v := .int .i64 b3) (setCell_same (o := 1) (v := .int .i64 b2) (setCell_same (o := 0) (v := .int .i64 b1) hx)))
        have hset := upd_set4 W w.heap.size (.int .i64 b1) (.int .i64 b2) (.int .i64 b3) (.int .i64 b4)
        exact ⟨_, rfl, cells_of hf 0 _ rfl, cells_of hf 1 _ rfl, cells_of hf 2 _ rfl, cells_of hf 3 _ rfl, hb.trans (hset.toBelow (by omega) (fun b e => by omega))⟩
      have HFIN := Lib.hid hfin
      clear hfin
      cases D
      · go_wp2_with (first | (go_at_call 172; refine (BrClose_any hR).mono ?_; rintro e w5 ⟨rfl, hR5, hu5⟩; obtain ⟨hx5, hb5, hl5⟩ := HX5.out w5 hu5; have g0 := frozen_of (j := 0) hx5; have g1 := frozen_of (j := 1) hx5; have g2 := frozen_of (j := 2) hx5; have g3 := frozen_of (j := 3) hx5; have c0 := cells_of hx5 0 _ rfl; have c1 := cells_of hx5 1 _ rfl; have c2 := cells_of hx5 2 _ rfl; have c3 := cells_of hx5 3 _ rfl; have H5 := Lib.hid (And.intro hx5 (And.intro hb5 hl5)); clear hx5 hb5 hu5 hl5) | (go_at_call 173; refine (BrDone_any hR5).mono ?_; rintro e w6 ⟨rfl, rfl⟩; rw [HDE.out.1, if_neg (by decide)]))
        obtain ⟨W2, hW2, r0, r1, r2, r3, hbf⟩ := HFIN.out w6 0 0 0 0 H5.out.2.1 H5.out.2.2 H5.out.1
        rw [hW2] at r0 r1 r2 r3 hbf
        exact bodyPost_ret (v := .tuple #[.agg #[.int .i64 0, .int .i64 0, .int .i64 0, .int .i64 0], .int .i64 3]) (by simp [results, Tryz.results133, go_sem, r0, r1, r2, r3]) rfl ⟨by rw [HDE.out.2.2]; rfl, hbf⟩
      · cases E
        · go_wp2_with (first | (go_at_call 172; refine (BrClose_any hR).mono ?_; rintro e w5 ⟨rfl, hR5, hu5⟩; obtain ⟨hx5, hb5, hl5⟩ := HX5.out w5 hu5; have c0 := cells_of hx5 0 _ rfl; have c1 := cells_of hx5 1 _ rfl; have c2 := cells_of hx5 2 _ rfl; have c3 := cells_of hx5 3 _ rfl; have H5 := Lib.hid (And.intro hx5 (And.intro hb5 hl5)); clear hx5 hb5 hu5 hl5) | (go_at_call 173; refine (BrDone_any hR5).mono ?_; rintro e w6 ⟨rfl, rfl⟩; rw [HDE.out.1, if_pos rfl]) | (go_at_call 79; refine (HIE.out _).mono ?_; rintro e w7 ⟨rfl, hb7⟩; rw [HDE.out.2.1]; have hx7 := (hb7.block _ H5.out.2.2).trans H5.out.1; have g0 := frozen_of (j := 0) hx7; have g1 := frozen_of (j := 1) hx7; have g2 := frozen_of (j := 2) hx7; have g3 := frozen_of (j := 3) hx7; have c70 := cells_of hx7 0 _ rfl; have c71 := cells_of hx7 1 _ rfl; have c72 := cells_of hx7 2 _ rfl; have c73 := cells_of hx7 3 _ rfl; have H7 := Lib.hid (And.intro hx7 hb7); clear hx7 hb7))
          have hz7 := H7.out.2.size
          obtain ⟨W2, hW2, r0, r1, r2, r3, hbf⟩ := HFIN.out w7 0 0 0 0 (below_trans H5.out.2.1 H7.out.2) (by have := H5.out.2.2; omega) H7.out.1
          rw [hW2] at r0 r1 r2 r3 hbf
          exact bodyPost_ret (v := .tuple #[.agg #[.int .i64 0, .int .i64 0, .int .i64 0, .int .i64 0], .int .i64 3]) (by simp [results, Tryz.results133, go_sem, r0, r1, r2, r3]) rfl ⟨by rw [HDE.out.2.2]; rfl, hbf⟩
        · go_wp2_with (first | (go_at_call 172; refine (BrClose_any hR).mono ?_; rintro e w5 ⟨rfl, hR5, hu5⟩; obtain ⟨hx5, hb5, hl5⟩ := HX5.out w5 hu5; have c0 := cells_of hx5 0 _ rfl; have c1 := cells_of hx5 1 _ rfl; have c2 := cells_of hx5 2 _ rfl; have c3 := cells_of hx5 3 _ rfl; have H5 := Lib.hid (And.intro hx5 (And.intro hb5 hl5)); clear hx5 hb5 hu5 hl5) | (go_at_call 173; refine (BrDone_any hR5).mono ?_; rintro e w6 ⟨rfl, rfl⟩; rw [HDE.out.1, if_pos rfl]) | (go_at_call 79; refine (HIE.out _).mono ?_; rintro e w7 ⟨rfl, hb7⟩; rw [HDE.out.2.1]; have hx7 := (hb7.block _ H5.out.2.2).trans H5.out.1; have g0 := frozen_of (j := 0) hx7; have g1 := frozen_of (j := 1) hx7; have g2 := frozen_of (j := 2) hx7; have g3 := frozen_of (j := 3) hx7; have c70 := cells_of hx7 0 _ rfl; have c71 := cells_of hx7 1 _ rfl; have c72 := cells_of hx7 2 _ rfl; have c73 := cells_of hx7 3 _ rfl; have H7 := Lib.hid (And.intro hx7 hb7); clear hx7 hb7))
          have hz7 := H7.out.2.size
          obtain ⟨W2, hW2, r0, r1, r2, r3, hbf⟩ := HFIN.out w7 a1 a2 a3 a4 (below_trans H5.out.2.1 H7.out.2) (by have := H5.out.2.2; omega) H7.out.1
          rw [hW2] at r0 r1 r2 r3 hbf
          exact bodyPost_ret (v := .tuple #[.agg #[.int .i64 a1, .int .i64 a2, .int .i64 a3, .int .i64 a4], .int .i64 0]) (by simp [results, Tryz.results133, go_sem, r0, r1, r2, r3]) rfl ⟨by rw [HDE.out.2.2]; rfl, hbf⟩
end Go.Proofs.YtcpaaleogmiamaaGreatDoor
