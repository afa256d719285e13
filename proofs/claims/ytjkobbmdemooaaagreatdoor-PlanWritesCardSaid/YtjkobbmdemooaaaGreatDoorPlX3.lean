/- The walk of the reference's Decode of layer 12. -/
import Derived.Test.YtjkobbmdemooaaaGreatDoorPlX2
import Derived.Test.YtjkobbmdemooaaaGreatDoorPlE4
import Derived.Test.YtjkobbmdemooaaaGreatDoorBeadR4
namespace Go.Proofs.YtjkobbmdemooaaaGreatDoor
open Go.RowKit

/-- While an event is read: the reader at N + 2, the event at X, the two empty events at N and N + 1. -/
structure D12 (w : World) (S : List UInt8) (N X : Nat) (W : World) (st : RS) (a b c d : Int) : Prop where
  rf : RfSt W (N + 2) S st
  hx : W.heap[X]? = some (.cells #[.int .i64 a, .int .i64 b, .int .i64 c, .int .i64 d] 27 (0, 0))
  hr : W.heap[N]? = some (.cells #[.int .i64 0, .int .i64 0, .int .i64 0, .int .i64 0] 27 (0, 0))
  hn : W.heap[N + 1]? = some (.cells #[.int .i64 0, .int .i64 0, .int .i64 0, .int .i64 0] 27 (0, 0))
  hb : Below N w W
  lt : N + 2 < X
  lo : N ≤ w.heap.size

theorem D12.size {w : World} {S : List UInt8} {N X : Nat} {W : World} {st : RS} {a b c d : Int} (h : D12 w S N X W st a b c d) : X < W.heap.size := (Array.getElem?_eq_some_iff.1 h.hx).1

theorem D12.next {w : World} {S : List UInt8} {N X : Nat} {W W' : World} {st st' : RS} {a b c d : Int} (h : D12 w S N X W st a b c d) (hu : Upd (fun k => k = N + 2) W W') (hr : RfSt W' (N + 2) S st') : D12 w S N X W' st' a b c d := by
  have h1 := h.size
  have h2 := h.lt
  have h3 := h.hb.size
  have h4 := h.lo
  exact ⟨hr, (hu.block X h1 (by omega)).trans h.hx, (hu.block N (by omega) (by omega)).trans h.hr, (hu.block (N + 1) (by omega) (by omega)).trans h.hn, h.hb.trans (hu.toBelow (by omega) (fun k e => by omega)), h.lt, h.lo⟩

theorem D12.set {w : World} {S : List UInt8} {N X : Nat} {W : World} {st : RS} {a b c d : Int} (h : D12 w S N X W st a b c d) (i : Nat) (v : Int) {a' b' c' d' : Int}
    (he : (#[.int .i64 a, .int .i64 b, .int .i64 c, .int .i64 d] : Array Value).setIfInBounds i (.int .i64 v) = #[.int .i64 a', .int .i64 b', .int .i64 c', .int .i64 d']) : D12 w S N X (W.setCell ⟨X, i, none⟩ (.int .i64 v)) st a' b' c' d' := by
  have hset := upd_set1 W X i (.int .i64 v)
  have h1 := h.size
  have h2 := h.lt
  have h3 := h.hb.size
  have h4 := h.lo
  obtain ⟨k, hk, e, hA⟩ := h.rf
  refine ⟨⟨k, hk, e, (hset.block (N + 2) (by omega) (by omega)).trans hA⟩, ?_, (hset.block N (by omega) (by omega)).trans h.hr, (hset.block (N + 1) (by omega) (by omega)).trans h.hn, h.hb.trans (hset.toBelow (by omega) (fun k e => by omega)), h.lt, h.lo⟩
  rw [← he]
  exact setCell_same h.hx

theorem D12.below {w : World} {S : List UInt8} {N X : Nat} {W W' : World} {st : RS} {a b c d : Int} (h : D12 w S N X W st a b c d) (hu : Below W.heap.size W W') : D12 w S N X W' st a b c d := by
  have h1 := h.size
  have h2 := h.lt
  have h3 := h.hb.size
  have h4 := h.lo
  obtain ⟨k, hk, e, hA⟩ := h.rf
  exact ⟨⟨k, hk, e, (hu.block (N + 2) (by omega)).trans hA⟩, (hu.block X h1).trans h.hx, (hu.block N (by omega)).trans h.hr, (hu.block (N + 1) (by omega)).trans h.hn, h.hb.trans (hu.mono (by omega)), h.lt, h.lo⟩

set_option maxRecDepth 100000 in
set_option maxHeartbeats 4000000 in
theorem R12Decode_any (s : List UInt8) (hs : s.length ≤ 140737488355328) (w : World) : Calls Tryz.prog 24 #[.string (bs s)] w (decOut s w) := by
  unfold decOut
  obtain ⟨wa, hwa⟩ : ∃ wa, wa = ((w.alloc (.cells #[.int .i64 0, .int .i64 0, .int .i64 0, .int .i64 0] 27)).alloc (.cells #[.int .i64 0, .int .i64 0, .int .i64 0, .int .i64 0] 27)).alloc (.cells #[.string (bs s), .int .i64 0, .bool false] 102) := ⟨_, rfl⟩
  have hr0 : wa.heap[w.heap.size]? = some (.cells #[.int .i64 0, .int .i64 0, .int .i64 0, .int .i64 0] 27 (0, 0)) := by
    rw [hwa, Below.heap_alloc _ _ _ (by simp; omega), Below.heap_alloc _ _ _ (by simp)]; exact heap_alloc_new _ _
  have hn0 : wa.heap[w.heap.size + 1]? = some (.cells #[.int .i64 0, .int .i64 0, .int .i64 0, .int .i64 0] 27 (0, 0)) := by
    rw [hwa, Below.heap_alloc _ _ _ (by simp)]; exact heap_new1 _ _ _
  have hR0 : wa.heap[w.heap.size + 2]? = some (.cells #[.string (bs s), .int .i64 0, .bool false] 102 (0, 0)) := by rw [hwa]; exact heap_new2 _ _ _ _
  have hb0 : Below w.heap.size w wa := by rw [hwa]; exact (((Below.refl _ w).alloc (Nat.le_refl _) _).alloc (by simp) _).alloc (by simp; omega) _
  have hsz : wa.heap.size = w.heap.size + 3 := by rw [hwa]; simp
  have hRA : RfSt wa (w.heap.size + 2) s (s, false) := ⟨0, Nat.zero_le _, by simp, hR0⟩
  obtain ⟨st0, e0⟩ : ∃ st, rdS 108 (s, false) = st := ⟨_, rfl⟩
  obtain ⟨a1, st1, e1⟩ : ∃ a st, rdI st0 = (a, st) := ⟨_, _, rfl⟩
  obtain ⟨a2, st2, e2⟩ : ∃ a st, rdI st1 = (a, st) := ⟨_, _, rfl⟩
  obtain ⟨a3, st3, e3⟩ : ∃ a st, rdI st2 = (a, st) := ⟨_, _, rfl⟩
  obtain ⟨a4, st4, e4⟩ : ∃ a st, rdI st3 = (a, st) := ⟨_, _, rfl⟩
  have hrd : rdE (s, false) = (⟨a1, a2, a3, a4⟩, rdS 101 st4) := by simp [rdE, e0, e1, e2, e3, e4]
  obtain ⟨st5, e5⟩ : ∃ st, rdS 101 st4 = st := ⟨_, rfl⟩
  obtain ⟨D, hD⟩ : ∃ D, rdD st5 = D := ⟨_, rfl⟩
  obtain ⟨E, hEv⟩ : ∃ E, eventB ⟨a1, a2, a3, a4⟩ = E := ⟨_, rfl⟩
  have hdec : decE s = if D = true ∧ E = true then some ⟨a1, a2, a3, a4⟩ else none := by
    unfold decE
    rw [hrd, e5, hD, hEv]
  have hiE := R12Event_any ⟨a1, a2, a3, a4⟩
  simp only [Event.v] at hiE
  rw [hEv] at hiE
  have HIE := Lib.hid hiE
  have HDE := Lib.hid hdec
  have HD := Lib.hid hD
  have HEQ := Lib.hid (And.intro e0 (And.intro e1 (And.intro e2 (And.intro e3 (And.intro e4 e5)))))
  have HA := Lib.hid (And.intro hr0 (And.intro hn0 (And.intro hb0 hsz)))
  have HS := Lib.hid hs
  clear hr0 hn0 hR0 hb0 hsz e0 e1 e2 e3 e4 e5 hrd hD hEv hdec hiE hs
  go_enter Tryz.func24, Tryz.ntmps24
  go_upto_region 3 with fail
  rw [← hwa]
  clear hwa
  go_upto_region 5 with (first | (go_at_call 62; refine (RrOpen_any hRA HS.out).mono ?_; rintro e w2 ⟨rfl, hR2, hu2⟩; rw [HEQ.out.1] at hR2))
  have hD0 : D12 w s w.heap.size w2.heap.size (w2.alloc (.cells #[.int .i64 0, .int .i64 0, .int .i64 0, .int .i64 0] 27)) st0 0 0 0 0 := by
    obtain ⟨hr0, hn0, hb0, hsz⟩ := HA.out
    have h2 := hu2.size
    obtain ⟨k, hk, e, hA⟩ := hR2
    exact ⟨⟨k, hk, e, (Below.heap_alloc _ _ _ (by omega)).trans hA⟩, heap_alloc_new _ _, ((Below.heap_alloc _ _ _ (by omega)).trans (hu2.block _ (by omega) (by omega))).trans hr0, ((Below.heap_alloc _ _ _ (by omega)).trans (hu2.block _ (by omega) (by omega))).trans hn0,
      (hb0.trans (hu2.toBelow (by omega) (fun k e => by omega))).alloc (by omega) _, by omega, Nat.le_refl _⟩
  clear hRA hR2 hu2 HA
  generalize w2.alloc (.cells #[.int .i64 0, .int .i64 0, .int .i64 0, .int .i64 0] 27) = W0 at *
  generalize w2.heap.size = X at *
  have D0 := Lib.hid hD0
  clear hD0
  go_upto_region 6 with (first | (go_at_call 63; refine (rdI_st D0.out.rf HS.out).mono ?_; unfold RfInt; rintro e w5 ⟨rfl, hR5, hu5⟩; rw [HEQ.out.2.1] at hR5 ⊢; have hD := D0.out.next hu5 hR5; have c := cells_of hD.hx 0 _ rfl; have g : w5.frozen? ⟨X, 0, none⟩ = false := frozen_of hD.hx; have D1 := Lib.hid (hD.set 0 a1 (a' := a1) (b' := 0) (c' := 0) (d' := 0) rfl); clear hR5 hu5 hD))
  clear c g
  generalize w5.setCell ⟨X, 0, none⟩ (.int .i64 a1) = W1 at *
  go_upto_region 7 with (first | (go_at_call 63; refine (rdI_st D1.out.rf HS.out).mono ?_; unfold RfInt; rintro e w6 ⟨rfl, hR5, hu5⟩; rw [HEQ.out.2.2.1] at hR5 ⊢; have hD := D1.out.next hu5 hR5; have c := cells_of hD.hx 1 _ rfl; have g : w6.frozen? ⟨X, 1, none⟩ = false := frozen_of hD.hx; have D2 := Lib.hid (hD.set 1 a2 (a' := a1) (b' := a2) (c' := 0) (d' := 0) rfl); clear hR5 hu5 hD))
  clear c g
  generalize w6.setCell ⟨X, 1, none⟩ (.int .i64 a2) = W2 at *
  go_upto_region 8 with (first | (go_at_call 63; refine (rdI_st D2.out.rf HS.out).mono ?_; unfold RfInt; rintro e w7 ⟨rfl, hR5, hu5⟩; rw [HEQ.out.2.2.2.1] at hR5 ⊢; have hD := D2.out.next hu5 hR5; have c := cells_of hD.hx 2 _ rfl; have g : w7.frozen? ⟨X, 2, none⟩ = false := frozen_of hD.hx; have D3 := Lib.hid (hD.set 2 a3 (a' := a1) (b' := a2) (c' := a3) (d' := 0) rfl); clear hR5 hu5 hD))
  clear c g
  generalize w7.setCell ⟨X, 2, none⟩ (.int .i64 a3) = W3 at *
  go_upto_region 9 with (first | (go_at_call 63; refine (rdI_st D3.out.rf HS.out).mono ?_; unfold RfInt; rintro e w8 ⟨rfl, hR5, hu5⟩; rw [HEQ.out.2.2.2.2.1] at hR5 ⊢; have hD := D3.out.next hu5 hR5; have c := cells_of hD.hx 3 _ rfl; have g : w8.frozen? ⟨X, 3, none⟩ = false := frozen_of hD.hx; have D4 := Lib.hid (hD.set 3 a4 (a' := a1) (b' := a2) (c' := a3) (d' := a4) rfl); clear hR5 hu5 hD))
  clear c g
  generalize w8.setCell ⟨X, 3, none⟩ (.int .i64 a4) = W4 at *
  go_upto_region 10 with (first | (go_at_call 64; refine (RrClose_any D4.out.rf HS.out).mono ?_; rintro e w9 ⟨rfl, hR5, hu5⟩; rw [HEQ.out.2.2.2.2.2] at hR5; have D5 := Lib.hid (D4.out.next hu5 hR5); clear hR5 hu5))
  have hfin : ∀ (W : World) (b1 b2 b3 b4 : Int), D12 w s w.heap.size X W st5 a1 a2 a3 a4 →
      ∃ W2, W2 = (((W.setCell ⟨w.heap.size, 0, none⟩ (.int .i64 b1)).setCell ⟨w.heap.size, 1, none⟩ (.int .i64 b2)).setCell ⟨w.heap.size, 2, none⟩ (.int .i64 b3)).setCell ⟨w.heap.size, 3, none⟩ (.int .i64 b4) ∧
        W2.cell? ⟨w.heap.size, 0, none⟩ = some (.int .i64 b1) ∧ W2.cell? ⟨w.heap.size, 1, none⟩ = some (.int .i64 b2) ∧ W2.cell? ⟨w.heap.size, 2, none⟩ = some (.int .i64 b3) ∧ W2.cell? ⟨w.heap.size, 3, none⟩ = some (.int .i64 b4) ∧ Below w.heap.size w W2 := by
    intro W b1 b2 b3 b4 h
    have hf := setCell_same (o := 3) (v := .int .i64 b4) (setCell_same (o := 2) (v := .int .i64 b3) (setCell_same (o := 1) (v := .int .i64 b2) (setCell_same (o := 0) (v := .int .i64 b1) h.hr)))
    have hset := upd_set4 W w.heap.size (.int .i64 b1) (.int .i64 b2) (.int .i64 b3) (.int .i64 b4)
    exact ⟨_, rfl, cells_of hf 0 _ rfl, cells_of hf 1 _ rfl, cells_of hf 2 _ rfl, cells_of hf 3 _ rfl, h.hb.trans (hset.toBelow h.hb.size (fun b e => by omega))⟩
  have HFIN := Lib.hid hfin
  clear hfin
  cases D
  · go_wp2_with (first | (go_at_call 65; refine (RrDone_any D5.out.rf HS.out).mono ?_; rintro e w10 ⟨rfl, hb10⟩; rw [HD.out, if_neg (by decide)]; have D6 := Lib.hid (D5.out.below hb10); have n0 := cells_of D6.out.hn 0 _ rfl; have n1 := cells_of D6.out.hn 1 _ rfl; have n2 := cells_of D6.out.hn 2 _ rfl; have n3 := cells_of D6.out.hn 3 _ rfl; have g0 := frozen_of (j := 0) D6.out.hr; have g1 := frozen_of (j := 1) D6.out.hr; have g2 := frozen_of (j := 2) D6.out.hr; have g3 := frozen_of (j := 3) D6.out.hr; have c0 := cells_of D6.out.hr 0 _ rfl; have c1 := cells_of D6.out.hr 1 _ rfl; have c2 := cells_of D6.out.hr 2 _ rfl; have c3 := cells_of D6.out.hr 3 _ rfl; clear hb10))
    obtain ⟨W9, hW9, r0, r1, r2, r3, hbf⟩ := HFIN.out w10 0 0 0 0 D6.out
    rw [hW9] at r0 r1 r2 r3 hbf
    exact bodyPost_ret (v := .tuple #[.agg #[.int .i64 0, .int .i64 0, .int .i64 0, .int .i64 0], .int .i64 3]) (by simp [results, Tryz.results24, go_sem, r0, r1, r2, r3]) rfl ⟨by rw [HDE.out]; rfl, hbf⟩
  · have HX := Lib.hid (fun (W : World) (h : D12 w s w.heap.size X W st5 a1 a2 a3 a4) => And.intro (cells_of h.hx 0 _ rfl) (And.intro (cells_of h.hx 1 _ rfl) (And.intro (cells_of h.hx 2 _ rfl) (cells_of h.hx 3 _ rfl))))
    cases E
    · go_wp2_with (first
        | (go_at_call 65; refine (RrDone_any D5.out.rf HS.out).mono ?_; rintro e w10 ⟨rfl, hb10⟩; rw [HD.out, if_pos rfl]; have D6 := Lib.hid (D5.out.below hb10); obtain ⟨x0, x1, x2, x3⟩ := HX.out _ D6.out; clear hb10)
        | (go_at_call 41; refine (HIE.out _).mono ?_; rintro e w11 ⟨rfl, hb11⟩; have D7 := Lib.hid (D6.out.below hb11); have n0 := cells_of D7.out.hn 0 _ rfl; have n1 := cells_of D7.out.hn 1 _ rfl; have n2 := cells_of D7.out.hn 2 _ rfl; have n3 := cells_of D7.out.hn 3 _ rfl; have g0 := frozen_of (j := 0) D7.out.hr; have g1 := frozen_of (j := 1) D7.out.hr; have g2 := frozen_of (j := 2) D7.out.hr; have g3 := frozen_of (j := 3) D7.out.hr; have c0 := cells_of D7.out.hr 0 _ rfl; have c1 := cells_of D7.out.hr 1 _ rfl; have c2 := cells_of D7.out.hr 2 _ rfl; have c3 := cells_of D7.out.hr 3 _ rfl; clear hb11))
      obtain ⟨W9, hW9, r0, r1, r2, r3, hbf⟩ := HFIN.out w11 0 0 0 0 D7.out
      rw [hW9] at r0 r1 r2 r3 hbf
      exact bodyPost_ret (v := .tuple #[.agg #[.int .i64 0, .int .i64 0, .int .i64 0, .int .i64 0], .int .i64 3]) (by simp [results, Tryz.results24, go_sem, r0, r1, r2, r3]) rfl ⟨by rw [HDE.out]; rfl, hbf⟩
    · go_wp2_with (first
        | (go_at_call 65; refine (RrDone_any D5.out.rf HS.out).mono ?_; rintro e w10 ⟨rfl, hb10⟩; rw [HD.out, if_pos rfl]; have D6 := Lib.hid (D5.out.below hb10); obtain ⟨x0, x1, x2, x3⟩ := HX.out _ D6.out; clear hb10)
        | (go_at_call 41; refine (HIE.out _).mono ?_; rintro e w11 ⟨rfl, hb11⟩; have D7 := Lib.hid (D6.out.below hb11); obtain ⟨z0, z1, z2, z3⟩ := HX.out _ D7.out; have g0 := frozen_of (j := 0) D7.out.hr; have g1 := frozen_of (j := 1) D7.out.hr; have g2 := frozen_of (j := 2) D7.out.hr; have g3 := frozen_of (j := 3) D7.out.hr; have c0 := cells_of D7.out.hr 0 _ rfl; have c1 := cells_of D7.out.hr 1 _ rfl; have c2 := cells_of D7.out.hr 2 _ rfl; have c3 := cells_of D7.out.hr 3 _ rfl; clear hb11))
      obtain ⟨W9, hW9, r0, r1, r2, r3, hbf⟩ := HFIN.out w11 a1 a2 a3 a4 D7.out
      rw [hW9] at r0 r1 r2 r3 hbf
      exact bodyPost_ret (v := .tuple #[.agg #[.int .i64 a1, .int .i64 a2, .int .i64 a3, .int .i64 a4], .int .i64 0]) (by simp [results, Tryz.results24, go_sem, r0, r1, r2, r3]) rfl ⟨by rw [HDE.out]; rfl, hbf⟩
end Go.Proofs.YtjkobbmdemooaaaGreatDoor
