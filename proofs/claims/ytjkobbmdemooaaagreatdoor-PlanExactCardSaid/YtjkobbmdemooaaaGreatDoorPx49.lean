/- The walk of PlanExact. -/
import Derived.Test.YtjkobbmdemooaaaGreatDoorPx44
import Derived.Deep.RegionHeld3
import Derived.Test.YtjkobbmdemooaaaGreatDoorPx45
import Derived.Test.YtjkobbmdemooaaaGreatDoorPx48
import Derived.Test.YtjkobbmdemooaaaGreatDoorPx18
namespace Go.Proofs.YtjkobbmdemooaaaGreatDoor
open Go.RowKit

theorem PlanRd.shape {w : World} {v : Value} {q : Pl} (h : PlanRd w v q) : ∃ (pa : Option Addr) (pc : Nat) (la : Option Addr) (lc : Nat), v = .agg #[.int .i64 q.nodes, .int .i64 q.copies, .slice pa q.parts.length pc, .slice la q.lives.length lc] := by
  obtain ⟨pv, lv, rfl, hp, hl⟩ := h
  obtain ⟨pa, pc, rfl, -⟩ := hp.cells
  obtain ⟨la, lc, rfl, -⟩ := hl.cells
  exact ⟨pa, pc, la, lc, rfl⟩

/-- What Apply answers. -/
def Ap (W : World) (Q : Pl) (T : List Int) (r : Int) (e : Ending) (w' : World) : Prop :=
  ∃ (pa : Option Addr) (pc : Nat) (la : Option Addr) (lc : Nat) (ta : Option Addr) (tc : Nat), e = .returned (.tuple #[.agg #[.int .i64 Q.nodes, .int .i64 Q.copies, .slice pa Q.parts.length pc, .slice la Q.lives.length lc], .slice ta T.length tc, .int .i64 r]) ∧
    PlanRd w' (.agg #[.int .i64 Q.nodes, .int .i64 Q.copies, .slice pa Q.parts.length pc, .slice la Q.lives.length lc]) Q ∧ IntsRd w' (.slice ta T.length tc) T ∧ Below W.heap.size W w'

theorem Ap.of {W w' : World} {R : Pl × List Int × Int} {e : Ending} (h : AppR W R e w') : Ap W R.1 R.2.1 R.2.2 e w' := by
  obtain ⟨v, tv, rfl, hp, ht, hb⟩ := h
  have hp := hp.rd
  have ht := ht.rd
  obtain ⟨pa, pc, la, lc, rfl⟩ := hp.shape
  obtain ⟨ta, tc, rfl, -⟩ := ht.cells
  exact ⟨pa, pc, la, lc, ta, tc, rfl, hp, ht, hb⟩

theorem both_Apply (p : Pl) (x : Event) : ∃ (Q : Pl) (T : List Int) (r : Int), ∀ W v, PlanRd W v p → Calls Tryz.prog 9 #[v, x.v] W (Ap W Q T r) ∧ Calls Tryz.prog 10 #[v, x.v] W (Ap W Q T r) := by
  refine ⟨(applyP p x).1, (applyP p x).2.1, (applyP p x).2.2, fun W v h => ⟨(Apply_any h x).mono fun e w' h => Ap.of h, ?_⟩⟩
  obtain ⟨pa, pc, la, lc, rfl⟩ := h.shape
  exact (RApply_any (pa := pa) (pc := pc) (la := la) (lc := lc) h x).mono fun e w' h => Ap.of h

/-- What New answers. -/
def Nw (W : World) (U : Pl) (g : Int) (e : Ending) (w' : World) : Prop :=
  ∃ (pa : Option Addr) (pc : Nat) (la : Option Addr) (lc : Nat), e = .returned (.tuple #[.agg #[.int .i64 U.nodes, .int .i64 U.copies, .slice pa U.parts.length pc, .slice la U.lives.length lc], .int .i64 g]) ∧
    PlanRd w' (.agg #[.int .i64 U.nodes, .int .i64 U.copies, .slice pa U.parts.length pc, .slice la U.lives.length lc]) U ∧ Below W.heap.size W w'

theorem Nw.of {W w' : World} {U : Pl} {g : Int} {e : Ending} (h : ∃ v, e = .returned (.tuple #[v, .int .i64 g]) ∧ PlanFrom w' W.heap.size v U ∧ Below W.heap.size W w') : Nw W U g e w' := by
  obtain ⟨v, rfl, hp, hb⟩ := h
  have hp := hp.rd
  obtain ⟨pa, pc, la, lc, rfl⟩ := hp.shape
  exact ⟨pa, pc, la, lc, rfl, hp, hb⟩

theorem both_New (n k p c a b d e' : Int) : ∃ (U : Pl) (g : Int), ∀ W, Calls Tryz.prog 11 #[cfgV n k p c a b d e'] W (Nw W U g) ∧ Calls Tryz.prog 12 #[cfgV n k p c a b d e'] W (Nw W U g) := by
  cases h : newOkB n p c with
  | false =>
    refine ⟨.zero, 1, fun W => ⟨(New_no n k p c a b d e' W h).mono fun e w' h => ?_, (R12New_no n k p c a b d e' W h).mono fun e w' h => ?_⟩⟩
    all_goals
      obtain ⟨rfl, hb⟩ := h
      exact ⟨none, 0, none, 0, rfl, zero_rd _, hb⟩
  | true =>
    obtain ⟨h1, h2, h3⟩ : inB n 1 5 = true ∧ inB c 1 n = true ∧ inB p 2 4 = true := by simpa [newOkB, and_assoc] using h
    have q1 := inB_iff.1 h1
    have q2 := inB_iff.1 h2
    have q3 := inB_iff.1 h3
    obtain ⟨n', rfl⟩ : ∃ m : Nat, n = m := ⟨n.toNat, by omega⟩
    obtain ⟨p', rfl⟩ : ∃ m : Nat, p = m := ⟨p.toNat, by omega⟩
    obtain ⟨c', rfl⟩ : ∃ m : Nat, c = m := ⟨c.toNat, by omega⟩
    exact ⟨newP n' p' c', 0, fun W => ⟨(New_yes n' p' c' k a b d e' W h).mono fun e w' h => Nw.of h, (R12New_yes n' p' c' k a b d e' W h).mono fun e w' h => Nw.of h⟩⟩

/-- What Wants answers. -/
def Wt (W : World) (T : List Int) (e : Ending) (w' : World) : Prop :=
  ∃ (ta : Option Addr) (tc : Nat), e = .returned (.slice ta T.length tc) ∧ IntsRd w' (.slice ta T.length tc) T ∧ Below W.heap.size W w'
theorem Wt.of {W w' : World} {T : List Int} {e : Ending} (h : ∃ tv, e = .returned tv ∧ IntsRd w' tv T ∧ Below W.heap.size W w') : Wt W T e w' := by
  obtain ⟨v, rfl, ht, hb⟩ := h
  obtain ⟨ta, tc, rfl, -⟩ := ht.cells
  exact ⟨ta, tc, rfl, ht, hb⟩

theorem same_yes {W : World} {v v' : Value} {q : Pl} (h : PlanRd W v q) (h' : PlanRd W v' q) : Calls Tryz.prog 13 #[v, v'] W fun e w' => e = .returned (.bool true) ∧ Below W.heap.size W w' := by
  have := RSame_any h h'
  rw [decide_eq_true rfl] at this
  exact this
theorem ints_yes {W : World} {v v' : Value} {l : List Int} (h : IntsRd W v l) (h' : IntsRd W v' l) : Calls Tryz.prog 14 #[v, v'] W fun e w' => e = .returned (.bool true) ∧ Below W.heap.size W w' := by
  have := RInts_any h h'
  rw [decide_eq_true rfl] at this
  exact this

set_option maxRecDepth 100000 in
set_option maxHeartbeats 8000000 in
theorem PExact_any {w : World} {v : Value} {p : Pl} (h : PlanRd w v p) (x : Event) (n k pp c a b d e' : Int) (hE : Env w) : Calls Tryz.prog 3 #[v, x.v, cfgV n k pp c a b d e'] w fun e w' => e = .returned (.bool true) ∧ Below w.heap.size w w' := by
  obtain ⟨pa, pc, la, lc, rfl⟩ := h.shape
  obtain ⟨Q, T, r, hAp⟩ := both_Apply p x
  obtain ⟨U, g, hNw⟩ := both_New n k pp c a b d e'
  obtain ⟨kd, nd, pt, cn⟩ := x
  simp only [Event.v, cfgV] at *
  obtain ⟨wa, hwa⟩ : ∃ wa, wa = ((w.alloc (.cells #[.int .i64 p.nodes, .int .i64 p.copies, .slice pa p.parts.length pc, .slice la p.lives.length lc] 25)).alloc (.cells #[.int .i64 kd, .int .i64 nd, .int .i64 pt, .int .i64 cn] 27)).alloc (.cells #[.int .i64 n, .int .i64 k, .int .i64 pp, .int .i64 c, .int .i64 a, .int .i64 b, .int .i64 d, .int .i64 e'] 29) := ⟨_, rfl⟩
  have hb1 : Below w.heap.size w wa := by rw [hwa]; exact below_alloc3 _ _ _ _
  have hN0 : wa.heap[w.heap.size]? = some (.cells #[.int .i64 p.nodes, .int .i64 p.copies, .slice pa p.parts.length pc, .slice la p.lives.length lc] 25 (0, 0)) := by
    rw [hwa, Below.heap_alloc _ _ _ (by simp; omega), Below.heap_alloc _ _ _ (by simp)]; exact heap_alloc_new w _
  have hN1 : wa.heap[w.heap.size + 1]? = some (.cells #[.int .i64 kd, .int .i64 nd, .int .i64 pt, .int .i64 cn] 27 (0, 0)) := by
    rw [hwa, Below.heap_alloc _ _ _ (by simp)]; exact heap_new1 w _ _
  have hN2 : wa.heap[w.heap.size + 2]? = some (.cells #[.int .i64 n, .int .i64 k, .int .i64 pp, .int .i64 c, .int .i64 a, .int .i64 b, .int .i64 d, .int .i64 e'] 29 (0, 0)) := by rw [hwa]; exact heap_new2 w _ _ _
  have hsz : wa.heap.size = w.heap.size + 3 := by rw [hwa]; simp
  have hkeep : ∀ W, Below wa.heap.size wa W → (W.cell? ⟨w.heap.size, 0, none⟩ = some (.int .i64 p.nodes) ∧ W.cell? ⟨w.heap.size, 1, none⟩ = some (.int .i64 p.copies) ∧ W.cell? ⟨w.heap.size, 2, none⟩ = some (.slice pa p.parts.length pc) ∧ W.cell? ⟨w.heap.size, 3, none⟩ = some (.slice la p.lives.length lc)) ∧ (W.cell? ⟨(w.heap.size + 1), 0, none⟩ = some (.int .i64 kd) ∧ W.cell? ⟨(w.heap.size + 1), 1, none⟩ = some (.int .i64 nd) ∧ W.cell? ⟨(w.heap.size + 1), 2, none⟩ = some (.int .i64 pt) ∧ W.cell? ⟨(w.heap.size + 1), 3, none⟩ = some (.int .i64 cn)) ∧ (W.cell? ⟨(w.heap.size + 2), 0, none⟩ = some (.int .i64 n) ∧ W.cell? ⟨(w.heap.size + 2), 1, none⟩ = some (.int .i64 k) ∧ W.cell? ⟨(w.heap.size + 2), 2, none⟩ = some (.int .i64 pp) ∧ W.cell? ⟨(w.heap.size + 2), 3, none⟩ = some (.int .i64 c) ∧ W.cell? ⟨(w.heap.size + 2), 4, none⟩ = some (.int .i64 a) ∧ W.cell? ⟨(w.heap.size + 2), 5, none⟩ = some (.int .i64 b) ∧ W.cell? ⟨(w.heap.size + 2), 6, none⟩ = some (.int .i64 d) ∧ W.cell? ⟨(w.heap.size + 2), 7, none⟩ = some (.int .i64 e')) ∧ PlanRd W (.agg #[.int .i64 p.nodes, .int .i64 p.copies, .slice pa p.parts.length pc, .slice la p.lives.length lc]) p ∧ Below w.heap.size w W := by
    intro W hb
    have b0 := (hb.block w.heap.size (by omega)).trans hN0
    have b1 := (hb.block (w.heap.size + 1) (by omega)).trans hN1
    have b2 := (hb.block (w.heap.size + 2) (by omega)).trans hN2
    have hbw := hb1.trans (hb.mono (by omega))
    exact ⟨⟨cells_of b0 0 _ rfl, cells_of b0 1 _ rfl, cells_of b0 2 _ rfl, cells_of b0 3 _ rfl⟩, ⟨cells_of b1 0 _ rfl, cells_of b1 1 _ rfl, cells_of b1 2 _ rfl, cells_of b1 3 _ rfl⟩, ⟨cells_of b2 0 _ rfl, cells_of b2 1 _ rfl, cells_of b2 2 _ rfl, cells_of b2 3 _ rfl, cells_of b2 4 _ rfl, cells_of b2 5 _ rfl, cells_of b2 6 _ rfl, cells_of b2 7 _ rfl⟩, h.below hbw, hbw⟩
  have haw : Calls Tryz.prog 7 #[] wa fun e w' => e = .returned (.bool true) ∧ Below wa.heap.size wa w' := awake_any (hE.below hb1)
  have hgc : ∀ W, Below wa.heap.size wa W → Calls Tryz.prog 8 #[.agg #[.int .i64 p.nodes, .int .i64 p.copies, .slice pa p.parts.length pc, .slice la p.lives.length lc]] W fun e w' => e = .returned (.bool (greatP p)) ∧ Below wa.heap.size wa w' := by
    intro W hb
    refine (great_any (hkeep W hb).2.2.2.1).mono ?_
    rintro e w' ⟨rfl, hb2⟩
    exact ⟨rfl, hb.trans (hb2.mono hb.size)⟩
  obtain ⟨gr, hgr⟩ : ∃ gr, greatP p = gr := ⟨_, rfl⟩
  rw [hgr] at hgc
  have hap1 : ∀ W, Below wa.heap.size wa W → Calls Tryz.prog 9 #[.agg #[.int .i64 p.nodes, .int .i64 p.copies, .slice pa p.parts.length pc, .slice la p.lives.length lc], .agg #[.int .i64 kd, .int .i64 nd, .int .i64 pt, .int .i64 cn]] W (Ap W Q T r) := fun W hb => (hAp W _ (hkeep W hb).2.2.2.1).1
  have hap2 : ∀ W, Below wa.heap.size wa W → Calls Tryz.prog 10 #[.agg #[.int .i64 p.nodes, .int .i64 p.copies, .slice pa p.parts.length pc, .slice la p.lives.length lc], .agg #[.int .i64 kd, .int .i64 nd, .int .i64 pt, .int .i64 cn]] W (Ap W Q T r) := fun W hb => (hAp W _ (hkeep W hb).2.2.2.1).2
  have HAW := Lib.hid haw
  have HK := Lib.hid hkeep
  have HG := Lib.hid hgc
  have HA1 := Lib.hid hap1
  have HA2 := Lib.hid hap2
  have HN1 := Lib.hid (fun W => (hNw W).1)
  have HN2 := Lib.hid (fun W => (hNw W).2)
  have HGR := Lib.hid hgr
  clear hkeep haw hgc hap1 hap2 hAp hNw hgr hN0 hN1 hN2 hsz hb1 hE h
  go_enter Tryz.func3, Tryz.ntmps3
  go_upto_region 1 with fail
  rw [← hwa]
  clear hwa
  go_upto_region 3 with (first | (go_at_call 7; refine HAW.out.mono ?_; rintro _ w1 ⟨rfl, hb1⟩; obtain ⟨⟨x0, x1, x2, x3⟩, -⟩ := HK.out w1 hb1; have B1 := Lib.hid hb1; clear hb1))
  cases gr with
  | true =>
    go_wp2_with (first | (go_at_call 8; refine (HG.out _ B1.out).mono ?_; rintro _ w2 ⟨rfl, hb2⟩; have B2 := Lib.hid hb2; clear hb2))
    go_ret
    exact ⟨rfl, (HK.out _ B2.out).2.2.2.2⟩
  | false =>
    go_upto_region 5 with (first | (go_at_call 8; refine (HG.out _ B1.out).mono ?_; rintro _ w2 ⟨rfl, hb2⟩; obtain ⟨⟨x20, x21, x22, x23⟩, ⟨y20, y21, y22, y23⟩, -⟩ := HK.out w2 hb2; have B2 := Lib.hid hb2; clear hb2))
    clear x0 x1 x2 x3 B1 HG HAW
    go_upto_region 6 with (first | (go_at_call 9; refine (HA1.out _ B2.out).mono ?_; rintro _ w3 ⟨pa1, pc1, la1, lc1, ta1, tc1, rfl, hq1, ht1, hb3⟩))
    have b3 : Below wa.heap.size wa w3 := B2.out.trans (hb3.mono B2.out.size)
    have hF1 : ∀ W, Below (w3.heap.size + 1) (w3.alloc (.cells #[.int .i64 Q.nodes, .int .i64 Q.copies, .slice pa1 Q.parts.length pc1, .slice la1 Q.lives.length lc1] 25)) W → Below wa.heap.size wa W ∧ (W.cell? ⟨w3.heap.size, 0, none⟩ = some (.int .i64 Q.nodes) ∧ W.cell? ⟨w3.heap.size, 1, none⟩ = some (.int .i64 Q.copies) ∧ W.cell? ⟨w3.heap.size, 2, none⟩ = some (.slice pa1 Q.parts.length pc1) ∧ W.cell? ⟨w3.heap.size, 3, none⟩ = some (.slice la1 Q.lives.length lc1)) ∧ PlanRd W (.agg #[.int .i64 Q.nodes, .int .i64 Q.copies, .slice pa1 Q.parts.length pc1, .slice la1 Q.lives.length lc1]) Q ∧ IntsRd W (.slice ta1 T.length tc1) T := by
      intro W hb
      have hbk := (hb.block w3.heap.size (by omega)).trans (heap_alloc_new w3 (.cells #[.int .i64 Q.nodes, .int .i64 Q.copies, .slice pa1 Q.parts.length pc1, .slice la1 Q.lives.length lc1] 25))
      have h2 : Below w3.heap.size w3 W := (below_alloc _ _).trans (hb.mono (by omega))
      exact ⟨b3.trans (h2.mono b3.size), ⟨cells_of hbk 0 _ rfl, cells_of hbk 1 _ rfl, cells_of hbk 2 _ rfl, cells_of hbk 3 _ rfl⟩, hq1.below h2, ht1.below h2⟩
    have hs1 : (w3.alloc (.cells #[.int .i64 Q.nodes, .int .i64 Q.copies, .slice pa1 Q.parts.length pc1, .slice la1 Q.lives.length lc1] 25)).heap.size = w3.heap.size + 1 := by simp
    obtain ⟨m0, m1, m2, m3⟩ := (HK.out _ (hF1 _ (Below.refl _ _)).1).1
    obtain ⟨n0, n1, n2, n3⟩ := (HK.out _ (hF1 _ (Below.refl _ _)).1).2.1
    have HF1 := Lib.hid hF1
    clear hF1 hq1 ht1 hb3 b3 x20 x21 x22 x23 y20 y21 y22 y23 B2 HA1
    generalize w3.alloc (.cells #[.int .i64 Q.nodes, .int .i64 Q.copies, .slice pa1 Q.parts.length pc1, .slice la1 Q.lives.length lc1] 25) = wp at *
    generalize w3.heap.size = X1 at *
    have HS1 := Lib.hid hs1
    clear hs1
    go_upto_region 7 with (first | (go_at_call 10; refine (HA2.out _ (HF1.out wp (Below.refl _ _)).1).mono ?_; rintro _ w4 ⟨pa2, pc2, la2, lc2, ta2, tc2, rfl, hq2, ht2, hb4⟩))
    have b4 : Below (X1 + 1) wp w4 := by have := HS1.out; rw [this] at hb4; exact hb4
    have z4 : X1 + 1 ≤ w4.heap.size := by have := hb4.size; have := HS1.out; omega
    have hF2 : ∀ W, Below (w4.heap.size + 1) (w4.alloc (.cells #[.int .i64 Q.nodes, .int .i64 Q.copies, .slice pa2 Q.parts.length pc2, .slice la2 Q.lives.length lc2] 25)) W → Below (X1 + 1) wp W ∧ (W.cell? ⟨w4.heap.size, 0, none⟩ = some (.int .i64 Q.nodes) ∧ W.cell? ⟨w4.heap.size, 1, none⟩ = some (.int .i64 Q.copies) ∧ W.cell? ⟨w4.heap.size, 2, none⟩ = some (.slice pa2 Q.parts.length pc2) ∧ W.cell? ⟨w4.heap.size, 3, none⟩ = some (.slice la2 Q.lives.length lc2)) ∧ PlanRd W (.agg #[.int .i64 Q.nodes, .int .i64 Q.copies, .slice pa2 Q.parts.length pc2, .slice la2 Q.lives.length lc2]) Q ∧ IntsRd W (.slice ta2 T.length tc2) T := by
      intro W hb
      have hbk := (hb.block w4.heap.size (by omega)).trans (heap_alloc_new w4 (.cells #[.int .i64 Q.nodes, .int .i64 Q.copies, .slice pa2 Q.parts.length pc2, .slice la2 Q.lives.length lc2] 25))
      have h2 : Below w4.heap.size w4 W := (below_alloc _ _).trans (hb.mono (by omega))
      exact ⟨b4.trans (h2.mono z4), ⟨cells_of hbk 0 _ rfl, cells_of hbk 1 _ rfl, cells_of hbk 2 _ rfl, cells_of hbk 3 _ rfl⟩, hq2.below h2, ht2.below h2⟩
    have hs2 : (w4.alloc (.cells #[.int .i64 Q.nodes, .int .i64 Q.copies, .slice pa2 Q.parts.length pc2, .slice la2 Q.lives.length lc2] 25)).heap.size = w4.heap.size + 1 := by simp
    obtain ⟨c0, c1, c2, c3, c4, c5, c6, c7⟩ := (HK.out _ (HF1.out _ (hF2 _ (Below.refl _ _)).1).1).2.2.1
    have HF2 := Lib.hid hF2
    clear hF2 hq2 ht2 hb4 b4 z4 m0 m1 m2 m3 n0 n1 n2 n3 HA2
    generalize w4.alloc (.cells #[.int .i64 Q.nodes, .int .i64 Q.copies, .slice pa2 Q.parts.length pc2, .slice la2 Q.lives.length lc2] 25) = wq at *
    generalize w4.heap.size = X2 at *
    have HS2 := Lib.hid hs2
    clear hs2
    go_upto_region 8 with (first | (go_at_call 11; refine (HN1.out _).mono ?_; rintro _ w5 ⟨pa3, pc3, la3, lc3, rfl, hq3, hb5⟩))
    have b5 : Below (X2 + 1) wq w5 := by have := HS2.out; rw [this] at hb5; exact hb5
    have z5 : X2 + 1 ≤ w5.heap.size := by have := hb5.size; have := HS2.out; omega
    have hF3 : ∀ W, Below (w5.heap.size + 1) (w5.alloc (.cells #[.int .i64 U.nodes, .int .i64 U.copies, .slice pa3 U.parts.length pc3, .slice la3 U.lives.length lc3] 25)) W → Below (X2 + 1) wq W ∧ (W.cell? ⟨w5.heap.size, 0, none⟩ = some (.int .i64 U.nodes) ∧ W.cell? ⟨w5.heap.size, 1, none⟩ = some (.int .i64 U.copies) ∧ W.cell? ⟨w5.heap.size, 2, none⟩ = some (.slice pa3 U.parts.length pc3) ∧ W.cell? ⟨w5.heap.size, 3, none⟩ = some (.slice la3 U.lives.length lc3)) ∧ PlanRd W (.agg #[.int .i64 U.nodes, .int .i64 U.copies, .slice pa3 U.parts.length pc3, .slice la3 U.lives.length lc3]) U := by
      intro W hb
      have hbk := (hb.block w5.heap.size (by omega)).trans (heap_alloc_new w5 (.cells #[.int .i64 U.nodes, .int .i64 U.copies, .slice pa3 U.parts.length pc3, .slice la3 U.lives.length lc3] 25))
      have h2 : Below w5.heap.size w5 W := (below_alloc _ _).trans (hb.mono (by omega))
      exact ⟨b5.trans (h2.mono z5), ⟨cells_of hbk 0 _ rfl, cells_of hbk 1 _ rfl, cells_of hbk 2 _ rfl, cells_of hbk 3 _ rfl⟩, hq3.below h2⟩
    have hs3 : (w5.alloc (.cells #[.int .i64 U.nodes, .int .i64 U.copies, .slice pa3 U.parts.length pc3, .slice la3 U.lives.length lc3] 25)).heap.size = w5.heap.size + 1 := by simp
    obtain ⟨d0, d1, d2, d3, d4, d5, d6, d7⟩ := (HK.out _ (HF1.out _ (HF2.out _ (hF3 _ (Below.refl _ _)).1).1).1).2.2.1
    have HF3 := Lib.hid hF3
    clear hF3 hq3 hb5 b5 z5 c0 c1 c2 c3 c4 c5 c6 c7 HN1
    generalize w5.alloc (.cells #[.int .i64 U.nodes, .int .i64 U.copies, .slice pa3 U.parts.length pc3, .slice la3 U.lives.length lc3] 25) = wr at *
    generalize w5.heap.size = X3 at *
    have HS3 := Lib.hid hs3
    clear hs3
    go_upto_region 9 with (first | (go_at_call 12; refine (HN2.out _).mono ?_; rintro _ w6 ⟨pa4, pc4, la4, lc4, rfl, hq4, hb6⟩))
    have b6 : Below (X3 + 1) wr w6 := by have := HS3.out; rw [this] at hb6; exact hb6
    have z6 : X3 + 1 ≤ w6.heap.size := by have := hb6.size; have := HS3.out; omega
    have hs4 : (w6.alloc (.cells #[.int .i64 U.nodes, .int .i64 U.copies, .slice pa4 U.parts.length pc4, .slice la4 U.lives.length lc4] 25)).heap.size = w6.heap.size + 1 := by simp
    have hF4 : ∀ W, Below (w6.heap.size + 1) (w6.alloc (.cells #[.int .i64 U.nodes, .int .i64 U.copies, .slice pa4 U.parts.length pc4, .slice la4 U.lives.length lc4] 25)) W → ((W.cell? ⟨w.heap.size, 0, none⟩ = some (.int .i64 p.nodes) ∧ W.cell? ⟨w.heap.size, 1, none⟩ = some (.int .i64 p.copies) ∧ W.cell? ⟨w.heap.size, 2, none⟩ = some (.slice pa p.parts.length pc) ∧ W.cell? ⟨w.heap.size, 3, none⟩ = some (.slice la p.lives.length lc)) ∧ (W.cell? ⟨(w.heap.size + 1), 0, none⟩ = some (.int .i64 kd) ∧ W.cell? ⟨(w.heap.size + 1), 1, none⟩ = some (.int .i64 nd) ∧ W.cell? ⟨(w.heap.size + 1), 2, none⟩ = some (.int .i64 pt) ∧ W.cell? ⟨(w.heap.size + 1), 3, none⟩ = some (.int .i64 cn)) ∧ (W.cell? ⟨(w.heap.size + 2), 0, none⟩ = some (.int .i64 n) ∧ W.cell? ⟨(w.heap.size + 2), 1, none⟩ = some (.int .i64 k) ∧ W.cell? ⟨(w.heap.size + 2), 2, none⟩ = some (.int .i64 pp) ∧ W.cell? ⟨(w.heap.size + 2), 3, none⟩ = some (.int .i64 c) ∧ W.cell? ⟨(w.heap.size + 2), 4, none⟩ = some (.int .i64 a) ∧ W.cell? ⟨(w.heap.size + 2), 5, none⟩ = some (.int .i64 b) ∧ W.cell? ⟨(w.heap.size + 2), 6, none⟩ = some (.int .i64 d) ∧ W.cell? ⟨(w.heap.size + 2), 7, none⟩ = some (.int .i64 e')) ∧ PlanRd W (.agg #[.int .i64 p.nodes, .int .i64 p.copies, .slice pa p.parts.length pc, .slice la p.lives.length lc]) p ∧ Below w.heap.size w W) ∧ ((W.cell? ⟨X1, 0, none⟩ = some (.int .i64 Q.nodes) ∧ W.cell? ⟨X1, 1, none⟩ = some (.int .i64 Q.copies) ∧ W.cell? ⟨X1, 2, none⟩ = some (.slice pa1 Q.parts.length pc1) ∧ W.cell? ⟨X1, 3, none⟩ = some (.slice la1 Q.lives.length lc1)) ∧ PlanRd W (.agg #[.int .i64 Q.nodes, .int .i64 Q.copies, .slice pa1 Q.parts.length pc1, .slice la1 Q.lives.length lc1]) Q ∧ IntsRd W (.slice ta1 T.length tc1) T) ∧ ((W.cell? ⟨X2, 0, none⟩ = some (.int .i64 Q.nodes) ∧ W.cell? ⟨X2, 1, none⟩ = some (.int .i64 Q.copies) ∧ W.cell? ⟨X2, 2, none⟩ = some (.slice pa2 Q.parts.length pc2) ∧ W.cell? ⟨X2, 3, none⟩ = some (.slice la2 Q.lives.length lc2)) ∧ PlanRd W (.agg #[.int .i64 Q.nodes, .int .i64 Q.copies, .slice pa2 Q.parts.length pc2, .slice la2 Q.lives.length lc2]) Q ∧ IntsRd W (.slice ta2 T.length tc2) T) ∧ ((W.cell? ⟨X3, 0, none⟩ = some (.int .i64 U.nodes) ∧ W.cell? ⟨X3, 1, none⟩ = some (.int .i64 U.copies) ∧ W.cell? ⟨X3, 2, none⟩ = some (.slice pa3 U.parts.length pc3) ∧ W.cell? ⟨X3, 3, none⟩ = some (.slice la3 U.lives.length lc3)) ∧ PlanRd W (.agg #[.int .i64 U.nodes, .int .i64 U.copies, .slice pa3 U.parts.length pc3, .slice la3 U.lives.length lc3]) U) ∧ ((W.cell? ⟨w6.heap.size, 0, none⟩ = some (.int .i64 U.nodes) ∧ W.cell? ⟨w6.heap.size, 1, none⟩ = some (.int .i64 U.copies) ∧ W.cell? ⟨w6.heap.size, 2, none⟩ = some (.slice pa4 U.parts.length pc4) ∧ W.cell? ⟨w6.heap.size, 3, none⟩ = some (.slice la4 U.lives.length lc4)) ∧ PlanRd W (.agg #[.int .i64 U.nodes, .int .i64 U.copies, .slice pa4 U.parts.length pc4, .slice la4 U.lives.length lc4]) U) := by
      intro W hb
      have hbk := (hb.block w6.heap.size (by omega)).trans (heap_alloc_new w6 (.cells #[.int .i64 U.nodes, .int .i64 U.copies, .slice pa4 U.parts.length pc4, .slice la4 U.lives.length lc4] 25))
      have h2 : Below w6.heap.size w6 W := (below_alloc _ _).trans (hb.mono (by omega))
      have f3 := HF3.out W (b6.trans (h2.mono z6))
      have f2 := HF2.out W f3.1
      have f1 := HF1.out W f2.1
      exact ⟨HK.out W f1.1, f1.2, f2.2, f3.2, ⟨cells_of hbk 0 _ rfl, cells_of hbk 1 _ rfl, cells_of hbk 2 _ rfl, cells_of hbk 3 _ rfl⟩, hq4.below h2⟩
    clear hq4 hb6 b6 z6 d0 d1 d2 d3 d4 d5 d6 d7 HN2 HF1 HF2 HF3 HK
    generalize w6.alloc (.cells #[.int .i64 U.nodes, .int .i64 U.copies, .slice pa4 U.parts.length pc4, .slice la4 U.lives.length lc4] 25) = ws at *
    generalize w6.heap.size = X4 at *
    rw [← hs4] at hF4
    have hbig : p.parts.length ≤ 20 ∧ p.lives.length ≤ 20 := by
      have := HGR.out
      simp only [greatP, Bool.or_eq_false_iff, decide_eq_false_iff_not] at this
      omega
    have hcell : ∀ W, Below ws.heap.size ws W → (W.cell? ⟨w.heap.size, 0, none⟩ = some (.int .i64 p.nodes) ∧ W.cell? ⟨w.heap.size, 1, none⟩ = some (.int .i64 p.copies) ∧ W.cell? ⟨w.heap.size, 2, none⟩ = some (.slice pa p.parts.length pc) ∧ W.cell? ⟨w.heap.size, 3, none⟩ = some (.slice la p.lives.length lc)) ∧ (W.cell? ⟨X1, 0, none⟩ = some (.int .i64 Q.nodes) ∧ W.cell? ⟨X1, 1, none⟩ = some (.int .i64 Q.copies) ∧ W.cell? ⟨X1, 2, none⟩ = some (.slice pa1 Q.parts.length pc1) ∧ W.cell? ⟨X1, 3, none⟩ = some (.slice la1 Q.lives.length lc1)) ∧ (W.cell? ⟨X2, 0, none⟩ = some (.int .i64 Q.nodes) ∧ W.cell? ⟨X2, 1, none⟩ = some (.int .i64 Q.copies) ∧ W.cell? ⟨X2, 2, none⟩ = some (.slice pa2 Q.parts.length pc2) ∧ W.cell? ⟨X2, 3, none⟩ = some (.slice la2 Q.lives.length lc2)) ∧ (W.cell? ⟨X3, 0, none⟩ = some (.int .i64 U.nodes) ∧ W.cell? ⟨X3, 1, none⟩ = some (.int .i64 U.copies) ∧ W.cell? ⟨X3, 2, none⟩ = some (.slice pa3 U.parts.length pc3) ∧ W.cell? ⟨X3, 3, none⟩ = some (.slice la3 U.lives.length lc3)) ∧ (W.cell? ⟨X4, 0, none⟩ = some (.int .i64 U.nodes) ∧ W.cell? ⟨X4, 1, none⟩ = some (.int .i64 U.copies) ∧ W.cell? ⟨X4, 2, none⟩ = some (.slice pa4 U.parts.length pc4) ∧ W.cell? ⟨X4, 3, none⟩ = some (.slice la4 U.lives.length lc4)) := by
      intro W hb
      obtain ⟨⟨h0, -⟩, ⟨h1, -⟩, ⟨h2, -⟩, ⟨h3, -⟩, ⟨h4, -⟩⟩ := hF4 W hb
      exact ⟨h0, h1, h2, h3, h4⟩
    have hsame1 : ∀ W, Below ws.heap.size ws W → Calls Tryz.prog 13 #[.agg #[.int .i64 Q.nodes, .int .i64 Q.copies, .slice pa1 Q.parts.length pc1, .slice la1 Q.lives.length lc1], .agg #[.int .i64 Q.nodes, .int .i64 Q.copies, .slice pa2 Q.parts.length pc2, .slice la2 Q.lives.length lc2]] W fun e w' => e = .returned (.bool true) ∧ Below ws.heap.size ws w' := fun W hb => (same_yes (hF4 W hb).2.1.2.1 (hF4 W hb).2.2.1.2.1).mono fun e w' ⟨h1, h2⟩ => ⟨h1, hb.trans (h2.mono hb.size)⟩
    have hsame2 : ∀ W, Below ws.heap.size ws W → Calls Tryz.prog 13 #[.agg #[.int .i64 U.nodes, .int .i64 U.copies, .slice pa3 U.parts.length pc3, .slice la3 U.lives.length lc3], .agg #[.int .i64 U.nodes, .int .i64 U.copies, .slice pa4 U.parts.length pc4, .slice la4 U.lives.length lc4]] W fun e w' => e = .returned (.bool true) ∧ Below ws.heap.size ws w' := fun W hb => (same_yes (hF4 W hb).2.2.2.1.2 (hF4 W hb).2.2.2.2.2).mono fun e w' ⟨h1, h2⟩ => ⟨h1, hb.trans (h2.mono hb.size)⟩
    have hints : ∀ W, Below ws.heap.size ws W → Calls Tryz.prog 14 #[.slice ta1 T.length tc1, .slice ta2 T.length tc2] W fun e w' => e = .returned (.bool true) ∧ Below ws.heap.size ws w' := fun W hb => (ints_yes (hF4 W hb).2.1.2.2 (hF4 W hb).2.2.1.2.2).mono fun e w' ⟨h1, h2⟩ => ⟨h1, hb.trans (h2.mono hb.size)⟩
    obtain ⟨gd, hgd⟩ : ∃ gd, goodP p = gd := ⟨_, rfl⟩
    have hgood1 : ∀ W, Below ws.heap.size ws W → Calls Tryz.prog 15 #[.agg #[.int .i64 p.nodes, .int .i64 p.copies, .slice pa p.parts.length pc, .slice la p.lives.length lc]] W fun e w' => e = .returned (.bool gd) ∧ Below ws.heap.size ws w' := fun W hb => (Good_any (hF4 W hb).1.2.2.2.1).mono fun e w' ⟨h1, h2⟩ => ⟨by rw [← hgd]; exact h1, hb.trans (h2.mono hb.size)⟩
    have hgood2 : ∀ W, Below ws.heap.size ws W → Calls Tryz.prog 16 #[.agg #[.int .i64 p.nodes, .int .i64 p.copies, .slice pa p.parts.length pc, .slice la p.lives.length lc]] W fun e w' => e = .returned (.bool gd) ∧ Below ws.heap.size ws w' := fun W hb => (R12Good_any (hF4 W hb).1.2.2.2.1).mono fun e w' ⟨h1, h2⟩ => ⟨by rw [← hgd]; exact h1, hb.trans (h2.mono hb.size)⟩
    have HC := Lib.hid hcell
    have HS1' := Lib.hid hsame1
    have HS2' := Lib.hid hsame2
    have HIN := Lib.hid hints
    have HG1 := Lib.hid hgood1
    have HG2 := Lib.hid hgood2
    have HF4 := Lib.hid hF4
    have HGD := Lib.hid hgd
    have HBIG := Lib.hid hbig
    clear hF4 hcell hsame1 hsame2 hints hgood1 hgood2 hgd hbig hs4 HS1 HS2 HS3 HGR
    have hgg : (gd != gd) = false := by cases gd <;> rfl
    refine wp_region_belowP ws.heap.size (by kernel_rfl) (by kernel_rfl) ?_
    iterate 33 (first
      | go_big_quiet_skip
      | (go_big_quiet_want; rename_i K hK
         unfold Oper.quiet
         apply Exists.intro
         refine ⟨fun w' hw' => ?_, hK _ ?_⟩
         · obtain ⟨⟨p0, p1, p2, p3⟩, ⟨a0, a1, a2, a3⟩, ⟨b0, b1, b2, b3⟩, ⟨u0, u1, u2, u3⟩, ⟨v0, v1, v2, v3⟩⟩ := HC.out w' hw'
           unfold Oper.quietAt
           go_simp
           first
             | with_reducible rfl
             | with_reducible exact HS1'.out w' hw'
             | with_reducible exact HS2'.out w' hw'
             | with_reducible exact HIN.out w' hw'
             | with_reducible exact HG1.out w' hw'
             | with_reducible exact HG2.out w' hw'
         clear hK K
         simp only [Act.put, List.setIfInBounds_toArray, List.set_cons_zero, List.set_cons_succ]))
    refine wpQuiet_nil ?_
    intro w7 hw7
    obtain ⟨⟨p0, p1, p2, p3⟩, -⟩ := HC.out w7 hw7
    have HW7 := Lib.hid hw7
    clear hw7 HS1' HS2' HIN HG1
    cases gd with
    | false =>
      go_wp2_with (first | (go_at_call 16; refine (HG2.out _ HW7.out).mono ?_; rintro _ w8 ⟨rfl, hb8⟩; have B8 := Lib.hid hb8; clear hb8))
      go_ret
      exact ⟨rfl, (HF4.out _ B8.out).1.2.2.2.2⟩
    | true =>
      have hr := (goodP_iff.1 HGD.out).2.2.2.2.2
      have hL : p.lives.length ≤ 1000 := by have := HBIG.out; omega
      have hP4 : p.parts.length ≤ 1000 := by have := HBIG.out; omega
      obtain ⟨lf, hlf⟩ : ∃ lf, lifeP p.lives nd = lf := ⟨_, rfl⟩
      obtain ⟨V, hV⟩ : ∃ V, wantsP p nd = V := ⟨_, rfl⟩
      have hl1 : ∀ W, Below ws.heap.size ws W → Calls Tryz.prog 17 #[.agg #[.int .i64 p.nodes, .int .i64 p.copies, .slice pa p.parts.length pc, .slice la p.lives.length lc], .int .i64 nd] W fun e w' => e = .returned (.int .i64 lf) ∧ Below ws.heap.size ws w' := fun W hb => (Life_any (HF4.out W hb).1.2.2.2.1 hr hL nd).mono fun e w' ⟨h1, h2⟩ => ⟨by rw [← hlf]; exact h1, hb.trans (h2.mono hb.size)⟩
      have hl2 : ∀ W, Below ws.heap.size ws W → Calls Tryz.prog 18 #[.agg #[.int .i64 p.nodes, .int .i64 p.copies, .slice pa p.parts.length pc, .slice la p.lives.length lc], .int .i64 nd] W fun e w' => e = .returned (.int .i64 lf) ∧ Below ws.heap.size ws w' := fun W hb => (R12Life_any (HF4.out W hb).1.2.2.2.1 nd).mono fun e w' ⟨h1, h2⟩ => ⟨by rw [← hlf]; exact h1, hb.trans (h2.mono hb.size)⟩
      have hv1 : ∀ W, Below ws.heap.size ws W → Calls Tryz.prog 19 #[.agg #[.int .i64 p.nodes, .int .i64 p.copies, .slice pa p.parts.length pc, .slice la p.lives.length lc], .int .i64 nd] W fun e w' => (∃ (ta : Option Addr) (tc : Nat), e = .returned (.slice ta V.length tc) ∧ IntsRd w' (.slice ta V.length tc) V) ∧ Below W.heap.size W w' ∧ Below ws.heap.size ws w' := fun W hb => (Wants_any (HF4.out W hb).1.2.2.2.1 hP4 nd).mono fun e w' h => by
        rw [hV] at h
        obtain ⟨ta, tc, h1, h2, h3⟩ := Wt.of h
        exact ⟨⟨ta, tc, h1, h2⟩, h3, hb.trans (h3.mono hb.size)⟩
      have hv2 : ∀ W, Below ws.heap.size ws W → Calls Tryz.prog 20 #[.agg #[.int .i64 p.nodes, .int .i64 p.copies, .slice pa p.parts.length pc, .slice la p.lives.length lc], .int .i64 nd] W fun e w' => (∃ (ta : Option Addr) (tc : Nat), e = .returned (.slice ta V.length tc) ∧ IntsRd w' (.slice ta V.length tc) V) ∧ Below W.heap.size W w' ∧ Below ws.heap.size ws w' := fun W hb => (R12Wants_any (HF4.out W hb).1.2.2.2.1 hP4 nd).mono fun e w' h => by
        rw [hV] at h
        obtain ⟨ta, tc, h1, h2, h3⟩ := Wt.of h
        exact ⟨⟨ta, tc, h1, h2⟩, h3, hb.trans (h3.mono hb.size)⟩
      have hc13 : ∀ W, Below ws.heap.size ws W → W.cell? ⟨w.heap.size, 0, none⟩ = some (.int .i64 p.nodes) ∧ W.cell? ⟨w.heap.size, 1, none⟩ = some (.int .i64 p.copies) ∧ W.cell? ⟨w.heap.size, 2, none⟩ = some (.slice pa p.parts.length pc) ∧ W.cell? ⟨w.heap.size, 3, none⟩ = some (.slice la p.lives.length lc) ∧ W.cell? ⟨w.heap.size + 1, 1, none⟩ = some (.int .i64 nd) := by
        intro W hb
        obtain ⟨h0, h1, h2, h3⟩ := (HF4.out W hb).1.1
        exact ⟨h0, h1, h2, h3, (HF4.out W hb).1.2.1.2.1⟩
      have hfin : ∀ W, Below ws.heap.size ws W → Below w.heap.size w W := fun W hb => (HF4.out W hb).1.2.2.2.2
      have HL1 := Lib.hid hl1
      have HL2 := Lib.hid hl2
      have HV1 := Lib.hid hv1
      have HV2 := Lib.hid hv2
      have HC13 := Lib.hid hc13
      have HFIN := Lib.hid hfin
      clear hl1 hl2 hv1 hv2 hc13 hfin hV hlf hL hP4 hr
      go_upto_region 13 with (first | (go_at_call 16; refine (HG2.out _ HW7.out).mono ?_; rintro _ w8 ⟨rfl, hb8⟩))
      clear p0 p1 p2 p3 HW7 HC HF4 HG2 HGD HBIG
      have h8 := HC13.out w8 hb8
      go_region_held3 (fun W' => (W'.cell? ⟨w.heap.size, 0, none⟩ = some (.int .i64 p.nodes) ∧ W'.cell? ⟨w.heap.size, 1, none⟩ = some (.int .i64 p.copies) ∧ W'.cell? ⟨w.heap.size, 2, none⟩ = some (.slice pa p.parts.length pc) ∧ W'.cell? ⟨w.heap.size, 3, none⟩ = some (.slice la p.lives.length lc) ∧ W'.cell? ⟨w.heap.size + 1, 1, none⟩ = some (.int .i64 nd)))
        (first | exact HC13.out _ (hb8.trans ((Below.refl _ w8).drew.mono hb8.size)) | (have hg := hb14; exact HC13.out _ hg) | (have hg := hb12; exact HC13.out _ hg) | (have hg := hb11; exact HC13.out _ hg) | (have hg := hb10; exact HC13.out _ hg) | (have hg := hb9; exact HC13.out _ hg))
        (first
          | (go_at_call 17; refine (HL1.out _ (hb8.trans ((Below.refl _ w8).drew.mono hb8.size))).mono ?_; rintro e w9 ⟨rfl, hb9⟩)
          | (go_at_call 18; refine (HL2.out _ hb9).mono ?_; rintro e w10 ⟨rfl, hb10⟩)
          | (go_at_call 19; refine (HV1.out _ hb10).mono ?_; rintro e w11 ⟨⟨ta, tc, rfl, ht⟩, -, hb11⟩)
          | (go_at_call 20; refine (HV2.out _ hb11).mono ?_; rintro e w12 ⟨⟨tb, td, rfl, ht2⟩, hbx, hb12⟩; have ht3 := ht.below hbx)
          | (go_at_call 14; refine (ints_yes ht3 ht2).mono ?_; rintro e w13 ⟨rfl, hb13⟩; have hb14 := hb12.trans (hb13.mono hb12.size)))
      all_goals
        go_wp2
        go_ret
        exact ⟨rfl, HFIN.out _ hb14⟩
end Go.Proofs.YtjkobbmdemooaaaGreatDoor
