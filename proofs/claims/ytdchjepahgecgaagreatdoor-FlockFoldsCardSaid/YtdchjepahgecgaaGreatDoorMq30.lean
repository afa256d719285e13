/- The walk of flock.Look (printed by gen_fllk.py). -/
import Derived.Test.YtdchjepahgecgaaGreatDoorMq29
namespace Go.Proofs.YtdchjepahgecgaaGreatDoor
open Go.RowKit

/-- The answer's words are written into its box. -/
theorem resp_end {w W : World} {B N : Nat} (hz : W.heap[B]? = some (.cells (rsC 0 0 0 0 0 (.slice none 0 0)) 39 (0, 0))) (hb : Below w.heap.size w W) (hB : w.heap.size ≤ B) (hN : B < N) (c n code off gen : Int) (parts : List Int) {pa : Option Addr} {pc : Nat}
    (ho : W.ownsRow N 3 1 (.slice pa parts.length pc) parts.length (intCells parts)) :
    (((((((((W.setCell ⟨B, 0, none⟩ (.int .i64 c)).setCell ⟨B, 1, none⟩ (.int .i64 n)).setCell ⟨B, 2, none⟩ (.int .i64 code)).setCell ⟨B, 3, none⟩ (.int .i64 off)).setCell ⟨B, 4, none⟩ (.int .i64 0)).setCell ⟨B, 5, none⟩ (.int .i64 gen)).setCell ⟨B, 6, none⟩ (.slice pa parts.length pc)).setCell ⟨B, 7, none⟩ (.slice none 0 0)).cell? ⟨B, 0, none⟩ = some (.int .i64 c) ∧ ((((((((W.setCell ⟨B, 0, none⟩ (.int .i64 c)).setCell ⟨B, 1, none⟩ (.int .i64 n)).setCell ⟨B, 2, none⟩ (.int .i64 code)).setCell ⟨B, 3, none⟩ (.int .i64 off)).setCell ⟨B, 4, none⟩ (.int .i64 0)).setCell ⟨B, 5, none⟩ (.int .i64 gen)).setCell ⟨B, 6, none⟩ (.slice pa parts.length pc)).setCell ⟨B, 7, none⟩ (.slice none 0 0)).cell? ⟨B, 1, none⟩ = some (.int .i64 n) ∧ ((((((((W.setCell ⟨B, 0, none⟩ (.int .i64 c)).setCell ⟨B, 1, none⟩ (.int .i64 n)).setCell ⟨B, 2, none⟩ (.int .i64 code)).setCell ⟨B, 3, none⟩ (.int .i64 off)).setCell ⟨B, 4, none⟩ (.int .i64 0)).setCell ⟨B, 5, none⟩ (.int .i64 gen)).setCell ⟨B, 6, none⟩ (.slice pa parts.length pc)).setCell ⟨B, 7, none⟩ (.slice none 0 0)).cell? ⟨B, 2, none⟩ = some (.int .i64 code) ∧ ((((((((W.setCell ⟨B, 0, none⟩ (.int .i64 c)).setCell ⟨B, 1, none⟩ (.int .i64 n)).setCell ⟨B, 2, none⟩ (.int .i64 code)).setCell ⟨B, 3, none⟩ (.int .i64 off)).setCell ⟨B, 4, none⟩ (.int .i64 0)).setCell ⟨B, 5, none⟩ (.int .i64 gen)).setCell ⟨B, 6, none⟩ (.slice pa parts.length pc)).setCell ⟨B, 7, none⟩ (.slice none 0 0)).cell? ⟨B, 3, none⟩ = some (.int .i64 off) ∧ ((((((((W.setCell ⟨B, 0, none⟩ (.int .i64 c)).setCell ⟨B, 1, none⟩ (.int .i64 n)).setCell ⟨B, 2, none⟩ (.int .i64 code)).setCell ⟨B, 3, none⟩ (.int .i64 off)).setCell ⟨B, 4, none⟩ (.int .i64 0)).setCell ⟨B, 5, none⟩ (.int .i64 gen)).setCell ⟨B, 6, none⟩ (.slice pa parts.length pc)).setCell ⟨B, 7, none⟩ (.slice none 0 0)).cell? ⟨B, 4, none⟩ = some (.int .i64 0) ∧ ((((((((W.setCell ⟨B, 0, none⟩ (.int .i64 c)).setCell ⟨B, 1, none⟩ (.int .i64 n)).setCell ⟨B, 2, none⟩ (.int .i64 code)).setCell ⟨B, 3, none⟩ (.int .i64 off)).setCell ⟨B, 4, none⟩ (.int .i64 0)).setCell ⟨B, 5, none⟩ (.int .i64 gen)).setCell ⟨B, 6, none⟩ (.slice pa parts.length pc)).setCell ⟨B, 7, none⟩ (.slice none 0 0)).cell? ⟨B, 5, none⟩ = some (.int .i64 gen) ∧ ((((((((W.setCell ⟨B, 0, none⟩ (.int .i64 c)).setCell ⟨B, 1, none⟩ (.int .i64 n)).setCell ⟨B, 2, none⟩ (.int .i64 code)).setCell ⟨B, 3, none⟩ (.int .i64 off)).setCell ⟨B, 4, none⟩ (.int .i64 0)).setCell ⟨B, 5, none⟩ (.int .i64 gen)).setCell ⟨B, 6, none⟩ (.slice pa parts.length pc)).setCell ⟨B, 7, none⟩ (.slice none 0 0)).cell? ⟨B, 6, none⟩ = some (.slice pa parts.length pc) ∧ ((((((((W.setCell ⟨B, 0, none⟩ (.int .i64 c)).setCell ⟨B, 1, none⟩ (.int .i64 n)).setCell ⟨B, 2, none⟩ (.int .i64 code)).setCell ⟨B, 3, none⟩ (.int .i64 off)).setCell ⟨B, 4, none⟩ (.int .i64 0)).setCell ⟨B, 5, none⟩ (.int .i64 gen)).setCell ⟨B, 6, none⟩ (.slice pa parts.length pc)).setCell ⟨B, 7, none⟩ (.slice none 0 0)).cell? ⟨B, 7, none⟩ = some (.slice none 0 0)) ∧
    ((((((((W.setCell ⟨B, 0, none⟩ (.int .i64 c)).setCell ⟨B, 1, none⟩ (.int .i64 n)).setCell ⟨B, 2, none⟩ (.int .i64 code)).setCell ⟨B, 3, none⟩ (.int .i64 off)).setCell ⟨B, 4, none⟩ (.int .i64 0)).setCell ⟨B, 5, none⟩ (.int .i64 gen)).setCell ⟨B, 6, none⟩ (.slice pa parts.length pc)).setCell ⟨B, 7, none⟩ (.slice none 0 0)).ownsRow w.heap.size 3 1 (.slice pa parts.length pc) parts.length (intCells parts) ∧ Below w.heap.size w ((((((((W.setCell ⟨B, 0, none⟩ (.int .i64 c)).setCell ⟨B, 1, none⟩ (.int .i64 n)).setCell ⟨B, 2, none⟩ (.int .i64 code)).setCell ⟨B, 3, none⟩ (.int .i64 off)).setCell ⟨B, 4, none⟩ (.int .i64 0)).setCell ⟨B, 5, none⟩ (.int .i64 gen)).setCell ⟨B, 6, none⟩ (.slice pa parts.length pc)).setCell ⟨B, 7, none⟩ (.slice none 0 0)) := by
  obtain ⟨h8, hu⟩ := set8 hz (.int .i64 c) (.int .i64 n) (.int .i64 code) (.int .i64 off) (.int .i64 0) (.int .i64 gen) (.slice pa parts.length pc) (.slice none 0 0)
  refine ⟨⟨cells_of h8 0 _ rfl, cells_of h8 1 _ rfl, cells_of h8 2 _ rfl, cells_of h8 3 _ rfl, cells_of h8 4 _ rfl, cells_of h8 5 _ rfl, cells_of h8 6 _ rfl, cells_of h8 7 _ rfl⟩, owns_mono (owns_upd ho hu (fun g hg e => by have := (owns_lt ho g hg).1; omega)) (by omega), hb.trans (hu.toBelow (N := w.heap.size) hb.size (fun k e => by omega))⟩

theorem code_set {w W : World} {rb B : Nat} (hne : B ≠ rb) (hrb : w.heap.size ≤ rb) (hb : Below w.heap.size w W) (hz : W.heap[B]? = some (.cells (rsC 0 0 0 0 0 (.slice none 0 0)) 39 (0, 0))) (j : Nat) (x : Value) :
    (W.setCell ⟨rb, j, none⟩ x).heap[B]? = some (.cells (rsC 0 0 0 0 0 (.slice none 0 0)) 39 (0, 0)) ∧ Below w.heap.size w (W.setCell ⟨rb, j, none⟩ x) :=
  ⟨(Below.heap_setCell _ _ _ _ hne).trans hz, hb.trans ((upd_set1 W rb j x).toBelow (N := w.heap.size) hb.size (fun k e => by omega))⟩

/-- What flock.Look answers. -/
def lookP (L : List Fk) (q : Rq) : Rs :=
  if q.kind = 5 then
    (if (theF L q.group).members.any (fun y => decide (q.member = y)) = true then { ownedP L q q.client q.n with code := if q.gen = (theF L q.group).gen then 0 else 30 } else ⟨q.client, q.n, 31, 0, 0, []⟩)
  else if q.kind = 7 then
    (if idxP (fun y => decide (y.1 = q.part)) (theF L q.group).points < 0 then ⟨q.client, q.n, 12, 0, 0, []⟩
     else ⟨q.client, q.n, 0, ((theF L q.group).points.getD (idxP (fun y => decide (y.1 = q.part)) (theF L q.group).points).toNat (0, 0)).2, 0, []⟩)
  else ⟨q.client, q.n, 1, 0, 0, []⟩
theorem idxP_lt {α : Type} (p : α → Bool) (l : List α) : -1 ≤ idxP p l ∧ idxP p l < (l.length : Int) := by
  unfold idxP
  cases h : l.findIdx? p with
  | none => simp only; omega
  | some i =>
    rw [List.findIdx?_eq_some_iff_getElem] at h
    obtain ⟨hi, -⟩ := h
    simp only
    omega

set_option maxRecDepth 100000 in
set_option maxHeartbeats 8000000 in
theorem look_any {w : World} {v : Value} {L : List Fk} (h : FksRd w v L) (hr : FkUp L) (hL : L.length ≤ 1000) (q : Rq) : Calls Tryz.prog 20 #[v, q.v] w (RespTo w (lookP L q)) := by
  obtain ⟨y, hy⟩ : ∃ y, theF L q.group = y := ⟨_, rfl⟩
  obtain ⟨R, hR⟩ : ∃ R, lookP L q = R := ⟨_, rfl⟩
  have how := fun W (hW : FksRd W v L) => owned_any hW hr hL q q.client q.n
  obtain ⟨O, hO⟩ : ∃ O, ownedP L q q.client q.n = O := ⟨_, rfl⟩
  have hOg : O.client = q.client ∧ O.n = q.n ∧ O.code = 0 ∧ O.off = 0 ∧ O.gen = y.gen := by rw [← hO]; exact ⟨rfl, rfl, rfl, rfl, by rw [← hy]; rfl⟩
  rw [hR]
  unfold lookP at hR
  rw [hy, hO] at hR
  rw [hO] at how
  obtain ⟨wa, hwa⟩ : ∃ wa, wa = ((w.alloc q.box).alloc (.cells (rsC 0 0 0 0 0 (.slice none 0 0)) 39)).alloc (.cells (rsC q.client q.n 0 0 0 (.slice none 0 0)) 39) := ⟨_, rfl⟩
  have hb1 : Below w.heap.size w wa := by rw [hwa]; exact below_alloc3 _ _ _ _
  have hN0 : wa.heap[w.heap.size]? = some q.box := by
    rw [hwa, Below.heap_alloc _ _ _ (by simp; omega), Below.heap_alloc _ _ _ (by simp)]; exact heap_alloc_new w _
  have hN1 : wa.heap[w.heap.size + 1]? = some (.cells (rsC 0 0 0 0 0 (.slice none 0 0)) 39 (0, 0)) := by rw [hwa, Below.heap_alloc _ _ _ (by simp)]; exact heap_new1 w _ _
  have hN2 : wa.heap[w.heap.size + 2]? = some (.cells (rsC q.client q.n 0 0 0 (.slice none 0 0)) 39 (0, 0)) := by rw [hwa]; exact heap_new2 w _ _ _
  have hsz : wa.heap.size = w.heap.size + 3 := by rw [hwa]; simp
  have hthe := the_F (h.below hb1) hr hL q.group
  rw [hy] at hthe
  have x8 := cells_of hN0 8 _ rfl
  obtain ⟨a, cap, rfl, -, -, -⟩ := h.cells
  have HH := Lib.hid h
  have HT := Lib.hid hthe
  have HN := Lib.hid (And.intro hN0 (And.intro hN1 (And.intro hN2 (And.intro hb1 hsz))))
  have HR := Lib.hid hR
  have HOW := Lib.hid how
  have HOG := Lib.hid hOg
  clear h hthe hN0 hN1 hN2 hb1 hsz hR hy how hOg hO
  simp only [Rq.box] at hwa
  go_enter Tryz.func20, Tryz.ntmps20
  go_upto_region 2 with fail
  rw [← hwa]
  clear hwa
  go_upto_region 3 with (first | (go_at_call 24; refine HT.out.mono ?_; rintro _ w1 ⟨hb1, ma, mc, pa, pc, rfl, hst, hpt⟩))
  obtain ⟨wf, hwc⟩ : ∃ wf, wf = w1.alloc (.cells #[.string (bs y.name), .int .i64 y.gen, .int .i64 y.parts, .slice ma y.members.length mc, .slice pa y.points.length pc] 44) := ⟨_, rfl⟩
  have hF : wf.heap[w1.heap.size]? = some (.cells #[.string (bs y.name), .int .i64 y.gen, .int .i64 y.parts, .slice ma y.members.length mc, .slice pa y.points.length pc] 44 (0, 0)) := by rw [hwc]; exact heap_alloc_new _ _
  have hbc1 : Below w1.heap.size w1 wf := by rw [hwc]; exact below_alloc _ _
  have hsc : wf.heap.size = w1.heap.size + 1 := by rw [hwc]; simp
  rw [← hwc]
  clear hwc
  have hk : ∀ W, Below wf.heap.size wf W → W.heap[w.heap.size]? = some q.box ∧
      W.heap[w1.heap.size]? = some (.cells #[.string (bs y.name), .int .i64 y.gen, .int .i64 y.parts, .slice ma y.members.length mc, .slice pa y.points.length pc] 44 (0, 0)) ∧
      (W.heap[w.heap.size + 2]? = some (.cells (rsC q.client q.n 0 0 0 (.slice none 0 0)) 39 (0, 0)) ∧ W.heap[w.heap.size + 1]? = some (.cells (rsC 0 0 0 0 0 (.slice none 0 0)) 39 (0, 0))) ∧ Strs W (.slice ma y.members.length mc) y.members ∧ PtsRd W (.slice pa y.points.length pc) y.points ∧ Below w.heap.size w W := by
    intro W hb
    obtain ⟨hN0, hN1, hN2, hb0, hsz⟩ := HN.out
    have hs1 := hb1.size
    have hbW : Below wa.heap.size wa W := hb1.trans ((hbc1.trans (hb.mono (by omega))).mono hs1)
    exact ⟨(hbW.block w.heap.size (by omega)).trans hN0, (hb.block w1.heap.size (by omega)).trans hF, ⟨(hbW.block (w.heap.size + 2) (by omega)).trans hN2, (hbW.block (w.heap.size + 1) (by omega)).trans hN1⟩, hst.below (hbc1.trans (hb.mono (by omega))), hpt.below (hbc1.trans (hb.mono (by omega))), hb0.trans (hbW.mono (by omega))⟩
  have HK := Lib.hid hk
  have hne0 : w.heap.size + 3 ≤ w1.heap.size := by have h1 := hb1.size; have h2 := HN.out.2.2.2.2; omega
  have hwf : w.heap.size + 3 ≤ wf.heap.size := by omega
  have hwl : w1.heap.size < wf.heap.size := by omega
  obtain ⟨kq, kf, ⟨kr, ke⟩, kst, kpt, kb⟩ := hk wf (Below.refl _ _)
  have y2 := cells_of kq 2 _ rfl
  have y3 := cells_of kq 3 _ rfl
  have y7 := cells_of kq 7 _ rfl
  have y9 := cells_of kq 9 _ rfl
  have z1 := cells_of kf 1 _ rfl
  have z3 := cells_of kf 3 _ rfl
  have z4 := cells_of kf 4 _ rfl
  have c0 := cells_of kr 0 _ rfl
  have c1 := cells_of kr 1 _ rfl
  have c2 := cells_of kr 2 _ rfl
  have c3 := cells_of kr 3 _ rfl
  have c4 := cells_of kr 4 _ rfl
  have c5 := cells_of kr 5 _ rfl
  have c6 := cells_of kr 6 _ rfl
  have c7 := cells_of kr 7 _ rfl
  have g2 := frozen_of (j := 2) kr
  have g3 := frozen_of (j := 3) kr
  have f0 := frozen_of (j := 0) ke
  have d0 := cells_of ke 0 _ rfl
  have f1 := frozen_of (j := 1) ke
  have d1 := cells_of ke 1 _ rfl
  have f2 := frozen_of (j := 2) ke
  have d2 := cells_of ke 2 _ rfl
  have f3 := frozen_of (j := 3) ke
  have d3 := cells_of ke 3 _ rfl
  have f4 := frozen_of (j := 4) ke
  have d4 := cells_of ke 4 _ rfl
  have f5 := frozen_of (j := 5) ke
  have d5 := cells_of ke 5 _ rfl
  have f6 := frozen_of (j := 6) ke
  have d6 := cells_of ke 6 _ rfl
  have f7 := frozen_of (j := 7) ke
  have d7 := cells_of ke 7 _ rfl
  have HKE := Lib.hid (And.intro ke kb)
  have HST := Lib.hid kst
  have HPT := Lib.hid kpt
  clear hk hst hpt hF hbc1 hsc hb1 HN HT x8 ke kst kpt kb
  by_cases k5 : q.kind = 5
  · rw [if_pos k5] at HR
    have hq : ∀ W, Below wf.heap.size wf W → Calls Tryz.prog 39 #[.agg (rsC q.client q.n 0 0 0 (.slice none 0 0)), .slice a L.length cap, .agg #[.int .i64 q.client, .int .i64 q.n, .int .i64 5, .int .i64 q.part, .int .i64 q.seq, .int .i64 q.off, .int .i64 q.max, .int .i64 q.gen, .string (bs q.group), .string (bs q.member), .slice q.ra q.rl q.rc]] W (fun e w' => ∃ (la : Option Addr) (lc : Nat), e = .returned (.agg #[.int .i64 q.client, .int .i64 q.n, .int .i64 0, .int .i64 0, .int .i64 0, .int .i64 y.gen, .slice la O.parts.length lc, .slice none 0 0]) ∧ w'.ownsRow wf.heap.size 3 1 (.slice la O.parts.length lc) O.parts.length (intCells O.parts) ∧ Below wf.heap.size wf w') := fun W hb => by
      have := HOW.out W (HH.out.below (HK.out W hb).2.2.2.2.2)
      rw [Rq.v, k5] at this
      refine this.mono ?_
      rintro e w' ⟨la, lc, rfl, h1, h2⟩
      obtain ⟨o1, o2, o3, o4, o5⟩ := HOG.out
      exact ⟨la, lc, by rw [rsV, o1, o2, o3, o4, o5], owns_mono h1 hb.size, hb.trans (h2.mono hb.size)⟩
    have HQ := Lib.hid hq
    rw [k5] at y2
    have HCO := Lib.hid (ContainsStr_any HST.out q.member)
    obtain ⟨t, ht⟩ : ∃ t, y.members.any (fun z => decide (q.member = z)) = t := ⟨_, rfl⟩
    rw [ht] at HCO HR
    have q0 := cells_of kq 0 _ rfl
    have q1 := cells_of kq 1 _ rfl
    have q4 := cells_of kq 4 _ rfl
    have q5 := cells_of kq 5 _ rfl
    have q6 := cells_of kq 6 _ rfl
    have q8 := cells_of kq 8 _ rfl
    have q10 := cells_of kq 10 _ rfl
    clear k5 hq ht
    cases t with
    | false =>
      have HRR : Hid (R = ⟨q.client, q.n, 31, 0, 0, []⟩) := Lib.hid (by rw [← HR.out]; simp)
      go_wp2_with (first | (go_at_call 41; refine HCO.out.mono ?_; rintro _ w5 ⟨rfl, hw5⟩; rw [hw5]; clear hw5))
      try simp only [Exit.inBlock, Exit.then, jump_ret]
      obtain ⟨hz, hb⟩ := code_set (rb := w.heap.size + 1 + 1) (B := w.heap.size + 1) (by omega) (by omega) HKE.out.2 HKE.out.1 2 (.int .i64 31)
      obtain ⟨⟨s0, s1, s2, s3, s4, s5, s6, s7⟩, ho, hbz⟩ := resp_end (N := w.heap.size + 2) hz hb (by omega) (by omega) q.client q.n 31 0 0 [] (pa := none) (pc := 0) (World.ownsRow_nil _ _ _ _)
      simp only [List.length_nil] at s0 s1 s2 s3 s4 s5 s6 s7 ho hbz
      exact bodyPost_ret (v := .agg (rsC q.client q.n 31 0 0 (.slice none 0 0))) (by simp [results, Tryz.results20, go_sem, rsC, s0, s1, s2, s3, s4, s5, s6, s7]) rfl ⟨none, 0, by rw [HRR.out]; rfl, by rw [HRR.out]; exact ho, hbz⟩
    | true =>
      go_upto_region 10 with (first
        | (go_at_call 41; refine HCO.out.mono ?_; rintro _ w5 ⟨rfl, hw5⟩; rw [hw5]; clear hw5)
        | (go_at_call 39; refine (HQ.out _ (Below.refl _ _)).mono ?_; rintro _ w6 ⟨la, lc, rfl, ho6, hb6⟩; have k5 := (HK.out _ hb6).2.2.1.1; have r0 := cells_of k5 0 _ rfl; have e0 := frozen_of (j := 0) k5; have r1 := cells_of k5 1 _ rfl; have e1 := frozen_of (j := 1) k5; have r2 := cells_of k5 2 _ rfl; have e2 := frozen_of (j := 2) k5; have r3 := cells_of k5 3 _ rfl; have e3 := frozen_of (j := 3) k5; have r4 := cells_of k5 4 _ rfl; have e4 := frozen_of (j := 4) k5; have r5 := cells_of k5 5 _ rfl; have e5 := frozen_of (j := 5) k5; have r6 := cells_of k5 6 _ rfl; have e6 := frozen_of (j := 6) k5; have r7 := cells_of k5 7 _ rfl; have e7 := frozen_of (j := 7) k5))
      obtain ⟨W, hW⟩ : ∃ W, W = ((((((((w6.setCell ⟨w.heap.size + 1 + 1, 0, none⟩ (.int .i64 q.client)).setCell ⟨w.heap.size + 1 + 1, 1, none⟩ (.int .i64 q.n)).setCell ⟨w.heap.size + 1 + 1, 2, none⟩ (.int .i64 0)).setCell ⟨w.heap.size + 1 + 1, 3, none⟩ (.int .i64 0)).setCell ⟨w.heap.size + 1 + 1, 4, none⟩ (.int .i64 0)).setCell ⟨w.heap.size + 1 + 1, 5, none⟩ (.int .i64 y.gen)).setCell ⟨w.heap.size + 1 + 1, 6, none⟩ (.slice la O.parts.length lc)).setCell ⟨w.heap.size + 1 + 1, 7, none⟩ (.slice none 0 0)) := ⟨_, rfl⟩
      have k6 := (HK.out _ hb6).2.2.1
      obtain ⟨hz, hu⟩ := set8 k6.1 (.int .i64 q.client) (.int .i64 q.n) (.int .i64 0) (.int .i64 0) (.int .i64 0) (.int .i64 y.gen) (.slice la O.parts.length lc) (.slice none 0 0)
      have hs6 := hb6.size
      rw [← show W = _ from hW] at hz hu
      rw [← hW]
      clear hW
      have mq := (hu.block w.heap.size (by omega) (by omega)).trans (HK.out _ hb6).1
      have mf := (hu.block w1.heap.size (by omega) (by omega)).trans (HK.out _ hb6).2.1
      have me := (hu.block (w.heap.size + 1) (by omega) (by omega)).trans k6.2
      have mb := (HK.out _ hb6).2.2.2.2.2.trans (hu.toBelow (N := w.heap.size) (by omega) (fun k e => by omega))
      have mo := owns_upd ho6 hu (fun g hg e => by have := (owns_lt ho6 g hg).1; omega)
      clear c0 c1 c2 c3 c4 c5 c6 c7 d0 d1 d2 d3 d4 d5 d6 d7 f0 f1 f2 f3 f4 f5 f6 f7 g2 g3 y2 y3 y7 y9 z1 z3 z4 q0 q1 q4 q5 q6 q8 q10 k6 kq kf kr k5 r0 e0 r1 e1 r2 e2 r3 e3 r4 e4 r5 e5 r6 e6 r7 e7
      have y7 := cells_of mq 7 _ rfl
      have z1 := cells_of mf 1 _ rfl
      have c0 := cells_of hz 0 _ rfl
      have c1 := cells_of hz 1 _ rfl
      have c2 := cells_of hz 2 _ rfl
      have c3 := cells_of hz 3 _ rfl
      have c4 := cells_of hz 4 _ rfl
      have c5 := cells_of hz 5 _ rfl
      have c6 := cells_of hz 6 _ rfl
      have c7 := cells_of hz 7 _ rfl
      have g2 := frozen_of (j := 2) hz
      have f0 := frozen_of (j := 0) me
      have d0 := cells_of me 0 _ rfl
      have f1 := frozen_of (j := 1) me
      have d1 := cells_of me 1 _ rfl
      have f2 := frozen_of (j := 2) me
      have d2 := cells_of me 2 _ rfl
      have f3 := frozen_of (j := 3) me
      have d3 := cells_of me 3 _ rfl
      have f4 := frozen_of (j := 4) me
      have d4 := cells_of me 4 _ rfl
      have f5 := frozen_of (j := 5) me
      have d5 := cells_of me 5 _ rfl
      have f6 := frozen_of (j := 6) me
      have d6 := cells_of me 6 _ rfl
      have f7 := frozen_of (j := 7) me
      have d7 := cells_of me 7 _ rfl
      have HM := Lib.hid (And.intro me (And.intro mb (And.intro mo hu.size)))
      clear me mb mo hu mq mf hz ho6
      by_cases kg : q.gen = y.gen
      · have kgb : (q.gen != y.gen) = false := by simp [kg]
        have HRR : Hid (R = { O with code := 0 }) := Lib.hid (by rw [← HR.out]; simp [kg])
        clear kg
        go_wp2
        try simp only [Exit.inBlock, Exit.then, jump_ret]
        obtain ⟨⟨s0, s1, s2, s3, s4, s5, s6, s7⟩, ho, hbz⟩ := resp_end (N := wf.heap.size) HM.out.1 HM.out.2.1 (by omega) (by omega) q.client q.n 0 0 y.gen O.parts HM.out.2.2.1
        exact bodyPost_ret (v := .agg (rsC q.client q.n 0 0 y.gen (.slice la O.parts.length lc))) (by simp [results, Tryz.results20, go_sem, rsC, s0, s1, s2, s3, s4, s5, s6, s7]) rfl ⟨la, lc, by obtain ⟨o1, o2, o3, o4, o5⟩ := HOG.out; rw [HRR.out, rsV, o1, o2, o4, o5], by rw [HRR.out]; exact ho, hbz⟩
      · have kgb : (q.gen != y.gen) = true := by simp [kg]
        have HRR : Hid (R = { O with code := 30 }) := Lib.hid (by rw [← HR.out]; simp [kg])
        clear kg
        go_wp2
        try simp only [Exit.inBlock, Exit.then, jump_ret]
        obtain ⟨hz, hb⟩ := code_set (rb := w.heap.size + 1 + 1) (B := w.heap.size + 1) (by omega) (by omega) HM.out.2.1 HM.out.1 2 (.int .i64 30)
        obtain ⟨⟨s0, s1, s2, s3, s4, s5, s6, s7⟩, ho, hbz⟩ := resp_end (N := wf.heap.size) hz hb (by omega) (by omega) q.client q.n 30 0 y.gen O.parts (owns_upd HM.out.2.2.1 (upd_set1 W (w.heap.size + 1 + 1) 2 (.int .i64 30)) (fun g hg e => by have := (owns_lt HM.out.2.2.1 g hg).1; omega))
        exact bodyPost_ret (v := .agg (rsC q.client q.n 30 0 y.gen (.slice la O.parts.length lc))) (by simp [results, Tryz.results20, go_sem, rsC, s0, s1, s2, s3, s4, s5, s6, s7]) rfl ⟨la, lc, by obtain ⟨o1, o2, o3, o4, o5⟩ := HOG.out; rw [HRR.out, rsV, o1, o2, o4, o5], by rw [HRR.out]; exact ho, hbz⟩
  · rw [if_neg k5] at HR
    by_cases k7 : q.kind = 7
    · rw [if_pos k7] at HR
      rw [k7] at y2
      have HIF := Lib.hid (IndexFuncPt_any HPT.out y3 (by omega))
      obtain ⟨k, hk⟩ : ∃ k, idxP (fun z => decide (z.1 = q.part)) y.points = k := ⟨_, rfl⟩
      have hkl := idxP_lt (fun z : Int × Int => decide (z.1 = q.part)) y.points
      rw [hk] at HIF HR hkl
      clear k5 k7 hk g2 g3 c0 d0 f0 c1 d1 f1 c2 d2 f2 c3 d3 f3 c4 d4 f4 c5 d5 f5 c6 d6 f6 c7 d7 f7
      by_cases kn : k < 0
      · have HRR : Hid (R = ⟨q.client, q.n, 12, 0, 0, []⟩) := Lib.hid (by rw [← HR.out, if_pos kn])
        go_wp2_with (first | (go_at_call 42; refine HIF.out.mono ?_; rintro _ w5 ⟨rfl, hb5⟩; have kq := (HK.out _ hb5).1; have kf := (HK.out _ hb5).2.1; obtain ⟨kr, ke⟩ := (HK.out _ hb5).2.2.1; have z4 := cells_of kf 4 _ rfl; have g2 := frozen_of (j := 2) kr; have g3 := frozen_of (j := 3) kr; have c0 := cells_of kr 0 _ rfl; have d0 := cells_of ke 0 _ rfl; have f0 := frozen_of (j := 0) ke; have c1 := cells_of kr 1 _ rfl; have d1 := cells_of ke 1 _ rfl; have f1 := frozen_of (j := 1) ke; have c2 := cells_of kr 2 _ rfl; have d2 := cells_of ke 2 _ rfl; have f2 := frozen_of (j := 2) ke; have c3 := cells_of kr 3 _ rfl; have d3 := cells_of ke 3 _ rfl; have f3 := frozen_of (j := 3) ke; have c4 := cells_of kr 4 _ rfl; have d4 := cells_of ke 4 _ rfl; have f4 := frozen_of (j := 4) ke; have c5 := cells_of kr 5 _ rfl; have d5 := cells_of ke 5 _ rfl; have f5 := frozen_of (j := 5) ke; have c6 := cells_of kr 6 _ rfl; have d6 := cells_of ke 6 _ rfl; have f6 := frozen_of (j := 6) ke; have c7 := cells_of kr 7 _ rfl; have d7 := cells_of ke 7 _ rfl; have f7 := frozen_of (j := 7) ke; have HKF := Lib.hid (And.intro ke (HK.out _ hb5).2.2.2.2.2); clear kq kf kr ke hb5))
        try simp only [Exit.inBlock, Exit.then, jump_ret]
        obtain ⟨hz, hb⟩ := code_set (rb := w.heap.size + 1 + 1) (B := w.heap.size + 1) (by omega) (by omega) HKF.out.2 HKF.out.1 2 (.int .i64 12)
        obtain ⟨⟨s0, s1, s2, s3, s4, s5, s6, s7⟩, ho, hbz⟩ := resp_end (N := w.heap.size + 2) hz hb (by omega) (by omega) q.client q.n 12 0 0 [] (pa := none) (pc := 0) (World.ownsRow_nil _ _ _ _)
        simp only [List.length_nil] at s0 s1 s2 s3 s4 s5 s6 s7 ho hbz
        exact bodyPost_ret (v := .agg (rsC q.client q.n 12 0 0 (.slice none 0 0))) (by simp [results, Tryz.results20, go_sem, rsC, s0, s1, s2, s3, s4, s5, s6, s7]) rfl ⟨none, 0, by rw [HRR.out]; rfl, by rw [HRR.out]; exact ho, hbz⟩
      · have hkn : k.toNat < y.points.length := by omega
        obtain ⟨n, rfl⟩ : ∃ n : Nat, k = n := ⟨k.toNat, by omega⟩
        have hn : n < y.points.length := by omega
        have i1 : (n : Int) < (y.points.length : Int) := by omega
        have i2 : (0 : Int) ≤ (n : Int) := by omega
        have HRR : Hid (R = ⟨q.client, q.n, 0, (y.points[n]).2, 0, []⟩) := Lib.hid (by rw [← HR.out, if_neg kn, List.getD, Int.toNat_natCast, List.getElem?_eq_getElem hn]; rfl)
        obtain ⟨pa', pc', he, -, -, hC⟩ := HPT.out.cells
        simp only [Value.slice.injEq, true_and] at he
        obtain ⟨rfl, rfl⟩ := he
        obtain ⟨b, off, rfl, hb, -, p1⟩ := hC n hn
        generalize (y.points[n]).2 = po at *
        have P1 := Lib.hid (And.intro hb p1)
        clear hC p1 hb hkl
        go_wp2_with (first | (go_at_call 42; refine HIF.out.mono ?_; rintro _ w5 ⟨rfl, hb5⟩; have pp := below_some hb5 P1.out.2 P1.out.1; have kq := (HK.out _ hb5).1; have kf := (HK.out _ hb5).2.1; obtain ⟨kr, ke⟩ := (HK.out _ hb5).2.2.1; have z4 := cells_of kf 4 _ rfl; have g2 := frozen_of (j := 2) kr; have g3 := frozen_of (j := 3) kr; have c0 := cells_of kr 0 _ rfl; have d0 := cells_of ke 0 _ rfl; have f0 := frozen_of (j := 0) ke; have c1 := cells_of kr 1 _ rfl; have d1 := cells_of ke 1 _ rfl; have f1 := frozen_of (j := 1) ke; have c2 := cells_of kr 2 _ rfl; have d2 := cells_of ke 2 _ rfl; have f2 := frozen_of (j := 2) ke; have c3 := cells_of kr 3 _ rfl; have d3 := cells_of ke 3 _ rfl; have f3 := frozen_of (j := 3) ke; have c4 := cells_of kr 4 _ rfl; have d4 := cells_of ke 4 _ rfl; have f4 := frozen_of (j := 4) ke; have c5 := cells_of kr 5 _ rfl; have d5 := cells_of ke 5 _ rfl; have f5 := frozen_of (j := 5) ke; have c6 := cells_of kr 6 _ rfl; have d6 := cells_of ke 6 _ rfl; have f6 := frozen_of (j := 6) ke; have c7 := cells_of kr 7 _ rfl; have d7 := cells_of ke 7 _ rfl; have f7 := frozen_of (j := 7) ke; have HKF := Lib.hid (And.intro ke (HK.out _ hb5).2.2.2.2.2); clear kq kf kr ke hb5))
        try simp only [Exit.inBlock, Exit.then, jump_ret]
        obtain ⟨hz, hb⟩ := code_set (rb := w.heap.size + 1 + 1) (B := w.heap.size + 1) (by omega) (by omega) HKF.out.2 HKF.out.1 3 (.int .i64 po)
        obtain ⟨⟨s0, s1, s2, s3, s4, s5, s6, s7⟩, ho, hbz⟩ := resp_end (N := w.heap.size + 2) hz hb (by omega) (by omega) q.client q.n 0 po 0 [] (pa := none) (pc := 0) (World.ownsRow_nil _ _ _ _)
        simp only [List.length_nil] at s0 s1 s2 s3 s4 s5 s6 s7 ho hbz
        exact bodyPost_ret (v := .agg (rsC q.client q.n 0 po 0 (.slice none 0 0))) (by simp [results, Tryz.results20, go_sem, rsC, s0, s1, s2, s3, s4, s5, s6, s7]) rfl ⟨none, 0, by rw [HRR.out]; rfl, by rw [HRR.out]; exact ho, hbz⟩
    · have HRR : Hid (R = ⟨q.client, q.n, 1, 0, 0, []⟩) := Lib.hid (by rw [← HR.out, if_neg k7])
      have k5b : (q.kind == 5) = false := by simp [k5]
      have k7b : (q.kind == 7) = false := by simp [k7]
      clear k5 k7
      go_wp2
      try simp only [Exit.inBlock, Exit.then, jump_ret]
      obtain ⟨hz, hb⟩ := code_set (rb := w.heap.size + 1 + 1) (B := w.heap.size + 1) (by omega) (by omega) HKE.out.2 HKE.out.1 2 (.int .i64 1)
      obtain ⟨⟨s0, s1, s2, s3, s4, s5, s6, s7⟩, ho, hbz⟩ := resp_end (N := w.heap.size + 2) hz hb (by omega) (by omega) q.client q.n 1 0 0 [] (pa := none) (pc := 0) (World.ownsRow_nil _ _ _ _)
      simp only [List.length_nil] at s0 s1 s2 s3 s4 s5 s6 s7 ho hbz
      exact bodyPost_ret (v := .agg (rsC q.client q.n 1 0 0 (.slice none 0 0))) (by simp [results, Tryz.results20, go_sem, rsC, s0, s1, s2, s3, s4, s5, s6, s7]) rfl ⟨none, 0, by rw [HRR.out]; rfl, by rw [HRR.out]; exact ho, hbz⟩
end Go.Proofs.YtdchjepahgecgaaGreatDoor
