/- The walk of flock.Answer (printed by gen_flan.py). -/
import Derived.Test.YtdchjepahgecgaaGreatDoorMq30
import Derived.Test.YtdchjepahgecgaaGreatDoorMq25
namespace Go.Proofs.YtdchjepahgecgaaGreatDoor
open Go.RowKit

/-- What flock.Answer answers, of what the record says. -/
def answerW (L : List Fk) (r : Wd × Bool) (q : Rq) : Rs :=
  if r.2 = false then ⟨q.client, q.n, 3, 0, 0, []⟩
  else if (r.1.kind.toNat : Int) = 116 then ownedP L q q.client q.n
  else if (r.1.kind.toNat : Int) = 110 then (if r.1.code = 0 then (if q.kind = 3 then ownedP L q q.client q.n else ⟨q.client, q.n, 0, 0, 0, []⟩) else ⟨q.client, q.n, r.1.code, 0, 0, []⟩)
  else if (r.1.kind.toNat : Int) = 99 then ⟨q.client, q.n, 0, r.1.off, r.1.gen, []⟩
  else ⟨q.client, q.n, r.1.code, 0, 0, []⟩
def answerP (L : List Fk) (key val : List UInt8) (gone : Bool) (q : Rq) : Rs := answerW L (readP key val gone) q

set_option maxRecDepth 100000 in
set_option maxHeartbeats 8000000 in
theorem answer_any {w : World} {v : Value} {L : List Fk} (h : FksRd w v L) (hr : FkUp L) (hL : L.length ≤ 1000) (key val : List UInt8) (gone : Bool) (off : Int) (hk : key.length ≤ 100000) (hv : val.length ≤ 100000) (q : Rq) (hE : Env w) :
    Calls Tryz.prog 15 #[v, .agg #[.int .i64 off, .string (bs key), .string (bs val), .bool gone], q.v] w (RespTo w (answerP L key val gone q)) := by
  obtain ⟨r, hrr⟩ : ∃ r, readP key val gone = r := ⟨_, rfl⟩
  unfold answerP
  rw [hrr]
  obtain ⟨R, hR⟩ : ∃ R, answerW L r q = R := ⟨_, rfl⟩
  have how := fun W (hW : FksRd W v L) => owned_any hW hr hL q q.client q.n
  obtain ⟨O, hO⟩ : ∃ O, ownedP L q q.client q.n = O := ⟨_, rfl⟩
  obtain ⟨G, hG⟩ : ∃ G, O.gen = G := ⟨_, rfl⟩
  have hOg : O.client = q.client ∧ O.n = q.n ∧ O.code = 0 ∧ O.off = 0 ∧ O.gen = G := by rw [← hG, ← hO]; exact ⟨rfl, rfl, rfl, rfl, rfl⟩
  rw [hR]
  unfold answerW at hR
  rw [hO] at hR how
  obtain ⟨wa, hwa⟩ : ∃ wa, wa = (((w.alloc (.cells #[.int .i64 off, .string (bs key), .string (bs val), .bool gone] 28)).alloc q.box).alloc (.cells (rsC 0 0 0 0 0 (.slice none 0 0)) 39)).alloc (.cells (rsC q.client q.n 0 0 0 (.slice none 0 0)) 39) := ⟨_, rfl⟩
  have hb1 : Below w.heap.size w wa := by rw [hwa]; exact (below_alloc3 _ _ _ _).alloc (by simp <;> omega) _
  have hN0 : wa.heap[w.heap.size]? = some (.cells #[.int .i64 off, .string (bs key), .string (bs val), .bool gone] 28 (0, 0)) := by
    rw [hwa, Below.heap_alloc _ _ _ (by simp <;> omega), Below.heap_alloc _ _ _ (by simp; omega), Below.heap_alloc _ _ _ (by simp)]; exact heap_alloc_new w _
  have hN1 : wa.heap[w.heap.size + 1]? = some q.box := by rw [hwa, Below.heap_alloc _ _ _ (by simp <;> omega), Below.heap_alloc _ _ _ (by simp)]; exact heap_new1 w _ _
  have hN2 : wa.heap[w.heap.size + 2]? = some (.cells (rsC 0 0 0 0 0 (.slice none 0 0)) 39 (0, 0)) := by rw [hwa, Below.heap_alloc _ _ _ (by simp)]; exact heap_new2 w _ _ _
  have hN3 : wa.heap[w.heap.size + 3]? = some (.cells (rsC q.client q.n 0 0 0 (.slice none 0 0)) 39 (0, 0)) := by
    have h5 := heap_new2 (w.alloc (.cells #[.int .i64 off, .string (bs key), .string (bs val), .bool gone] 28)) q.box (.cells (rsC 0 0 0 0 0 (.slice none 0 0)) 39) (.cells (rsC q.client q.n 0 0 0 (.slice none 0 0)) 39)
    rw [World.size_alloc] at h5
    rw [hwa]; exact h5
  have hsz : wa.heap.size = w.heap.size + 4 := by rw [hwa]; simp
  have hrd : Calls Tryz.prog 23 #[.agg #[.int .i64 off, .string (bs key), .string (bs val), .bool gone]] wa fun e w' => ∃ (ma : Option Addr) (mc : Nat), e = .returned (.tuple #[.agg #[.int .u8 (r.1.kind.toNat : Int), .string (bs r.1.group), .int .i64 r.1.gen, .int .i64 r.1.parts, .slice ma r.1.members.length mc, .int .i64 r.1.part, .int .i64 r.1.off, .int .i64 r.1.code], .bool r.2]) ∧ Below wa.heap.size wa w' := by
    have := read_all key val gone off hk hv (hE.below hb1)
    rw [hrr] at this
    refine this.mono ?_
    rintro e w' ⟨ma, mc, rfl, -, h2⟩
    exact ⟨ma, mc, rfl, h2⟩
  have x0 := cells_of hN0 0 _ rfl
  have x1 := cells_of hN0 1 _ rfl
  have x2 := cells_of hN0 2 _ rfl
  have x3 := cells_of hN0 3 _ rfl
  obtain ⟨a, cap, rfl, -, -, -⟩ := h.cells
  have HH := Lib.hid h
  have HN := Lib.hid (And.intro hN1 (And.intro hN2 (And.intro hN3 (And.intro hb1 hsz))))
  obtain ⟨kd, hkd⟩ : ∃ kd : Int, (r.1.kind.toNat : Int) = kd := ⟨_, rfl⟩
  obtain ⟨ok, hok⟩ : ∃ ok, r.2 = ok := ⟨_, rfl⟩
  obtain ⟨rc, hrc⟩ : ∃ rc, r.1.code = rc := ⟨_, rfl⟩
  rw [hkd, hok, hrc] at hrd hR
  have HT := Lib.hid hrd
  have HR := Lib.hid hR
  have HOW := Lib.hid how
  have HOG := Lib.hid hOg
  clear h hrd hN0 hN1 hN2 hN3 hb1 hsz hR how hOg hO hG hkd hok hrr hk hv hE hrc
  simp only [Rq.box] at hwa
  go_enter Tryz.func15, Tryz.ntmps15
  go_upto_region 2 with fail
  rw [← hwa]
  clear hwa
  go_upto_block 0 with (first | (go_at_call 23; refine HT.out.mono ?_; rintro _ w1 ⟨ma, mc, rfl, hb1⟩))
  obtain ⟨wf, hwc⟩ : ∃ wf, wf = w1.alloc (.cells #[.int .u8 kd, .string (bs r.1.group), .int .i64 r.1.gen, .int .i64 r.1.parts, .slice ma r.1.members.length mc, .int .i64 r.1.part, .int .i64 r.1.off, .int .i64 rc] 60) := ⟨_, rfl⟩
  have hF : wf.heap[w1.heap.size]? = some (.cells #[.int .u8 kd, .string (bs r.1.group), .int .i64 r.1.gen, .int .i64 r.1.parts, .slice ma r.1.members.length mc, .int .i64 r.1.part, .int .i64 r.1.off, .int .i64 rc] 60 (0, 0)) := by rw [hwc]; exact heap_alloc_new _ _
  have hbc1 : Below w1.heap.size w1 wf := by rw [hwc]; exact below_alloc _ _
  have hsc : wf.heap.size = w1.heap.size + 1 := by rw [hwc]; simp
  rw [← hwc]
  clear hwc
  have hk : ∀ W, Below wf.heap.size wf W → W.heap[w.heap.size + 1]? = some q.box ∧
      W.heap[w1.heap.size]? = some (.cells #[.int .u8 kd, .string (bs r.1.group), .int .i64 r.1.gen, .int .i64 r.1.parts, .slice ma r.1.members.length mc, .int .i64 r.1.part, .int .i64 r.1.off, .int .i64 rc] 60 (0, 0)) ∧
      (W.heap[w.heap.size + 3]? = some (.cells (rsC q.client q.n 0 0 0 (.slice none 0 0)) 39 (0, 0)) ∧ W.heap[w.heap.size + 2]? = some (.cells (rsC 0 0 0 0 0 (.slice none 0 0)) 39 (0, 0))) ∧ Below w.heap.size w W := by
    intro W hb
    obtain ⟨hN1, hN2, hN3, hb0, hsz⟩ := HN.out
    have hs1 := hb1.size
    have hbW : Below wa.heap.size wa W := hb1.trans ((hbc1.trans (hb.mono (by omega))).mono hs1)
    exact ⟨(hbW.block _ (by omega)).trans hN1, (hb.block w1.heap.size (by omega)).trans hF, ⟨(hbW.block _ (by omega)).trans hN3, (hbW.block _ (by omega)).trans hN2⟩, hb0.trans (hbW.mono (by omega))⟩
  have HK := Lib.hid hk
  have hne0 : w.heap.size + 4 ≤ w1.heap.size := by have h1 := hb1.size; have h2 := HN.out.2.2.2.2; omega
  have hwf : w.heap.size + 4 ≤ wf.heap.size := by omega
  have hwl : w1.heap.size < wf.heap.size := by omega
  obtain ⟨kq, kf, ⟨kr, ke⟩, kb⟩ := hk wf (Below.refl _ _)
  have q0 := cells_of kq 0 _ rfl
  have q1 := cells_of kq 1 _ rfl
  have q2 := cells_of kq 2 _ rfl
  have q3 := cells_of kq 3 _ rfl
  have q4 := cells_of kq 4 _ rfl
  have q5 := cells_of kq 5 _ rfl
  have q6 := cells_of kq 6 _ rfl
  have q7 := cells_of kq 7 _ rfl
  have q8 := cells_of kq 8 _ rfl
  have q9 := cells_of kq 9 _ rfl
  have q10 := cells_of kq 10 _ rfl
  have c0 := cells_of kr 0 _ rfl
  have c1 := cells_of kr 1 _ rfl
  have c2 := cells_of kr 2 _ rfl
  have c3 := cells_of kr 3 _ rfl
  have c4 := cells_of kr 4 _ rfl
  have c5 := cells_of kr 5 _ rfl
  have c6 := cells_of kr 6 _ rfl
  have c7 := cells_of kr 7 _ rfl
  have g2 := frozen_of (j := 2) kr
  have g3 := frozen_of (j := 3) kr
  have g5 := frozen_of (j := 5) kr
  have f0 := frozen_of (j := 0) ke
  have d0 := cells_of ke 0 _ rfl
  have f1 := frozen_of (j := 1) ke
  have d1 := cells_of ke 1 _ rfl
  have f2 := frozen_of (j := 2) ke
  have d2 := cells_of ke 2 _ rfl
  have f3 := frozen_of (j := 3) ke
  have d3 := cells_of ke 3 _ rfl
  have f4 := frozen_of (j := 4) ke
  have d4 := cells_of ke 4 _ rfl
  have f5 := frozen_of (j := 5) ke
  have d5 := cells_of ke 5 _ rfl
  have f6 := frozen_of (j := 6) ke
  have d6 := cells_of ke 6 _ rfl
  have f7 := frozen_of (j := 7) ke
  have d7 := cells_of ke 7 _ rfl
  have HKE := Lib.hid (And.intro ke kb)
  have hq : Calls Tryz.prog 39 #[.agg #[.int .i64 q.client, .int .i64 q.n, .int .i64 0, .int .i64 0, .int .i64 0, .int .i64 0, .slice none 0 0, .slice none 0 0], .slice a L.length cap, q.v] wf (fun e w' => ∃ (la : Option Addr) (lc : Nat), e = .returned (.agg #[.int .i64 q.client, .int .i64 q.n, .int .i64 0, .int .i64 0, .int .i64 0, .int .i64 G, .slice la O.parts.length lc, .slice none 0 0]) ∧ w'.ownsRow wf.heap.size 3 1 (.slice la O.parts.length lc) O.parts.length (intCells O.parts) ∧ Below wf.heap.size wf w') := by
    refine (HOW.out wf (HH.out.below kb)).mono ?_
    rintro e w' ⟨la, lc, rfl, h1, h2⟩
    obtain ⟨o1, o2, o3, o4, o5⟩ := HOG.out
    exact ⟨la, lc, by rw [rsV, o1, o2, o3, o4, o5], h1, h2⟩
  have HQ := Lib.hid hq
  clear hk hF hbc1 hsc hb1 HN HT ke kb kq hq x0 x1 x2 x3
  cases ok with
  | false =>
    have HRR : Hid (R = ⟨q.client, q.n, 3, 0, 0, []⟩) := Lib.hid (by rw [← HR.out]; simp)
    go_wp2
    try simp only [Exit.inBlock, Exit.then, jump_ret]
    obtain ⟨hz, hb⟩ := code_set (rb := w.heap.size + 1 + 1 + 1) (B := w.heap.size + 1 + 1) (by omega) (by omega) HKE.out.2 HKE.out.1 2 (.int .i64 3)
    obtain ⟨⟨s0, s1, s2, s3, s4, s5, s6, s7⟩, ho, hbz⟩ := resp_end (N := w.heap.size + 3) hz hb (by omega) (by omega) q.client q.n 3 0 0 [] (pa := none) (pc := 0) (World.ownsRow_nil _ _ _ _)
    simp only [List.length_nil] at s0 s1 s2 s3 s4 s5 s6 s7 ho hbz
    exact bodyPost_ret (v := .agg (rsC q.client q.n 3 0 0 (.slice none 0 0))) (by simp [results, Tryz.results15, go_sem, rsC, s0, s1, s2, s3, s4, s5, s6, s7]) rfl ⟨none, 0, by rw [HRR.out]; rfl, by rw [HRR.out]; exact ho, hbz⟩
  | true =>
    by_cases h116 : kd = 116
    · subst h116
      have HRR : Hid (R = O) := Lib.hid (by rw [← HR.out]; simp)
      have z0 := cells_of kf 0 _ rfl
      go_upto_region 11 with (first | (go_at_call 39; refine HQ.out.mono ?_; rintro _ w6 ⟨la, lc, rfl, ho6, hb6⟩; have k5 := (HK.out _ hb6).2.2.1.1; have r0 := cells_of k5 0 _ rfl; have e0 := frozen_of (j := 0) k5; have r1 := cells_of k5 1 _ rfl; have e1 := frozen_of (j := 1) k5; have r2 := cells_of k5 2 _ rfl; have e2 := frozen_of (j := 2) k5; have r3 := cells_of k5 3 _ rfl; have e3 := frozen_of (j := 3) k5; have r4 := cells_of k5 4 _ rfl; have e4 := frozen_of (j := 4) k5; have r5 := cells_of k5 5 _ rfl; have e5 := frozen_of (j := 5) k5; have r6 := cells_of k5 6 _ rfl; have e6 := frozen_of (j := 6) k5; have r7 := cells_of k5 7 _ rfl; have e7 := frozen_of (j := 7) k5))
      obtain ⟨W, hW⟩ : ∃ W, W = ((((((((w6.setCell ⟨w.heap.size + 1 + 1 + 1, 0, none⟩ (.int .i64 q.client)).setCell ⟨w.heap.size + 1 + 1 + 1, 1, none⟩ (.int .i64 q.n)).setCell ⟨w.heap.size + 1 + 1 + 1, 2, none⟩ (.int .i64 0)).setCell ⟨w.heap.size + 1 + 1 + 1, 3, none⟩ (.int .i64 0)).setCell ⟨w.heap.size + 1 + 1 + 1, 4, none⟩ (.int .i64 0)).setCell ⟨w.heap.size + 1 + 1 + 1, 5, none⟩ (.int .i64 G)).setCell ⟨w.heap.size + 1 + 1 + 1, 6, none⟩ (.slice la O.parts.length lc)).setCell ⟨w.heap.size + 1 + 1 + 1, 7, none⟩ (.slice none 0 0)) := ⟨_, rfl⟩
      have k6 := (HK.out _ hb6).2.2.1
      obtain ⟨hz, hu⟩ := set8 k6.1 (.int .i64 q.client) (.int .i64 q.n) (.int .i64 0) (.int .i64 0) (.int .i64 0) (.int .i64 G) (.slice la O.parts.length lc) (.slice none 0 0)
      have hs6 := hb6.size
      rw [← show W = _ from hW] at hz hu
      rw [← hW]
      clear hW
      have me := (hu.block (w.heap.size + 2) (by omega) (by omega)).trans k6.2
      have mb := (HK.out _ hb6).2.2.2.trans (hu.toBelow (N := w.heap.size) (by omega) (fun k e => by omega))
      have mo := owns_upd ho6 hu (fun g hg e => by have := (owns_lt ho6 g hg).1; omega)
      clear c0 d0 f0 r0 e0 c1 d1 f1 r1 e1 c2 d2 f2 r2 e2 c3 d3 f3 r3 e3 c4 d4 f4 r4 e4 c5 d5 f5 r5 e5 c6 d6 f6 r6 e6 c7 d7 f7 r7 e7 g2 g3 g5 k6 kf kr k5
      have c0 := cells_of hz 0 _ rfl
      have c1 := cells_of hz 1 _ rfl
      have c2 := cells_of hz 2 _ rfl
      have c3 := cells_of hz 3 _ rfl
      have c4 := cells_of hz 4 _ rfl
      have c5 := cells_of hz 5 _ rfl
      have c6 := cells_of hz 6 _ rfl
      have c7 := cells_of hz 7 _ rfl
      have f0 := frozen_of (j := 0) me
      have d0 := cells_of me 0 _ rfl
      have f1 := frozen_of (j := 1) me
      have d1 := cells_of me 1 _ rfl
      have f2 := frozen_of (j := 2) me
      have d2 := cells_of me 2 _ rfl
      have f3 := frozen_of (j := 3) me
      have d3 := cells_of me 3 _ rfl
      have f4 := frozen_of (j := 4) me
      have d4 := cells_of me 4 _ rfl
      have f5 := frozen_of (j := 5) me
      have d5 := cells_of me 5 _ rfl
      have f6 := frozen_of (j := 6) me
      have d6 := cells_of me 6 _ rfl
      have f7 := frozen_of (j := 7) me
      have d7 := cells_of me 7 _ rfl
      have HM := Lib.hid (And.intro me (And.intro mb (And.intro mo hu.size)))
      clear me mb mo hu hz ho6
      go_wp2
      try simp only [Exit.inBlock, Exit.then, jump_ret]
      obtain ⟨⟨s0, s1, s2, s3, s4, s5, s6, s7⟩, ho, hbz⟩ := resp_end (N := wf.heap.size) HM.out.1 HM.out.2.1 (by omega) (by omega) q.client q.n 0 0 G O.parts HM.out.2.2.1
      exact bodyPost_ret (v := .agg (rsC q.client q.n 0 0 G (.slice la O.parts.length lc))) (by simp [results, Tryz.results15, go_sem, rsC, s0, s1, s2, s3, s4, s5, s6, s7]) rfl ⟨la, lc, by obtain ⟨o1, o2, o3, o4, o5⟩ := HOG.out; rw [HRR.out, rsV, o1, o2, o3, o4, o5], by rw [HRR.out]; exact ho, hbz⟩
    · have b116 : (kd == 116) = false := by simp [h116]
      by_cases h110 : kd = 110
      · subst h110
        have z0 := cells_of kf 0 _ rfl
        by_cases hc : rc = 0
        · subst hc
          have z7 := cells_of kf 7 _ rfl
          by_cases hk3 : q.kind = 3
          · have HRR : Hid (R = O) := Lib.hid (by rw [← HR.out]; simp [hk3])
            have hkb : (q.kind == 3) = true := by simp [hk3]
            clear hk3 h116 b116
            go_upto_region 11 with (first | (go_at_call 39; refine HQ.out.mono ?_; rintro _ w6 ⟨la, lc, rfl, ho6, hb6⟩; have k5 := (HK.out _ hb6).2.2.1.1; have r0 := cells_of k5 0 _ rfl; have e0 := frozen_of (j := 0) k5; have r1 := cells_of k5 1 _ rfl; have e1 := frozen_of (j := 1) k5; have r2 := cells_of k5 2 _ rfl; have e2 := frozen_of (j := 2) k5; have r3 := cells_of k5 3 _ rfl; have e3 := frozen_of (j := 3) k5; have r4 := cells_of k5 4 _ rfl; have e4 := frozen_of (j := 4) k5; have r5 := cells_of k5 5 _ rfl; have e5 := frozen_of (j := 5) k5; have r6 := cells_of k5 6 _ rfl; have e6 := frozen_of (j := 6) k5; have r7 := cells_of k5 7 _ rfl; have e7 := frozen_of (j := 7) k5))
            obtain ⟨W, hW⟩ : ∃ W, W = ((((((((w6.setCell ⟨w.heap.size + 1 + 1 + 1, 0, none⟩ (.int .i64 q.client)).setCell ⟨w.heap.size + 1 + 1 + 1, 1, none⟩ (.int .i64 q.n)).setCell ⟨w.heap.size + 1 + 1 + 1, 2, none⟩ (.int .i64 0)).setCell ⟨w.heap.size + 1 + 1 + 1, 3, none⟩ (.int .i64 0)).setCell ⟨w.heap.size + 1 + 1 + 1, 4, none⟩ (.int .i64 0)).setCell ⟨w.heap.size + 1 + 1 + 1, 5, none⟩ (.int .i64 G)).setCell ⟨w.heap.size + 1 + 1 + 1, 6, none⟩ (.slice la O.parts.length lc)).setCell ⟨w.heap.size + 1 + 1 + 1, 7, none⟩ (.slice none 0 0)) := ⟨_, rfl⟩
            have k6 := (HK.out _ hb6).2.2.1
            obtain ⟨hz, hu⟩ := set8 k6.1 (.int .i64 q.client) (.int .i64 q.n) (.int .i64 0) (.int .i64 0) (.int .i64 0) (.int .i64 G) (.slice la O.parts.length lc) (.slice none 0 0)
            have hs6 := hb6.size
            rw [← show W = _ from hW] at hz hu
            rw [← hW]
            clear hW
            have me := (hu.block (w.heap.size + 2) (by omega) (by omega)).trans k6.2
            have mb := (HK.out _ hb6).2.2.2.trans (hu.toBelow (N := w.heap.size) (by omega) (fun k e => by omega))
            have mo := owns_upd ho6 hu (fun g hg e => by have := (owns_lt ho6 g hg).1; omega)
            clear c0 d0 f0 r0 e0 c1 d1 f1 r1 e1 c2 d2 f2 r2 e2 c3 d3 f3 r3 e3 c4 d4 f4 r4 e4 c5 d5 f5 r5 e5 c6 d6 f6 r6 e6 c7 d7 f7 r7 e7 g2 g3 g5 k6 kf kr k5
            have c0 := cells_of hz 0 _ rfl
            have c1 := cells_of hz 1 _ rfl
            have c2 := cells_of hz 2 _ rfl
            have c3 := cells_of hz 3 _ rfl
            have c4 := cells_of hz 4 _ rfl
            have c5 := cells_of hz 5 _ rfl
            have c6 := cells_of hz 6 _ rfl
            have c7 := cells_of hz 7 _ rfl
            have f0 := frozen_of (j := 0) me
            have d0 := cells_of me 0 _ rfl
            have f1 := frozen_of (j := 1) me
            have d1 := cells_of me 1 _ rfl
            have f2 := frozen_of (j := 2) me
            have d2 := cells_of me 2 _ rfl
            have f3 := frozen_of (j := 3) me
            have d3 := cells_of me 3 _ rfl
            have f4 := frozen_of (j := 4) me
            have d4 := cells_of me 4 _ rfl
            have f5 := frozen_of (j := 5) me
            have d5 := cells_of me 5 _ rfl
            have f6 := frozen_of (j := 6) me
            have d6 := cells_of me 6 _ rfl
            have f7 := frozen_of (j := 7) me
            have d7 := cells_of me 7 _ rfl
            have HM := Lib.hid (And.intro me (And.intro mb (And.intro mo hu.size)))
            clear me mb mo hu hz ho6
            go_wp2
            try simp only [Exit.inBlock, Exit.then, jump_ret]
            obtain ⟨⟨s0, s1, s2, s3, s4, s5, s6, s7⟩, ho, hbz⟩ := resp_end (N := wf.heap.size) HM.out.1 HM.out.2.1 (by omega) (by omega) q.client q.n 0 0 G O.parts HM.out.2.2.1
            exact bodyPost_ret (v := .agg (rsC q.client q.n 0 0 G (.slice la O.parts.length lc))) (by simp [results, Tryz.results15, go_sem, rsC, s0, s1, s2, s3, s4, s5, s6, s7]) rfl ⟨la, lc, by obtain ⟨o1, o2, o3, o4, o5⟩ := HOG.out; rw [HRR.out, rsV, o1, o2, o3, o4, o5], by rw [HRR.out]; exact ho, hbz⟩
          · have HRR : Hid (R = ⟨q.client, q.n, 0, 0, 0, []⟩) := Lib.hid (by rw [← HR.out]; simp [hk3])
            have hkb : (q.kind == 3) = false := by simp [hk3]
            clear hk3 h116 b116
            go_wp2
            try simp only [Exit.inBlock, Exit.then, jump_ret]
            obtain ⟨hz, hb⟩ := code_set (rb := w.heap.size + 1 + 1 + 1) (B := w.heap.size + 1 + 1) (by omega) (by omega) HKE.out.2 HKE.out.1 2 (.int .i64 0)
            obtain ⟨⟨s0, s1, s2, s3, s4, s5, s6, s7⟩, ho, hbz⟩ := resp_end (N := w.heap.size + 3) hz hb (by omega) (by omega) q.client q.n 0 0 0 [] (pa := none) (pc := 0) (World.ownsRow_nil _ _ _ _)
            simp only [List.length_nil] at s0 s1 s2 s3 s4 s5 s6 s7 ho hbz
            exact bodyPost_ret (v := .agg (rsC q.client q.n 0 0 0 (.slice none 0 0))) (by simp [results, Tryz.results15, go_sem, rsC, s0, s1, s2, s3, s4, s5, s6, s7]) rfl ⟨none, 0, by rw [HRR.out]; rfl, by rw [HRR.out]; exact ho, hbz⟩
        · have z7 := cells_of kf 7 _ rfl
          have HRR : Hid (R = ⟨q.client, q.n, rc, 0, 0, []⟩) := Lib.hid (by rw [← HR.out]; simp [hc])
          have hcb : (rc == 0) = false := by simp [hc]
          clear hc h116 b116
          go_wp2
          try simp only [Exit.inBlock, Exit.then, jump_ret]
          obtain ⟨hz, hb⟩ := code_set (rb := w.heap.size + 1 + 1 + 1) (B := w.heap.size + 1 + 1) (by omega) (by omega) HKE.out.2 HKE.out.1 2 (.int .i64 rc)
          obtain ⟨⟨s0, s1, s2, s3, s4, s5, s6, s7⟩, ho, hbz⟩ := resp_end (N := w.heap.size + 3) hz hb (by omega) (by omega) q.client q.n rc 0 0 [] (pa := none) (pc := 0) (World.ownsRow_nil _ _ _ _)
          simp only [List.length_nil] at s0 s1 s2 s3 s4 s5 s6 s7 ho hbz
          exact bodyPost_ret (v := .agg (rsC q.client q.n rc 0 0 (.slice none 0 0))) (by simp [results, Tryz.results15, go_sem, rsC, s0, s1, s2, s3, s4, s5, s6, s7]) rfl ⟨none, 0, by rw [HRR.out]; rfl, by rw [HRR.out]; exact ho, hbz⟩
      · have b110 : (kd == 110) = false := by simp [h110]
        by_cases h99 : kd = 99
        · subst h99
          have z0 := cells_of kf 0 _ rfl
          have z2 := cells_of kf 2 _ rfl
          have z6 := cells_of kf 6 _ rfl
          have HRR : Hid (R = ⟨q.client, q.n, 0, r.1.off, r.1.gen, []⟩) := Lib.hid (by rw [← HR.out]; simp)
          clear h110 b110 h116 b116
          go_upto_region 10 with fail
          go_region
          obtain ⟨hz', hb'⟩ := code_set (rb := w.heap.size + 1 + 1 + 1) (B := w.heap.size + 1 + 1) (by omega) (by omega) HKE.out.2 HKE.out.1 3 (.int .i64 r.1.off)
          obtain ⟨hz, hb⟩ := code_set (rb := w.heap.size + 1 + 1 + 1) (B := w.heap.size + 1 + 1) (by omega) (by omega) hb' hz' 5 (.int .i64 r.1.gen)
          obtain ⟨W, hW⟩ : ∃ W, W = ((wf.setCell ⟨w.heap.size + 1 + 1 + 1, 3, none⟩ (.int .i64 r.1.off)).setCell ⟨w.heap.size + 1 + 1 + 1, 5, none⟩ (.int .i64 r.1.gen)).drew := ⟨_, rfl⟩
          have hy : W.heap[w.heap.size + 1 + 1 + 1]? = some (.cells (rsC q.client q.n 0 r.1.off r.1.gen (.slice none 0 0)) 39 (0, 0)) := by rw [hW]; exact setCell_same (o := 5) (v := .int .i64 r.1.gen) (setCell_same (o := 3) (v := .int .i64 r.1.off) kr)
          have me : W.heap[w.heap.size + 1 + 1]? = some (.cells (rsC 0 0 0 0 0 (.slice none 0 0)) 39 (0, 0)) := by rw [hW]; exact hz
          have mb : Below w.heap.size w W := by rw [hW]; exact hb.drew
          rw [← hW]
          clear hW hz hb hz' hb' kr c0 d0 f0 c1 d1 f1 c2 d2 f2 c3 d3 f3 c4 d4 f4 c5 d5 f5 c6 d6 f6 c7 d7 f7
          have c0 := cells_of hy 0 _ rfl
          have c1 := cells_of hy 1 _ rfl
          have c2 := cells_of hy 2 _ rfl
          have c3 := cells_of hy 3 _ rfl
          have c4 := cells_of hy 4 _ rfl
          have c5 := cells_of hy 5 _ rfl
          have c6 := cells_of hy 6 _ rfl
          have c7 := cells_of hy 7 _ rfl
          have f0 := frozen_of (j := 0) me
          have d0 := cells_of me 0 _ rfl
          have f1 := frozen_of (j := 1) me
          have d1 := cells_of me 1 _ rfl
          have f2 := frozen_of (j := 2) me
          have d2 := cells_of me 2 _ rfl
          have f3 := frozen_of (j := 3) me
          have d3 := cells_of me 3 _ rfl
          have f4 := frozen_of (j := 4) me
          have d4 := cells_of me 4 _ rfl
          have f5 := frozen_of (j := 5) me
          have d5 := cells_of me 5 _ rfl
          have f6 := frozen_of (j := 6) me
          have d6 := cells_of me 6 _ rfl
          have f7 := frozen_of (j := 7) me
          have d7 := cells_of me 7 _ rfl
          have HM := Lib.hid (And.intro me mb)
          clear me mb hy
          go_wp2
          try simp only [Exit.inBlock, Exit.then, jump_ret]
          obtain ⟨⟨s0, s1, s2, s3, s4, s5, s6, s7⟩, ho, hbz⟩ := resp_end (N := w.heap.size + 3) HM.out.1 HM.out.2 (by omega) (by omega) q.client q.n 0 r.1.off r.1.gen [] (pa := none) (pc := 0) (World.ownsRow_nil _ _ _ _)
          simp only [List.length_nil] at s0 s1 s2 s3 s4 s5 s6 s7 ho hbz
          exact bodyPost_ret (v := .agg (rsC q.client q.n 0 r.1.off r.1.gen (.slice none 0 0))) (by simp [results, Tryz.results15, go_sem, rsC, s0, s1, s2, s3, s4, s5, s6, s7]) rfl ⟨none, 0, by rw [HRR.out]; rfl, by rw [HRR.out]; exact ho, hbz⟩
        · have b99 : (kd == 99) = false := by simp [h99]
          have z0 := cells_of kf 0 _ rfl
          have z7 := cells_of kf 7 _ rfl
          have HRR : Hid (R = ⟨q.client, q.n, rc, 0, 0, []⟩) := Lib.hid (by rw [← HR.out]; simp [h116, h110, h99])
          clear h110 h116 h99
          go_wp2
          try simp only [Exit.inBlock, Exit.then, jump_ret]
          obtain ⟨hz, hb⟩ := code_set (rb := w.heap.size + 1 + 1 + 1) (B := w.heap.size + 1 + 1) (by omega) (by omega) HKE.out.2 HKE.out.1 2 (.int .i64 rc)
          obtain ⟨⟨s0, s1, s2, s3, s4, s5, s6, s7⟩, ho, hbz⟩ := resp_end (N := w.heap.size + 3) hz hb (by omega) (by omega) q.client q.n rc 0 0 [] (pa := none) (pc := 0) (World.ownsRow_nil _ _ _ _)
          simp only [List.length_nil] at s0 s1 s2 s3 s4 s5 s6 s7 ho hbz
          exact bodyPost_ret (v := .agg (rsC q.client q.n rc 0 0 (.slice none 0 0))) (by simp [results, Tryz.results15, go_sem, rsC, s0, s1, s2, s3, s4, s5, s6, s7]) rfl ⟨none, 0, by rw [HRR.out]; rfl, by rw [HRR.out]; exact ho, hbz⟩
end Go.Proofs.YtdchjepahgecgaaGreatDoor
