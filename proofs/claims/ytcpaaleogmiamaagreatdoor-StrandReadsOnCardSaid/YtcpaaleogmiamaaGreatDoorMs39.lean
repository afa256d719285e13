/- The walk of heliographlaw07.next. -/
import Derived.Test.YtcpaaleogmiamaaGreatDoorMs38
namespace Go.Proofs.YtcpaaleogmiamaaGreatDoor
open Go.RowKit

/-- An act's batch, at the end of a strand if told so. -/
def offN (b : Batch) (e : Int) (x : Rec) : Rec := { x with off := wrap64 (wrap64 (x.off - b.base) + e) }
def nextB (b : Batch) (e : Int) : Batch := { b with base := e, recs := b.recs.map (offN b e) }
def SAct.v (x : SAct) (rv lv fv : Value) (nx : Bool) : Value := .agg #[.int .i64 x.kind, .int .i64 x.b.base, .int .i64 x.b.count, .int .i64 x.b.prod, .int .i64 x.b.seq, .int .i64 x.b.time, rv, .bool nx, .int .i64 x.n, lv, fv, .string x.name]

/-- The records, the first i of them moved. -/
def mixN (b : Batch) (e : Int) (i : Nat) : List Rec := (b.recs.take i).map (offN b e) ++ b.recs.drop i
theorem mixN_len (b : Batch) (e : Int) (i : Nat) : (mixN b e i).length = b.recs.length := by simp [mixN]; omega
theorem mixN_set (b : Batch) (e : Int) (i : Nat) (hi : i < b.recs.length) : (mixN b e i).set i (offN b e b.recs[i]) = mixN b e (i + 1) := by
  unfold mixN
  rw [List.drop_eq_getElem_cons hi, List.set_append_right _ _ (by simp; omega), List.take_add_one, List.getElem?_eq_getElem hi]
  simp only [List.length_map, List.length_take, Nat.min_eq_left (Nat.le_of_lt hi), Nat.sub_self, List.set_cons_zero, Option.toList_some, List.map_append, List.map_cons, List.map_nil, List.append_assoc, List.cons_append, List.nil_append]
theorem mixN_get (b : Batch) (e : Int) (i : Nat) (hi : i < b.recs.length) : (mixN b e i)[i]? = some b.recs[i] := by
  unfold mixN
  rw [List.drop_eq_getElem_cons hi, List.getElem?_append_right (by simp; omega)]
  simp [Nat.min_eq_left (Nat.le_of_lt hi)]
/-- What stands in a round of next. -/
structure NxR (w : World) (n : Nat) (x : SAct) (e : Int) (rc0 : Value) (v : Value) (i : Nat) (W : World) : Prop where
  res : W.heap[n + 1]? = some (.cells #[.int .i64 0, .int .i64 0, .int .i64 0, .int .i64 0, .int .i64 0, .slice none 0 0] 40 (0, 0))
  bat : W.heap[n + 2]? = some (.cells #[.int .i64 x.b.base, .int .i64 x.b.count, .int .i64 x.b.prod, .int .i64 x.b.seq, .int .i64 x.b.time, rc0] 40 (0, 0))
  row : W.ownsRow n 84 4 v x.b.recs.length (recCells (mixN x.b e i))
  bel : Below n w W
theorem NxR.below {w W W' : World} {n : Nat} {x : SAct} {e : Int} {rc0 v : Value} {i : Nat} (h : NxR w n x e rc0 v i W) (hb : Below W.heap.size W W') (hn : n ≤ W.heap.size) : NxR w n x e rc0 v i W' :=
  ⟨heap_below hb h.res, heap_below hb h.bat, owns_upd h.row (Upd.of_below (F := fun _ => False) hb) (fun _ _ h => h), h.bel.trans (hb.mono hn)⟩
theorem NxR.step {w W : World} {n : Nat} {x : SAct} {e : Int} {rc0 : Value} {a : Option Addr} {c i : Nat} (h : NxR w n x e rc0 (.slice a x.b.recs.length c) i W) (hi : i < x.b.recs.length) (hn : n ≤ w.heap.size) :
    ∃ g, a = some ⟨g, 0, none⟩ ∧ W.cell? ⟨g, i * 4, none⟩ = some (.int .i64 (x.b.recs[i]).off) ∧ (∀ j, W.frozen? ⟨g, j, none⟩ = false) ∧ W.cell? ⟨n + 2, 0, none⟩ = some (.int .i64 x.b.base) ∧
      NxR w n x e rc0 (.slice a x.b.recs.length c) (i + 1) (W.setCell ⟨g, i * 4, none⟩ (.int .i64 (wrap64 (wrap64 ((x.b.recs[i]).off - x.b.base) + e)))) := by
  rcases h.row.2 with ⟨h2, h3⟩ | ⟨g, cap, cur, h1, h2, h3, h4, h5, h6, h7⟩
  · omega
  · simp only [Value.slice.injEq] at h1
    obtain ⟨rfl, -, rfl⟩ := h1
    have hset := upd_set1 W g (i * 4) (.int .i64 (wrap64 (wrap64 ((x.b.recs[i]).off - x.b.base) + e)))
    have hne1 : n + 1 ≠ g := fun e1 => by rw [← e1, h.res] at h3; simp at h3
    have hne2 : n + 2 ≠ g := fun e1 => by rw [← e1, h.bat] at h3; simp at h3
    have hl : i < (mixN x.b e i).length := by rw [mixN_len]; exact hi
    have hg : (mixN x.b e i)[i] = x.b.recs[i] := by
      have := mixN_get x.b e i hi
      rw [List.getElem?_eq_getElem hl] at this
      exact Option.some.inj this
    have hc : (recCells (mixN x.b e i))[i * 4]? = some (.int .i64 (x.b.recs[i]).off) := by
      have := (recCells_get (mixN x.b e i) i hl).1
      rw [hg] at this
      exact this
    refine ⟨g, rfl, ?_, fun _ => frozen_of h3, cells_of h.bat 0 _ rfl, (hset.block _ (Array.getElem?_eq_some_iff.1 h.res).1 hne1).trans h.res, (hset.block _ (Array.getElem?_eq_some_iff.1 h.bat).1 hne2).trans h.bat, ?_, h.bel.trans (hset.toBelow (Nat.le_trans hn h.bel.size) (fun k hk => by omega))⟩
    · rw [cell_of_row W g (i * 4) _ _ _ h3]
      rw [← h7, List.getElem?_take] at hc
      split at hc
      · rw [← Array.getElem?_toList]; exact hc
      · cases hc
    · have h8 := (h.row.stored (i * 4) (.int .i64 (wrap64 (wrap64 ((x.b.recs[i]).off - x.b.base) + e)))).1
      have e2 : (recCells (mixN x.b e i)).set (i * 4) (.int .i64 (wrap64 (wrap64 ((x.b.recs[i]).off - x.b.base) + e))) = recCells (mixN x.b e (i + 1)) := by
        rw [← mixN_set x.b e i hi]
        have := fl_set (f := Rec.cells) (sz := 4) (fun _ => rfl) (mixN x.b e i) i hl 0 (by decide) (.int .i64 (wrap64 (wrap64 ((x.b.recs[i]).off - x.b.base) + e))) (offN x.b e x.b.recs[i]) (by rw [hg]; rfl)
        rw [Nat.add_zero] at this
        exact this
      rw [e2] at h8
      exact h8

set_option maxRecDepth 100000 in
set_option maxHeartbeats 4000000 in
theorem L7next_any {w : World} {x : SAct} {ra la fa : Option Addr} {rc lc fc ln fn : Nat} (h : RcsRd w (.slice ra x.b.recs.length rc) x.b.recs) (hl : x.b.recs.length ≤ 20) (e : Int) :
    Calls Tryz.prog 31 #[x.v (.slice ra x.b.recs.length rc) (.slice la ln lc) (.slice fa fn fc) true, .int .i64 e] w fun en w' => ∃ v : Value, en = .returned ((nextB x.b e).v v) ∧ w'.ownsRow w.heap.size 84 4 v x.b.recs.length (recCells (nextB x.b e).recs) ∧ Below w.heap.size w w' := by
  simp only [SAct.v]
  go_enter Tryz.func31, Tryz.ntmps31
  go_upto_region 4 with fail
  obtain ⟨n, hn⟩ : ∃ n, w.heap.size = n := ⟨_, rfl⟩
  obtain ⟨W3, hW3⟩ : ∃ W3, W3 = ((w.alloc (.cells #[.int .i64 x.kind, .int .i64 x.b.base, .int .i64 x.b.count, .int .i64 x.b.prod, .int .i64 x.b.seq, .int .i64 x.b.time, .slice ra x.b.recs.length rc, .bool true, .int .i64 x.n, .slice la ln lc, .slice fa fn fc, .string x.name] 78)).alloc
    (.cells #[.int .i64 0, .int .i64 0, .int .i64 0, .int .i64 0, .int .i64 0, .slice none 0 0] 40)).alloc (.cells #[.int .i64 x.b.base, .int .i64 x.b.count, .int .i64 x.b.prod, .int .i64 x.b.seq, .int .i64 x.b.time, .slice ra x.b.recs.length rc] 40) := ⟨_, rfl⟩
  have hb3 : Below w.heap.size w W3 := by rw [hW3]; exact (((Below.refl _ w).alloc (Nat.le_refl _) _).alloc (by simp) _).alloc (by simp; omega) _
  have hz3 : W3.heap.size = n + 3 := by rw [hW3, ← hn]; simp
  have g1 : W3.heap[n + 1]? = some (.cells #[.int .i64 0, .int .i64 0, .int .i64 0, .int .i64 0, .int .i64 0, .slice none 0 0] 40 (0, 0)) := by rw [hW3]; exact al_old _ (al_at _ (by simp only [World.size_alloc]; omega))
  have g2 : W3.heap[n + 2]? = some (.cells #[.int .i64 x.b.base, .int .i64 x.b.count, .int .i64 x.b.prod, .int .i64 x.b.seq, .int .i64 x.b.time, .slice ra x.b.recs.length rc] 40 (0, 0)) := by rw [hW3]; exact al_at _ (by simp only [World.size_alloc]; omega)
  rw [← hW3]
  simp only [hn]
  rw [show n + 1 + 1 = n + 2 from rfl]
  have hrd := h.below hb3
  have h0 : (W3.alloc (.cells #[] 84)).ownsRow n 84 4 (.slice (some ⟨W3.heap.size, 0, none⟩) 0 0) 0 [] := World.ownsRow_made W3 #[] 0 (by omega) (Nat.zero_le _) rfl
  rw [hz3] at h0
  have c5 : ∀ o, (W3.alloc o).cell? ⟨n + 2, 5, none⟩ = some (.slice ra x.b.recs.length rc) := fun o => cells_of (al_old o g2) 5 _ rfl
  have H0 := Lib.hid (And.intro h0 (And.intro hrd (And.intro hb3 (And.intro hz3 (And.intro hn (And.intro g1 g2))))))
  clear h0 hrd hb3 hW3 h g1 g2
  obtain ⟨i0, hi, hz0, hz1, hz2⟩ := info_parts info_Rec4
  have hrd4 : ∀ o, Rd (W3.alloc o) 4 (.slice ra x.b.recs.length rc) x.b.recs.length (recCells x.b.recs) := fun o => Rd.below H0.out.2.1 (below_alloc W3 o)
  have HRD := Lib.hid hrd4
  clear hrd4
  go_upto_region 5 with (first | (at_builtin; refine wpList_append_any rfl _ _ 38 rfl n 84 i0 _ 4 48 und_Recs4 hi hz0 hz1 hz2 rfl (by decide) (.slice (some ⟨n + 3, 0, none⟩) 0 0) 0 [] rfl H0.out.1 (.slice ra x.b.recs.length rc) x.b.recs.length (recCells x.b.recs) rfl (HRD.out _) (one_recs _) (by unfold maxLen; omega) (by omega) (by simp only [World.size_alloc]; omega) ?_; intro a7 c7 w7 hown7 hgrow7 hat7; have H7 := Lib.hid (And.intro hown7 (And.intro hgrow7 hat7)); clear hown7 hgrow7 hat7))
  have hst : NxR w n x e (.slice ra x.b.recs.length rc) (.slice a7 x.b.recs.length c7) 0 w7 := by
    obtain ⟨k1, k2, k3⟩ := H7.out
    obtain ⟨m1, m2, m3, m4, m5, m6, m7⟩ := H0.out
    rw [Nat.zero_add, List.nil_append] at k1
    have hu : Upd (fun k => k = n + 3) W3 w7 := ((upd_alloc _ W3 _).trans (upd_grown k2)).mono (fun k _ e => by simpa [Value.ownBlock] using e)
    refine ⟨(hu.block _ (by omega) (by omega)).trans m6, (hu.block _ (by omega) (by omega)).trans m7, by simpa [mixN] using k1, ?_⟩
    exact (m3.mono (Nat.le_of_eq m5.symm)).trans (hu.toBelow (by omega) (fun k hk => by omega))
  have HST := Lib.hid hst
  have hln : n ≤ w.heap.size := Nat.le_of_eq hn.symm
  have hll : (x.b.recs.length : Int) ≤ 20 := by omega
  clear hst H7 H0 HRD hi hz0 hz1 hz2 c5 hz3
  go_wp2_with fail
  go_loopg [7] x.b.recs.length (fun gk v7 wr => ∃ i : Nat, i ≤ x.b.recs.length ∧ gk = x.b.recs.length - i ∧ v7 = .int .i64 i ∧ NxR w n x e (.slice ra x.b.recs.length rc) (.slice a7 x.b.recs.length c7) i wr)
  case atStart => exact ⟨0, Nat.zero_le _, rfl, rfl, HST.out⟩
  case round =>
    obtain ⟨i, hi, rfl, rfl, hs⟩ := hrel
    by_cases hit : i < x.b.recs.length
    · obtain ⟨g, ea, r0, z0, b0, hnx⟩ := (hs.below (Below.refl _ wr).drew (Nat.le_trans hln hs.bel.size)).step hit hln
      subst ea
      have HNX := Lib.hid hnx
      have z1 : wr.frozen? ⟨g, i * 4, none⟩ = false := z0 (i * 4)
      replace r0 : wr.cell? ⟨g, i * 4, none⟩ = some (.int .i64 (x.b.recs[i]).off) := r0
      replace b0 : wr.cell? ⟨n + 2, 0, none⟩ = some (.int .i64 x.b.base) := b0
      have j1 : (i : Int) < (x.b.recs.length : Int) := by omega
      have j2 : (0 : Int) ≤ (i : Int) := by omega
      have j3 : (0 : Int) ≤ (i : Int) + 1 := by omega
      clear hnx hs z0
      have e1 := IntWalk.i64_left ((x.b.recs[i]).off - x.b.base)
      have e2 := IntWalk.i64_left (wrap64 ((x.b.recs[i]).off - x.b.base) + e)
      go_upto_region 8 with fail
      go_region_law (fail)
      all_goals
        go_wp2_with fail
        go_roundg (x.b.recs.length - (i + 1))
        case measure => omega
        case rel =>
          try rw [e1, e2]
          exact ⟨i + 1, by omega, rfl, by go_num, HNX.out⟩
    · obtain rfl : i = x.b.recs.length := by omega
      have hm : mixN x.b e x.b.recs.length = (nextB x.b e).recs := by simp [mixN, nextB]
      obtain ⟨h1, h2, h3, h4⟩ := hs
      rw [hm] at h3
      have b0 : wr.cell? ⟨n + 2, 0, none⟩ = some (.int .i64 x.b.base) := cells_of h2 0 _ rfl
      have b1 : wr.cell? ⟨n + 2, 1, none⟩ = some (.int .i64 x.b.count) := cells_of h2 1 _ rfl
      have b2 : wr.cell? ⟨n + 2, 2, none⟩ = some (.int .i64 x.b.prod) := cells_of h2 2 _ rfl
      have b3 : wr.cell? ⟨n + 2, 3, none⟩ = some (.int .i64 x.b.seq) := cells_of h2 3 _ rfl
      have b4 : wr.cell? ⟨n + 2, 4, none⟩ = some (.int .i64 x.b.time) := cells_of h2 4 _ rfl
      have b5 : wr.cell? ⟨n + 2, 5, none⟩ = some (.slice ra x.b.recs.length rc) := cells_of h2 5 _ rfl
      have zb : ∀ j, wr.frozen? ⟨n + 2, j, none⟩ = false := fun _ => frozen_of h2
      have z0 := zb 0
      have z5 := zb 5
      clear zb
      go_upto_region 11 with fail
      obtain ⟨wa, hwa⟩ : ∃ wa, wa = (wr.setCell ⟨n + 2, 0, none⟩ (.int .i64 e)).setCell ⟨n + 2, 5, none⟩ (.slice a7 x.b.recs.length c7) := ⟨_, rfl⟩
      have hu : Upd (fun k => k = n + 2) wr wa := by rw [hwa]; exact (upd_set1 _ _ _ _).trans (upd_set1 _ _ _ _)
      have g2 : wa.heap[n + 2]? = some (.cells #[.int .i64 e, .int .i64 x.b.count, .int .i64 x.b.prod, .int .i64 x.b.seq, .int .i64 x.b.time, .slice a7 x.b.recs.length c7] 40 (0, 0)) := by rw [hwa]; exact setCell_same (o := 5) (v := .slice a7 x.b.recs.length c7) (setCell_same (o := 0) (v := .int .i64 e) h2)
      have g1 : wa.heap[n + 1]? = some (.cells #[.int .i64 0, .int .i64 0, .int .i64 0, .int .i64 0, .int .i64 0, .slice none 0 0] 40 (0, 0)) := (hu.block _ (Array.getElem?_eq_some_iff.1 h1).1 (by omega)).trans h1
      have hrw : ∀ q, (Value.slice a7 x.b.recs.length c7).ownBlock = some q → q ≠ n + 2 ∧ q ≠ n + 1 := fun q hq => by
        obtain ⟨cur, hc⟩ := owns_kind3 h3 q hq
        exact ⟨fun e => by rw [e, h2] at hc; simp at hc, fun e => by rw [e, h1] at hc; simp at hc⟩
      have g3 : wa.ownsRow n 84 4 (.slice a7 x.b.recs.length c7) x.b.recs.length (recCells (nextB x.b e).recs) := owns_upd h3 hu (fun q hq e => (hrw q hq).1 e)
      have g4 : Below n w wa := h4.trans (hu.toBelow (Nat.le_trans hln h4.size) (fun k hk => by omega))
      rw [← hwa]
      have b0 : wa.cell? ⟨n + 2, 0, none⟩ = some (.int .i64 e) := cells_of g2 0 _ rfl
      have b1 : wa.cell? ⟨n + 2, 1, none⟩ = some (.int .i64 x.b.count) := cells_of g2 1 _ rfl
      have b2 : wa.cell? ⟨n + 2, 2, none⟩ = some (.int .i64 x.b.prod) := cells_of g2 2 _ rfl
      have b3 : wa.cell? ⟨n + 2, 3, none⟩ = some (.int .i64 x.b.seq) := cells_of g2 3 _ rfl
      have b4 : wa.cell? ⟨n + 2, 4, none⟩ = some (.int .i64 x.b.time) := cells_of g2 4 _ rfl
      have b5 : wa.cell? ⟨n + 2, 5, none⟩ = some (.slice a7 x.b.recs.length c7) := cells_of g2 5 _ rfl
      have y0 : wa.cell? ⟨n + 1, 0, none⟩ = some (.int .i64 0) := cells_of g1 0 _ rfl
      have y1 : wa.cell? ⟨n + 1, 1, none⟩ = some (.int .i64 0) := cells_of g1 1 _ rfl
      have y2 : wa.cell? ⟨n + 1, 2, none⟩ = some (.int .i64 0) := cells_of g1 2 _ rfl
      have y3 : wa.cell? ⟨n + 1, 3, none⟩ = some (.int .i64 0) := cells_of g1 3 _ rfl
      have y4 : wa.cell? ⟨n + 1, 4, none⟩ = some (.int .i64 0) := cells_of g1 4 _ rfl
      have y5 : wa.cell? ⟨n + 1, 5, none⟩ = some (.slice none 0 0) := cells_of g1 5 _ rfl
      have zz : ∀ j, wa.frozen? ⟨n + 1, j, none⟩ = false := fun _ => frozen_of g1
      have zz0 := zz 0
      have zz1 := zz 1
      have zz2 := zz 2
      have zz3 := zz 3
      have zz4 := zz 4
      have zz5 := zz 5
      have hlen : (nextB x.b e).recs.length = x.b.recs.length := by simp [nextB]
      have HG := Lib.hid (And.intro g1 (And.intro g3 (And.intro g4 hrw)))
      clear g1 g2 g3 g4 hu hwa h1 h2 h3 h4 zz hrw hm
      go_wp2_with fail
      obtain ⟨q1, q3, q4, qr⟩ := HG.out
      obtain ⟨w1, w2⟩ := set6 q1 (.int .i64 e) (.int .i64 x.b.count) (.int .i64 x.b.prod) (.int .i64 x.b.seq) (.int .i64 x.b.time) (.slice a7 x.b.recs.length c7)
      have v0 := cells_of w1 0 _ rfl
      have v1 := cells_of w1 1 _ rfl
      have v2 := cells_of w1 2 _ rfl
      have v3 := cells_of w1 3 _ rfl
      have v4 := cells_of w1 4 _ rfl
      have v5 := cells_of w1 5 _ rfl
      refine bodyPost_ret (v := (nextB x.b e).v (.slice a7 x.b.recs.length c7)) ?_ rfl ⟨_, rfl, ?_, ?_⟩
      · simp only [Batch.v, nextB]
        simp [results, Tryz.results31, go_sem, v0, v1, v2, v3, v4, v5]
      · exact owns_mono (owns_upd q3 w2 (fun q hq e => (qr q hq).2 e)) (by omega)
      · exact (q4.mono (by omega)).trans (w2.toBelow (by have := q4.size; omega) (fun k hk => by omega))
end Go.Proofs.YtcpaaleogmiamaaGreatDoor
