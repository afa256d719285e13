/- The walks of crate.Good and what it calls. -/
import Derived.Test.YtjkobbmdemooaaaGreatDoorProg
import Derived.Test.YtjkobbmdemooaaaGreatDoorLedS
namespace Go.Proofs.YtjkobbmdemooaaaGreatDoor
open Go.RowKit

set_option maxHeartbeats 400000 in
theorem CrisNum_any (n : Int) (w : World) :
    Calls Tryz.prog 96 #[.int .i64 n] w fun e w' => e = .returned (.bool (isNumB n)) ∧ w = w' := by
  go_enter Tryz.func96, Tryz.ntmps96
  go_wp2
  all_goals go_ret
  all_goals simp [isNumB]; omega

set_option maxHeartbeats 400000 in
theorem CrisRec_any (x : Rec) (w : World) :
    Calls Tryz.prog 97 #[x.v] w fun e w' => e = .returned (.bool (recOkB x)) ∧ Below w.heap.size w w' := by
  obtain ⟨off, key, val, gone⟩ := x
  cases gone
  all_goals
    unfold Rec.v
    go_enter Tryz.func97, Tryz.ntmps97
    go_wp2
    all_goals go_ret
    all_goals refine ⟨ret_b ?_, (Below.refl _ _).alloc (Nat.le_refl _) _⟩
    all_goals simp only [recOkB, *, decide_true, Bool.true_and, Bool.not_false, Bool.true_or, Bool.not_true, Bool.false_or]
    all_goals first
      | done
      | (rw [decide_eq_false (p := (key.size : Int) ≤ 16) (by omega)]; rfl)
      | (rw [decide_eq_false (p := (val.size : Int) ≤ 64) (by omega)]; simp)

set_option maxRecDepth 100000 in
set_option maxHeartbeats 1000000 in
theorem CrGood_any (b : Batch) (rv : Value) (w : World) (hr : Rd w 4 rv b.recs.length (recCells b.recs)) :
    Calls Tryz.prog 70 #[b.v rv] w fun e w' => e = .returned (.bool (goodB b)) ∧ Below w.heap.size w w' := by
  obtain ⟨base, count, prod, seq, time, recs⟩ := b
  dsimp only at hr
  unfold Batch.v
  have isf : ∀ x : Bool, ¬ x = true → x = false := by intro x h; simpa using h
  by_cases h1 : isNumB base = true
  case neg =>
    have h1 := isf _ h1
    go_enter Tryz.func70, Tryz.ntmps70
    go_wp2
    refine wp_loop_rounds 1 ?_
    rw [rounds_succ]
    go_wp2_with (first | (go_at_call 96; refine (CrisNum_any _ _).mono ?_; rintro e w' ⟨rfl, rfl⟩))
    go_ret
    exact ⟨by simp [goodB, h1], ((Below.refl _ _).alloc (Nat.le_refl _) _).alloc (by simp) _⟩
  by_cases h2 : isNumB prod = true
  case neg =>
    have h2 := isf _ h2
    go_enter Tryz.func70, Tryz.ntmps70
    go_wp2
    refine wp_loop_rounds 2 ?_
    iterate 2 (rw [rounds_succ]; go_wp2_with (first | (go_at_call 96; refine (CrisNum_any _ _).mono ?_; rintro e w' ⟨rfl, rfl⟩)))
    go_ret
    exact ⟨by simp [goodB, h1, h2], ((Below.refl _ _).alloc (Nat.le_refl _) _).alloc (by simp) _⟩
  by_cases h3 : isNumB seq = true
  case neg =>
    have h3 := isf _ h3
    go_enter Tryz.func70, Tryz.ntmps70
    go_wp2
    refine wp_loop_rounds 3 ?_
    iterate 3 (rw [rounds_succ]; go_wp2_with (first | (go_at_call 96; refine (CrisNum_any _ _).mono ?_; rintro e w' ⟨rfl, rfl⟩)))
    go_ret
    exact ⟨by simp [goodB, h1, h2, h3], ((Below.refl _ _).alloc (Nat.le_refl _) _).alloc (by simp) _⟩
  by_cases h4 : isNumB time = true
  case neg =>
    have h4 := isf _ h4
    go_enter Tryz.func70, Tryz.ntmps70
    go_wp2
    refine wp_loop_rounds 4 ?_
    iterate 4 (rw [rounds_succ]; go_wp2_with (first | (go_at_call 96; refine (CrisNum_any _ _).mono ?_; rintro e w' ⟨rfl, rfl⟩)))
    go_ret
    exact ⟨by simp [goodB, h1, h2, h3, h4], ((Below.refl _ _).alloc (Nat.le_refl _) _).alloc (by simp) _⟩
  obtain ⟨ra, rcap, rfl, hrcap⟩ := hr.shape
  have hbase : 0 ≤ base ∧ base ≤ 1099511627776 := by simpa [isNumB] using h1
  obtain ⟨hb0, hb1⟩ := hbase
  have hcapm : (recs.length : Int) ≤ 9223372036854775807 := by
    have := hr.maxlen
    unfold maxLen at this; omega
  have hcellR : ∀ k (h : k < recs.length), ∃ b off, ra = some ⟨b, off, none⟩ ∧ b < w.heap.size ∧ w.cell? ⟨b, off + k * 4, none⟩ = some (.int .i64 recs[k].off) ∧ w.cell? ⟨b, off + k * 4 + 1, none⟩ = some (.string recs[k].key) ∧
      w.cell? ⟨b, off + k * 4 + 2, none⟩ = some (.string recs[k].val) ∧ w.cell? ⟨b, off + k * 4 + 3, none⟩ = some (.bool recs[k].gone) := by
    intro k hk
    obtain ⟨b, off, cap, e, _, _, hb, hc⟩ := hr.at (by omega)
    simp only [Value.slice.injEq, true_and] at e
    have := recCells_get recs k hk
    exact ⟨b, off, e.1, hb, hc _ _ this.1, hc (k * 4 + 1) _ this.2.1, hc (k * 4 + 2) _ this.2.2.1, hc (k * 4 + 3) _ this.2.2.2⟩
  clear hr
  have HR := Lib.hid hcellR
  clear hcellR
  by_cases hcount : 1 ≤ count ∧ count ≤ 8 ∧ base ≤ 1099511627776 - count ∧ (recs.length : Int) ≤ count
  case neg =>
    have HN := Lib.hid hcount
    clear hcount
    go_enter Tryz.func70, Tryz.ntmps70
    go_wp2
    refine wp_loop_rounds 5 ?_
    iterate 5 (rw [rounds_succ]; go_wp2_with (first | (go_at_call 96; refine (CrisNum_any _ _).mono ?_; rintro e w' ⟨rfl, rfl⟩)))

    all_goals have hN := HN.out
    all_goals try (exfalso; omega)
    all_goals
      go_ret
      refine ⟨ret_b (Eq.symm ?_), ((Below.refl _ _).alloc (Nat.le_refl _) _).alloc (by simp) _⟩
      simp only [goodB, *, Bool.true_and, Bool.and_eq_false_iff, decide_eq_false_iff_not]
      omega
  obtain ⟨hcl, hcu, hbc, hrl⟩ := hcount
  have hgood : goodB ⟨base, count, prod, seq, time, recs⟩ = goodRecs (base + count) base recs := by
    simp [goodB, h1, h2, h3, h4, hcl, hcu, hbc, hrl]
  have HGd := Lib.hid hgood
  clear hgood
  have hdec : decide (count < (recs.length : Int)) = false := by simp; omega
  go_enter Tryz.func70, Tryz.ntmps70
  go_wp2
  refine wp_loop_rounds 5 ?_
  iterate 5 (rw [rounds_succ]; go_wp2_with (first | (go_at_call 96; refine (CrisNum_any _ _).mono ?_; rintro e w' ⟨rfl, rfl⟩)))
  have hbc : base + count ≤ 1099511627776 := by omega
  go_loopw [5, 7, 55] (fun nx px i wr => ∃ (k : Nat) (n : Int), k ≤ recs.length ∧ i = .int .i64 k ∧ nx = .int .i64 n ∧ 0 ≤ n ∧ n ≤ 1099511627776 ∧ goodRecs (base + count) base recs = goodRecs (base + count) n (recs.drop k) ∧
      Below (w.heap.size + 2) ((w.alloc (.cells #[.int .i64 base, .int .i64 count, .int .i64 prod, .int .i64 seq, .int .i64 time, .slice ra recs.length rcap] 61)).alloc (.cells #[.int .i64 base, .int .i64 prod, .int .i64 seq, .int .i64 time] 3)) wr) (fun _ _ i _ => recs.length - (intOf i).toNat)
  case atStart => exact ⟨0, base, Nat.zero_le _, rfl, rfl, hb0, hb1, rfl, Below.refl _ _⟩
  case round =>
    obtain ⟨k, n, hk, rfl, rfl, hn0, hn1, hg, hbel⟩ := hrel
    have HG := Lib.hid hg
    clear hg
    have hsz := hbel.size
    simp only [World.size_alloc] at hsz
    by_cases hlt : k < recs.length
    · have q0 : wr.cell? ⟨w.heap.size, 0, none⟩ = some (.int .i64 base) := below_some hbel (by simp [go_sem]) (by omega)
      have q1 : wr.cell? ⟨w.heap.size, 1, none⟩ = some (.int .i64 count) := below_some hbel (by simp [go_sem]) (by omega)
      obtain ⟨b, off, rfl, hb, r0, r1, r2, r3⟩ := HR.out k hlt
      have r0 : wr.cell? ⟨b, off + k * 4, none⟩ = some (.int .i64 recs[k].off) := below_some hbel (by simp [go_sem, hb, r0]) (by omega)
      have r1 : wr.cell? ⟨b, off + k * 4 + 1, none⟩ = some (.string recs[k].key) := below_some hbel (by simp [go_sem, hb, r1]) (by omega)
      have r2 : wr.cell? ⟨b, off + k * 4 + 2, none⟩ = some (.string recs[k].val) := below_some hbel (by simp [go_sem, hb, r2]) (by omega)
      have r3 : wr.cell? ⟨b, off + k * 4 + 3, none⟩ = some (.bool recs[k].gone) := below_some hbel (by simp [go_sem, hb, r3]) (by omega)
      have e : recs.drop k = recs[k] :: recs.drop (k + 1) := List.drop_eq_getElem_cons hlt
      have HE := Lib.hid e
      clear e
      generalize recs[k] = x at *
      obtain ⟨o, key, val, gone⟩ := x
      dsimp only at r0 r1 r2 r3
      have hrec := fun w => CrisRec_any ⟨o, key, val, gone⟩ w
      unfold Rec.v at hrec
      dsimp only at hrec
      have HC := Lib.hid hrec
      clear hrec
      generalize hro : recOkB ⟨o, key, val, gone⟩ = ro at HC
      have HO := Lib.hid hro
      clear hro
      have hbw : b < wr.heap.size := by omega
      have hw0 : w.heap.size < wr.heap.size := by omega
      cases ro
      all_goals
        go_wp2_with (first | (go_at_call 97; refine (HC.out _).mono ?_; rintro e w1 ⟨rfl, hb1⟩; obtain ⟨hc1, hf1⟩ := bcell hb1; have hs1 := hb1.size; simp only [World.size_alloc, World.size_setCell] at hs1))
      all_goals
        have hfw : Below (w.heap.size + 2) wr w1 := ((((Below.refl _ wr).alloc (Nat.le_refl _) _).trans (hb1.mono (by simp))).mono (by omega))
        have hfin : Below w.heap.size w w1 := (((Below.refl _ _).alloc (Nat.le_refl _) _).alloc (by simp) _).trans ((hbel.mono (by omega)).trans (hfw.mono (by omega)))
      all_goals first
        | (go_ret
           refine ⟨ret_b (Eq.symm ?_), hfin⟩
           rw [HGd.out, HG.out, HE.out]
           simp only [goodRecs, HO.out, Bool.true_and, Bool.false_and, Bool.and_eq_false_iff, decide_eq_false_iff_not]
           done)
        | (go_ret
           refine ⟨ret_b (Eq.symm ?_), hfin⟩
           rw [HGd.out, HG.out, HE.out]
           simp only [goodRecs, HO.out, Bool.true_and, Bool.false_and, Bool.and_eq_false_iff, decide_eq_false_iff_not]
           omega)
        | skip
      have t1 : n ≤ o := by assumption
      have t2 : o < base + count := by assumption
      have hg2 : goodRecs (base + count) base recs = goodRecs (base + count) (o + 1) (recs.drop (k + 1)) := by
        rw [HG.out, HE.out]
        simp [goodRecs, HO.out, t1, t2]
      have HG2 := Lib.hid hg2
      clear hg2
      go_roundw
      case rel => exact ⟨k + 1, o + 1, by omega, by go_num, rfl, by omega, by omega, HG2.out, hbel.trans hfw⟩
      case measure => simp [intOf]; omega
    · have e : recs.drop k = [] := List.drop_eq_nil_of_le (by omega)
      go_wp2
      go_ret
      refine ⟨ret_b (by rw [HGd.out, HG.out, e]; rfl), ?_⟩
      exact (((Below.refl _ _).alloc (Nat.le_refl _) _).alloc (by simp) _).trans (hbel.mono (by omega))
end Go.Proofs.YtjkobbmdemooaaaGreatDoor
