/- The walks of the reference's Good of batches. -/
import Derived.Test.YtcgjhifcocmdaaaLedE0
namespace Go.Proofs.Ytcgjhifcocmdaaa
open Go.RowKit

set_option maxHeartbeats 400000 in
theorem R3num_any (n : Int) (w : World) : Calls Try.prog 32 #[.int .i64 n] w fun e w' => e = .returned (.bool (isNumB n)) ∧ w' = w := by
  go_enter Try.func32, Try.ntmps32
  go_wp2
  all_goals go_ret
  all_goals simp [isNumB]; omega

set_option maxHeartbeats 400000 in
theorem R3rec_any (x : Rec) (w : World) :
    Calls Try.prog 33 #[x.v] w fun e w' => e = .returned (.bool (recOkB x)) ∧ Below w.heap.size w w' := by
  obtain ⟨off, key, val, gone⟩ := x
  cases gone
  all_goals
    unfold Rec.v
    go_enter Try.func33, Try.ntmps33
    go_wp2
    all_goals go_ret
    all_goals refine ⟨ret_b ?_, (Below.refl _ _).alloc (Nat.le_refl _) _⟩
    all_goals simp only [recOkB, *, decide_true, Bool.true_and, Bool.not_false, Bool.true_or, Bool.not_true, Bool.false_or]
    all_goals first
      | done
      | (rw [decide_eq_false (p := (key.size : Int) ≤ 16) (by omega)]; rfl)
      | (rw [decide_eq_false (p := (val.size : Int) ≤ 64) (by omega)]; simp)

def goodH (b : Batch) : Bool :=
  isNumB b.base && (decide (1 ≤ b.count) && (decide (b.count ≤ 8) && (decide (b.base ≤ 1099511627776 - b.count) && (isNumB b.prod && (isNumB b.seq && (isNumB b.time && decide ((b.recs.length : Int) ≤ b.count)))))))

theorem goodB_parts (b : Batch) : goodB b = (goodH b && goodRecs (b.base + b.count) b.base b.recs) := by
  unfold goodB goodH
  cases isNumB b.base <;> cases decide (1 ≤ b.count) <;> cases decide (b.count ≤ 8) <;> cases decide (b.base ≤ 1099511627776 - b.count) <;> cases isNumB b.prod <;> cases isNumB b.seq <;> cases isNumB b.time <;> simp

set_option maxRecDepth 100000 in
set_option maxHeartbeats 2000000 in
theorem R3Good_any (b : Batch) (rv : Value) (w : World) (hr : Rd w 4 rv b.recs.length (recCells b.recs)) :
    Calls Try.prog 25 #[b.v rv] w fun e w' => e = .returned (.bool (goodB b)) ∧ Below w.heap.size w w' := by
  have hparts := goodB_parts b
  have hH : goodH b = true → 0 ≤ b.base ∧ b.base ≤ 1099511627776 ∧ 1 ≤ b.count ∧ b.count ≤ 8 ∧ b.base ≤ 1099511627776 - b.count := by
    intro h
    simp only [goodH, isNumB, Bool.and_eq_true, decide_eq_true_eq] at h
    exact ⟨h.1.1, h.1.2, h.2.1, h.2.2.1, h.2.2.2.1⟩
  obtain ⟨base, count, prod, seq, time, recs⟩ := b
  dsimp only at hr hparts hH
  unfold Batch.v
  obtain ⟨ra, rcap, rfl, hrcap⟩ := hr.shape
  have hcapm : (recs.length : Int) ≤ 9223372036854775807 := by
    have := hr.maxlen
    unfold maxLen at this; omega
  have hcellR : ∀ k (h : k < recs.length), ∃ b off, ra = some ⟨b, off, none⟩ ∧ b < w.heap.size ∧ w.cell? ⟨b, off + k * 4, none⟩ = some (.int .i64 recs[k].off) ∧ w.cell? ⟨b, off + k * 4 + 1, none⟩ = some (.string recs[k].key) ∧
      w.cell? ⟨b, off + k * 4 + 2, none⟩ = some (.string recs[k].val) ∧ w.cell? ⟨b, off + k * 4 + 3, none⟩ = some (.bool recs[k].gone) := by
    intro k hk
    obtain ⟨b, off, cap, e, _, _, hb, hc⟩ := hr.at (by omega)
    simp only [Value.slice.injEq, true_and] at e
    have := recCells_get recs k hk
    exact ⟨b, off, e.1, hb, hc _ _ this.1, hc (k * 4 + 1) _ this.2.1, hc (k * 4 + 2) _ this.2.2.1, hc (k * 4 + 3) _ this.2.2.2⟩
  clear hr
  have HR := Lib.hid (And.intro hcellR (And.intro hparts hH))
  clear hcellR hparts hH
  have hq1 := fun w => R3num_any base w
  have hq2 := fun w => R3num_any prod w
  have hq3 := fun w => R3num_any seq w
  have hq4 := fun w => R3num_any time w
  obtain ⟨g, hg⟩ : ∃ g, goodH ⟨base, count, prod, seq, time, recs⟩ = g := ⟨_, rfl⟩
  have HGH := Lib.hid hg
  unfold goodH at hg
  dsimp only at hg
  generalize isNumB base = b1 at *
  generalize isNumB prod = b2 at *
  generalize isNumB seq = b3 at *
  generalize isNumB time = b4 at *
  have HQ := Lib.hid (And.intro hq1 (And.intro hq2 (And.intro hq3 hq4)))
  have HE := Lib.hid hg
  clear hq1 hq2 hq3 hq4 hg
  go_enter Try.func25, Try.ntmps25
  go_upto_region 1 with fail
  go_cut [52] from 5 to 52 (fun c wx => c = .bool (!g) ∧ wx = w.alloc (.cells #[.int .i64 base, .int .i64 count, .int .i64 prod, .int .i64 seq, .int .i64 time, .slice ra recs.length rcap] 39))
  case first =>
    cases b1
    case false =>
      go_wp2_with (first | (go_at_call 32; first | (with_reducible refine (HQ.out.1 _).mono ?_; rintro e w' ⟨rfl, rfl⟩) | (with_reducible refine (HQ.out.2.1 _).mono ?_; rintro e w' ⟨rfl, rfl⟩) | (with_reducible refine (HQ.out.2.2.1 _).mono ?_; rintro e w' ⟨rfl, rfl⟩) | (with_reducible refine (HQ.out.2.2.2 _).mono ?_; rintro e w' ⟨rfl, rfl⟩)))
      go_meet
      exact ⟨by rw [← HE.out]; rfl, rfl⟩
    by_cases hcount : 1 ≤ count ∧ count ≤ 8 ∧ base ≤ 1099511627776 - count
    case neg =>
      have HN := Lib.hid hcount
      clear hcount
      go_wp2_with (first | (go_at_call 32; first | (with_reducible refine (HQ.out.1 _).mono ?_; rintro e w' ⟨rfl, rfl⟩) | (with_reducible refine (HQ.out.2.1 _).mono ?_; rintro e w' ⟨rfl, rfl⟩) | (with_reducible refine (HQ.out.2.2.1 _).mono ?_; rintro e w' ⟨rfl, rfl⟩) | (with_reducible refine (HQ.out.2.2.2 _).mono ?_; rintro e w' ⟨rfl, rfl⟩)))
      all_goals have hN := HN.out
      all_goals try (exfalso; omega)
      all_goals
        go_meet
        refine ⟨?_, rfl⟩
        rw [← HE.out]
        refine congrArg Value.bool (Eq.symm ?_)
        simp only [Bool.true_and, Bool.not_eq_true', Bool.and_eq_false_iff, decide_eq_false_iff_not]
        omega
    obtain ⟨h1, h2, h3⟩ := hcount
    have h1' : decide (count < 1) = false := by rw [decide_eq_false_iff_not]; omega
    have h2' : decide ((8 : Int) < count) = false := by rw [decide_eq_false_iff_not]; omega
    have hw : wrap64 (1099511627776 - count) = 1099511627776 - count := by rw [← IntWalk.i64_left]; exact IntWalk.i64_in _ (by omega)
    have h3' : decide (1099511627776 - count < base) = false := by rw [decide_eq_false_iff_not]; omega
    have H123 := Lib.hid (And.intro h1 (And.intro h2 h3))
    cases b2
    case false =>
      go_wp2_with (first | (go_at_call 32; first | (with_reducible refine (HQ.out.1 _).mono ?_; rintro e w' ⟨rfl, rfl⟩) | (with_reducible refine (HQ.out.2.1 _).mono ?_; rintro e w' ⟨rfl, rfl⟩) | (with_reducible refine (HQ.out.2.2.1 _).mono ?_; rintro e w' ⟨rfl, rfl⟩) | (with_reducible refine (HQ.out.2.2.2 _).mono ?_; rintro e w' ⟨rfl, rfl⟩)))
      go_meet
      exact ⟨by rw [← HE.out]; simp, rfl⟩
    cases b3
    case false =>
      go_wp2_with (first | (go_at_call 32; first | (with_reducible refine (HQ.out.1 _).mono ?_; rintro e w' ⟨rfl, rfl⟩) | (with_reducible refine (HQ.out.2.1 _).mono ?_; rintro e w' ⟨rfl, rfl⟩) | (with_reducible refine (HQ.out.2.2.1 _).mono ?_; rintro e w' ⟨rfl, rfl⟩) | (with_reducible refine (HQ.out.2.2.2 _).mono ?_; rintro e w' ⟨rfl, rfl⟩)))
      go_meet
      exact ⟨by rw [← HE.out]; simp, rfl⟩
    cases b4
    case false =>
      go_wp2_with (first | (go_at_call 32; first | (with_reducible refine (HQ.out.1 _).mono ?_; rintro e w' ⟨rfl, rfl⟩) | (with_reducible refine (HQ.out.2.1 _).mono ?_; rintro e w' ⟨rfl, rfl⟩) | (with_reducible refine (HQ.out.2.2.1 _).mono ?_; rintro e w' ⟨rfl, rfl⟩) | (with_reducible refine (HQ.out.2.2.2 _).mono ?_; rintro e w' ⟨rfl, rfl⟩)))
      go_meet
      exact ⟨by rw [← HE.out]; simp, rfl⟩
    by_cases h4 : (recs.length : Int) ≤ count
    · have h4' : decide (count < (recs.length : Int)) = false := by rw [decide_eq_false_iff_not]; omega
      have H4 := Lib.hid h4
      clear h4
      go_wp2_with (first | (go_at_call 32; first | (with_reducible refine (HQ.out.1 _).mono ?_; rintro e w' ⟨rfl, rfl⟩) | (with_reducible refine (HQ.out.2.1 _).mono ?_; rintro e w' ⟨rfl, rfl⟩) | (with_reducible refine (HQ.out.2.2.1 _).mono ?_; rintro e w' ⟨rfl, rfl⟩) | (with_reducible refine (HQ.out.2.2.2 _).mono ?_; rintro e w' ⟨rfl, rfl⟩)))
      go_meet
      exact ⟨by rw [← HE.out, decide_eq_true H123.out.1, decide_eq_true H123.out.2.1, decide_eq_true H123.out.2.2, decide_eq_true H4.out]; rfl, rfl⟩
    · have h4' : count < (recs.length : Int) := by omega
      have H4 := Lib.hid h4
      clear h4
      go_wp2_with (first | (go_at_call 32; first | (with_reducible refine (HQ.out.1 _).mono ?_; rintro e w' ⟨rfl, rfl⟩) | (with_reducible refine (HQ.out.2.1 _).mono ?_; rintro e w' ⟨rfl, rfl⟩) | (with_reducible refine (HQ.out.2.2.1 _).mono ?_; rintro e w' ⟨rfl, rfl⟩) | (with_reducible refine (HQ.out.2.2.2 _).mono ?_; rintro e w' ⟨rfl, rfl⟩)))
      go_meet
      exact ⟨by rw [← HE.out, decide_eq_false (by have := H4.out; omega : ¬ (recs.length : Int) ≤ count)]; simp, rfl⟩
  case rest =>
    obtain ⟨rfl, rfl⟩ := hcut
    cases g
    case false =>
      go_wp2
      go_ret
      exact ⟨ret_b (by rw [HR.out.2.1, HGH.out]; rfl), below_alloc w _⟩
    obtain ⟨hb0, hb1, hc1, hc8, hbc⟩ := HR.out.2.2 HGH.out
    have hgood : goodB ⟨base, count, prod, seq, time, recs⟩ = goodRecs (base + count) base recs := by rw [HR.out.2.1, HGH.out]; rfl
    have HGd := Lib.hid hgood
    clear hgood HQ HE
    have hbc' : base + count ≤ 1099511627776 := by omega
    have hw1 : wrap64 (base - 1) = base - 1 := by rw [← IntWalk.i64_left]; exact IntWalk.i64_in _ (by omega)
    have hw2 : IntKind.i64.wrap (base + count) = base + count := IntWalk.i64_in _ (by omega)
    go_wp2
    go_loopg [3, 4] recs.length (fun gk lst i wr => ∃ (k : Nat) (n : Int), k ≤ recs.length ∧ gk = recs.length - k ∧ i = .int .i64 k ∧ lst = .int .i64 (n - 1) ∧ 0 ≤ n ∧ n ≤ 1099511627776 ∧ goodRecs (base + count) base recs = goodRecs (base + count) n (recs.drop k) ∧
      Below (w.heap.size + 1) (w.alloc (.cells #[.int .i64 base, .int .i64 count, .int .i64 prod, .int .i64 seq, .int .i64 time, .slice ra recs.length rcap] 39)) wr)
    case atStart => exact ⟨0, base, Nat.zero_le _, rfl, rfl, rfl, hb0, hb1, rfl, Below.refl _ _⟩
    case round =>
      obtain ⟨k, n, hk, rfl, rfl, rfl, hn0, hn1, hg, hbel0⟩ := hrel
      have HG := Lib.hid hg
      clear hg
      have hsz0 := hbel0.size
      simp only [World.size_alloc] at hsz0
      have hbel : Below w.heap.size w wr := (below_alloc w _).trans (hbel0.mono (by omega))
      have hsz : w.heap.size ≤ wr.heap.size := by omega
      have p0 : wr.cell? ⟨w.heap.size, 0, none⟩ = some (.int .i64 base) := below_some hbel0 (by simp [go_sem]) (by omega)
      have p1 : wr.cell? ⟨w.heap.size, 1, none⟩ = some (.int .i64 count) := below_some hbel0 (by simp [go_sem]) (by omega)
      have p2 : wr.cell? ⟨w.heap.size, 5, none⟩ = some (.slice ra recs.length rcap) := below_some hbel0 (by simp [go_sem]) (by omega)
      by_cases hlt : k < recs.length
      · obtain ⟨b, off, rfl, hb, s0, s1, s2, s3⟩ := HR.out.1 k hlt
        have s0 := below_some hbel s0 hb
        have s1 := below_some hbel s1 hb
        have s2 := below_some hbel s2 hb
        have s3 := below_some hbel s3 hb
        have hbw : b < wr.heap.size := by omega
        have hw0 : w.heap.size < wr.heap.size := by omega
        have e : recs.drop k = recs[k] :: recs.drop (k + 1) := List.drop_eq_getElem_cons hlt
        have HE := Lib.hid e
        clear e
        generalize recs[k] = x at *
        obtain ⟨o, key, val, gone⟩ := x
        dsimp only at s0 s1 s2 s3
        have hF : ∀ w', Below wr.heap.size wr w' → w'.cell? ⟨w.heap.size, 0, none⟩ = some (.int .i64 base) ∧ w'.cell? ⟨w.heap.size, 1, none⟩ = some (.int .i64 count) ∧ w'.cell? ⟨w.heap.size, 5, none⟩ = some (.slice (some ⟨b, off, none⟩) recs.length rcap) ∧
            w'.cell? ⟨b, off + k * 4, none⟩ = some (.int .i64 o) ∧ w'.cell? ⟨b, off + k * 4 + 1, none⟩ = some (.string key) ∧ w'.cell? ⟨b, off + k * 4 + 2, none⟩ = some (.string val) ∧ w'.cell? ⟨b, off + k * 4 + 3, none⟩ = some (.bool gone) :=
          fun w' h => ⟨below_some h p0 hw0, below_some h p1 hw0, below_some h p2 hw0, below_some h s0 hbw, below_some h s1 hbw, below_some h s2 hbw, below_some h s3 hbw⟩
        obtain ⟨ro, hro⟩ : ∃ ro, recOkB ⟨o, key, val, gone⟩ = ro := ⟨_, rfl⟩
        have hcall : ∀ w', Below wr.heap.size wr w' → Calls Try.prog 33 #[.agg #[.int .i64 o, .string key, .string val, .bool gone]] w' fun e w'' => e = .returned (.bool ro) ∧ Below wr.heap.size wr w'' := by
          intro w' h
          have := R3rec_any ⟨o, key, val, gone⟩ w'
          rw [hro] at this
          exact this.mono fun e w'' ⟨h1, h2⟩ => ⟨h1, h.trans (h2.mono h.size)⟩
        have HF := Lib.hid hF
        have HC := Lib.hid hcall
        have HO := Lib.hid hro
        clear hF hcall hro p0 p1 p2 s0 s1 s2 s3
        have i2 : (k : Int) < (recs.length : Int) := by omega
        have i3 : (0 : Int) ≤ (k : Int) := by omega
        obtain ⟨p0, p1, p2, s0, s1, s2, s3⟩ := HF.out wr (Below.refl _ _)
        cases ro
        case false =>
          go_wp2
          refine wp_region_below wr.heap.size (by kernel_rfl) (by kernel_rfl) ?_
          iterate 31 (first
            | go_big_quiet_skip
            | (go_big_quiet_want; rename_i K hK
               unfold Oper.quiet
               apply Exists.intro
               refine ⟨fun w' hw' => ?_, hK _ ?_⟩
               · obtain ⟨q0, q1, q2, r0, r1, r2, r3⟩ := HF.out w' hw'
                 unfold Oper.quietAt
                 go_simp
                 first
                   | with_reducible rfl
                   | with_reducible exact HC.out w' hw'
               clear hK K
               simp only [Act.put, List.setIfInBounds_toArray, List.set_cons_zero, List.set_cons_succ]))
          refine wpQuiet_nil ?_
          intro w2 hw2
          have hfin : Below w.heap.size w w2 := hbel.trans (hw2.mono hsz)
          obtain ⟨q0, q1, q2, r0, r1, r2, r3⟩ := HF.out w2 hw2
          go_wp2
          go_ret
          exact ⟨ret_b (by rw [HGd.out, HG.out, HE.out]; simp only [goodRecs, HO.out, Bool.false_and]), hfin⟩
        by_cases ho1 : n ≤ o
        case neg =>
          have k1 : o ≤ n - 1 := by omega
          have H1 := Lib.hid ho1
          clear ho1
          go_wp2
          refine wp_region_below wr.heap.size (by kernel_rfl) (by kernel_rfl) ?_
          iterate 31 (first
            | go_big_quiet_skip
            | (go_big_quiet_want; rename_i K hK
               unfold Oper.quiet
               apply Exists.intro
               refine ⟨fun w' hw' => ?_, hK _ ?_⟩
               · obtain ⟨q0, q1, q2, r0, r1, r2, r3⟩ := HF.out w' hw'
                 unfold Oper.quietAt
                 go_simp
                 first
                   | with_reducible rfl
                   | with_reducible exact HC.out w' hw'
               clear hK K
               simp only [Act.put, List.setIfInBounds_toArray, List.set_cons_zero, List.set_cons_succ]))
          refine wpQuiet_nil ?_
          intro w2 hw2
          have hfin : Below w.heap.size w w2 := hbel.trans (hw2.mono hsz)
          obtain ⟨q0, q1, q2, r0, r1, r2, r3⟩ := HF.out w2 hw2
          go_wp2
          go_ret
          exact ⟨ret_b (by rw [HGd.out, HG.out, HE.out]; simp only [goodRecs, HO.out, Bool.true_and]; rw [decide_eq_false (by have := H1.out; omega : ¬ n ≤ o)]; rfl), hfin⟩
        have k1 : decide (o ≤ n - 1) = false := by rw [decide_eq_false_iff_not]; omega
        by_cases ho2 : o < base + count
        case neg =>
          have k2 : base + count ≤ o := by omega
          have H1 := Lib.hid ho2
          clear ho2
          go_wp2
          refine wp_region_below wr.heap.size (by kernel_rfl) (by kernel_rfl) ?_
          iterate 31 (first
            | go_big_quiet_skip
            | (go_big_quiet_want; rename_i K hK
               unfold Oper.quiet
               apply Exists.intro
               refine ⟨fun w' hw' => ?_, hK _ ?_⟩
               · obtain ⟨q0, q1, q2, r0, r1, r2, r3⟩ := HF.out w' hw'
                 unfold Oper.quietAt
                 go_simp
                 first
                   | with_reducible rfl
                   | with_reducible exact HC.out w' hw'
               clear hK K
               simp only [Act.put, List.setIfInBounds_toArray, List.set_cons_zero, List.set_cons_succ]))
          refine wpQuiet_nil ?_
          intro w2 hw2
          have hfin : Below w.heap.size w w2 := hbel.trans (hw2.mono hsz)
          obtain ⟨q0, q1, q2, r0, r1, r2, r3⟩ := HF.out w2 hw2
          go_wp2
          go_ret
          exact ⟨ret_b (by rw [HGd.out, HG.out, HE.out]; simp only [goodRecs, HO.out, Bool.true_and]; rw [decide_eq_false (by have := H1.out; omega : ¬ o < base + count)]; simp), hfin⟩
        have k2 : decide (base + count ≤ o) = false := by rw [decide_eq_false_iff_not]; omega
        have H1 := Lib.hid (And.intro ho1 ho2)
        have hfin0 := hbel0.mono (Nat.le_refl (w.heap.size + 1))
        clear ho1 ho2
        go_wp2
        refine wp_region_below wr.heap.size (by kernel_rfl) (by kernel_rfl) ?_
        iterate 31 (first
          | go_big_quiet_skip
          | (go_big_quiet_want; rename_i K hK
             unfold Oper.quiet
             apply Exists.intro
             refine ⟨fun w' hw' => ?_, hK _ ?_⟩
             · obtain ⟨q0, q1, q2, r0, r1, r2, r3⟩ := HF.out w' hw'
               unfold Oper.quietAt
               go_simp
               first
                 | with_reducible rfl
                 | with_reducible exact HC.out w' hw'
             clear hK K
             simp only [Act.put, List.setIfInBounds_toArray, List.set_cons_zero, List.set_cons_succ]))
        refine wpQuiet_nil ?_
        intro w2 hw2
        have hfin : Below w.heap.size w w2 := hbel.trans (hw2.mono hsz)
        obtain ⟨q0, q1, q2, r0, r1, r2, r3⟩ := HF.out w2 hw2
        go_wp2
        have hg2 : goodRecs (base + count) base recs = goodRecs (base + count) (o + 1) (recs.drop (k + 1)) := by
          rw [HG.out, HE.out]
          simp only [goodRecs, HO.out, Bool.true_and]
          rw [decide_eq_true H1.out.1, decide_eq_true H1.out.2]; simp
        have HG2 := Lib.hid hg2
        have H2 := Lib.hid (hbel0.trans (hw2.mono (by omega)))
        clear hg2
        go_roundg (recs.length - (k + 1))
        case measure => omega
        case rel => exact ⟨k + 1, o + 1, by omega, rfl, by go_num, by rw [Int.add_sub_cancel], by have := H1.out; omega, by have := H1.out; omega, HG2.out, H2.out⟩
      · have i2 : ¬ (k : Int) < (recs.length : Int) := by omega
        have e : recs.drop k = [] := List.drop_eq_nil_of_le (by omega)
        have HE := Lib.hid e
        clear e
        go_wp2
        go_ret
        exact ⟨ret_b (by rw [HGd.out, HG.out, HE.out]; rfl), hbel⟩
end Go.Proofs.Ytcgjhifcocmdaaa
