/- The walk of ledger.isTable. -/
import Derived.Test.YtjkobbmdemooaaaGreatDoorLedR
import Derived.Test.YtjkobbmdemooaaaGreatDoorLedT
namespace Go.Proofs.YtjkobbmdemooaaaGreatDoor
open Go.RowKit

def seenB (pre : Option Int) (x : Int × List Slot) : Bool :=
  isNumB x.1 && (match pre with | none => true | some y => decide (y < x.1)) && isRowB x.2

def preT (T : List (Int × List Slot)) (k : Nat) : Option Int := if k = 0 then none else (T[k - 1]?).map (·.1)

def isTableB (T : List (Int × List Slot)) : Bool := decide (∀ k (h : k < T.length), seenB (preT T k) T[k] = true) && decide (T.length ≤ 64)

theorem isTableB_false {T : List (Int × List Slot)} {k : Nat} (hk : k < T.length) (h : seenB (preT T k) T[k] = false) : isTableB T = false := by
  unfold isTableB
  have : decide (∀ k (h : k < T.length), seenB (preT T k) T[k] = true) = false := by
    rw [decide_eq_false_iff_not]; intro h2; rw [h2 k hk] at h; cases h
  rw [this]; rfl

theorem seen_succ {T : List (Int × List Slot)} {k : Nat} (h : ∀ j (_ : j < T.length), j < k → seenB (preT T j) T[j] = true) (hk : k < T.length) (hx : seenB (preT T k) T[k] = true) :
    ∀ j (_ : j < T.length), j < k + 1 → seenB (preT T j) T[j] = true := by
  intro j hj h1
  by_cases e : j = k
  · subst e; exact hx
  · exact h j hj (by omega)

theorem isTableB_end {T : List (Int × List Slot)} (h : ∀ j (_ : j < T.length), seenB (preT T j) T[j] = true) : isTableB T = decide (T.length ≤ 64) := by
  unfold isTableB
  rw [decide_eq_true (p := ∀ k (h : k < T.length), seenB (preT T k) T[k] = true) h]; rfl

/-- A region that draws its order, whose operations leave all below N alone. -/
theorem wp_region_below {P : Program} {id : Nat} {Q : Exit → Act → World → Prop} {a : Act} {w : World} {l : List Oper} (N : Nat) (hm : P.follows .mixedOrders = true) (hB : Region.lexB .any l.toArray = true)
    (h : wpQuiet P l.toArray (fun w' => Below N w w') (fun a' => ∀ w', Below N w w' → Q .normal a' w') l a) : (Code.region id l.toArray true).wp P Q a w :=
  wp_region_quiet (C := fun w' => Below N w w') hm hB (Below.refl _ _).drew (by simpa using h)

theorem wpQuiet_val {P : Program} {ops : Array Oper} {C : World → Prop} {Q : Act → Prop} {a : Act} {o : Oper} {rest : List Oper} {v : Value} (hw : Region.wanted o (yielded ops a.tmps) = true)
    (h1 : ∀ w, C w → o.quietAt P a C w v) (h2 : wpQuiet P ops C Q rest (a.put o.dst v)) : wpQuiet P ops C Q (o :: rest) a :=
  BigFrame.wpQuiet_want hw fun _ hK => ⟨v, h1, hK _ h2⟩

set_option maxRecDepth 100000 in
set_option maxHeartbeats 2000000 in
theorem LedisTable_any {w : World} {v : Value} {T : List (Int × List Slot)} (h : SeensRd w v T) :
    Calls Tryz.prog 66 #[v] w fun e w' => e = .returned (.bool (isTableB T)) ∧ Below w.heap.size w w' := by
  obtain ⟨a, cap, rfl, hml, hC⟩ := h.cells
  have hml : (T.length : Int) ≤ 9223372036854775807 := by
    unfold maxLen at hml; omega
  have HC := Lib.hid hC
  clear h hC
  go_enter Tryz.func66, Tryz.ntmps66
  go_wp2
  go_loopw [7] (fun i wr => ∃ k : Nat, k ≤ T.length ∧ i = .int .i64 k ∧ (∀ j (_ : j < T.length), j < k → seenB (preT T j) T[j] = true) ∧ Below w.heap.size w wr) (fun i _ => T.length - (intOf i).toNat)
  case atStart => exact ⟨0, Nat.zero_le _, rfl, fun j _ h => absurd h (Nat.not_lt_zero j), Below.refl _ _⟩
  case round =>
    obtain ⟨k, hk, rfl, hall, hbel⟩ := hrel
    have HA := Lib.hid hall
    clear hall
    have hsz := hbel.size
    by_cases hlt : k < T.length
    · obtain ⟨b, off, sa, sc, rfl, hb, c0, c1, hsl⟩ := HC.out k hlt
      have c0 := below_some hbel c0 hb
      have c1 := below_some hbel c1 hb
      have hbw : b < wr.heap.size := by omega
      rcases Nat.eq_zero_or_pos k with hk0 | hk0
      · have hp : preT T k = none := by simp [preT, hk0]
        have hd : decide ((0 : Int) < (k : Int)) = false := by simp; omega
        have hdn : decide (0 < k) = false := by simp; omega
        have hS : seenB (preT T k) T[k] = (isNumB T[k].1 && isRowB T[k].2) := by rw [hp]; simp [seenB]
        have HS := Lib.hid hS
        have HK := Lib.hid hk0
        clear hS hp hk0
        generalize hxp : T[k].1 = p at *
        generalize hxl : T[k].2 = l at *
        clear hxp hxl
        have hbx : Below w.heap.size w (wr.alloc (.cells #[.int .i64 p, .slice sa l.length sc] 105)) := hbel.alloc hsz _
        have hrow : ∀ w', Below (wr.heap.size + 1) (wr.alloc (.cells #[.int .i64 p, .slice sa l.length sc] 105)) w' → Calls Tryz.prog 94 #[.slice sa l.length sc] w' fun e w'' => e = .returned (.bool (isRowB l)) ∧ Below (wr.heap.size + 1) (wr.alloc (.cells #[.int .i64 p, .slice sa l.length sc] 105)) w'' := by
          intro w' hb'
          have h1 : Below wr.heap.size wr w' := (below_alloc wr _).trans (hb'.mono (by omega))
          exact (LedisRow_any (hsl.below (hbel.trans (h1.mono hsz)))).mono fun e w'' ⟨h1, h2⟩ => ⟨h1, hb'.trans (h2.mono (by have := hb'.size; simpa using this))⟩
        have hq : ∀ w', Below (wr.heap.size + 1) (wr.alloc (.cells #[.int .i64 p, .slice sa l.length sc] 105)) w' → Calls Tryz.prog 74 #[.int .i64 p] w' fun e w'' => e = .returned (.bool (isNumB p)) ∧ Below (wr.heap.size + 1) (wr.alloc (.cells #[.int .i64 p, .slice sa l.length sc] 105)) w'' := by
          intro w' hb'
          exact (LedisNum_q p w').mono fun e w'' ⟨h1, h2⟩ => ⟨h1, by rw [h2]; exact hb'⟩
        have hF : ∀ w', Below (wr.heap.size + 1) (wr.alloc (.cells #[.int .i64 p, .slice sa l.length sc] 105)) w' → w'.cell? ⟨wr.heap.size, 0, none⟩ = some (.int .i64 p) ∧ w'.cell? ⟨wr.heap.size, 1, none⟩ = some (.slice sa l.length sc) ∧ True := by
          intro w' hb'
          exact ⟨below_some hb' (by simp [go_sem]) (by omega), below_some hb' (by simp [go_sem]) (by omega), trivial⟩
        have HF := Lib.hid hF
        clear hF
        generalize isNumB p = b1 at *
        generalize isRowB l = b2 at *
        have HQ := Lib.hid hq
        have HR := Lib.hid hrow
        clear hrow hsl hq
        cases b1
        · skip
          go_wp2
          refine wp_region_below (wr.heap.size + 1) (by kernel_rfl) (by kernel_rfl) ?_
          iterate 25 (first
            | go_big_quiet_skip
            | (go_big_quiet_want; rename_i K hK
               unfold Oper.quiet
               apply Exists.intro
               refine ⟨fun w' hw' => ?_, hK _ ?_⟩
               · obtain ⟨k0, k1, k2⟩ := HF.out w' hw'
                 unfold Oper.quietAt
                 go_simp
                 first
                   | with_reducible rfl
                   | with_reducible exact HQ.out w' hw'
                   | with_reducible exact HR.out w' hw'
               clear hK K
               simp only [Act.put, List.setIfInBounds_toArray, List.set_cons_zero, List.set_cons_succ]))
          refine wpQuiet_nil ?_
          intro w2 hw2
          have hfin : Below w.heap.size w w2 := hbx.trans (hw2.mono (by omega))
          go_wp2
          go_ret
          exact ⟨ret_b (Eq.symm (isTableB_false hlt (by rw [HS.out]; rfl))), hfin⟩
        · cases b2
          · skip
            go_wp2
            refine wp_region_below (wr.heap.size + 1) (by kernel_rfl) (by kernel_rfl) ?_
            iterate 25 (first
              | go_big_quiet_skip
              | (go_big_quiet_want; rename_i K hK
                 unfold Oper.quiet
                 apply Exists.intro
                 refine ⟨fun w' hw' => ?_, hK _ ?_⟩
                 · obtain ⟨k0, k1, k2⟩ := HF.out w' hw'
                   unfold Oper.quietAt
                   go_simp
                   first
                     | with_reducible rfl
                     | with_reducible exact HQ.out w' hw'
                     | with_reducible exact HR.out w' hw'
                 clear hK K
                 simp only [Act.put, List.setIfInBounds_toArray, List.set_cons_zero, List.set_cons_succ]))
            refine wpQuiet_nil ?_
            intro w2 hw2
            have hfin : Below w.heap.size w w2 := hbx.trans (hw2.mono (by omega))
            go_wp2
            go_ret
            exact ⟨ret_b (Eq.symm (isTableB_false hlt (by rw [HS.out]; rfl))), hfin⟩
          · skip
            go_wp2
            refine wp_region_below (wr.heap.size + 1) (by kernel_rfl) (by kernel_rfl) ?_
            iterate 25 (first
              | go_big_quiet_skip
              | (go_big_quiet_want; rename_i K hK
                 unfold Oper.quiet
                 apply Exists.intro
                 refine ⟨fun w' hw' => ?_, hK _ ?_⟩
                 · obtain ⟨k0, k1, k2⟩ := HF.out w' hw'
                   unfold Oper.quietAt
                   go_simp
                   first
                     | with_reducible rfl
                     | with_reducible exact HQ.out w' hw'
                     | with_reducible exact HR.out w' hw'
                 clear hK K
                 simp only [Act.put, List.setIfInBounds_toArray, List.set_cons_zero, List.set_cons_succ]))
            refine wpQuiet_nil ?_
            intro w2 hw2
            have hfin : Below w.heap.size w w2 := hbx.trans (hw2.mono (by omega))
            go_wp2
            go_roundw
            case rel => exact ⟨k + 1, by omega, by go_num, seen_succ HA.out hlt (by rw [HS.out]; rfl), hfin⟩
            case measure => simp [intOf]; omega
      · obtain ⟨j, hj⟩ : ∃ j, j + 1 = k := ⟨k - 1, by omega⟩
        have hjl : j < T.length := by omega
        obtain ⟨b', off', sa', sc', e, -, d0, -, -⟩ := HC.out j hjl
        simp only [Option.some.injEq, Addr.mk.injEq, and_true] at e
        obtain ⟨rfl, rfl⟩ := e
        have d0 := below_some hbel d0 hb
        have hp : preT T k = some T[j].1 := by
          subst hj; simp [preT, List.getElem?_eq_getElem hjl]
        have hd : (0 : Int) < (k : Int) := by omega
        have hdn : 0 < k := hk0
        have hS : seenB (preT T k) T[k] = (isNumB T[k].1 && decide (T[j].1 < T[k].1) && isRowB T[k].2) := by rw [hp]; rfl
        have hwrap : IntKind.i64.wrap ((k : Int) - 1) = (j : Int) := by rw [IntWalk.i64_in _ (by omega)]; omega
        have hji : (j : Int) < (T.length : Int) := by omega
        have hj0 : (0 : Int) ≤ (j : Int) := by omega
        have HS := Lib.hid hS
        have HJ := Lib.hid hj
        clear hS hp hj hk0
        generalize hys : T[j].1 = pp at *
        clear hys
        generalize hxp : T[k].1 = p at *
        generalize hxl : T[k].2 = l at *
        clear hxp hxl
        have hbx : Below w.heap.size w (wr.alloc (.cells #[.int .i64 p, .slice sa l.length sc] 105)) := hbel.alloc hsz _
        have hrow : ∀ w', Below (wr.heap.size + 1) (wr.alloc (.cells #[.int .i64 p, .slice sa l.length sc] 105)) w' → Calls Tryz.prog 94 #[.slice sa l.length sc] w' fun e w'' => e = .returned (.bool (isRowB l)) ∧ Below (wr.heap.size + 1) (wr.alloc (.cells #[.int .i64 p, .slice sa l.length sc] 105)) w'' := by
          intro w' hb'
          have h1 : Below wr.heap.size wr w' := (below_alloc wr _).trans (hb'.mono (by omega))
          exact (LedisRow_any (hsl.below (hbel.trans (h1.mono hsz)))).mono fun e w'' ⟨h1, h2⟩ => ⟨h1, hb'.trans (h2.mono (by have := hb'.size; simpa using this))⟩
        have hq : ∀ w', Below (wr.heap.size + 1) (wr.alloc (.cells #[.int .i64 p, .slice sa l.length sc] 105)) w' → Calls Tryz.prog 74 #[.int .i64 p] w' fun e w'' => e = .returned (.bool (isNumB p)) ∧ Below (wr.heap.size + 1) (wr.alloc (.cells #[.int .i64 p, .slice sa l.length sc] 105)) w'' := by
          intro w' hb'
          exact (LedisNum_q p w').mono fun e w'' ⟨h1, h2⟩ => ⟨h1, by rw [h2]; exact hb'⟩
        have hF : ∀ w', Below (wr.heap.size + 1) (wr.alloc (.cells #[.int .i64 p, .slice sa l.length sc] 105)) w' → w'.cell? ⟨wr.heap.size, 0, none⟩ = some (.int .i64 p) ∧ w'.cell? ⟨wr.heap.size, 1, none⟩ = some (.slice sa l.length sc) ∧ w'.cell? ⟨b, off + j * 2, none⟩ = some (.int .i64 pp) := by
          intro w' hb'
          exact ⟨below_some hb' (by simp [go_sem]) (by omega), below_some hb' (by simp [go_sem]) (by omega), below_some hb' (below_some (below_alloc wr _) d0 hbw) (by omega)⟩
        have HF := Lib.hid hF
        clear hF
        generalize isNumB p = b1 at *
        generalize isRowB l = b2 at *
        have HQ := Lib.hid hq
        have HR := Lib.hid hrow
        clear hrow hsl hq
        by_cases hpp : pp < p
        · have hpd : decide (p ≤ pp) = false := by simp; omega
          cases b1
          · skip
            go_wp2
            refine wp_region_below (wr.heap.size + 1) (by kernel_rfl) (by kernel_rfl) ?_
            iterate 25 (first
              | go_big_quiet_skip
              | (go_big_quiet_want; rename_i K hK
                 unfold Oper.quiet
                 apply Exists.intro
                 refine ⟨fun w' hw' => ?_, hK _ ?_⟩
                 · obtain ⟨k0, k1, k2⟩ := HF.out w' hw'
                   unfold Oper.quietAt
                   go_simp
                   first
                     | with_reducible rfl
                     | with_reducible exact HQ.out w' hw'
                     | with_reducible exact HR.out w' hw'
                 clear hK K
                 simp only [Act.put, List.setIfInBounds_toArray, List.set_cons_zero, List.set_cons_succ]))
            refine wpQuiet_nil ?_
            intro w2 hw2
            have hfin : Below w.heap.size w w2 := hbx.trans (hw2.mono (by omega))
            go_wp2
            go_ret
            exact ⟨ret_b (Eq.symm (isTableB_false hlt (by rw [HS.out]; rfl))), hfin⟩
          · cases b2
            · skip
              go_wp2
              refine wp_region_below (wr.heap.size + 1) (by kernel_rfl) (by kernel_rfl) ?_
              iterate 25 (first
                | go_big_quiet_skip
                | (go_big_quiet_want; rename_i K hK
                   unfold Oper.quiet
                   apply Exists.intro
                   refine ⟨fun w' hw' => ?_, hK _ ?_⟩
                   · obtain ⟨k0, k1, k2⟩ := HF.out w' hw'
                     unfold Oper.quietAt
                     go_simp
                     first
                       | with_reducible rfl
                       | with_reducible exact HQ.out w' hw'
                       | with_reducible exact HR.out w' hw'
                   clear hK K
                   simp only [Act.put, List.setIfInBounds_toArray, List.set_cons_zero, List.set_cons_succ]))
              refine wpQuiet_nil ?_
              intro w2 hw2
              have hfin : Below w.heap.size w w2 := hbx.trans (hw2.mono (by omega))
              go_wp2
              go_ret
              exact ⟨ret_b (Eq.symm (isTableB_false hlt (by rw [HS.out]; simp))), hfin⟩
            · skip
              go_wp2
              refine wp_region_below (wr.heap.size + 1) (by kernel_rfl) (by kernel_rfl) ?_
              iterate 25 (first
                | go_big_quiet_skip
                | (go_big_quiet_want; rename_i K hK
                   unfold Oper.quiet
                   apply Exists.intro
                   refine ⟨fun w' hw' => ?_, hK _ ?_⟩
                   · obtain ⟨k0, k1, k2⟩ := HF.out w' hw'
                     unfold Oper.quietAt
                     go_simp
                     first
                       | with_reducible rfl
                       | with_reducible exact HQ.out w' hw'
                       | with_reducible exact HR.out w' hw'
                   clear hK K
                   simp only [Act.put, List.setIfInBounds_toArray, List.set_cons_zero, List.set_cons_succ]))
              refine wpQuiet_nil ?_
              intro w2 hw2
              have hfin : Below w.heap.size w w2 := hbx.trans (hw2.mono (by omega))
              go_wp2
              go_roundw
              case rel => exact ⟨k + 1, by omega, by go_num, seen_succ HA.out hlt (by rw [HS.out]; simp [hpp]), hfin⟩
              case measure => simp [intOf]; omega
        · have hpd : p ≤ pp := by omega
          cases b1
          · skip
            go_wp2
            refine wp_region_below (wr.heap.size + 1) (by kernel_rfl) (by kernel_rfl) ?_
            iterate 25 (first
              | go_big_quiet_skip
              | (go_big_quiet_want; rename_i K hK
                 unfold Oper.quiet
                 apply Exists.intro
                 refine ⟨fun w' hw' => ?_, hK _ ?_⟩
                 · obtain ⟨k0, k1, k2⟩ := HF.out w' hw'
                   unfold Oper.quietAt
                   go_simp
                   first
                     | with_reducible rfl
                     | with_reducible exact HQ.out w' hw'
                     | with_reducible exact HR.out w' hw'
                 clear hK K
                 simp only [Act.put, List.setIfInBounds_toArray, List.set_cons_zero, List.set_cons_succ]))
            refine wpQuiet_nil ?_
            intro w2 hw2
            have hfin : Below w.heap.size w w2 := hbx.trans (hw2.mono (by omega))
            go_wp2
            go_ret
            exact ⟨ret_b (Eq.symm (isTableB_false hlt (by rw [HS.out]; rfl))), hfin⟩
          · skip
            go_wp2
            refine wp_region_below (wr.heap.size + 1) (by kernel_rfl) (by kernel_rfl) ?_
            iterate 25 (first
              | go_big_quiet_skip
              | (go_big_quiet_want; rename_i K hK
                 unfold Oper.quiet
                 apply Exists.intro
                 refine ⟨fun w' hw' => ?_, hK _ ?_⟩
                 · obtain ⟨k0, k1, k2⟩ := HF.out w' hw'
                   unfold Oper.quietAt
                   go_simp
                   first
                     | with_reducible rfl
                     | with_reducible exact HQ.out w' hw'
                     | with_reducible exact HR.out w' hw'
                 clear hK K
                 simp only [Act.put, List.setIfInBounds_toArray, List.set_cons_zero, List.set_cons_succ]))
            refine wpQuiet_nil ?_
            intro w2 hw2
            have hfin : Below w.heap.size w w2 := hbx.trans (hw2.mono (by omega))
            go_wp2
            go_ret
            exact ⟨ret_b (Eq.symm (isTableB_false hlt (by rw [HS.out]; simp; omega))), hfin⟩
    · have hlt' : decide ((k : Int) < (T.length : Int)) = false := by simp; omega
      have hke : k = T.length := by omega
      have HE := Lib.hid hke
      clear hke
      by_cases h5 : T.length ≤ 64
      · have h5i : (T.length : Int) ≤ 64 := by omega
        go_wp2
        go_ret
        exact ⟨ret_b (by rw [isTableB_end (fun j hj => HA.out j hj (by have := HE.out; omega))]; simp [h5]), hbel⟩
      · have h5i : decide ((T.length : Int) ≤ 64) = false := by simp; omega
        go_wp2
        go_ret
        exact ⟨ret_b (by rw [isTableB_end (fun j hj => HA.out j hj (by have := HE.out; omega))]; simp [h5]), hbel⟩
end Go.Proofs.YtjkobbmdemooaaaGreatDoor
