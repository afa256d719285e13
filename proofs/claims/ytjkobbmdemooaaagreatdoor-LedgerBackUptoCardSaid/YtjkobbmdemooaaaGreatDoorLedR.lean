/- The walks of ledger.isRow, isTable, From. -/
import Derived.Test.YtjkobbmdemooaaaGreatDoorLedW3
namespace Go.Proofs.YtjkobbmdemooaaaGreatDoor
open Go.RowKit

def slotB (pre : Option Slot) (x : Slot) : Bool :=
  isNumB x.seq && isNumB x.base && isNumB x.fin && decide (x.base < x.fin) && (match pre with | none => true | some y => decide (x.seq = y.seq + 1) && decide (y.fin ≤ x.base))

def preOf (l : List Slot) (k : Nat) : Option Slot := if k = 0 then none else l[k - 1]?

def isRowB (l : List Slot) : Bool := decide (∀ k (h : k < l.length), slotB (preOf l k) l[k] = true) && decide (1 ≤ l.length) && decide (l.length ≤ 5)

theorem isRowB_false {l : List Slot} {k : Nat} (hk : k < l.length) (h : slotB (preOf l k) l[k] = false) : isRowB l = false := by
  unfold isRowB
  have : decide (∀ k (h : k < l.length), slotB (preOf l k) l[k] = true) = false := by
    rw [decide_eq_false_iff_not]; intro h2; rw [h2 k hk] at h; cases h
  rw [this]; rfl

theorem all_succ {l : List Slot} {k : Nat} (h : ∀ j (_ : j < l.length), j < k → slotB (preOf l j) l[j] = true) (hk : k < l.length) (hx : slotB (preOf l k) l[k] = true) :
    ∀ j (_ : j < l.length), j < k + 1 → slotB (preOf l j) l[j] = true := by
  intro j hj h1
  by_cases e : j = k
  · subst e; exact hx
  · exact h j hj (by omega)

theorem isRowB_end {l : List Slot} (h : ∀ j (_ : j < l.length), slotB (preOf l j) l[j] = true) : isRowB l = (decide (1 ≤ l.length) && decide (l.length ≤ 5)) := by
  unfold isRowB
  rw [decide_eq_true (p := ∀ k (h : k < l.length), slotB (preOf l k) l[k] = true) h]; rfl

theorem LedisNum_q (n : Int) (w : World) : Calls Tryz.prog 74 #[.int .i64 n] w fun e w' => e = .returned (.bool (isNumB n)) ∧ w' = w :=
  (LedisNum_any n w).mono fun _ _ ⟨h1, h2⟩ => ⟨h1, h2.symm⟩

set_option maxRecDepth 100000 in
set_option maxHeartbeats 2000000 in
theorem LedisRow_any {w : World} {v : Value} {l : List Slot} (h : SlotsRd w v l) :
    Calls Tryz.prog 94 #[v] w fun e w' => e = .returned (.bool (isRowB l)) ∧ Below w.heap.size w w' := by
  have hml : (l.length : Int) ≤ 9223372036854775807 := by
    have := Rd.maxlen h
    unfold maxLen at this; omega
  have hsh := Rd.shape h
  obtain ⟨a, cap, rfl, -⟩ := hsh
  have HC := Lib.hid h.cells
  clear h
  go_enter Tryz.func94, Tryz.ntmps94
  go_wp2
  go_loopw [7] (fun i wr => ∃ k : Nat, k ≤ l.length ∧ i = .int .i64 k ∧ (∀ j (_ : j < l.length), j < k → slotB (preOf l j) l[j] = true) ∧ Below w.heap.size w wr) (fun i _ => l.length - (intOf i).toNat)
  case atStart => exact ⟨0, Nat.zero_le _, rfl, fun j _ h => absurd h (Nat.not_lt_zero j), Below.refl _ _⟩
  case round =>
    obtain ⟨k, hk, rfl, hall, hbel⟩ := hrel
    have HA := Lib.hid hall
    clear hall
    have hsz := hbel.size
    by_cases hlt : k < l.length
    · obtain ⟨b, off, rfl, hb, c0, c1, c2⟩ := HC.out k hlt
      have c0 := below_some hbel c0 hb
      have c1 := below_some hbel c1 hb
      have c2 := below_some hbel c2 hb
      have hbw : b < wr.heap.size := by omega
      rcases Nat.eq_zero_or_pos k with hk0 | hk0
      · have hp : preOf l k = none := by simp [preOf, hk0]
        have hd : decide ((0 : Int) < (k : Int)) = false := by simp; omega
        have hdn : decide (0 < k) = false := by simp; omega
        have hS : slotB (preOf l k) l[k] = (isNumB l[k].seq && isNumB l[k].base && isNumB l[k].fin && decide (l[k].base < l[k].fin)) := by rw [hp]; simp [slotB]
        have HS := Lib.hid hS
        have HK := Lib.hid hk0
        clear hS hp hk0
        generalize hxs : l[k].seq = sq at *
        generalize hxb : l[k].base = bs at *
        generalize hxf : l[k].fin = fn at *
        clear hxs hxb hxf
        have hq1 := fun w => LedisNum_q sq w
        have hq2 := fun w => LedisNum_q bs w
        have hq3 := fun w => LedisNum_q fn w
        generalize isNumB sq = b1 at *
        generalize isNumB bs = b2 at *
        generalize isNumB fn = b3 at *
        have hbx : Below w.heap.size w (wr.alloc (.cells #[.int .i64 sq, .int .i64 bs, .int .i64 fn] 69)) := hbel.alloc hsz _
        by_cases hbf : bs < fn
        · have hbf' : decide (fn ≤ bs) = false := by simp; omega
          cases b1
          · go_wp2
            go_quiet ((go_at_call 74; with_reducible exact Calls.quiet_of_same (hq1 _)))
            go_wp2
            go_ret
            exact ⟨ret_b (Eq.symm (isRowB_false hlt (by rw [HS.out]; rfl))), (below_drewN hbx _)⟩
          · cases b2
            · go_wp2
              go_quiet ((go_at_call 74; first | with_reducible exact Calls.quiet_of_same (hq1 _) | with_reducible exact Calls.quiet_of_same (hq2 _)))
              go_wp2
              go_ret
              exact ⟨ret_b (Eq.symm (isRowB_false hlt (by rw [HS.out]; rfl))), (below_drewN hbx _)⟩
            · cases b3
              · go_wp2
                go_quiet ((go_at_call 74; first | with_reducible exact Calls.quiet_of_same (hq1 _) | with_reducible exact Calls.quiet_of_same (hq2 _) | with_reducible exact Calls.quiet_of_same (hq3 _)))
                go_wp2
                go_ret
                exact ⟨ret_b (Eq.symm (isRowB_false hlt (by rw [HS.out]; rfl))), (below_drewN hbx _)⟩
              · go_wp2
                go_quiet ((go_at_call 74; first | with_reducible exact Calls.quiet_of_same (hq1 _) | with_reducible exact Calls.quiet_of_same (hq2 _) | with_reducible exact Calls.quiet_of_same (hq3 _)))
                go_wp2
                go_roundw
                case rel => exact ⟨k + 1, by omega, by go_num, all_succ HA.out hlt (by rw [HS.out]; simp [hbf]), (below_drewN hbx _)⟩
                case measure => simp [intOf]; omega
        · cases b1
          · go_wp2
            go_quiet ((go_at_call 74; with_reducible exact Calls.quiet_of_same (hq1 _)))
            go_wp2
            go_ret
            exact ⟨ret_b (Eq.symm (isRowB_false hlt (by rw [HS.out]; rfl))), (below_drewN hbx _)⟩
          · cases b2
            · go_wp2
              go_quiet ((go_at_call 74; first | with_reducible exact Calls.quiet_of_same (hq1 _) | with_reducible exact Calls.quiet_of_same (hq2 _)))
              go_wp2
              go_ret
              exact ⟨ret_b (Eq.symm (isRowB_false hlt (by rw [HS.out]; rfl))), (below_drewN hbx _)⟩
            · cases b3
              · go_wp2
                go_quiet ((go_at_call 74; first | with_reducible exact Calls.quiet_of_same (hq1 _) | with_reducible exact Calls.quiet_of_same (hq2 _) | with_reducible exact Calls.quiet_of_same (hq3 _)))
                go_wp2
                go_ret
                exact ⟨ret_b (Eq.symm (isRowB_false hlt (by rw [HS.out]; rfl))), (below_drewN hbx _)⟩
              · have hbf' : decide (fn ≤ bs) = true := by simp; omega
                go_wp2
                go_quiet ((go_at_call 74; first | with_reducible exact Calls.quiet_of_same (hq1 _) | with_reducible exact Calls.quiet_of_same (hq2 _) | with_reducible exact Calls.quiet_of_same (hq3 _)))
                go_wp2
                go_ret
                exact ⟨ret_b (Eq.symm (isRowB_false hlt (by rw [HS.out]; simp [hbf]))), (below_drewN hbx _)⟩
      · obtain ⟨j, hj⟩ : ∃ j, j + 1 = k := ⟨k - 1, by omega⟩
        have hjl : j < l.length := by omega
        obtain ⟨b', off', e, -, d0, d1, d2⟩ := HC.out j hjl
        simp only [Option.some.injEq, Addr.mk.injEq, and_true] at e
        obtain ⟨rfl, rfl⟩ := e
        have d0 := below_some hbel d0 hb
        have d1 := below_some hbel d1 hb
        have d2 := below_some hbel d2 hb
        have hpg := HA.out j hjl (by omega)
        have hpn : isNumB l[j].seq = true := by
          simp only [slotB, Bool.and_eq_true] at hpg; exact hpg.1.1.1.1
        have hp : preOf l k = some l[j] := by
          subst hj; simp [preOf]
        have hd : (0 : Int) < (k : Int) := by omega
        have hdn : 0 < k := hk0
        have hS : slotB (preOf l k) l[k] = (isNumB l[k].seq && isNumB l[k].base && isNumB l[k].fin && decide (l[k].base < l[k].fin) && (decide (l[k].seq = l[j].seq + 1) && decide (l[j].fin ≤ l[k].base))) := by rw [hp]; rfl
        have hwrap : IntKind.i64.wrap ((k : Int) - 1) = (j : Int) := by rw [IntWalk.i64_in _ (by omega)]; omega
        have hji : (j : Int) < (l.length : Int) := by omega
        have hj0 : (0 : Int) ≤ (j : Int) := by omega
        have HS := Lib.hid hS
        have HJ := Lib.hid hj
        clear hS hp hj hpg hk0
        generalize hxs : l[k].seq = sq at *
        generalize hxb : l[k].base = bs at *
        generalize hxf : l[k].fin = fn at *
        generalize hys : l[j].seq = psq at *
        generalize hyb : l[j].base = pbs at *
        generalize hyf : l[j].fin = pfn at *
        clear hxs hxb hxf hys hyb hyf
        have hpw : IntKind.i64.wrap (psq + 1) = psq + 1 := by
          simp only [isNumB, Bool.and_eq_true, decide_eq_true_eq] at hpn
          exact IntWalk.i64_in _ (by omega)
        have HPN := Lib.hid hpn
        clear hpn
        have hq1 := fun w => LedisNum_q sq w
        have hq2 := fun w => LedisNum_q bs w
        have hq3 := fun w => LedisNum_q fn w
        generalize isNumB sq = b1 at *
        generalize isNumB bs = b2 at *
        generalize isNumB fn = b3 at *
        have hbx : Below w.heap.size w (wr.alloc (.cells #[.int .i64 sq, .int .i64 bs, .int .i64 fn] 69)) := hbel.alloc hsz _
        by_cases hbf : bs < fn
        · have hbf' : decide (fn ≤ bs) = false := by simp; omega
          cases b1
          · skip
            go_wp2
            go_quiet ((go_at_call 74; first | with_reducible exact Calls.quiet_of_same (hq1 _) | with_reducible exact Calls.quiet_of_same (hq2 _) | with_reducible exact Calls.quiet_of_same (hq3 _)))
            go_wp2
            go_ret
            exact ⟨ret_b (Eq.symm (isRowB_false hlt (by rw [HS.out]; rfl))), (below_drewN hbx _)⟩
          · cases b2
            · skip
              go_wp2
              go_quiet ((go_at_call 74; first | with_reducible exact Calls.quiet_of_same (hq1 _) | with_reducible exact Calls.quiet_of_same (hq2 _) | with_reducible exact Calls.quiet_of_same (hq3 _)))
              go_wp2
              go_ret
              exact ⟨ret_b (Eq.symm (isRowB_false hlt (by rw [HS.out]; rfl))), (below_drewN hbx _)⟩
            · cases b3
              · skip
                go_wp2
                go_quiet ((go_at_call 74; first | with_reducible exact Calls.quiet_of_same (hq1 _) | with_reducible exact Calls.quiet_of_same (hq2 _) | with_reducible exact Calls.quiet_of_same (hq3 _)))
                go_wp2
                go_ret
                exact ⟨ret_b (Eq.symm (isRowB_false hlt (by rw [HS.out]; rfl))), (below_drewN hbx _)⟩
              · skip
                by_cases e1 : sq = psq + 1
                · subst e1
                  by_cases e2 : pfn ≤ bs
                  · have e2d : decide (bs < pfn) = false := by simp; omega
                    go_wp2
                    go_quiet ((go_at_call 74; first | with_reducible exact Calls.quiet_of_same (hq1 _) | with_reducible exact Calls.quiet_of_same (hq2 _) | with_reducible exact Calls.quiet_of_same (hq3 _)))
                    go_wp2
                    go_roundw
                    case rel => exact ⟨k + 1, by omega, by go_num, all_succ HA.out hlt (by rw [HS.out]; simp [hbf, e2]), (below_drewN hbx _)⟩
                    case measure => simp [intOf]; omega
                  · have e2d : bs < pfn := by omega
                    go_wp2
                    go_quiet ((go_at_call 74; first | with_reducible exact Calls.quiet_of_same (hq1 _) | with_reducible exact Calls.quiet_of_same (hq2 _) | with_reducible exact Calls.quiet_of_same (hq3 _)))
                    go_wp2
                    go_ret
                    exact ⟨ret_b (Eq.symm (isRowB_false hlt (by rw [HS.out]; simp [hbf, e2]))), (below_drewN hbx _)⟩
                · skip
                  go_wp2
                  go_quiet ((go_at_call 74; first | with_reducible exact Calls.quiet_of_same (hq1 _) | with_reducible exact Calls.quiet_of_same (hq2 _) | with_reducible exact Calls.quiet_of_same (hq3 _)))
                  go_wp2
                  go_ret
                  exact ⟨ret_b (Eq.symm (isRowB_false hlt (by rw [HS.out]; simp [hbf, e1]))), (below_drewN hbx _)⟩
        · have hbf' : decide (fn ≤ bs) = true := by simp; omega
          cases b1
          · skip
            go_wp2
            go_quiet ((go_at_call 74; first | with_reducible exact Calls.quiet_of_same (hq1 _) | with_reducible exact Calls.quiet_of_same (hq2 _) | with_reducible exact Calls.quiet_of_same (hq3 _)))
            go_wp2
            go_ret
            exact ⟨ret_b (Eq.symm (isRowB_false hlt (by rw [HS.out]; rfl))), (below_drewN hbx _)⟩
          · cases b2
            · skip
              go_wp2
              go_quiet ((go_at_call 74; first | with_reducible exact Calls.quiet_of_same (hq1 _) | with_reducible exact Calls.quiet_of_same (hq2 _) | with_reducible exact Calls.quiet_of_same (hq3 _)))
              go_wp2
              go_ret
              exact ⟨ret_b (Eq.symm (isRowB_false hlt (by rw [HS.out]; rfl))), (below_drewN hbx _)⟩
            · cases b3
              · skip
                go_wp2
                go_quiet ((go_at_call 74; first | with_reducible exact Calls.quiet_of_same (hq1 _) | with_reducible exact Calls.quiet_of_same (hq2 _) | with_reducible exact Calls.quiet_of_same (hq3 _)))
                go_wp2
                go_ret
                exact ⟨ret_b (Eq.symm (isRowB_false hlt (by rw [HS.out]; rfl))), (below_drewN hbx _)⟩
              · skip
                go_wp2
                go_quiet ((go_at_call 74; first | with_reducible exact Calls.quiet_of_same (hq1 _) | with_reducible exact Calls.quiet_of_same (hq2 _) | with_reducible exact Calls.quiet_of_same (hq3 _)))
                go_wp2
                go_ret
                exact ⟨ret_b (Eq.symm (isRowB_false hlt (by rw [HS.out]; simp; omega))), (below_drewN hbx _)⟩
    · have hlt' : decide ((k : Int) < (l.length : Int)) = false := by simp; omega
      have hke : k = l.length := by omega
      have HE := Lib.hid hke
      clear hke
      by_cases h1 : 1 ≤ l.length
      · have h1i : (1 : Int) ≤ (l.length : Int) := by omega
        by_cases h5 : l.length ≤ 5
        · have h5i : (l.length : Int) ≤ 5 := by omega
          go_wp2
          go_ret
          exact ⟨ret_b (by rw [isRowB_end (fun j hj => HA.out j hj (by have := HE.out; omega))]; simp [h1, h5]), hbel⟩
        · have h5i : decide ((l.length : Int) ≤ 5) = false := by simp; omega
          go_wp2
          go_ret
          exact ⟨ret_b (by rw [isRowB_end (fun j hj => HA.out j hj (by have := HE.out; omega))]; simp [h1, h5]), hbel⟩
      · have h1i : decide ((1 : Int) ≤ (l.length : Int)) = false := by simp; omega
        go_wp2
        go_ret
        exact ⟨ret_b (by rw [isRowB_end (fun j hj => HA.out j hj (by have := HE.out; omega))]; simp [h1]), hbel⟩
end Go.Proofs.YtjkobbmdemooaaaGreatDoor
