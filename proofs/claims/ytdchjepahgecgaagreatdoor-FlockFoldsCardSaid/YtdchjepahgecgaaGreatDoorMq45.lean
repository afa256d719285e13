/- The walks of the reference's Name, Good (layer 10) and at (layer 11). -/
/- The walk of the reference's number. Printed by gen_number.py. -/
import Derived.Test.YtdchjepahgecgaaGreatDoorMq34
import Derived.Test.YtdchjepahgecgaaGreatDoorMq5
import Derived.Deep.QuietTactic
namespace Go.Proofs.YtdchjepahgecgaaGreatDoor
open Go.RowKit

theorem letter_no {s : List UInt8} {k : Nat} (hk : k < s.length) (h : isLetterB s[k] = false) : nameB s = false := by
  have : s.all isLetterB = false := by
    rw [List.all_eq_false]
    exact ⟨s[k], List.getElem_mem hk, by rw [h]; simp⟩
  simp [nameB, this]

set_option maxHeartbeats 1000000 in
theorem R10Name_any (s : List UInt8) (w : World) : Calls Tryz.prog 70 #[.string (bs s)] w fun e w' => e = .returned (.bool (nameB s)) ∧ w' = w := by
  have hz := bs_size s
  by_cases h1 : 1 ≤ s.length
  case neg =>
    have hv : nameB s = false := by
      have : decide (1 ≤ s.length) = false := decide_eq_false h1
      simp [nameB, this]
    have e0 : ((bs s).size : Int) < 1 := by rw [hz]; omega
    rw [hv]
    clear hv
    go_enter Tryz.func70, Tryz.ntmps70
    go_wp2
    go_ret
    exact ⟨rfl, rfl⟩
  by_cases h8 : s.length ≤ 8
  case neg =>
    have hv : nameB s = false := by
      have : decide (s.length ≤ 8) = false := decide_eq_false h8
      simp [nameB, this]
    have e0 : ¬ ((bs s).size : Int) < 1 := by rw [hz]; omega
    have e1 : (8 : Int) < ((bs s).size : Int) := by rw [hz]; omega
    rw [hv]
    clear hv
    go_enter Tryz.func70, Tryz.ntmps70
    go_wp2
    go_ret
    exact ⟨rfl, rfl⟩
  have e0 : ¬ ((bs s).size : Int) < 1 := by rw [hz]; omega
  have e1 : ¬ (8 : Int) < ((bs s).size : Int) := by rw [hz]; omega
  obtain ⟨R, hR⟩ : ∃ R, nameB s = R := ⟨_, rfl⟩
  rw [hR]
  have HR := Lib.hid hR
  clear hR
  go_enter Tryz.func70, Tryz.ntmps70
  go_wp2
  go_loopg [3] s.length (fun gk i wr => ∃ k : Nat, k ≤ s.length ∧ gk = s.length - k ∧ i = .int .i64 k ∧ (∀ j (hj : j < s.length), j < k → isLetterB s[j] = true) ∧ wr = w)
  case atStart => exact ⟨0, Nat.zero_le _, rfl, rfl, fun _ _ h => absurd h (Nat.not_lt_zero _), rfl⟩
  case round =>
    obtain ⟨k, hk, rfl, rfl, hall, rfl⟩ := hrel
    have HA := Lib.hid hall
    clear hall
    by_cases hlt : k < s.length
    · have hb := bs_get s k (by rw [bs_size]; exact hlt)
      have hsz : (k : Int) < ((bs s).size : Int) := by rw [bs_size]; omega
      have hk0 : (0 : Int) ≤ (k : Int) := by omega
      have hyes : isLetterB s[k] = true → ∀ j (hj : j < s.length), j < k + 1 → isLetterB s[j] = true := by
        intro h j hj hjk
        by_cases e : j = k
        · subst e; exact h
        · exact HA.out j hj (by omega)
      have hno : isLetterB s[k] = false → R = false := fun h => by rw [← HR.out]; exact letter_no hlt h
      have HY := Lib.hid hyes
      have HN := Lib.hid hno
      clear hyes hno
      generalize s[k] = c at *
      by_cases a1 : 97 ≤ c.toNat
      · have f1 : (97 : Int) ≤ (c.toNat : Int) := by omega
        by_cases a2 : c.toNat ≤ 122
        · have f2 : (c.toNat : Int) ≤ 122 := by omega
          have hL : isLetterB c = true := by simp [isLetterB, a1, a2]
          have HL := Lib.hid hL
          clear hL
          go_wp2
          go_roundg (s.length - (k + 1))
          case measure => omega
          case rel => exact ⟨k + 1, by omega, rfl, by go_num, HY.out HL.out, rfl⟩
        · have f2 : ¬ (c.toNat : Int) ≤ 122 := by omega
          have f3 : (48 : Int) ≤ (c.toNat : Int) := by omega
          have f4 : ¬ (c.toNat : Int) ≤ 57 := by omega
          have hL : isLetterB c = false := by simp [isLetterB]; omega
          have hRf := HN.out hL
          subst hRf
          clear hL
          go_wp2
          go_ret
          exact ⟨rfl, rfl⟩
      · have f1 : ¬ (97 : Int) ≤ (c.toNat : Int) := by omega
        by_cases a3 : 48 ≤ c.toNat
        · have f3 : (48 : Int) ≤ (c.toNat : Int) := by omega
          by_cases a4 : c.toNat ≤ 57
          · have f4 : (c.toNat : Int) ≤ 57 := by omega
            have hL : isLetterB c = true := by simp [isLetterB, a3, a4]
            have HL := Lib.hid hL
            clear hL
            go_wp2
            go_roundg (s.length - (k + 1))
            case measure => omega
            case rel => exact ⟨k + 1, by omega, rfl, by go_num, HY.out HL.out, rfl⟩
          · have f4 : ¬ (c.toNat : Int) ≤ 57 := by omega
            have hL : isLetterB c = false := by simp [isLetterB]; omega
            have hRf := HN.out hL
            subst hRf
            clear hL
            go_wp2
            go_ret
            exact ⟨rfl, rfl⟩
        · have f3 : ¬ (48 : Int) ≤ (c.toNat : Int) := by omega
          have hL : isLetterB c = false := by simp [isLetterB]; omega
          have hRf := HN.out hL
          subst hRf
          clear hL
          go_wp2
          go_ret
          exact ⟨rfl, rfl⟩
    · have hkl : k = s.length := by omega
      have hsz : ¬ (k : Int) < ((bs s).size : Int) := by rw [bs_size]; omega
      have hRt : R = true := by
        rw [← HR.out]
        have h2 : s.all isLetterB = true := by
          rw [List.all_eq_true]
          intro x hx
          obtain ⟨j, hj, rfl⟩ := List.mem_iff_getElem.1 hx
          exact HA.out j hj (by omega)
        simp only [nameB, h2, Bool.and_true]
        rw [decide_eq_true h1, decide_eq_true h8]; rfl
      subst hRt
      go_wp2
      go_ret
      exact ⟨rfl, rfl⟩

set_option maxRecDepth 100000 in
set_option maxHeartbeats 2000000 in
theorem R10Good_any {w : World} {v : Value} {l : List (List UInt8)} (h : Strs w v l) : Calls Tryz.prog 71 #[v] w fun e w' => e = .returned (.bool (goodB l)) ∧ Below w.heap.size w w' := by
  obtain ⟨a, c, rfl, -, hm, hC⟩ := h.cells
  have hm1 : (l.length : Int) ≤ 9223372036854775807 := by have : maxLen = 9223372036854775807 := rfl; omega
  have HC := Lib.hid hC
  clear h hC hm
  by_cases h4 : l.length ≤ 4
  case neg =>
    have hv : goodB l = false := by
      have : decide (l.length ≤ 4) = false := decide_eq_false h4
      simp [goodB, this]
    have e0 : (4 : Int) < (l.length : Int) := by omega
    rw [hv]
    clear hv
    go_enter Tryz.func71, Tryz.ntmps71
    go_wp2
    go_ret
    exact ⟨rfl, Below.refl _ _⟩
  have e0 : ¬ (4 : Int) < (l.length : Int) := by omega
  obtain ⟨R, hR⟩ : ∃ R, goodB l = R := ⟨_, rfl⟩
  rw [hR]
  have HR := Lib.hid hR
  clear hR
  go_enter Tryz.func71, Tryz.ntmps71
  go_wp2
  go_loopg [3] l.length (fun gk i wr => ∃ (k : Nat), k ≤ l.length ∧ gk = l.length - k ∧ i = .int .i64 k ∧ (∀ j (hj : j < l.length), j < k → nameB l[j] = true) ∧ (∀ i j (hi : i < l.length) (hj : j < l.length), i < j → j < k → l[i] < l[j]) ∧ Below w.heap.size w wr)
  case atStart => exact ⟨0, Nat.zero_le _, rfl, rfl, fun _ _ h => absurd h (Nat.not_lt_zero _), fun _ _ _ _ _ h => absurd h (Nat.not_lt_zero _), Below.refl _ _⟩
  case round =>
    obtain ⟨k, hk, rfl, rfl, hnm, hup, hbel⟩ := hrel
    have HA := Lib.hid (And.intro hnm hup)
    clear hnm hup
    by_cases hlt : k < l.length
    · obtain ⟨b, off, rfl, hb, c0⟩ := HC.out k hlt
      have c0 := below_some hbel c0 hb
      have i1 : (k : Int) < (l.length : Int) := by omega
      have i2 : (0 : Int) ≤ (k : Int) := by omega
      have hname : ∀ n, Calls Tryz.prog 70 #[.string (bs l[k])] (wr.drewN n) fun e w' => e = .returned (.bool (nameB l[k])) ∧ w' = wr.drewN n := fun n => R10Name_any _ _
      obtain ⟨x, hx⟩ : ∃ x, l[k] = x := ⟨_, rfl⟩
      rw [hx] at hname c0
      have HX := Lib.hid hx
      clear hx
      cases hn : nameB x with
      | false =>
        rw [hn] at hname
        have HN := Lib.hid hname
        have hRf : R = false := by
          rw [← HR.out]
          have : l.all nameB = false := by
            rw [List.all_eq_false]
            exact ⟨l[k], List.getElem_mem hlt, by rw [HX.out, hn]; simp⟩
          simp [goodB, this]
        subst hRf
        clear hname hn
        go_wp2
        go_quiet ((go_at_call 70; with_reducible exact Calls.quiet_of_same (HN.out _)))
        go_wp2
        go_ret
        exact ⟨rfl, below_drewN hbel _⟩
      | true =>
        rw [hn] at hname
        have HN := Lib.hid hname
        have hnm2 : ∀ j (hj : j < l.length), j < k + 1 → nameB l[j] = true := by
          intro j hj hjk
          by_cases e : j = k
          · subst e; rw [HX.out]; exact hn
          · exact HA.out.1 j hj (by omega)
        have HN2 := Lib.hid hnm2
        clear hname hn hnm2
        by_cases hk0 : k = 0
        · have i3 : decide (0 < k) = false := decide_eq_false (by omega)
          have HK0 := Lib.hid hk0
          clear hk0
          go_wp2
          go_quiet ((go_at_call 70; with_reducible exact Calls.quiet_of_same (HN.out _)))
          go_wp2
          go_roundg (l.length - (k + 1))
          case measure => omega
          case rel => exact ⟨k + 1, by omega, rfl, by go_num, HN2.out, fun i j _ _ h1 h2 => by have := HK0.out; omega, below_drewN hbel _⟩
        · obtain ⟨q, hq⟩ : ∃ q, k = q + 1 := ⟨k - 1, by omega⟩
          have hql : q < l.length := by omega
          have i3 : decide (0 < k) = true := decide_eq_true (by omega)
          have i4 : IntKind.i64.wrap ((k : Int) - 1) = (q : Int) := by
            have e : (k : Int) - 1 = (q : Int) := by omega
            rw [e]; exact IntWalk.i64_in _ (by omega)
          have i5 : (0 : Int) ≤ (q : Int) := by omega
          have i6 : (q : Int) < (l.length : Int) := by omega
          obtain ⟨b', off', e', hb', d0⟩ := HC.out q hql
          simp only [Option.some.injEq, Addr.mk.injEq, and_true] at e'
          obtain ⟨rfl, rfl⟩ := e'
          have d0 := below_some hbel d0 hb
          obtain ⟨y, hy⟩ : ∃ y, l[q] = y := ⟨_, rfl⟩
          rw [hy] at d0
          have HYY := Lib.hid hy
          clear hy
          have hbl := bl_dec y x
          by_cases hlt2 : y < x
          · rw [decide_eq_true hlt2] at hbl
            have hup2 : ∀ i j (hi : i < l.length) (hj : j < l.length), i < j → j < k + 1 → l[i] < l[j] := by
              intro i j hi hj hij hjk
              by_cases e : j = k
              · subst e
                by_cases e2 : i = q
                · subst e2; rw [HX.out, HYY.out]; exact hlt2
                · exact txt_trans (HA.out.2 i q hi hql (by omega) (by omega)) (by rw [HX.out, HYY.out]; exact hlt2)
              · exact HA.out.2 i j hi hj hij (by omega)
            have HU := Lib.hid hup2
            clear hup2 hlt2 hq
            go_wp2
            go_quiet ((go_at_call 70; with_reducible exact Calls.quiet_of_same (HN.out _)))
            go_wp2
            go_roundg (l.length - (k + 1))
            case measure => omega
            case rel => exact ⟨k + 1, by omega, rfl, by go_num, HN2.out, HU.out, below_drewN hbel _⟩
          · rw [decide_eq_false hlt2] at hbl
            have hRf : R = false := by
              rw [← HR.out]
              have : decide (StrsUp l) = false := by
                rw [decide_eq_false_iff_not]
                intro hp
                have := List.pairwise_iff_getElem.1 hp q k hql hlt (by omega)
                rw [HX.out, HYY.out] at this
                exact hlt2 this
              simp [goodB, this]
            subst hRf
            clear hlt2 hq
            go_wp2
            go_quiet ((go_at_call 70; with_reducible exact Calls.quiet_of_same (HN.out _)))
            go_wp2
            go_ret
            exact ⟨rfl, below_drewN hbel _⟩
    · have i1 : ¬ (k : Int) < (l.length : Int) := by omega
      have hRt : R = true := by
        rw [← HR.out]
        have h2 : l.all nameB = true := by
          rw [List.all_eq_true]
          intro x hx
          obtain ⟨j, hj, rfl⟩ := List.mem_iff_getElem.1 hx
          exact HA.out.1 j hj (by omega)
        have h3 : StrsUp l := List.pairwise_iff_getElem.2 (fun i j hi hj hij => HA.out.2 i j hi hj hij (by omega))
        simp only [goodB, h2, decide_eq_true h3, decide_eq_true h4]; rfl
      subst hRt
      go_wp2
      go_ret
      exact ⟨rfl, hbel⟩

/-- Where a group stands; -1: nowhere. -/
def atP (L : List Fk) (s : List UInt8) : Int := if hasFk L s = true then (fkAt L s : Int) else -1

theorem fkAt_of {L : List Fk} (hr : FkUp L) {s : List UInt8} {k : Nat} (hk : k < L.length) (he : L[k].name = s) : hasFk L s = true ∧ fkAt L s = k := by
  have hh : hasFk L s = true := by simp only [hasFk, hasK, List.any_eq_true, decide_eq_true_eq]; exact ⟨L[k], List.getElem_mem hk, he⟩
  obtain ⟨h1, h2⟩ := hasFk_at hr hh
  refine ⟨hh, ?_⟩
  have h3 := List.pairwise_iff_getElem.1 hr
  rcases Nat.lt_trichotomy (fkAt L s) k with h | h | h
  · have := h3 _ _ h1 hk h
    rw [h2, he] at this
    exact absurd this (txt_irrefl _)
  · exact h
  · have := h3 _ _ hk h1 h
    rw [h2, he] at this
    exact absurd this (txt_irrefl _)

set_option maxRecDepth 100000 in
set_option maxHeartbeats 1000000 in
theorem R11at_any {w : World} {v : Value} {L : List Fk} (h : FksRd w v L) (hr : FkUp L) (s : List UInt8) : Calls Tryz.prog 30 #[v, .string (bs s)] w fun e w' => e = .returned (.int .i64 (atP L s)) ∧ w' = w := by
  obtain ⟨a, c, rfl, -, hm, hC⟩ := h.cells
  have hm1 : (L.length : Int) ≤ 9223372036854775807 := by have : maxLen = 9223372036854775807 := rfl; omega
  obtain ⟨R, hR⟩ : ∃ R, atP L s = R := ⟨_, rfl⟩
  rw [hR]
  have HR := Lib.hid hR
  have HC := Lib.hid hC
  have HU := Lib.hid hr
  clear hR h hC hm hr
  go_enter Tryz.func30, Tryz.ntmps30
  go_wp2
  go_loopg [5] L.length (fun gk i wr => ∃ k : Nat, k ≤ L.length ∧ gk = L.length - k ∧ i = .int .i64 k ∧ (∀ j (hj : j < L.length), j < k → L[j].name ≠ s) ∧ wr = w)
  case atStart => exact ⟨0, Nat.zero_le _, rfl, rfl, fun _ _ h => absurd h (Nat.not_lt_zero _), rfl⟩
  case round =>
    obtain ⟨k, hk, rfl, rfl, hall, rfl⟩ := hrel
    have HA := Lib.hid hall
    clear hall
    by_cases hlt : k < L.length
    · obtain ⟨b, off, ma, mc, pa, pc, rfl, hb, x0, x1, x2, x3, x4, hs, hp⟩ := HC.out k hlt
      have i1 : (k : Int) < (L.length : Int) := by omega
      have i2 : (0 : Int) ≤ (k : Int) := by omega
      have hbq := beq_dec L[k].name s
      by_cases he : L[k].name = s
      · rw [decide_eq_true he] at hbq
        obtain ⟨q1, q2⟩ := fkAt_of HU.out hlt he
        have hRk : R = (k : Int) := by rw [← HR.out, atP, if_pos q1, q2]
        subst hRk
        clear he q1 q2 hs hp x1 x2 x3 x4
        go_wp2
        go_ret
        exact ⟨rfl, rfl⟩
      · rw [decide_eq_false he] at hbq
        have hnx : ∀ j (hj : j < L.length), j < k + 1 → L[j].name ≠ s := by
          intro j hj hjk
          by_cases e : j = k
          · subst e; exact he
          · exact HA.out j hj (by omega)
        have HX := Lib.hid hnx
        clear he hnx hs hp x1 x2 x3 x4
        go_wp2
        go_roundg (L.length - (k + 1))
        case measure => omega
        case rel => exact ⟨k + 1, by omega, rfl, by go_num, HX.out, rfl⟩
    · have i1 : ¬ (k : Int) < (L.length : Int) := by omega
      have hRn : R = -1 := by
        rw [← HR.out, atP, if_neg]
        intro hh
        simp only [hasFk, hasK, List.any_eq_true, decide_eq_true_eq] at hh
        obtain ⟨x, hx, he⟩ := hh
        obtain ⟨j, hj, rfl⟩ := List.mem_iff_getElem.1 hx
        exact HA.out j hj (by omega) he
      subst hRn
      go_wp2
      go_ret
      exact ⟨rfl, rfl⟩
end Go.Proofs.YtdchjepahgecgaaGreatDoor
namespace Go.Proofs.YtdchjepahgecgaaGreatDoor
open Go.RowKit

theorem goNum_end {l : List UInt8} {k u : Nat} (h : l = []) : goNum l k u = some (k, u, l) := by subst h; rfl
theorem goNum_stop {l : List UInt8} {k u : Nat} {c : UInt8} {r : List UInt8} (h : l = c :: r) (hc : ¬ (k < 20 ∧ isDigB c = true)) : goNum l k u = some (k, u, l) := by subst h; rw [goNum, if_neg hc]
theorem refNum_stop {l r : List UInt8} {k u : Nat} (h : goNum l 0 0 = some (k, u, r)) : refNum l = if (1 < k ∧ l.head? = some 48) ∨ startsDig r = true then (0, 0) else (k, u) := by
  unfold refNum
  rw [h]

set_option maxRecDepth 100000 in
set_option maxHeartbeats 4000000 in
theorem number_any (S : List UInt8) (at' : Nat) (ha : at' ≤ S.length) (hs : S.length ≤ 140737488355328) (w : World) :
    Calls Tryz.prog 95 #[.string (bs S), .int .i64 at'] w fun e w' => e = .returned (.tuple #[.int .i64 (refNum (S.drop at')).1, .int .u64 (refNum (S.drop at')).2]) ∧ w' = w := by
  have hz := bs_size S
  obtain ⟨R, hR⟩ : ∃ R, goNum (S.drop at') 0 0 = R := ⟨_, rfl⟩
  have HR := Lib.hid hR
  clear hR
  go_enter Tryz.func95, Tryz.ntmps95
  go_wp2
  go_loopg [6, 7, 8] 20 (fun gk k u _ wr => ∃ kk uu : Nat, gk = 20 - kk ∧ k = .int .i64 kk ∧ u = .int .u64 uu ∧ at' + kk ≤ S.length ∧ kk ≤ 20 ∧ uu < 18446744073709551616 ∧ goNum (S.drop (at' + kk)) kk uu = R ∧ wr = w)
  case atStart => exact ⟨0, 0, rfl, rfl, rfl, by omega, by omega, by omega, HR.out, rfl⟩
  case round =>
    obtain ⟨kk, uu, rfl, rfl, rfl, hk1, hk2, hu, hg, rfl⟩ := hrel
    have w1 : IntKind.i64.wrap ((at' : Int) + (kk : Int)) = (at' : Int) + (kk : Int) := IntWalk.i64_in _ (by omega)
    have w2 : (0 : Int) ≤ (at' : Int) + (kk : Int) := by omega
    have w3 : ((at' : Int) + (kk : Int)).toNat = at' + kk := by omega
    by_cases hin : at' + kk < S.length
    · have hsz : ((at' : Int) + (kk : Int)) < ((bs S).size : Int) := by rw [bs_size]; omega
      have hb := bs_get S (at' + kk) (by rw [bs_size]; exact hin)
      have hdr : S.drop (at' + kk) = S[at' + kk] :: S.drop (at' + kk + 1) := List.drop_eq_getElem_cons hin
      obtain ⟨c, hc⟩ : ∃ c, S[at' + kk] = c := ⟨_, rfl⟩
      rw [hc] at hb hdr
      clear hc
      have HD := Lib.hid hdr
      by_cases hgo : kk < 20 ∧ isDigB c = true
      · obtain ⟨hk20, hdig⟩ := hgo
        obtain ⟨d1, d2⟩ := (isDigB_iff c).1 hdig
        have e1 : (48 : Int) ≤ (c.toNat : Int) := by omega
        have e2 : (c.toNat : Int) ≤ 57 := by omega
        have e5 : (kk : Int) < 20 := by omega
        by_cases ho : (18446744073709551615 - (c.toNat - 48)) / 10 < uu
        · have hno : R = none := by rw [← hg, hdr, goNum, if_pos ⟨hk20, hdig⟩, if_pos ho]
          have e3 : (18446744073709551615 - ((c.toNat : Int) - 48)) / 10 < (uu : Int) := by omega
          have hv : refNum (S.drop at') = (0, 0) := by unfold refNum; rw [HR.out, hno]
          have HV := Lib.hid hv
          clear hv hno hg hdr
          go_wp2
          exact bodyPost_ret (v := .tuple #[.int .i64 0, .int .u64 0]) (by simp [results, Tryz.results95, go_sem]) rfl ⟨by rw [HV.out] <;> rfl, rfl⟩
        · have hnx : goNum (S.drop (at' + (kk + 1))) (kk + 1) (uu * 10 + (c.toNat - 48)) = R := by rw [← hg, hdr, goNum, if_pos ⟨hk20, hdig⟩, if_neg ho]; rfl
          have e3 : ¬ (18446744073709551615 - ((c.toNat : Int) - 48)) / 10 < (uu : Int) := by omega
          have HN := Lib.hid hnx
          clear hnx hg hdr
          go_wp2
          go_roundg (20 - (kk + 1))
          case measure => omega
          case rel => exact ⟨kk + 1, uu * 10 + (c.toNat - 48), rfl, by go_num, by go_num, by omega, by omega, by omega, HN.out, rfl⟩
      · have hstop := goNum_stop (k := kk) (u := uu) hdr hgo
        rw [hg] at hstop
        have HX := Lib.hid (refNum_stop (HR.out.trans hstop))
        have hsd0 : startsDig (S.drop (at' + kk)) = isDigB c := by rw [hdr]; rfl
        clear hstop hg hdr
        by_cases hk20 : kk < 20
        · have hnd : ¬ (48 ≤ c.toNat ∧ c.toNat ≤ 57) := fun h => hgo ⟨hk20, (isDigB_iff c).2 h⟩
          have hf : isDigB c = false := by rw [Bool.eq_false_iff]; exact fun h => hnd ((isDigB_iff c).1 h)
          rw [hf] at hsd0
          have e5 : (kk : Int) < 20 := by omega
          have HSD := Lib.hid hsd0
          clear hsd0
          by_cases hlow : c.toNat < 48
          · have e1 : ¬ (48 : Int) ≤ (c.toNat : Int) := by omega
            by_cases p1 : 1 < kk
            · have hat : at' < S.length := by omega
              have hb0 := bs_get S at' (by rw [bs_size]; exact hat)
              have hsz0 : (at' : Int) < ((bs S).size : Int) := by rw [bs_size]; omega
              have hh0 : (S.drop at').head? = some S[at'] := by rw [List.head?_drop, List.getElem?_eq_getElem hat]
              obtain ⟨a0, ha0⟩ : ∃ a0, S[at'] = a0 := ⟨_, rfl⟩
              rw [ha0] at hb0 hh0
              clear ha0
              by_cases p2 : a0 = 48
              · subst p2
                have hv : refNum (S.drop at') = (0, 0) := by rw [HX.out, if_pos (.inl ⟨p1, hh0⟩)]
                have HV := Lib.hid hv
                clear hv
                go_wp2
                all_goals exact bodyPost_ret (v := .tuple #[.int .i64 0, .int .u64 0]) (by simp [results, Tryz.results95, go_sem]) rfl ⟨by rw [HV.out] <;> rfl, rfl⟩
              · have p2' : ¬ (a0.toNat : Int) = 48 := fun e => p2 (byte_ext (by have e48 : (48 : UInt8).toNat = 48 := rfl; omega))
                have p12 : ¬ (1 < kk ∧ (S.drop at').head? = some 48) := fun h => p2 (by rw [hh0] at h; exact Option.some.inj h.2)
                have hsd : startsDig (S.drop (at' + kk)) = false := HSD.out
                have hv : refNum (S.drop at') = (kk, uu) := by rw [HX.out, if_neg (by rintro (hh | hh); exact p12 hh; rw [hsd] at hh; cases hh)]
                have HV := Lib.hid hv
                clear hv
                go_wp2
                all_goals exact bodyPost_ret (v := .tuple #[.int .i64 kk, .int .u64 uu]) (by simp [results, Tryz.results95, go_sem]) rfl ⟨by rw [HV.out] <;> rfl, rfl⟩
            · have p12 : ¬ (1 < kk ∧ (S.drop at').head? = some 48) := fun h => p1 h.1
              have hsd : startsDig (S.drop (at' + kk)) = false := HSD.out
              have hv : refNum (S.drop at') = (kk, uu) := by rw [HX.out, if_neg (by rintro (hh | hh); exact p12 hh; rw [hsd] at hh; cases hh)]
              have HV := Lib.hid hv
              clear hv
              go_wp2
              all_goals exact bodyPost_ret (v := .tuple #[.int .i64 kk, .int .u64 uu]) (by simp [results, Tryz.results95, go_sem]) rfl ⟨by rw [HV.out] <;> rfl, rfl⟩
          · have e1 : (48 : Int) ≤ (c.toNat : Int) := by omega
            have e2 : ¬ (c.toNat : Int) ≤ 57 := by omega
            by_cases p1 : 1 < kk
            · have hat : at' < S.length := by omega
              have hb0 := bs_get S at' (by rw [bs_size]; exact hat)
              have hsz0 : (at' : Int) < ((bs S).size : Int) := by rw [bs_size]; omega
              have hh0 : (S.drop at').head? = some S[at'] := by rw [List.head?_drop, List.getElem?_eq_getElem hat]
              obtain ⟨a0, ha0⟩ : ∃ a0, S[at'] = a0 := ⟨_, rfl⟩
              rw [ha0] at hb0 hh0
              clear ha0
              by_cases p2 : a0 = 48
              · subst p2
                have hv : refNum (S.drop at') = (0, 0) := by rw [HX.out, if_pos (.inl ⟨p1, hh0⟩)]
                have HV := Lib.hid hv
                clear hv
                go_wp2
                all_goals exact bodyPost_ret (v := .tuple #[.int .i64 0, .int .u64 0]) (by simp [results, Tryz.results95, go_sem]) rfl ⟨by rw [HV.out] <;> rfl, rfl⟩
              · have p2' : ¬ (a0.toNat : Int) = 48 := fun e => p2 (byte_ext (by have e48 : (48 : UInt8).toNat = 48 := rfl; omega))
                have p12 : ¬ (1 < kk ∧ (S.drop at').head? = some 48) := fun h => p2 (by rw [hh0] at h; exact Option.some.inj h.2)
                have hsd : startsDig (S.drop (at' + kk)) = false := HSD.out
                have hv : refNum (S.drop at') = (kk, uu) := by rw [HX.out, if_neg (by rintro (hh | hh); exact p12 hh; rw [hsd] at hh; cases hh)]
                have HV := Lib.hid hv
                clear hv
                go_wp2
                all_goals exact bodyPost_ret (v := .tuple #[.int .i64 kk, .int .u64 uu]) (by simp [results, Tryz.results95, go_sem]) rfl ⟨by rw [HV.out] <;> rfl, rfl⟩
            · have p12 : ¬ (1 < kk ∧ (S.drop at').head? = some 48) := fun h => p1 h.1
              have hsd : startsDig (S.drop (at' + kk)) = false := HSD.out
              have hv : refNum (S.drop at') = (kk, uu) := by rw [HX.out, if_neg (by rintro (hh | hh); exact p12 hh; rw [hsd] at hh; cases hh)]
              have HV := Lib.hid hv
              clear hv
              go_wp2
              all_goals exact bodyPost_ret (v := .tuple #[.int .i64 kk, .int .u64 uu]) (by simp [results, Tryz.results95, go_sem]) rfl ⟨by rw [HV.out] <;> rfl, rfl⟩
        · have e5 : ¬ (kk : Int) < 20 := by omega
          have HSD := Lib.hid hsd0
          clear hsd0
          by_cases hlow : c.toNat < 48
          · have e1 : ¬ (48 : Int) ≤ (c.toNat : Int) := by omega
            have hf : isDigB c = false := by rw [Bool.eq_false_iff]; exact fun h => by have := (isDigB_iff c).1 h; omega
            by_cases p1 : 1 < kk
            · have hat : at' < S.length := by omega
              have hb0 := bs_get S at' (by rw [bs_size]; exact hat)
              have hsz0 : (at' : Int) < ((bs S).size : Int) := by rw [bs_size]; omega
              have hh0 : (S.drop at').head? = some S[at'] := by rw [List.head?_drop, List.getElem?_eq_getElem hat]
              obtain ⟨a0, ha0⟩ : ∃ a0, S[at'] = a0 := ⟨_, rfl⟩
              rw [ha0] at hb0 hh0
              clear ha0
              by_cases p2 : a0 = 48
              · subst p2
                have hv : refNum (S.drop at') = (0, 0) := by rw [HX.out, if_pos (.inl ⟨p1, hh0⟩)]
                have HV := Lib.hid hv
                clear hv
                go_wp2
                all_goals exact bodyPost_ret (v := .tuple #[.int .i64 0, .int .u64 0]) (by simp [results, Tryz.results95, go_sem]) rfl ⟨by rw [HV.out] <;> rfl, rfl⟩
              · have p2' : ¬ (a0.toNat : Int) = 48 := fun e => p2 (byte_ext (by have e48 : (48 : UInt8).toNat = 48 := rfl; omega))
                have p12 : ¬ (1 < kk ∧ (S.drop at').head? = some 48) := fun h => p2 (by rw [hh0] at h; exact Option.some.inj h.2)
                have hsd : startsDig (S.drop (at' + kk)) = false := HSD.out.trans hf
                have hv : refNum (S.drop at') = (kk, uu) := by rw [HX.out, if_neg (by rintro (hh | hh); exact p12 hh; rw [hsd] at hh; cases hh)]
                have HV := Lib.hid hv
                clear hv
                go_wp2
                all_goals exact bodyPost_ret (v := .tuple #[.int .i64 kk, .int .u64 uu]) (by simp [results, Tryz.results95, go_sem]) rfl ⟨by rw [HV.out] <;> rfl, rfl⟩
            · have p12 : ¬ (1 < kk ∧ (S.drop at').head? = some 48) := fun h => p1 h.1
              have hsd : startsDig (S.drop (at' + kk)) = false := HSD.out.trans hf
              have hv : refNum (S.drop at') = (kk, uu) := by rw [HX.out, if_neg (by rintro (hh | hh); exact p12 hh; rw [hsd] at hh; cases hh)]
              have HV := Lib.hid hv
              clear hv
              go_wp2
              all_goals exact bodyPost_ret (v := .tuple #[.int .i64 kk, .int .u64 uu]) (by simp [results, Tryz.results95, go_sem]) rfl ⟨by rw [HV.out] <;> rfl, rfl⟩
          · have e1 : (48 : Int) ≤ (c.toNat : Int) := by omega
            by_cases hhigh : c.toNat ≤ 57
            · have e2 : (c.toNat : Int) ≤ 57 := by omega
              have hf : isDigB c = true := (isDigB_iff c).2 ⟨by omega, hhigh⟩
              by_cases p1 : 1 < kk
              · have hat : at' < S.length := by omega
                have hb0 := bs_get S at' (by rw [bs_size]; exact hat)
                have hsz0 : (at' : Int) < ((bs S).size : Int) := by rw [bs_size]; omega
                have hh0 : (S.drop at').head? = some S[at'] := by rw [List.head?_drop, List.getElem?_eq_getElem hat]
                obtain ⟨a0, ha0⟩ : ∃ a0, S[at'] = a0 := ⟨_, rfl⟩
                rw [ha0] at hb0 hh0
                clear ha0
                by_cases p2 : a0 = 48
                · subst p2
                  have hv : refNum (S.drop at') = (0, 0) := by rw [HX.out, if_pos (.inl ⟨p1, hh0⟩)]
                  have HV := Lib.hid hv
                  clear hv
                  go_wp2
                  all_goals exact bodyPost_ret (v := .tuple #[.int .i64 0, .int .u64 0]) (by simp [results, Tryz.results95, go_sem]) rfl ⟨by rw [HV.out] <;> rfl, rfl⟩
                · have p2' : ¬ (a0.toNat : Int) = 48 := fun e => p2 (byte_ext (by have e48 : (48 : UInt8).toNat = 48 := rfl; omega))
                  have p12 : ¬ (1 < kk ∧ (S.drop at').head? = some 48) := fun h => p2 (by rw [hh0] at h; exact Option.some.inj h.2)
                  have hsd : startsDig (S.drop (at' + kk)) = true := HSD.out.trans hf
                  have hv : refNum (S.drop at') = (0, 0) := by rw [HX.out, if_pos (.inr hsd)]
                  have HV := Lib.hid hv
                  clear hv
                  go_wp2
                  all_goals exact bodyPost_ret (v := .tuple #[.int .i64 0, .int .u64 0]) (by simp [results, Tryz.results95, go_sem]) rfl ⟨by rw [HV.out] <;> rfl, rfl⟩
              · have p12 : ¬ (1 < kk ∧ (S.drop at').head? = some 48) := fun h => p1 h.1
                have hsd : startsDig (S.drop (at' + kk)) = true := HSD.out.trans hf
                have hv : refNum (S.drop at') = (0, 0) := by rw [HX.out, if_pos (.inr hsd)]
                have HV := Lib.hid hv
                clear hv
                go_wp2
                all_goals exact bodyPost_ret (v := .tuple #[.int .i64 0, .int .u64 0]) (by simp [results, Tryz.results95, go_sem]) rfl ⟨by rw [HV.out] <;> rfl, rfl⟩
            · have e2 : ¬ (c.toNat : Int) ≤ 57 := by omega
              have hf : isDigB c = false := by rw [Bool.eq_false_iff]; exact fun h => by have := (isDigB_iff c).1 h; omega
              by_cases p1 : 1 < kk
              · have hat : at' < S.length := by omega
                have hb0 := bs_get S at' (by rw [bs_size]; exact hat)
                have hsz0 : (at' : Int) < ((bs S).size : Int) := by rw [bs_size]; omega
                have hh0 : (S.drop at').head? = some S[at'] := by rw [List.head?_drop, List.getElem?_eq_getElem hat]
                obtain ⟨a0, ha0⟩ : ∃ a0, S[at'] = a0 := ⟨_, rfl⟩
                rw [ha0] at hb0 hh0
                clear ha0
                by_cases p2 : a0 = 48
                · subst p2
                  have hv : refNum (S.drop at') = (0, 0) := by rw [HX.out, if_pos (.inl ⟨p1, hh0⟩)]
                  have HV := Lib.hid hv
                  clear hv
                  go_wp2
                  all_goals exact bodyPost_ret (v := .tuple #[.int .i64 0, .int .u64 0]) (by simp [results, Tryz.results95, go_sem]) rfl ⟨by rw [HV.out] <;> rfl, rfl⟩
                · have p2' : ¬ (a0.toNat : Int) = 48 := fun e => p2 (byte_ext (by have e48 : (48 : UInt8).toNat = 48 := rfl; omega))
                  have p12 : ¬ (1 < kk ∧ (S.drop at').head? = some 48) := fun h => p2 (by rw [hh0] at h; exact Option.some.inj h.2)
                  have hsd : startsDig (S.drop (at' + kk)) = false := HSD.out.trans hf
                  have hv : refNum (S.drop at') = (kk, uu) := by rw [HX.out, if_neg (by rintro (hh | hh); exact p12 hh; rw [hsd] at hh; cases hh)]
                  have HV := Lib.hid hv
                  clear hv
                  go_wp2
                  all_goals exact bodyPost_ret (v := .tuple #[.int .i64 kk, .int .u64 uu]) (by simp [results, Tryz.results95, go_sem]) rfl ⟨by rw [HV.out] <;> rfl, rfl⟩
              · have p12 : ¬ (1 < kk ∧ (S.drop at').head? = some 48) := fun h => p1 h.1
                have hsd : startsDig (S.drop (at' + kk)) = false := HSD.out.trans hf
                have hv : refNum (S.drop at') = (kk, uu) := by rw [HX.out, if_neg (by rintro (hh | hh); exact p12 hh; rw [hsd] at hh; cases hh)]
                have HV := Lib.hid hv
                clear hv
                go_wp2
                all_goals exact bodyPost_ret (v := .tuple #[.int .i64 kk, .int .u64 uu]) (by simp [results, Tryz.results95, go_sem]) rfl ⟨by rw [HV.out] <;> rfl, rfl⟩
    · have hnil : S.drop (at' + kk) = [] := List.drop_eq_nil_of_le (by omega)
      have hstop := goNum_end (k := kk) (u := uu) hnil
      rw [hg] at hstop
      have HX := Lib.hid (refNum_stop (HR.out.trans hstop))
      have HSD := Lib.hid (show startsDig (S.drop (at' + kk)) = false by rw [hnil]; rfl)
      have e0 : ¬ ((at' : Int) + (kk : Int)) < ((bs S).size : Int) := by rw [bs_size]; omega
      clear hstop hg hnil
      by_cases p1 : 1 < kk
      · have hat : at' < S.length := by omega
        have hb0 := bs_get S at' (by rw [bs_size]; exact hat)
        have hsz0 : (at' : Int) < ((bs S).size : Int) := by rw [bs_size]; omega
        have hh0 : (S.drop at').head? = some S[at'] := by rw [List.head?_drop, List.getElem?_eq_getElem hat]
        obtain ⟨a0, ha0⟩ : ∃ a0, S[at'] = a0 := ⟨_, rfl⟩
        rw [ha0] at hb0 hh0
        clear ha0
        by_cases p2 : a0 = 48
        · subst p2
          have hv : refNum (S.drop at') = (0, 0) := by rw [HX.out, if_pos (.inl ⟨p1, hh0⟩)]
          have HV := Lib.hid hv
          clear hv
          go_wp2
          all_goals exact bodyPost_ret (v := .tuple #[.int .i64 0, .int .u64 0]) (by simp [results, Tryz.results95, go_sem]) rfl ⟨by rw [HV.out] <;> rfl, rfl⟩
        · have p2' : ¬ (a0.toNat : Int) = 48 := fun e => p2 (byte_ext (by have e48 : (48 : UInt8).toNat = 48 := rfl; omega))
          have p12 : ¬ (1 < kk ∧ (S.drop at').head? = some 48) := fun h => p2 (by rw [hh0] at h; exact Option.some.inj h.2)
          have hsd : startsDig (S.drop (at' + kk)) = false := HSD.out
          have hv : refNum (S.drop at') = (kk, uu) := by rw [HX.out, if_neg (by rintro (hh | hh); exact p12 hh; rw [hsd] at hh; cases hh)]
          have HV := Lib.hid hv
          clear hv
          go_wp2
          all_goals exact bodyPost_ret (v := .tuple #[.int .i64 kk, .int .u64 uu]) (by simp [results, Tryz.results95, go_sem]) rfl ⟨by rw [HV.out] <;> rfl, rfl⟩
      · have p12 : ¬ (1 < kk ∧ (S.drop at').head? = some 48) := fun h => p1 h.1
        have hsd : startsDig (S.drop (at' + kk)) = false := HSD.out
        have hv : refNum (S.drop at') = (kk, uu) := by rw [HX.out, if_neg (by rintro (hh | hh); exact p12 hh; rw [hsd] at hh; cases hh)]
        have HV := Lib.hid hv
        clear hv
        go_wp2
        all_goals exact bodyPost_ret (v := .tuple #[.int .i64 kk, .int .u64 uu]) (by simp [results, Tryz.results95, go_sem]) rfl ⟨by rw [HV.out] <;> rfl, rfl⟩
end Go.Proofs.YtdchjepahgecgaaGreatDoor
