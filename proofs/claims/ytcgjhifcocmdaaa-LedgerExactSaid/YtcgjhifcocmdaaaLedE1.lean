/- The walk of the reference's Check, over a table whose rows are good. -/
import Derived.Test.YtcgjhifcocmdaaaLedE0
namespace Go.Proofs.Ytcgjhifcocmdaaa
open Go.RowKit

theorem rowOf_none {T : List (Int × List Slot)} {p : Int} (h : ∀ j (_ : j < T.length), T[j].1 ≠ p) : rowOf T p = [] := by
  unfold rowOf
  rw [List.find?_eq_none.2]
  · rfl
  · intro x hx
    obtain ⟨j, hj, rfl⟩ := List.getElem_of_mem hx
    simpa using h j hj

theorem rowOf_at {T : List (Int × List Slot)} {i : Nat} (hi : i < T.length) (hn : ∀ j (_ : j < T.length), j < i → T[j].1 ≠ T[i].1) : rowOf T T[i].1 = T[i].2 := by
  unfold rowOf
  rw [List.find?_eq_some_iff_getElem.2 ⟨by simp, i, hi, rfl, fun j hj => by simpa using hn j (by omega) hj⟩]
  rfl

/-- Where a producer stands in a table, or that it stands nowhere. -/
theorem where_in (T : List (Int × List Slot)) (p : Int) : (∃ i, ∃ hi : i < T.length, T[i].1 = p ∧ ∀ j (_ : j < T.length), j < i → T[j].1 ≠ T[i].1) ∨ ∀ j (_ : j < T.length), T[j].1 ≠ p := by
  cases h : T.findIdx? (fun x => x.1 == p) with
  | none =>
    right
    intro j hj
    have := List.findIdx?_eq_none_iff.1 h T[j] (List.getElem_mem hj)
    simpa using this
  | some i =>
    left
    obtain ⟨hi, h1, h2⟩ := List.findIdx?_eq_some_iff_getElem.1 h
    refine ⟨i, hi, by simpa using h1, ?_⟩
    intro j hj hji
    have := h2 j hji
    have h1 : T[i].1 = p := by simpa using h1
    rw [h1]; simpa using this

def Checked (w : World) (row : List Slot) (p s : Int) (e : Ending) (w' : World) : Prop :=
  e = .returned (.tuple #[(checkS row p s).1.v, .int .i64 (checkS row p s).2]) ∧ Below w.heap.size w w'

set_option maxRecDepth 100000 in
set_option maxHeartbeats 2000000 in
theorem R6Check_no {w : World} {v : Value} {T : List (Int × List Slot)} (h : SeensRd w v T) (p s : Int) (hn : ∀ j (_ : j < T.length), T[j].1 ≠ p) :
    Calls Try.prog 17 #[v, .int .i64 p, .int .i64 s] w (Checked w [] p s) := by
  unfold Checked
  have hq1 := fun w => R6num_any p w
  have hq2 := fun w => R6num_any s w
  have hat : ∀ w', Below w.heap.size w w' → Calls Try.prog 26 #[v, .int .i64 p] w' fun e w'' => e = .returned (.int .i64 (-1)) ∧ w'' = w' := fun w' hb => at_no (h.below hb) p hn
  have HQ := Lib.hid (And.intro hq1 (And.intro hq2 hat))
  clear hq1 hq2 hat h hn
  have hbx := below_alloc2 w (.cells #[.int .i64 0, .int .i64 0, .int .i64 0] 32) (.cells #[.int .i64 0, .int .i64 0, .int .i64 0] 32)
  have HB := Lib.hid hbx
  clear hbx
  cases hp : isNumB p
  case false =>
    have fin : checkS [] p s = (Slot.zero, 1) := by simp [checkS, hp]
    rw [fin]; clear fin
    go_enter Try.func17, Try.ntmps17
    go_wp2_with (first | (go_at_call 24; with_reducible refine (HQ.out.1 _).mono ?_; rintro e w' ⟨rfl, rfl⟩))
    exact bodyPost_ret (v := .tuple #[.agg #[.int .i64 0, .int .i64 0, .int .i64 0], .int .i64 1]) (by simp [results, Try.results17, go_sem]) rfl ⟨rfl, HB.out⟩
  case true =>
    cases hs : isNumB s
    case false =>
      have fin : checkS [] p s = (Slot.zero, 1) := by simp [checkS, hs]
      rw [fin]; clear fin
      go_enter Try.func17, Try.ntmps17
      go_wp2_with (first | (go_at_call 24; first | (with_reducible refine (HQ.out.1 _).mono ?_; rintro e w' ⟨rfl, rfl⟩) | (with_reducible refine (HQ.out.2.1 _).mono ?_; rintro e w' ⟨rfl, rfl⟩)))
      exact bodyPost_ret (v := .tuple #[.agg #[.int .i64 0, .int .i64 0, .int .i64 0], .int .i64 1]) (by simp [results, Try.results17, go_sem]) rfl ⟨rfl, HB.out⟩
    case true =>
      have fin : checkS [] p s = (Slot.zero, if s = 0 then 0 else 20) := by simp [checkS, hp, hs]
      rw [fin]; clear fin
      by_cases h0 : s = 0
      · have hne : (s != 0) = false := by simp [h0]
        rw [if_pos h0]
        have H0 := Lib.hid h0
        clear h0
        go_enter Try.func17, Try.ntmps17
        go_wp2_with (first | (go_at_call 24; first | (with_reducible refine (HQ.out.1 _).mono ?_; rintro e w' ⟨rfl, rfl⟩) | (with_reducible refine (HQ.out.2.1 _).mono ?_; rintro e w' ⟨rfl, rfl⟩)) | (go_at_call 26; refine (HQ.out.2.2 _ HB.out).mono ?_; rintro e w' ⟨rfl, rfl⟩))
        exact bodyPost_ret (v := .tuple #[.agg #[.int .i64 0, .int .i64 0, .int .i64 0], .int .i64 0]) (by simp [results, Try.results17, go_sem]) rfl ⟨rfl, HB.out⟩
      · have hne : (s != 0) = true := by simp [h0]
        rw [if_neg h0]
        have H0 := Lib.hid h0
        clear h0
        go_enter Try.func17, Try.ntmps17
        go_wp2_with (first | (go_at_call 24; first | (with_reducible refine (HQ.out.1 _).mono ?_; rintro e w' ⟨rfl, rfl⟩) | (with_reducible refine (HQ.out.2.1 _).mono ?_; rintro e w' ⟨rfl, rfl⟩)) | (go_at_call 26; refine (HQ.out.2.2 _ HB.out).mono ?_; rintro e w' ⟨rfl, rfl⟩))
        exact bodyPost_ret (v := .tuple #[.agg #[.int .i64 0, .int .i64 0, .int .i64 0], .int .i64 20]) (by simp [results, Try.results17, go_sem]) rfl ⟨rfl, HB.out⟩

set_option maxRecDepth 100000 in
set_option maxHeartbeats 2000000 in
theorem R6Check_yes {w : World} {v : Value} {T : List (Int × List Slot)} (h : SeensRd w v T) (i : Nat) (hi : i < T.length) (hn : ∀ j (_ : j < T.length), j < i → T[j].1 ≠ T[i].1) (hok : RowOk T[i].2) (s : Int) :
    Calls Try.prog 17 #[v, .int .i64 T[i].1, .int .i64 s] w (Checked w T[i].2 T[i].1 s) := by
  unfold Checked
  have hq1 := fun w => R6num_any T[i].1 w
  have hq2 := fun w => R6num_any s w
  have hat : ∀ w', Below w.heap.size w w' → Calls Try.prog 26 #[v, .int .i64 T[i].1] w' fun e w'' => e = .returned (.int .i64 i) ∧ w'' = w' := fun w' hb => at_yes (h.below hb) i hi hn
  obtain ⟨a, cap, rfl, hml, hC⟩ := h.cells
  obtain ⟨b, off, sa, sc, rfl, hb, -, d1, hsl⟩ := hC i hi
  have hrow := hsl.cells
  have hml : (T.length : Int) ≤ 9223372036854775807 := by unfold maxLen at hml; omega
  have hi1 : (i : Int) < (T.length : Int) := by omega
  have hi0 : (0 : Int) ≤ (i : Int) := by omega
  clear hC hsl hn h
  generalize T[i].1 = p at *
  generalize T[i].2 = l at *
  have HQ := Lib.hid (And.intro hq1 (And.intro hq2 hat))
  clear hq1 hq2 hat
  have hbx := below_alloc2 w (.cells #[.int .i64 0, .int .i64 0, .int .i64 0] 32) (.cells #[.int .i64 0, .int .i64 0, .int .i64 0] 32)
  have HB := Lib.hid hbx
  have d1 := below_some hbx d1 hb
  have hpos := List.length_pos_iff.2 hok.1
  have hl5 : (l.length : Int) ≤ 5 := by have := hok.2.1; omega
  have HR := Lib.hid (And.intro hrow hok)
  clear hbx hrow hok
  cases hp : isNumB p
  case false =>
    have fin : checkS l p s = (Slot.zero, 1) := by simp [checkS, hp]
    rw [fin]; clear fin
    go_enter Try.func17, Try.ntmps17
    go_wp2_with (first | (go_at_call 24; first | (with_reducible refine (HQ.out.1 _).mono ?_; rintro e w' ⟨rfl, rfl⟩) | (with_reducible refine (HQ.out.2.1 _).mono ?_; rintro e w' ⟨rfl, rfl⟩)) | (go_at_call 26; refine (HQ.out.2.2 _ HB.out).mono ?_; rintro e w' ⟨rfl, rfl⟩))
    exact bodyPost_ret (v := .tuple #[.agg #[.int .i64 0, .int .i64 0, .int .i64 0], .int .i64 1]) (by simp [results, Try.results17, go_sem]) rfl ⟨rfl, HB.out⟩
  case true =>
    cases hs : isNumB s
    case false =>
      have fin : checkS l p s = (Slot.zero, 1) := by simp [checkS, hs]
      rw [fin]; clear fin
      go_enter Try.func17, Try.ntmps17
      go_wp2_with (first | (go_at_call 24; first | (with_reducible refine (HQ.out.1 _).mono ?_; rintro e w' ⟨rfl, rfl⟩) | (with_reducible refine (HQ.out.2.1 _).mono ?_; rintro e w' ⟨rfl, rfl⟩)) | (go_at_call 26; refine (HQ.out.2.2 _ HB.out).mono ?_; rintro e w' ⟨rfl, rfl⟩))
      exact bodyPost_ret (v := .tuple #[.agg #[.int .i64 0, .int .i64 0, .int .i64 0], .int .i64 1]) (by simp [results, Try.results17, go_sem]) rfl ⟨rfl, HB.out⟩
    case true =>
      have hx := checkS_row hp hs hpos
      have hseq := HR.out.2.seq
      have hq0 := (HR.out.2.2.2 0 hpos).1
      obtain ⟨rb, roff, rfl, hrb, r0, -, -⟩ := HR.out.1 0 hpos
      have r0 := below_some HB.out r0 hrb
      simp only [Nat.zero_mul, Nat.add_zero] at r0
      obtain ⟨_, _, e3, _, r1, -, -⟩ := HR.out.1 (l.length - 1) (by omega)
      simp only [Option.some.injEq, Addr.mk.injEq, and_true] at e3
      obtain ⟨rfl, rfl⟩ := e3
      have r1 := below_some HB.out r1 hrb
      rw [hseq (l.length - 1) (by omega)] at r1
      have hcast : ((l.length - 1 : Nat) : Int) = (l.length : Int) - 1 := by omega
      rw [hcast] at r1
      have hs1 : 0 ≤ s ∧ s ≤ 1099511627776 := by simpa [isNumB] using hs
      have hq1 : 0 ≤ l[0].seq ∧ l[0].seq ≤ 1099511627776 := by simpa [isNumB] using hq0
      have HX := Lib.hid (And.intro hx (And.intro hseq hcast))
      clear hx hseq hcast hq0
      obtain ⟨q, hq⟩ : ∃ q, l[0].seq = q := ⟨_, rfl⟩
      rw [hq] at r0 r1 hq1
      have HQ0 := Lib.hid hq
      clear hq
      obtain ⟨hs1, hs2⟩ := hs1
      obtain ⟨hq1, hq2⟩ := hq1
      have w1 : IntKind.i64.wrap ((l.length : Int) - 1) = (l.length : Int) - 1 := IntWalk.i64_in _ (by omega)
      have w2 : IntKind.i64.wrap (q + ((l.length : Int) - 1) + 1) = q + ((l.length : Int) - 1) + 1 := IntWalk.i64_in _ (by omega)
      go_enter Try.func17, Try.ntmps17
      go_wp2_with (first | (go_at_call 24; first | (with_reducible refine (HQ.out.1 _).mono ?_; rintro e w' ⟨rfl, rfl⟩) | (with_reducible refine (HQ.out.2.1 _).mono ?_; rintro e w' ⟨rfl, rfl⟩)) | (go_at_call 26; refine (HQ.out.2.2 _ HB.out).mono ?_; rintro e w' ⟨rfl, rfl⟩))
      go_loopg [11] l.length (fun gk kv wr => ∃ k : Nat, k ≤ l.length ∧ gk = l.length - k ∧ kv = .int .i64 k ∧ (∀ j (_ : j < l.length), j < k → l[j].seq ≠ s) ∧ wr = (w.alloc (.cells #[.int .i64 0, .int .i64 0, .int .i64 0] 32)).alloc (.cells #[.int .i64 0, .int .i64 0, .int .i64 0] 32))
      case atStart => exact ⟨0, Nat.zero_le _, rfl, rfl, fun j _ h => absurd h (Nat.not_lt_zero j), rfl⟩
      case round =>
        obtain ⟨k, hk, rfl, rfl, hall, rfl⟩ := hrel
        have HA := Lib.hid hall
        clear hall
        by_cases hlt : k < l.length
        · obtain ⟨_, _, e3, _, f0, f1, f2⟩ := HR.out.1 k hlt
          simp only [Option.some.injEq, Addr.mk.injEq, and_true] at e3
          obtain ⟨rfl, rfl⟩ := e3
          have f0 := below_some HB.out f0 hrb
          have f1 := below_some HB.out f1 hrb
          have f2 := below_some HB.out f2 hrb
          have i1 : (k : Int) < (l.length : Int) := by omega
          by_cases e : l[k].seq = s
          · have hfin : checkS l p s = (l[k], 13) := by
              have h1 := HX.out.2.1 k hlt
              rw [e] at h1
              have h2 : (s - l[0].seq).toNat = k := by omega
              rw [HX.out.1, if_neg (by omega), if_pos (by omega), h2]
              simp [List.getD, hlt]
            have HF := Lib.hid hfin
            clear hfin
            rw [e] at f0
            have he := Lib.hid e
            clear e
            have i2 : (s == s) = true := by simp
            have hv : l[k].v = .agg #[.int .i64 s, .int .i64 l[k].base, .int .i64 l[k].fin] := by unfold Slot.v; rw [he.out]
            have HV := Lib.hid hv
            clear hv
            obtain ⟨x1, g1⟩ : ∃ x, l[k].base = x := ⟨_, rfl⟩
            obtain ⟨x2, g2⟩ : ∃ x, l[k].fin = x := ⟨_, rfl⟩
            rw [g1] at f1
            rw [g2] at f2
            have HV := Lib.hid (HV.out.trans (by rw [g1, g2]) : l[k].v = .agg #[.int .i64 s, .int .i64 x1, .int .i64 x2])
            clear g1 g2
            go_wp2
            refine bodyPost_ret (v := .tuple #[.agg #[.int .i64 s, .int .i64 x1, .int .i64 x2], .int .i64 13]) (by simp [results, Try.results17, go_sem]) rfl ⟨by rw [HF.out]; dsimp only; rw [HV.out], below_alloc2 w _ _⟩
          · have hA2 : ∀ j (_ : j < l.length), j < k + 1 → l[j].seq ≠ s := by
              intro j hj h1
              by_cases e2 : j = k
              · subst e2; exact e
              · exact HA.out j hj (by omega)
            have HA2 := Lib.hid hA2
            clear hA2
            generalize l[k].seq = x0 at *
            have i2 : (x0 == s) = false := beq_eq_false_iff_ne.2 e
            clear e
            go_wp2
            go_roundg (l.length - (k + 1))
            case measure => omega
            case rel => exact ⟨k + 1, by omega, rfl, by go_num, HA2.out, rfl⟩
        · have i1 : ¬ (k : Int) < (l.length : Int) := by omega
          have hout : s < q ∨ q + (l.length : Int) ≤ s := by
            by_cases c : s < q
            · exact .inl c
            · by_cases c2 : q + (l.length : Int) ≤ s
              · exact .inr c2
              · exfalso
                have h0 := HQ0.out
                have h2 : (s - q).toNat < l.length := by omega
                refine HA.out (s - q).toNat h2 (by omega) ?_
                rw [HX.out.2.1 _ h2, h0]; omega
          by_cases c1 : s < q
          · have hfin : checkS l p s = (Slot.zero, 21) := by rw [HX.out.1, HQ0.out, if_pos c1]
            have HF := Lib.hid hfin
            clear hfin hout
            go_wp2
            exact bodyPost_ret (v := .tuple #[.agg #[.int .i64 0, .int .i64 0, .int .i64 0], .int .i64 21]) (by simp [results, Try.results17, go_sem]) rfl ⟨by rw [HF.out]; rfl, HB.out⟩
          · have c2 : ¬ s < q + (l.length : Int) := by omega
            by_cases c3 : s = q + (l.length : Int)
            · have hfin : checkS l p s = (Slot.zero, 0) := by rw [HX.out.1, HQ0.out, if_neg c1, if_neg c2, if_pos c3]
              have HF := Lib.hid hfin
              clear hfin hout c2
              have c4 : (s == q + ((l.length : Int) - 1) + 1) = true := by rw [beq_iff_eq]; omega
              have c5 : (s != q + ((l.length : Int) - 1) + 1) = false := by simp [bne, c4]
              have C3 := Lib.hid c3
              clear c3
              go_wp2
              exact bodyPost_ret (v := .tuple #[.agg #[.int .i64 0, .int .i64 0, .int .i64 0], .int .i64 0]) (by simp [results, Try.results17, go_sem]) rfl ⟨by rw [HF.out]; rfl, HB.out⟩
            · have hfin : checkS l p s = (Slot.zero, 20) := by rw [HX.out.1, HQ0.out, if_neg c1, if_neg c2, if_neg c3]
              have HF := Lib.hid hfin
              clear hfin hout c2
              have c4 : (s == q + ((l.length : Int) - 1) + 1) = false := by rw [beq_eq_false_iff_ne]; omega
              have c5 : (s != q + ((l.length : Int) - 1) + 1) = true := by simp [bne, c4]
              go_wp2
              exact bodyPost_ret (v := .tuple #[.agg #[.int .i64 0, .int .i64 0, .int .i64 0], .int .i64 20]) (by simp [results, Try.results17, go_sem]) rfl ⟨by rw [HF.out]; rfl, HB.out⟩

theorem R6Check_any {w : World} {v : Value} {T : List (Int × List Slot)} (h : SeensRd w v T) (hok : ∀ x ∈ T, RowOk x.2) (p s : Int) :
    Calls Try.prog 17 #[v, .int .i64 p, .int .i64 s] w (Checked w (rowOf T p) p s) := by
  rcases where_in T p with ⟨i, hi, rfl, hn⟩ | hn
  · rw [rowOf_at hi hn]
    exact R6Check_yes h i hi hn (hok _ (List.getElem_mem hi)) s
  · rw [rowOf_none hn]
    exact R6Check_no h p s hn
end Go.Proofs.Ytcgjhifcocmdaaa
