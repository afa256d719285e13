/- Where a group, a point, a text stands in a rising row: the walks. Printed by gen_flb.py. -/
import Derived.Test.YtdchjepahgecgaaGreatDoorMq8
namespace Go.Proofs.YtdchjepahgecgaaGreatDoor
open Go.RowKit

def cmpI (a b : Int) : Int := if a < b then -1 else if b < a then 1 else 0
abbrev fkAt (L : List Fk) (s : List UInt8) : Nat := posK Fk.name L s
abbrev hasFk (L : List Fk) (s : List UInt8) : Bool := hasK Fk.name L s
abbrev FkUp (L : List Fk) : Prop := Up Fk.name L
abbrev ptAt (L : List (Int × Int)) (s : Int) : Nat := posK Prod.fst L s
abbrev hasPt (L : List (Int × Int)) (s : Int) : Bool := hasK Prod.fst L s
abbrev PtUp (L : List (Int × Int)) : Prop := Up Prod.fst L
abbrev strAt (L : List (List UInt8)) (s : List UInt8) : Nat := posK (fun x => x) L s
abbrev hasStr (L : List (List UInt8)) (s : List UInt8) : Bool := hasK (fun x => x) L s
abbrev StrUp (L : List (List UInt8)) : Prop := Up (fun x => x) L
theorem int_irr (a : Int) : ¬ a < a := by omega
theorem int_tr (a b c : Int) (h : a < b) (k : b < c) : a < c := by omega

theorem isNaN_any (a : Int) (w : World) : Calls Tryz.prog 91 #[.int .i64 a] w fun e w' => e = .returned (.bool false) ∧ w' = w := by
  have h : (a != a) = false := by simp
  go_enter Tryz.func91, Tryz.ntmps91
  go_wp2
  go_ret
  exact ⟨rfl, rfl⟩

theorem Cmp_any (a b : Int) (w : World) : Calls Tryz.prog 63 #[.int .i64 a, .int .i64 b] w fun e w' => e = .returned (.int .i64 (cmpI a b)) ∧ w' = w := by
  by_cases h1 : a < b
  · have h : cmpI a b = -1 := by simp [cmpI, h1]
    rw [h]
    go_enter Tryz.func63, Tryz.ntmps63
    go_wp2_with (first | (go_at_call 91; refine (isNaN_any _ _).mono ?_; rintro _ w1 ⟨rfl, rfl⟩))
    go_ret
    exact ⟨rfl, rfl⟩
  · by_cases h2 : b < a
    · have h : cmpI a b = 1 := by simp [cmpI, h1, h2]
      rw [h]
      go_enter Tryz.func63, Tryz.ntmps63
      go_wp2_with (first | (go_at_call 91; refine (isNaN_any _ _).mono ?_; rintro _ w1 ⟨rfl, rfl⟩))
      go_ret
      exact ⟨rfl, rfl⟩
    · have h : cmpI a b = 0 := by simp [cmpI, h1, h2]
      rw [h]
      go_enter Tryz.func63, Tryz.ntmps63
      go_wp2_with (first | (go_at_call 91; refine (isNaN_any _ _).mono ?_; rintro _ w1 ⟨rfl, rfl⟩))
      go_ret
      exact ⟨rfl, rfl⟩

theorem pointed1_any (a b n : Int) (w : World) : Calls Tryz.prog 62 #[.agg #[.int .i64 a, .int .i64 b], .int .i64 n] w fun e w' => e = .returned (.int .i64 (cmpI a n)) ∧ Below w.heap.size w w' := by
  go_enter Tryz.func62, Tryz.ntmps62
  go_wp2_with (first | (go_at_call 63; refine (Cmp_any _ _ _).mono ?_; rintro _ w1 ⟨rfl, rfl⟩))
  go_ret
  exact ⟨rfl, below_alloc _ _⟩

theorem find1_any (nm s : List UInt8) (g p : Int) (mv pv : Value) (_h1 : mv.oneCell' = true) (_h2 : pv.oneCell' = true) (w : World) : Calls Tryz.prog 57 #[.agg #[.string (bs nm), .int .i64 g, .int .i64 p, mv, pv], .string (bs s)] w fun e w' => e = .returned (.int .i64 (cmpS nm s)) ∧ Below w.heap.size w w' := by
  go_enter Tryz.func57, Tryz.ntmps57
  go_wp2_with (first | (go_at_call 58; refine (CmpS_any _ _ _).mono ?_; rintro _ w1 ⟨rfl, rfl⟩))
  go_ret
  exact ⟨rfl, below_alloc _ _⟩

set_option maxRecDepth 100000 in
set_option maxHeartbeats 1000000 in
theorem BSPt_any {w : World} {v : Value} {L : List (Int × Int)} (h : PtsRd w v L) (hr : PtUp L) (hL : L.length ≤ 1000) (n : Int) : Calls Tryz.prog 61 #[v, .int .i64 n, .func (.func 62) #[] #[]] w fun e w' =>
    e = .returned (.tuple #[.int .i64 (ptAt L n), .bool (hasPt L n)]) ∧ Below w.heap.size w w' := by
  obtain ⟨a, cap, rfl, -, hml, hC⟩ := h.cells
  have hml' : (L.length : Int) ≤ 9223372036854775807 := by have : maxLen = 9223372036854775807 := rfl; omega
  have HC := Lib.hid hC
  clear h hC hml
  go_enter Tryz.func61, Tryz.ntmps61
  go_wp2
  go_loopg [9, 10, 11] L.length (fun gk s9 s10 _ wr => ∃ i j : Nat, i ≤ j ∧ j ≤ L.length ∧ gk = j - i ∧ s9 = .int .i64 i ∧ s10 = .int .i64 j ∧ (∀ t (ht : t < L.length), t < i → L[t].1 < n) ∧ (∀ t (ht : t < L.length), j ≤ t → ¬ L[t].1 < n) ∧ Below w.heap.size w wr)
  case atStart => exact ⟨0, L.length, Nat.zero_le _, Nat.le_refl _, rfl, rfl, rfl, fun t _ h => absurd h (Nat.not_lt_zero t), fun t ht h => by omega, Below.refl _ _⟩
  case round =>
    obtain ⟨i, j, hij, hj, rfl, rfl, rfl, h1, h2, hbel⟩ := hrel
    have HX := Lib.hid (And.intro h1 (And.intro h2 hbel))
    have hsz := hbel.size
    clear h1 h2
    by_cases hlt : i < j
    · obtain ⟨m, hm⟩ : ∃ m : Nat, m = (i + j) / 2 := ⟨_, rfl⟩
      have hm1 : i ≤ m := by omega
      have hm2 : m < j := by omega
      have hmL : m < L.length := by omega
      have HM := Lib.hid hm
      clear hm
      obtain ⟨b, off, rfl, hb, c0, c1⟩ := HC.out m hmL
      have c0 := below_some hbel c0 hb
      have c1 := below_some hbel c1 hb
      have i1 : (m : Int) < (L.length : Int) := by omega
      have i2 : (0 : Int) ≤ (m : Int) := by omega
      have i3 : (i : Int) < (j : Int) := by omega
      have i4 : (j : Int) ≤ 9223372036854775807 := by omega
      have HL1 : L[m].1 < n → ∀ t (ht : t < L.length), t < m + 1 → L[t].1 < n := by
        intro hlt2 t ht htm
        by_cases e : t = m
        · subst e; exact hlt2
        · have := List.pairwise_iff_getElem.1 hr t m ht (by omega) (by omega)
          omega
      have HL2 : ¬ L[m].1 < n → ∀ t (ht : t < L.length), m ≤ t → ¬ L[t].1 < n := by
        intro hle t ht htm
        by_cases e : t = m
        · subst e; exact hle
        · have := List.pairwise_iff_getElem.1 hr m t (by omega) ht (by omega)
          omega
      have HY := Lib.hid (And.intro HL1 HL2)
      clear hbel HL1 HL2
      generalize L[m].1 = x at *
      generalize L[m].2 = y at *
      have HM2 := Lib.hid HM.out
      rw [HM.out] at c0 c1
      clear HM
      by_cases hxn : x < n
      · have hc : cmpI x n = -1 := by simp [cmpI, hxn]
        go_wp2_with (first | (go_at_call 62; refine (pointed1_any x y n _).mono ?_; rintro _ w2 ⟨rfl, hb2⟩; rw [hc]))
        go_roundg (j - (m + 1))
        case measure => omega
        case rel => exact ⟨m + 1, j, by omega, hj, rfl, by have := HM2.out; go_num, rfl, HY.out.1 hxn, HX.out.2.1, HX.out.2.2.trans (hb2.mono hsz)⟩
      · have hc : cmpI x n = 0 ∨ cmpI x n = 1 := by
          unfold cmpI
          rw [if_neg hxn]
          by_cases h : n < x
          · right; rw [if_pos h]
          · left; rw [if_neg h]
        rcases hc with hc | hc
        all_goals
          go_wp2_with (first | (go_at_call 62; refine (pointed1_any x y n _).mono ?_; rintro _ w2 ⟨rfl, hb2⟩; rw [hc]))
          go_roundg (m - i)
          case measure => omega
          case rel => exact ⟨i, m, by omega, by omega, rfl, rfl, by have := HM2.out; go_num, HX.out.1, HY.out.2 (by omega), HX.out.2.2.trans (hb2.mono hsz)⟩
    · have hije : i = j := by omega
      subst hije
      have hat : ptAt L n = i := posK_of Prod.fst (s := n) hj HX.out.1 HX.out.2.1
      have hhas : (∀ h : i < L.length, hasPt L n = decide (L[i].1 = n)) ∧ (i = L.length → hasPt L n = false) := hasK_of Prod.fst (s := n) int_irr int_tr hj hr HX.out.1 HX.out.2.1
      have i3 : ¬ (i : Int) < (i : Int) := by omega
      by_cases hil : i < L.length
      · obtain ⟨b, off, rfl, hb, c0, c1⟩ := HC.out i hil
        have c0 := below_some hbel c0 hb
        have c1 := below_some hbel c1 hb
        have i1 : (i : Int) < (L.length : Int) := by omega
        have i2 : (0 : Int) ≤ (i : Int) := by omega
        have hh := hhas.1 hil
        have HH := Lib.hid (And.intro hat hh)
        clear hat hhas hh hbel
        generalize L[i].1 = x at *
        generalize L[i].2 = y at *
        by_cases hxn : x = n
        · subst hxn
          have hc : cmpI x x = 0 := by simp [cmpI]
          go_wp2_with (first | (go_at_call 62; refine (pointed1_any x y x _).mono ?_; rintro _ w2 ⟨rfl, hb2⟩; rw [hc]))
          exact bodyPost_ret (v := .tuple #[.int .i64 i, .bool true]) (by simp [results, Tryz.results61, go_sem]) rfl ⟨by rw [HH.out.1, HH.out.2]; simp, HX.out.2.2.trans (hb2.mono hsz)⟩
        · have hc : cmpI x n = -1 ∨ cmpI x n = 1 := by
            unfold cmpI
            by_cases h : x < n
            · left; rw [if_pos h]
            · right; rw [if_neg h, if_pos (by omega)]
          rcases hc with hc | hc
          all_goals
            go_wp2_with (first | (go_at_call 62; refine (pointed1_any x y n _).mono ?_; rintro _ w2 ⟨rfl, hb2⟩; rw [hc]))
            exact bodyPost_ret (v := .tuple #[.int .i64 i, .bool false]) (by simp [results, Tryz.results61, go_sem]) rfl ⟨by rw [HH.out.1, HH.out.2]; simp [hxn], HX.out.2.2.trans (hb2.mono hsz)⟩
      · have i1 : ¬ (i : Int) < (L.length : Int) := by omega
        have hh := hhas.2 (by omega)
        have HH := Lib.hid (And.intro hat hh)
        clear hat hhas hh hbel
        go_wp2
        exact bodyPost_ret (v := .tuple #[.int .i64 i, .bool false]) (by simp [results, Tryz.results61, go_sem]) rfl ⟨by rw [HH.out.1, HH.out.2], HX.out.2.2⟩

set_option maxRecDepth 100000 in
set_option maxHeartbeats 1000000 in
theorem BSFk_any {w : World} {v : Value} {L : List Fk} (h : FksRd w v L) (hr : FkUp L) (hL : L.length ≤ 1000) (n : List UInt8) : Calls Tryz.prog 56 #[v, .string (bs n), .func (.func 57) #[] #[]] w fun e w' =>
    e = .returned (.tuple #[.int .i64 (fkAt L n), .bool (hasFk L n)]) ∧ Below w.heap.size w w' := by
  obtain ⟨a, cap, rfl, -, hml, hC⟩ := h.cells
  have hml' : (L.length : Int) ≤ 9223372036854775807 := by have : maxLen = 9223372036854775807 := rfl; omega
  have HC := Lib.hid hC
  clear h hC hml
  go_enter Tryz.func56, Tryz.ntmps56
  go_wp2
  go_loopg [9, 10, 11] L.length (fun gk s9 s10 _ wr => ∃ i j : Nat, i ≤ j ∧ j ≤ L.length ∧ gk = j - i ∧ s9 = .int .i64 i ∧ s10 = .int .i64 j ∧ (∀ t (ht : t < L.length), t < i → L[t].name < n) ∧ (∀ t (ht : t < L.length), j ≤ t → ¬ L[t].name < n) ∧ Below w.heap.size w wr)
  case atStart => exact ⟨0, L.length, Nat.zero_le _, Nat.le_refl _, rfl, rfl, rfl, fun t _ h => absurd h (Nat.not_lt_zero t), fun t ht h => by omega, Below.refl _ _⟩
  case round =>
    obtain ⟨i, j, hij, hj, rfl, rfl, rfl, h1, h2, hbel⟩ := hrel
    have HX := Lib.hid (And.intro h1 (And.intro h2 hbel))
    have hsz := hbel.size
    clear h1 h2
    by_cases hlt : i < j
    · obtain ⟨m, hm⟩ : ∃ m : Nat, m = (i + j) / 2 := ⟨_, rfl⟩
      have hm1 : i ≤ m := by omega
      have hm2 : m < j := by omega
      have hmL : m < L.length := by omega
      have HM := Lib.hid hm
      clear hm
      obtain ⟨b, off, ma, mc, pa, pc, rfl, hb, c0, c1, c2, c3, c4, -, -⟩ := HC.out m hmL
      have c0 := below_some hbel c0 hb
      have c1 := below_some hbel c1 hb
      have c2 := below_some hbel c2 hb
      have c3 := below_some hbel c3 hb
      have c4 := below_some hbel c4 hb
      have i1 : (m : Int) < (L.length : Int) := by omega
      have i2 : (0 : Int) ≤ (m : Int) := by omega
      have i3 : (i : Int) < (j : Int) := by omega
      have i4 : (j : Int) ≤ 9223372036854775807 := by omega
      have HL1 : L[m].name < n → ∀ t (ht : t < L.length), t < m + 1 → L[t].name < n := by
        intro hlt2 t ht htm
        by_cases e : t = m
        · subst e; exact hlt2
        · have := List.pairwise_iff_getElem.1 hr t m ht (by omega) (by omega)
          exact txt_trans this hlt2
      have HL2 : ¬ L[m].name < n → ∀ t (ht : t < L.length), m ≤ t → ¬ L[t].name < n := by
        intro hle t ht htm
        by_cases e : t = m
        · subst e; exact hle
        · have := List.pairwise_iff_getElem.1 hr m t (by omega) ht (by omega)
          exact fun hx => hle (txt_trans this hx)
      have HY := Lib.hid (And.intro HL1 HL2)
      clear hbel HL1 HL2
      generalize L[m].name = x at *
      generalize L[m].gen = y1 at *
      generalize L[m].parts = y2 at *
      generalize L[m].members.length = y3 at *
      generalize L[m].points.length = y4 at *
      have HM2 := Lib.hid HM.out
      rw [HM.out] at c0 c1 c2 c3 c4
      clear HM
      by_cases hxn : x < n
      · have hc : cmpS x n = -1 := by simp [cmpS, hxn]
        go_wp2_with (first | (go_at_call 57; refine (find1_any x n y1 y2 _ _ rfl rfl _).mono ?_; rintro _ w2 ⟨rfl, hb2⟩; rw [hc]))
        go_roundg (j - (m + 1))
        case measure => omega
        case rel => exact ⟨m + 1, j, by omega, hj, rfl, by have := HM2.out; go_num, rfl, HY.out.1 hxn, HX.out.2.1, HX.out.2.2.trans (hb2.mono hsz)⟩
      · have hc : cmpS x n = 0 ∨ cmpS x n = 1 := by
          unfold cmpS
          rw [if_neg hxn]
          by_cases h : n < x
          · right; rw [if_pos h]
          · left; rw [if_neg h]
        rcases hc with hc | hc
        all_goals
          go_wp2_with (first | (go_at_call 57; refine (find1_any x n y1 y2 _ _ rfl rfl _).mono ?_; rintro _ w2 ⟨rfl, hb2⟩; rw [hc]))
          go_roundg (m - i)
          case measure => omega
          case rel => exact ⟨i, m, by omega, by omega, rfl, rfl, by have := HM2.out; go_num, HX.out.1, HY.out.2 hxn, HX.out.2.2.trans (hb2.mono hsz)⟩
    · have hije : i = j := by omega
      subst hije
      have hat : fkAt L n = i := posK_of Fk.name (s := n) hj HX.out.1 HX.out.2.1
      have hhas : (∀ h : i < L.length, hasFk L n = decide (L[i].name = n)) ∧ (i = L.length → hasFk L n = false) := hasK_of Fk.name (s := n) txt_irrefl (fun _ _ _ => txt_trans) hj hr HX.out.1 HX.out.2.1
      have i3 : ¬ (i : Int) < (i : Int) := by omega
      by_cases hil : i < L.length
      · obtain ⟨b, off, ma, mc, pa, pc, rfl, hb, c0, c1, c2, c3, c4, -, -⟩ := HC.out i hil
        have c0 := below_some hbel c0 hb
        have c1 := below_some hbel c1 hb
        have c2 := below_some hbel c2 hb
        have c3 := below_some hbel c3 hb
        have c4 := below_some hbel c4 hb
        have i1 : (i : Int) < (L.length : Int) := by omega
        have i2 : (0 : Int) ≤ (i : Int) := by omega
        have hh := hhas.1 hil
        have HH := Lib.hid (And.intro hat hh)
        clear hat hhas hh hbel
        generalize L[i].name = x at *
        generalize L[i].gen = y1 at *
        generalize L[i].parts = y2 at *
        generalize L[i].members.length = y3 at *
        generalize L[i].points.length = y4 at *
        by_cases hxn : x = n
        · subst hxn
          have hc : cmpS x x = 0 := by simp [cmpS, txt_irrefl]
          go_wp2_with (first | (go_at_call 57; refine (find1_any x x y1 y2 _ _ rfl rfl _).mono ?_; rintro _ w2 ⟨rfl, hb2⟩; rw [hc]))
          exact bodyPost_ret (v := .tuple #[.int .i64 i, .bool true]) (by simp [results, Tryz.results56, go_sem]) rfl ⟨by rw [HH.out.1, HH.out.2]; simp, HX.out.2.2.trans (hb2.mono hsz)⟩
        · have hc : cmpS x n = -1 ∨ cmpS x n = 1 := by
            unfold cmpS
            by_cases h : x < n
            · left; rw [if_pos h]
            · right; rw [if_neg h, if_pos (Classical.byContradiction fun k => hxn (txt_tri h k))]
          rcases hc with hc | hc
          all_goals
            go_wp2_with (first | (go_at_call 57; refine (find1_any x n y1 y2 _ _ rfl rfl _).mono ?_; rintro _ w2 ⟨rfl, hb2⟩; rw [hc]))
            exact bodyPost_ret (v := .tuple #[.int .i64 i, .bool false]) (by simp [results, Tryz.results56, go_sem]) rfl ⟨by rw [HH.out.1, HH.out.2]; simp [hxn], HX.out.2.2.trans (hb2.mono hsz)⟩
      · have i1 : ¬ (i : Int) < (L.length : Int) := by omega
        have hh := hhas.2 (by omega)
        have HH := Lib.hid (And.intro hat hh)
        clear hat hhas hh hbel
        go_wp2
        exact bodyPost_ret (v := .tuple #[.int .i64 i, .bool false]) (by simp [results, Tryz.results56, go_sem]) rfl ⟨by rw [HH.out.1, HH.out.2], HX.out.2.2⟩

end Go.Proofs.YtdchjepahgecgaaGreatDoor
