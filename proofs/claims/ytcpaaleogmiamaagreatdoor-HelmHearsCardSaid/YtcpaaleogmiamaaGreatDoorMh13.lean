/- The walks of slices.Index, Contains at ints, cmp.Compare, the binary search over lives, plan.find, plan.Life. -/
import Derived.Test.YtcpaaleogmiamaaGreatDoorMh12
namespace Go.Proofs.YtcpaaleogmiamaaGreatDoor
open Go.RowKit

def idx (l : List Int) (v : Int) : Int := match l.findIdx? (· == v) with | some i => i | none => -1

theorem findIdx_none_take {l : List Int} {v : Int} {k : Nat} (hk : k < l.length) (h : ∀ j (_ : j < k), (l[j]'(by omega)) ≠ v) (e : l[k] = v) : l.findIdx? (· == v) = some k := by
  rw [List.findIdx?_eq_some_iff_getElem]
  refine ⟨hk, by simpa using e, fun j hj => by simpa using h j hj⟩

set_option maxRecDepth 100000 in
theorem Index_any {w : World} {v : Value} {l : List Int} (h : IntsRd w v l) (x : Int) : Calls Tryz.prog 135 #[v, .int .i64 x] w fun e w' => e = .returned (.int .i64 (idx l x)) ∧ w' = w := by
  obtain ⟨a, cap, rfl, -, hml, hC⟩ := h.cells
  have hml' : (l.length : Int) ≤ 9223372036854775807 := by have : maxLen = 9223372036854775807 := rfl; omega
  have HC := Lib.hid hC
  clear h hC hml
  go_enter Tryz.func135, Tryz.ntmps135
  go_wp2
  go_loopg [5, 8] l.length (fun gk _ i wr => ∃ k : Nat, k ≤ l.length ∧ gk = l.length - k ∧ i = .int .i64 k ∧ wr = w ∧ ∀ j (hj : j < k) (hl : j < l.length), l[j] ≠ x)
  case atStart => exact ⟨0, Nat.zero_le _, rfl, rfl, rfl, fun j hj => absurd hj (Nat.not_lt_zero j)⟩
  case round =>
    obtain ⟨k, hk, rfl, rfl, rfl, hno⟩ := hrel
    have HN := Lib.hid hno
    clear hno
    by_cases hlt : k < l.length
    · obtain ⟨b, off, rfl, hb, c0⟩ := HC.out k hlt
      have i1 : (k : Int) < (l.length : Int) := by omega
      have i2 : (0 : Int) ≤ (k : Int) := by omega
      have hn1 : l[k] = x → idx l x = k := fun e => by simp [idx, findIdx_none_take hlt (fun j hj => HN.out j hj (by omega)) e]
      have hn2 : l[k] ≠ x → ∀ j (hj : j < k + 1) (hl : j < l.length), l[j] ≠ x := by
        intro hne j hj hl
        by_cases e : j = k
        · subst e; exact hne
        · exact HN.out j (by omega) hl
      generalize l[k] = y at *
      by_cases e : y = x
      · subst e
        have HI := Lib.hid (hn1 rfl)
        clear hn1 hn2
        go_wp2
        go_ret
        exact ⟨ret_i HI.out.symm, rfl⟩
      · have e' : ¬ x = y := fun h => e h.symm
        have HN2 := Lib.hid (hn2 e)
        clear hn1 hn2
        go_wp2
        go_roundg (l.length - (k + 1))
        case measure => omega
        case rel => exact ⟨k + 1, by omega, rfl, by go_num, rfl, HN2.out⟩
    · have i1 : ¬ (k : Int) < (l.length : Int) := by omega
      have hi : idx l x = -1 := by
        have : l.findIdx? (· == x) = none := by
          rw [List.findIdx?_eq_none_iff]
          intro y hy
          obtain ⟨j, hj, rfl⟩ := List.mem_iff_getElem.1 hy
          simpa using HN.out j (by omega) hj
        simp [idx, this]
      have HI := Lib.hid hi
      clear hi
      go_wp2
      go_ret
      exact ⟨ret_i HI.out.symm, rfl⟩

theorem idx_contains (l : List Int) (x : Int) : decide (0 ≤ idx l x) = l.contains x := by
  unfold idx
  cases h : l.findIdx? (· == x) with
  | none =>
    have : x ∉ l := by
      rw [List.findIdx?_eq_none_iff] at h
      intro hx
      simpa using h x hx
    simp [this]
  | some i =>
    obtain ⟨hi, h1, -⟩ := List.findIdx?_eq_some_iff_getElem.1 h
    have : x ∈ l := by
      have e : l[i] = x := by simpa using h1
      rw [← e]; exact List.getElem_mem hi
    simp [this]

set_option maxRecDepth 100000 in
theorem Contains_any {w : World} {v : Value} {l : List Int} (h : IntsRd w v l) (x : Int) : Calls Tryz.prog 75 #[v, .int .i64 x] w fun e w' => e = .returned (.bool (l.contains x)) ∧ w' = w := by
  rw [← idx_contains]
  have H := Lib.hid h
  clear h
  go_enter Tryz.func75, Tryz.ntmps75
  go_wp2_with (first | (go_at_call 135; refine (Index_any H.out x).mono ?_; rintro _ w1 ⟨rfl, rfl⟩))
  go_ret
  exact ⟨rfl, rfl⟩

def cmpI (a b : Int) : Int := if a < b then -1 else if b < a then 1 else 0

theorem isNaN_any (a : Int) (w : World) : Calls Tryz.prog 248 #[.int .i64 a] w fun e w' => e = .returned (.bool false) ∧ w' = w := by
  have h : (a != a) = false := by simp
  go_enter Tryz.func248, Tryz.ntmps248
  go_wp2
  go_ret
  exact ⟨rfl, rfl⟩

theorem Cmp_any (a b : Int) (w : World) : Calls Tryz.prog 211 #[.int .i64 a, .int .i64 b] w fun e w' => e = .returned (.int .i64 (cmpI a b)) ∧ w' = w := by
  by_cases h1 : a < b
  · have h : cmpI a b = -1 := by simp [cmpI, h1]
    rw [h]
    go_enter Tryz.func211, Tryz.ntmps211
    go_wp2_with (first | (go_at_call 248; refine (isNaN_any _ _).mono ?_; rintro _ w1 ⟨rfl, rfl⟩))
    go_ret
    exact ⟨rfl, rfl⟩
  · by_cases h2 : b < a
    · have h : cmpI a b = 1 := by simp [cmpI, h1, h2]
      rw [h]
      go_enter Tryz.func211, Tryz.ntmps211
      go_wp2_with (first | (go_at_call 248; refine (isNaN_any _ _).mono ?_; rintro _ w1 ⟨rfl, rfl⟩))
      go_ret
      exact ⟨rfl, rfl⟩
    · have h : cmpI a b = 0 := by simp [cmpI, h1, h2]
      rw [h]
      go_enter Tryz.func211, Tryz.ntmps211
      go_wp2_with (first | (go_at_call 248; refine (isNaN_any _ _).mono ?_; rintro _ w1 ⟨rfl, rfl⟩))
      go_ret
      exact ⟨rfl, rfl⟩

theorem find1_any (a b n : Int) (w : World) : Calls Tryz.prog 210 #[.agg #[.int .i64 a, .int .i64 b], .int .i64 n] w fun e w' => e = .returned (.int .i64 (cmpI a n)) ∧ Below w.heap.size w w' := by
  go_enter Tryz.func210, Tryz.ntmps210
  go_wp2_with (first | (go_at_call 211; refine (Cmp_any _ _ _).mono ?_; rintro _ w1 ⟨rfl, rfl⟩))
  go_ret
  exact ⟨rfl, below_alloc _ _⟩

/-- Where a node's life stands, or would; whether it has one. -/
def lifeAt (L : List (Int × Int)) (n : Int) : Nat := L.countP (fun x => x.1 < n)
def hasLife (L : List (Int × Int)) (n : Int) : Bool := L.any (fun x => x.1 == n)

theorem lifeAt_of {L : List (Int × Int)} {n : Int} {i : Nat} (hi : i ≤ L.length) (h1 : ∀ t (ht : t < L.length), t < i → L[t].1 < n) (h2 : ∀ t (ht : t < L.length), i ≤ t → n ≤ L[t].1) : lifeAt L n = i := by
  unfold lifeAt
  have e : L = L.take i ++ L.drop i := (List.take_append_drop i L).symm
  rw [e, List.countP_append]
  have e1 : (L.take i).countP (fun x => decide (x.1 < n)) = i := by
    rw [List.countP_eq_length.2]
    · simp; omega
    · intro a ha
      obtain ⟨t, ht, rfl⟩ := List.mem_iff_getElem.1 ha
      have ht' : t < i := by simp at ht; omega
      simpa using h1 t (by omega) ht'
  have e2 : (L.drop i).countP (fun x => decide (x.1 < n)) = 0 := by
    rw [List.countP_eq_zero]
    intro a ha
    obtain ⟨t, ht, rfl⟩ := List.mem_iff_getElem.1 ha
    have ht' : i + t < L.length := by simp at ht; omega
    have := h2 (i + t) ht' (by omega)
    simpa using this
  rw [e1, e2, Nat.add_zero]

theorem hasLife_of {L : List (Int × Int)} {n : Int} {i : Nat} (hi : i ≤ L.length) (hr : Rising L) (h1 : ∀ t (ht : t < L.length), t < i → L[t].1 < n) (h2 : ∀ t (ht : t < L.length), i ≤ t → n ≤ L[t].1) :
    (∀ h : i < L.length, hasLife L n = decide (L[i].1 = n)) ∧ (i = L.length → hasLife L n = false) := by
  have key : ∀ t (ht : t < L.length), L[t].1 = n → t = i ∧ i < L.length := by
    intro t ht e
    by_cases hti : t < i
    · have := h1 t ht hti; omega
    · by_cases e2 : t = i
      · exact ⟨e2, by omega⟩
      · have := List.pairwise_iff_getElem.1 hr i t (by omega) ht (by omega)
        have := h2 i (by omega) (Nat.le_refl _)
        omega
  constructor
  · intro h
    by_cases e : L[i].1 = n
    · simp only [hasLife, e, decide_true, List.any_eq_true, beq_iff_eq]
      exact ⟨_, List.getElem_mem h, e⟩
    · simp only [hasLife, e, decide_false, List.any_eq_false, beq_iff_eq]
      intro x hx hxe
      obtain ⟨t, ht, rfl⟩ := List.mem_iff_getElem.1 hx
      have := (key t ht hxe).1
      subst this
      exact e hxe
  · intro h
    simp only [hasLife, List.any_eq_false, beq_iff_eq]
    intro x hx hxe
    obtain ⟨t, ht, rfl⟩ := List.mem_iff_getElem.1 hx
    have := (key t ht hxe).2
    omega

set_option maxRecDepth 100000 in
set_option maxHeartbeats 1000000 in
theorem BS_any {w : World} {v : Value} {L : List (Int × Int)} (h : LivesRd w v L) (hr : Rising L) (hL : L.length ≤ 1000) (n : Int) : Calls Tryz.prog 209 #[v, .int .i64 n, .func (.func 210) #[] #[]] w fun e w' =>
    e = .returned (.tuple #[.int .i64 (lifeAt L n), .bool (hasLife L n)]) ∧ Below w.heap.size w w' := by
  obtain ⟨a, cap, rfl, -, hml, hC⟩ := h.cells
  have hml' : (L.length : Int) ≤ 9223372036854775807 := by have : maxLen = 9223372036854775807 := rfl; omega
  have HC := Lib.hid hC
  clear h hC hml
  go_enter Tryz.func209, Tryz.ntmps209
  go_wp2
  go_loopg [9, 10, 11] L.length (fun gk s9 s10 _ wr => ∃ i j : Nat, i ≤ j ∧ j ≤ L.length ∧ gk = j - i ∧ s9 = .int .i64 i ∧ s10 = .int .i64 j ∧ (∀ t (ht : t < L.length), t < i → L[t].1 < n) ∧ (∀ t (ht : t < L.length), j ≤ t → n ≤ L[t].1) ∧ Below w.heap.size w wr)
  case atStart => exact ⟨0, L.length, Nat.zero_le _, Nat.le_refl _, rfl, rfl, rfl, fun t _ h => absurd h (Nat.not_lt_zero t), fun t ht h => by omega, Below.refl _ _⟩
  case round =>
    obtain ⟨i, j, hij, hj, rfl, rfl, rfl, h1, h2, hbel⟩ := hrel
    have HX := Lib.hid (And.intro h1 (And.intro h2 hbel))
    have hsz := hbel.size
    clear h1 h2
    by_cases hlt : i < j
    · obtain ⟨m, hm⟩ : ∃ m : Nat, m = (i + j) / 2 := ⟨_, rfl⟩
      have hm1 : i ≤ m := by omega
      have hm2 : m < j := by omega
      have hmL : m < L.length := by omega
      have HM := Lib.hid hm
      clear hm
      obtain ⟨b, off, rfl, hb, c0, c1⟩ := HC.out m hmL
      have c0 := below_some hbel c0 hb
      have c1 := below_some hbel c1 hb
      have i1 : (m : Int) < (L.length : Int) := by omega
      have i2 : (0 : Int) ≤ (m : Int) := by omega
      have i3 : (i : Int) < (j : Int) := by omega
      have i4 : (j : Int) ≤ 9223372036854775807 := by omega
      have HL1 : L[m].1 < n → ∀ t (ht : t < L.length), t < m + 1 → L[t].1 < n := by
        intro hlt2 t ht htm
        by_cases e : t = m
        · subst e; exact hlt2
        · have := List.pairwise_iff_getElem.1 hr t m ht (by omega) (by omega)
          omega
      have HL2 : n ≤ L[m].1 → ∀ t (ht : t < L.length), m ≤ t → n ≤ L[t].1 := by
        intro hle t ht htm
        by_cases e : t = m
        · subst e; exact hle
        · have := List.pairwise_iff_getElem.1 hr m t (by omega) ht (by omega)
          omega
      have HY := Lib.hid (And.intro HL1 HL2)
      clear hbel HL1 HL2
      generalize L[m].1 = x at *
      generalize L[m].2 = y at *
      have HM2 := Lib.hid HM.out
      rw [HM.out] at c0 c1
      clear HM
      by_cases hxn : x < n
      · have hc : cmpI x n = -1 := by simp [cmpI, hxn]
        go_wp2_with (first | (go_at_call 210; refine (find1_any x y n _).mono ?_; rintro _ w2 ⟨rfl, hb2⟩; rw [hc]))
        go_roundg (j - (m + 1))
        case measure => omega
        case rel => exact ⟨m + 1, j, by omega, hj, rfl, by have := HM2.out; go_num, rfl, HY.out.1 hxn, HX.out.2.1, HX.out.2.2.trans (hb2.mono hsz)⟩
      · have hc : cmpI x n = 0 ∨ cmpI x n = 1 := by
          unfold cmpI
          rw [if_neg hxn]
          by_cases h : n < x
          · right; rw [if_pos h]
          · left; rw [if_neg h]
        rcases hc with hc | hc
        all_goals
          go_wp2_with (first | (go_at_call 210; refine (find1_any x y n _).mono ?_; rintro _ w2 ⟨rfl, hb2⟩; rw [hc]))
          go_roundg (m - i)
          case measure => omega
          case rel => exact ⟨i, m, by omega, by omega, rfl, rfl, by have := HM2.out; go_num, HX.out.1, HY.out.2 (by omega), HX.out.2.2.trans (hb2.mono hsz)⟩
    · have hije : i = j := by omega
      subst hije
      have hat := lifeAt_of hj HX.out.1 HX.out.2.1
      have hhas := hasLife_of hj hr HX.out.1 HX.out.2.1
      have i3 : ¬ (i : Int) < (i : Int) := by omega
      by_cases hil : i < L.length
      · obtain ⟨b, off, rfl, hb, c0, c1⟩ := HC.out i hil
        have c0 := below_some hbel c0 hb
        have c1 := below_some hbel c1 hb
        have i1 : (i : Int) < (L.length : Int) := by omega
        have i2 : (0 : Int) ≤ (i : Int) := by omega
        have hh := hhas.1 hil
        have HH := Lib.hid (And.intro hat hh)
        clear hat hhas hh hbel
        generalize L[i].1 = x at *
        generalize L[i].2 = y at *
        by_cases hxn : x = n
        · subst hxn
          have hc : cmpI x x = 0 := by simp [cmpI]
          go_wp2_with (first | (go_at_call 210; refine (find1_any x y x _).mono ?_; rintro _ w2 ⟨rfl, hb2⟩; rw [hc]))
          exact bodyPost_ret (v := .tuple #[.int .i64 i, .bool true]) (by simp [results, Tryz.results209, go_sem]) rfl ⟨by rw [HH.out.1, HH.out.2]; simp, HX.out.2.2.trans (hb2.mono hsz)⟩
        · have hc : cmpI x n = -1 ∨ cmpI x n = 1 := by
            unfold cmpI
            by_cases h : x < n
            · left; rw [if_pos h]
            · right; rw [if_neg h, if_pos (by omega)]
          rcases hc with hc | hc
          all_goals
            go_wp2_with (first | (go_at_call 210; refine (find1_any x y n _).mono ?_; rintro _ w2 ⟨rfl, hb2⟩; rw [hc]))
            exact bodyPost_ret (v := .tuple #[.int .i64 i, .bool false]) (by simp [results, Tryz.results209, go_sem]) rfl ⟨by rw [HH.out.1, HH.out.2]; simp [hxn], HX.out.2.2.trans (hb2.mono hsz)⟩
      · have i1 : ¬ (i : Int) < (L.length : Int) := by omega
        have hh := hhas.2 (by omega)
        have HH := Lib.hid (And.intro hat hh)
        clear hat hhas hh hbel
        go_wp2
        exact bodyPost_ret (v := .tuple #[.int .i64 i, .bool false]) (by simp [results, Tryz.results209, go_sem]) rfl ⟨by rw [HH.out.1, HH.out.2], HX.out.2.2⟩

set_option maxRecDepth 100000 in
theorem find_any {w : World} {v : Value} {p : Pl} (h : PlanRd w v p) (hr : Rising p.lives) (hL : p.lives.length ≤ 1000) (n : Int) : Calls Tryz.prog 174 #[v, .int .i64 n] w fun e w' =>
    e = .returned (.tuple #[.int .i64 (lifeAt p.lives n), .bool (hasLife p.lives n)]) ∧ Below w.heap.size w w' := by
  obtain ⟨pv, lv, rfl, hp, hl⟩ := h
  obtain ⟨la, lc, rfl, -, -, -⟩ := hl.cells
  obtain ⟨pa, pc, rfl, -, -, -⟩ := hp.cells
  have HL := Lib.hid (hl.below (below_alloc w (.cells #[.int .i64 p.nodes, .int .i64 p.copies, .slice pa p.parts.length pc, .slice la p.lives.length lc] 52)))
  clear hl hp
  go_enter Tryz.func174, Tryz.ntmps174
  go_wp2_with (first | (go_at_call 209; refine (BS_any HL.out hr hL n).mono ?_; rintro _ w2 ⟨rfl, hb2⟩))
  exact bodyPost_ret (v := .tuple #[.int .i64 (lifeAt p.lives n), .bool (hasLife p.lives n)]) (by simp [results, Tryz.results174, go_sem]) rfl ⟨rfl, below_trans (below_alloc _ _) hb2⟩

def lifeP (L : List (Int × Int)) (n : Int) : Int := ((L.find? (fun x => x.1 == n)).map (·.2)).getD 0

theorem life_at {L : List (Int × Int)} {n : Int} (hr : Rising L) (h : hasLife L n = true) : ∃ hi : lifeAt L n < L.length, L[lifeAt L n].1 = n ∧ L[lifeAt L n].2 = lifeP L n := by
  simp only [hasLife, List.any_eq_true, beq_iff_eq] at h
  obtain ⟨x, hx, e⟩ := h
  obtain ⟨t, ht, rfl⟩ := List.mem_iff_getElem.1 hx
  have hat : lifeAt L n = t := lifeAt_of (by omega) (fun s hs hst => by have := List.pairwise_iff_getElem.1 hr s t hs ht hst; omega) (fun s hs hst => by
    by_cases e2 : s = t
    · subst e2; omega
    · have := List.pairwise_iff_getElem.1 hr t s ht hs (by omega); omega)
  refine ⟨by omega, by simp only [hat]; exact e, ?_⟩
  have hf : L.find? (fun x => x.1 == n) = some L[t] := by
    rw [List.find?_eq_some_iff_getElem]
    refine ⟨by simpa using e, t, ht, rfl, fun j hj => ?_⟩
    have := List.pairwise_iff_getElem.1 hr j t (by omega) ht hj
    simp; omega
  simp [lifeP, hf, hat]

theorem life_no {L : List (Int × Int)} {n : Int} (h : hasLife L n = false) : lifeP L n = 0 := by
  simp only [hasLife, List.any_eq_false, beq_iff_eq] at h
  have : L.find? (fun x => x.1 == n) = none := by
    rw [List.find?_eq_none]
    intro x hx
    simpa using h x hx
  simp [lifeP, this]

set_option maxRecDepth 100000 in
theorem Life_any {w : World} {v : Value} {p : Pl} (h : PlanRd w v p) (hr : Rising p.lives) (hL : p.lives.length ≤ 1000) (n : Int) : Calls Tryz.prog 134 #[v, .int .i64 n] w fun e w' =>
    e = .returned (.int .i64 (lifeP p.lives n)) ∧ Below w.heap.size w w' := by
  have h0 := h
  obtain ⟨pv, lv, rfl, hp, hl⟩ := h
  obtain ⟨la, lc, rfl, -, -, hC⟩ := hl.cells
  obtain ⟨pa, pc, rfl, -, -, -⟩ := hp.cells
  have HP := Lib.hid (h0.below (below_alloc w (.cells #[.int .i64 p.nodes, .int .i64 p.copies, .slice pa p.parts.length pc, .slice la p.lives.length lc] 52)))
  have HC := Lib.hid hC
  clear hl hp h0 hC
  cases hh : hasLife p.lives n
  · have hz := life_no hh
    go_enter Tryz.func134, Tryz.ntmps134
    go_wp2_with (first | (go_at_call 174; refine (find_any HP.out hr hL n).mono ?_; rintro _ w2 ⟨rfl, hb2⟩; rw [hh]))
    exact bodyPost_ret (v := .int .i64 0) (by simp [results, Tryz.results134, go_sem]) rfl ⟨by rw [hz], below_trans (below_alloc _ _) hb2⟩
  · obtain ⟨hi, -, e2⟩ := life_at hr hh
    obtain ⟨b, off, rfl, hb, c0, c1⟩ := HC.out _ hi
    rw [e2] at c1
    have c1' := below_some (below_alloc w (.cells #[.int .i64 p.nodes, .int .i64 p.copies, .slice pa p.parts.length pc, .slice (some ⟨b, off, none⟩) p.lives.length lc] 52)) c1 hb
    have hnew : (w.alloc (.cells #[.int .i64 p.nodes, .int .i64 p.copies, .slice pa p.parts.length pc, .slice (some ⟨b, off, none⟩) p.lives.length lc] 52)).cell? ⟨w.heap.size, 3, none⟩ = some (.slice (some ⟨b, off, none⟩) p.lives.length lc) := cells_of (heap_alloc_new _ _) 3 _ rfl
    have i1 : ((lifeAt p.lives n : Nat) : Int) < (p.lives.length : Int) := by omega
    have i2 : (0 : Int) ≤ ((lifeAt p.lives n : Nat) : Int) := by omega
    clear e2 c0 c1
    have hf := find_any HP.out hr hL n
    rw [hh] at hf
    generalize lifeAt p.lives n = i at *
    generalize lifeP p.lives n = y at *
    have HF := Lib.hid hf
    clear hf hi
    go_enter Tryz.func134, Tryz.ntmps134
    go_wp2_with (first | (go_at_call 174; refine HF.out.mono ?_; rintro _ w2 ⟨rfl, hb2⟩; have hn2 := below_some hb2 hnew (by simp); have hn3 := below_some hb2 c1' (by simp; omega)))
    exact bodyPost_ret (v := .int .i64 y) (by simp [results, Tryz.results134, go_sem]) rfl ⟨rfl, below_trans (below_alloc _ _) hb2⟩
end Go.Proofs.YtcpaaleogmiamaaGreatDoor
