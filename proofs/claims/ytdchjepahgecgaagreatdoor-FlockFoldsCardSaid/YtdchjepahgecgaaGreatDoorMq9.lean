/- The walks of share.isName, share.Good, flock.isName, flock.isOff. -/
import Derived.Test.YtdchjepahgecgaaGreatDoorMq8
namespace Go.Proofs.YtdchjepahgecgaaGreatDoor
open Go.RowKit

def letters : List UInt8 := [97, 98, 99, 100, 101, 102, 103, 104, 105, 106, 107, 108, 109, 110, 111, 112, 113, 114, 115, 116, 117, 118, 119, 120, 121, 122, 48, 49, 50, 51, 52, 53, 54, 55, 56, 57]

theorem letters_dec (c : UInt8) : letters.contains c = isLetterB c := by
  have h : ∀ n : Fin 256, letters.contains (UInt8.ofNat n.val) = isLetterB (UInt8.ofNat n.val) := by decide +kernel
  have := h ⟨c.toNat, c.toNat_lt⟩
  simpa using this

theorem dw_nil {p : UInt8 → Bool} : ∀ {l : List UInt8}, l.dropWhile p = [] ↔ ∀ x ∈ l, p x = true
  | [] => by simp
  | a :: l => by
    by_cases h : p a = true
    · rw [List.dropWhile_cons_of_pos h, dw_nil]; simp [h]
    · rw [List.dropWhile_cons_of_neg h]; simp [h]

theorem trim_nil (l cs : List UInt8) : Lib.trimS l cs = [] ↔ ∀ x ∈ l, cs.contains x = true := by
  unfold Lib.trimS Lib.trimLeftS Lib.trimRightS
  constructor
  · intro h x hx
    have h1 := dw_nil.1 h
    cases hr : l.reverse.dropWhile (cs.contains ·) with
    | nil => exact dw_nil.1 hr x (by simpa using hx)
    | cons a r =>
      have h2 : cs.contains a = true := h1 a (by rw [hr]; simp)
      have h3 := List.head?_dropWhile_not (cs.contains ·) l.reverse
      rw [hr] at h3
      simp only [List.head?_cons] at h3
      rw [h2] at h3
      cases h3
  · intro h
    have hr : l.reverse.dropWhile (cs.contains ·) = [] := dw_nil.2 (fun x hx => h x (by simpa using hx))
    rw [hr]
    rfl

theorem trim_name {s : List UInt8} : (Lib.trimS s letters = []) ↔ s.all isLetterB = true := by
  rw [trim_nil, List.all_eq_true]
  simp only [letters_dec]

theorem zero_ascii : (Tryz.prog.info? 149).bind (·.zero) = some (.agg (Array.replicate 256 (.bool false))) := by kernel_rfl
theorem size_ascii : (Tryz.prog.info? 149).map (·.size) = some 256 := by kernel_rfl

theorem Trim_any (s : List UInt8) (h0 : 0 < s.length) (hs : s.length ≤ 1000) (w : World) : Calls Tryz.prog 103 #[.string (bs s), .string ⟨#[97, 98, 99, 100, 101, 102, 103, 104, 105, 106, 107, 108, 109, 110, 111, 112, 113, 114, 115, 116, 117, 118, 119, 120, 121, 122, 48, 49, 50, 51, 52, 53, 54, 55, 56, 57]⟩] w fun e w' =>
    e = .returned (.string (bs (Lib.trimS s letters))) ∧ Below w.heap.size w w' := by
  have h := Any.strings_Trim_set Tryz.laysTrim (fun w => run_zero zero_ascii w) size_ascii (bs s) (bs letters) w (by rw [bs_size]; decide) (by rw [bs_size]; exact h0) (by rw [bs_size]; omega) (by rw [bs_size]; decide)
    (fun j b hb => by
      rw [bs_data] at hb
      have := List.mem_of_getElem? hb
      have hall : letters.all (fun b => decide (b.toNat < 128)) = true := by decide
      simpa using List.all_eq_true.1 hall b this)
  rw [bs_data, bs_data] at h
  refine h.mono ?_
  rintro e w' ⟨rfl, q, rfl⟩
  exact ⟨rfl, below_drewN (below_alloc2 _ _ _) q⟩

set_option maxRecDepth 100000 in
theorem SisName_any (s : List UInt8) (w : World) : Calls Tryz.prog 88 #[.string (bs s)] w fun e w' => e = .returned (.bool (nameB s)) ∧ Below w.heap.size w w' := by
  have hsz := bs_size s
  cases hs : s with
  | nil =>
    subst hs
    have hn : nameB [] = false := rfl
    rw [hn]
    have h1 : (bs ([] : List UInt8)).toList = [] := bs_toList []
    go_enter Tryz.func88, Tryz.ntmps88
    go_wp2
    go_ret
    exact ⟨rfl, Below.refl _ _⟩
  | cons a r =>
    rw [← hs]
    have h1 : (bs s).toList.isEmpty = false := by
      rw [bs_toList, hs]
      rfl
    have h1' : ¬ (bs s).toList = [] := by
      rw [bs_toList, hs]
      simp
    have h0 : 0 < s.length := by rw [hs]; simp
    clear hs
    by_cases h8 : s.length ≤ 8
    · have h8' : (s.length : Int) ≤ 8 := by omega
      have HT := Lib.hid (Trim_any s h0 (by omega))
      cases hb : s.all isLetterB with
      | true =>
        have hn : nameB s = true := by simp [nameB, h8, hb]; omega
        have h2 : (bs (Lib.trimS s letters)).toList = [] := by rw [bs_toList, trim_name.2 hb]
        rw [hn]
        clear hb hn
        go_enter Tryz.func88, Tryz.ntmps88
        go_wp2_with (first | (go_at_call 103; refine (HT.out _).mono ?_; rintro _ w1 ⟨rfl, hb1⟩))
        go_ret
        exact ⟨rfl, hb1⟩
      | false =>
        have hn : nameB s = false := by simp [nameB, hb]
        have h2 : ¬ (bs (Lib.trimS s letters)).toList = [] := by
          rw [bs_toList]
          intro ht
          rw [trim_name.1 ht] at hb
          cases hb
        have h2' : (bs (Lib.trimS s letters)).toList.isEmpty = false := by simpa using h2
        rw [hn]
        clear hb hn
        go_enter Tryz.func88, Tryz.ntmps88
        go_wp2_with (first | (go_at_call 103; refine (HT.out _).mono ?_; rintro _ w1 ⟨rfl, hb1⟩))
        go_ret
        exact ⟨rfl, hb1⟩
    · have h8' : ¬ (s.length : Int) ≤ 8 := by omega
      have hn : nameB s = false := by simp [nameB, h8]
      rw [hn]
      clear hn
      go_enter Tryz.func88, Tryz.ntmps88
      go_wp2
      go_ret
      exact ⟨rfl, Below.refl _ _⟩

theorem FisOff_any (n : Int) (w : World) : Calls Tryz.prog 54 #[.int .i64 n] w fun e w' => e = .returned (.bool (decide (0 ≤ n) && decide (n ≤ 1099511627776))) ∧ w' = w := by
  by_cases h1 : 0 ≤ n
  · by_cases h2 : n ≤ 1099511627776
    · go_enter Tryz.func54, Tryz.ntmps54
      go_wp2
      go_ret
      exact ⟨by simp [h1, h2], rfl⟩
    · go_enter Tryz.func54, Tryz.ntmps54
      go_wp2
      go_ret
      exact ⟨by simp [h2], rfl⟩
  · go_enter Tryz.func54, Tryz.ntmps54
    go_wp2
    go_ret
    exact ⟨by simp; intro h; omega, rfl⟩

theorem up_of_adj {l : List (List UInt8)} (h : ∀ j (hj : j < l.length) (_ : 0 < j), l[j - 1] < l[j]) : StrsUp l := by
  unfold StrsUp
  rw [List.pairwise_iff_getElem]
  intro i j hi hj hij
  induction j with
  | zero => omega
  | succ j ih =>
    have h1 := h (j + 1) hj (by omega)
    simp only [Nat.add_sub_cancel] at h1
    by_cases e : i = j
    · subst e; exact h1
    · exact txt_trans (ih (by omega) (by omega)) h1

theorem good_of {l : List (List UInt8)} (h : ∀ j (hj : j < l.length), nameB l[j] = true ∧ ∀ _ : 0 < j, l[j - 1] < l[j]) : goodB l = decide (l.length ≤ 4) := by
  have h1 : l.all nameB = true := by
    rw [List.all_eq_true]
    intro x hx
    obtain ⟨j, hj, rfl⟩ := List.mem_iff_getElem.1 hx
    exact (h j hj).1
  have h2 : StrsUp l := up_of_adj (fun j hj h0 => (h j hj).2 h0)
  simp [goodB, h1, h2]

theorem not_good {l : List (List UInt8)} {j : Nat} (hj : j < l.length) (h : nameB l[j] = false ∨ ∃ _ : 0 < j, ¬ l[j - 1] < l[j]) : goodB l = false := by
  cases hg : goodB l with
  | false => rfl
  | true =>
    simp only [goodB, Bool.and_eq_true, decide_eq_true_eq, List.all_eq_true] at hg
    rcases h with h | ⟨h0, h⟩
    · rw [hg.1 _ (List.getElem_mem hj)] at h; cases h
    · exact absurd (List.pairwise_iff_getElem.1 hg.2.1 (j - 1) j (by omega) hj (by omega)) h

set_option maxRecDepth 100000 in
set_option maxHeartbeats 1000000 in
theorem SGood_any {w : World} {v : Value} {l : List (List UInt8)} (h : Strs w v l) : Calls Tryz.prog 53 #[v] w fun e w' => e = .returned (.bool (goodB l)) ∧ Below w.heap.size w w' := by
  obtain ⟨a, cap, rfl, -, hml, hC⟩ := h.cells
  have hml' : (l.length : Int) ≤ 9223372036854775807 := by have : maxLen = 9223372036854775807 := rfl; omega
  obtain ⟨G, hG⟩ : ∃ G, goodB l = G := ⟨_, rfl⟩
  have HC := Lib.hid hC
  have HG := Lib.hid hG
  rw [hG]
  clear h hC hml hG
  go_enter Tryz.func53, Tryz.ntmps53
  go_wp2
  go_loopg [3, 4, 7] l.length (fun gk _ _ i wr => ∃ k : Nat, k ≤ l.length ∧ gk = l.length - k ∧ i = .int .i64 k ∧ (∀ j (hj : j < l.length), j < k → nameB l[j] = true ∧ ∀ _ : 0 < j, l[j - 1] < l[j]) ∧ Below w.heap.size w wr)
  case atStart => exact ⟨0, Nat.zero_le _, rfl, rfl, fun j _ h => absurd h (Nat.not_lt_zero j), Below.refl _ _⟩
  case round =>
    obtain ⟨k, hk, rfl, rfl, hall, hbel⟩ := hrel
    have HA := Lib.hid (And.intro hall hbel)
    have hsz := hbel.size
    clear hall
    by_cases hlt : k < l.length
    · obtain ⟨b, off, rfl, hb, c0⟩ := HC.out k hlt
      have c0 := below_some hbel c0 hb
      have i1 : (k : Int) < (l.length : Int) := by omega
      have i2 : (0 : Int) ≤ (k : Int) := by omega
      have hbad : nameB l[k] = false ∨ (∃ _ : 0 < k, ¬ l[k - 1] < l[k]) → G = false := fun h => by rw [← HG.out]; exact not_good hlt h
      have hgo : nameB l[k] = true → (∀ _ : 0 < k, l[k - 1] < l[k]) → ∀ j (hj : j < l.length), j < k + 1 → nameB l[j] = true ∧ ∀ _ : 0 < j, l[j - 1] < l[j] := by
        intro h1 h2 j hj hjk
        by_cases e : j = k
        · subst e; exact ⟨h1, h2⟩
        · exact HA.out.1 j hj (by omega)
      have HY := Lib.hid (And.intro hbad hgo)
      clear hbad hgo
      rcases Nat.eq_zero_or_pos k with hk0 | hk0
      · have hd : decide ((0 : Int) < (k : Int)) = false := by simp; omega
        have hd2 : ¬ (0 : Int) < (k : Int) := by omega
        have HK0 := Lib.hid hk0
        clear hbel hk0
        obtain ⟨x, hx⟩ : ∃ x, l[k] = x := ⟨_, rfl⟩
        rw [hx] at c0
        have HX := Lib.hid hx
        clear hx
        cases hn : nameB x
        · go_wp2_with (first | (go_at_call 88; refine (SisName_any x _).mono ?_; rintro _ w1 ⟨rfl, hb1⟩; rw [hn]))
          have hGf := HY.out.1 (.inl (by rw [HX.out]; exact hn))
          exact bodyPost_ret (v := .bool false) (by simp [results, Tryz.results53, go_sem]) rfl ⟨by rw [hGf], HA.out.2.trans (hb1.mono hsz)⟩
        · go_wp2_with (first | (go_at_call 88; refine (SisName_any x _).mono ?_; rintro _ w1 ⟨rfl, hb1⟩; rw [hn]))
          go_roundg (l.length - (k + 1))
          case measure => omega
          case rel => exact ⟨k + 1, by omega, rfl, by go_num, HY.out.2 (by rw [HX.out]; exact hn) (fun h => by have := HK0.out; omega), HA.out.2.trans (hb1.mono hsz)⟩
      · obtain ⟨b', off', e', hb', c1⟩ := HC.out (k - 1) (by omega)
        simp only [Option.some.injEq, Addr.mk.injEq, and_true] at e'
        obtain ⟨rfl, rfl⟩ := e'
        have c1 := below_some hbel c1 hb
        have hd : decide ((0 : Int) < (k : Int)) = true := by simp; omega
        have hd2 : (0 : Int) < (k : Int) := by omega
        have q1 : IntKind.i64.wrap ((k : Int) - 1) = ((k - 1 : Nat) : Int) := by rw [IntWalk.i64_in _ (by omega)]; omega
        have q2 : (k : Int) - 1 = ((k - 1 : Nat) : Int) := by omega
        have q3 : ((k : Int) - 1).toNat = k - 1 := by omega
        have q4 : (0 : Int) ≤ (k : Int) - 1 := by omega
        have q5 : (k : Int) - 1 < (l.length : Int) := by omega
        clear hbel
        obtain ⟨x, hx⟩ : ∃ x, l[k] = x := ⟨_, rfl⟩
        obtain ⟨y, hy⟩ : ∃ y, l[k - 1] = y := ⟨_, rfl⟩
        rw [hx] at c0
        rw [hy] at c1
        have HX := Lib.hid (And.intro hx hy)
        clear hx hy
        have hbl := bl_dec y x
        cases hn : nameB x
        · go_wp2_with (first | (go_at_call 88; refine (SisName_any x _).mono ?_; rintro _ w1 ⟨rfl, hb1⟩; rw [hn]))
          have hGf := HY.out.1 (.inl (by rw [HX.out.1]; exact hn))
          exact bodyPost_ret (v := .bool false) (by simp [results, Tryz.results53, go_sem]) rfl ⟨by rw [hGf], HA.out.2.trans (hb1.mono hsz)⟩
        · by_cases hyx : y < x
          · rw [decide_eq_true hyx] at hbl
            go_wp2_with (first | (go_at_call 88; refine (SisName_any x _).mono ?_; rintro _ w1 ⟨rfl, hb1⟩; rw [hn]; have c1 := below_some hb1 c1 (Nat.lt_of_lt_of_le hb hsz)))
            go_roundg (l.length - (k + 1))
            case measure => omega
            case rel => exact ⟨k + 1, by omega, rfl, by go_num, HY.out.2 (by rw [HX.out.1]; exact hn) (fun _ => by rw [HX.out.1, HX.out.2]; exact hyx), HA.out.2.trans (hb1.mono hsz)⟩
          · rw [decide_eq_false hyx] at hbl
            go_wp2_with (first | (go_at_call 88; refine (SisName_any x _).mono ?_; rintro _ w1 ⟨rfl, hb1⟩; rw [hn]; have c1 := below_some hb1 c1 (Nat.lt_of_lt_of_le hb hsz)))
            have hGf := HY.out.1 (.inr ⟨hk0, by rw [HX.out.1, HX.out.2]; exact hyx⟩)
            exact bodyPost_ret (v := .bool false) (by simp [results, Tryz.results53, go_sem]) rfl ⟨by rw [hGf], HA.out.2.trans (hb1.mono hsz)⟩
    · have i1 : ¬ (k : Int) < (l.length : Int) := by omega
      have hgd : G = decide (l.length ≤ 4) := by
        rw [← HG.out]
        exact good_of (fun j hj => HA.out.1 j hj (by omega))
      have HD := Lib.hid hgd
      clear hgd hbel
      go_wp2
      exact bodyPost_ret (v := .bool (decide ((l.length : Int) ≤ 4))) (by simp [results, Tryz.results53, go_sem]) rfl ⟨by rw [HD.out]; congr 2; exact decide_eq_decide.2 (by omega), HA.out.2⟩

theorem strs_alloc1 (w : World) (s : List UInt8) : Strs (w.alloc (.cells #[.string (bs s)] 9)) (.slice (some ⟨w.heap.size, 0, none⟩) 1 1) [s] :=
  Strs.of_owns (N := w.heap.size) (e := 9) ⟨by simp [strCells], .inr ⟨w.heap.size, 1, _, rfl, Nat.le_refl _, heap_alloc_new _ _, Nat.le_refl _, by unfold maxLen; omega, by simp, by simp [strCells]⟩⟩
theorem good_one (s : List UInt8) : goodB [s] = nameB s := by simp [goodB, StrsUp]
theorem FisName_any (s : List UInt8) (w : World) : Calls Tryz.prog 32 #[.string (bs s)] w fun e w' => e = .returned (.bool (nameB s)) ∧ Below w.heap.size w w' := by
  have H := Lib.hid (SGood_any (strs_alloc1 w s))
  rw [good_one] at H
  go_enter Tryz.func32, Tryz.ntmps32
  go_wp2_with (first | (go_at_call 53; refine H.out.mono ?_; rintro _ w1 ⟨rfl, hb1⟩))
  go_ret
  exact ⟨rfl, below_trans (below_alloc _ _) hb1⟩
end Go.Proofs.YtdchjepahgecgaaGreatDoor
