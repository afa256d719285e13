/- The walks of slices.BinarySearch at texts, flock.find, flock.the. -/
import Derived.Test.YtdchjepahgecgaaGreatDoorMq16
import Derived.Test.YtdchjepahgecgaaGreatDoorMq17
namespace Go.Proofs.YtdchjepahgecgaaGreatDoor
open Go.RowKit

set_option maxRecDepth 100000 in
set_option maxHeartbeats 1000000 in
theorem BSStr_any {w : World} {v : Value} {L : List (List UInt8)} (h : Strs w v L) (hr : StrUp L) (hL : L.length ≤ 1000) (n : List UInt8) : Calls Tryz.prog 31 #[v, .string (bs n)] w fun e w' =>
    e = .returned (.tuple #[.int .i64 (strAt L n), .bool (hasStr L n)]) ∧ w' = w := by
  obtain ⟨a, cap, rfl, -, hml, hC⟩ := h.cells
  have hml' : (L.length : Int) ≤ 9223372036854775807 := by have : maxLen = 9223372036854775807 := rfl; omega
  have HC := Lib.hid hC
  clear h hC hml
  go_enter Tryz.func31, Tryz.ntmps31
  go_wp2
  go_loopg [7, 8, 9] L.length (fun gk s9 s10 _ wr => ∃ i j : Nat, i ≤ j ∧ j ≤ L.length ∧ gk = j - i ∧ s9 = .int .i64 i ∧ s10 = .int .i64 j ∧ (∀ t (ht : t < L.length), t < i → L[t] < n) ∧ (∀ t (ht : t < L.length), j ≤ t → ¬ L[t] < n) ∧ wr = w)
  case atStart => exact ⟨0, L.length, Nat.zero_le _, Nat.le_refl _, rfl, rfl, rfl, fun t _ h => absurd h (Nat.not_lt_zero t), fun t ht h => by omega, rfl⟩
  case round =>
    obtain ⟨i, j, hij, hj, rfl, rfl, rfl, h1, h2, rfl⟩ := hrel
    have HX := Lib.hid (And.intro h1 h2)
    clear h1 h2
    by_cases hlt : i < j
    · obtain ⟨m, hm⟩ : ∃ m : Nat, m = (i + j) / 2 := ⟨_, rfl⟩
      have hm1 : i ≤ m := by omega
      have hm2 : m < j := by omega
      have hmL : m < L.length := by omega
      have HM := Lib.hid hm
      clear hm
      obtain ⟨b, off, rfl, hb, c0⟩ := HC.out m hmL
      have i1 : (m : Int) < (L.length : Int) := by omega
      have i2 : (0 : Int) ≤ (m : Int) := by omega
      have i3 : (i : Int) < (j : Int) := by omega
      have i4 : (j : Int) ≤ 9223372036854775807 := by omega
      have HL1 : L[m] < n → ∀ t (ht : t < L.length), t < m + 1 → L[t] < n := by
        intro hlt2 t ht htm
        by_cases e : t = m
        · subst e; exact hlt2
        · have := List.pairwise_iff_getElem.1 hr t m ht (by omega) (by omega)
          exact txt_trans this hlt2
      have HL2 : ¬ L[m] < n → ∀ t (ht : t < L.length), m ≤ t → ¬ L[t] < n := by
        intro hle t ht htm
        by_cases e : t = m
        · subst e; exact hle
        · have := List.pairwise_iff_getElem.1 hr m t (by omega) ht (by omega)
          exact fun hx => hle (txt_trans this hx)
      have HY := Lib.hid (And.intro HL1 HL2)
      clear HL1 HL2
      generalize L[m] = x at *
      have HM2 := Lib.hid HM.out
      rw [HM.out] at c0
      clear HM
      by_cases hxn : x < n
      · have hc : decide (x < n) = true := decide_eq_true hxn
        go_wp2_with (first | (go_at_call 73; refine (LessS_any x n _).mono ?_; rintro _ w2 ⟨rfl, rfl⟩; rw [hc]))
        go_roundg (j - (m + 1))
        case measure => omega
        case rel => exact ⟨m + 1, j, by omega, hj, rfl, by have := HM2.out; go_num, rfl, HY.out.1 hxn, HX.out.2, rfl⟩
      · have hc : decide (x < n) = false := decide_eq_false hxn
        go_wp2_with (first | (go_at_call 73; refine (LessS_any x n _).mono ?_; rintro _ w2 ⟨rfl, rfl⟩; rw [hc]))
        go_roundg (m - i)
        case measure => omega
        case rel => exact ⟨i, m, by omega, by omega, rfl, rfl, by have := HM2.out; go_num, HX.out.1, HY.out.2 hxn, rfl⟩
    · have hije : i = j := by omega
      subst hije
      have hat : strAt L n = i := posK_of (fun x => x) (s := n) hj HX.out.1 HX.out.2
      have hhas : (∀ h : i < L.length, hasStr L n = decide (L[i] = n)) ∧ (i = L.length → hasStr L n = false) := hasK_of (fun x => x) (s := n) txt_irrefl (fun _ _ _ => txt_trans) hj hr HX.out.1 HX.out.2
      have i3 : ¬ (i : Int) < (i : Int) := by omega
      by_cases hil : i < L.length
      · obtain ⟨b, off, rfl, hb, c0⟩ := HC.out i hil
        have i1 : (i : Int) < (L.length : Int) := by omega
        have i2 : (0 : Int) ≤ (i : Int) := by omega
        have hh := hhas.1 hil
        have HH := Lib.hid (And.intro hat hh)
        clear hat hhas hh
        generalize L[i] = x at *
        by_cases hxn : x = n
        · subst hxn
          go_wp2
          exact bodyPost_ret (v := .tuple #[.int .i64 i, .bool true]) (by simp [results, Tryz.results31, go_sem]) rfl ⟨by rw [HH.out.1, HH.out.2]; simp, rfl⟩
        · have hc := beq_dec x n
          rw [decide_eq_false hxn] at hc
          go_wp2_with (first | (go_at_call 74; refine (isNaNS_any _ _).mono ?_; rintro _ w1 ⟨rfl, rfl⟩))
          exact bodyPost_ret (v := .tuple #[.int .i64 i, .bool false]) (by simp [results, Tryz.results31, go_sem]) rfl ⟨by rw [HH.out.1, HH.out.2]; simp [hxn], rfl⟩
      · have i1 : ¬ (i : Int) < (L.length : Int) := by omega
        have hh := hhas.2 (by omega)
        have HH := Lib.hid (And.intro hat hh)
        clear hat hhas hh
        go_wp2
        exact bodyPost_ret (v := .tuple #[.int .i64 i, .bool false]) (by simp [results, Tryz.results31, go_sem]) rfl ⟨by rw [HH.out.1, HH.out.2], rfl⟩

theorem find_any {w : World} {v : Value} {L : List Fk} (h : FksRd w v L) (hr : FkUp L) (hL : L.length ≤ 1000) (s : List UInt8) : Calls Tryz.prog 25 #[v, .string (bs s)] w fun e w' =>
    e = .returned (.tuple #[.int .i64 (fkAt L s), .bool (hasFk L s)]) ∧ Below w.heap.size w w' := by
  have H := Lib.hid (BSFk_any h hr hL s)
  clear h
  obtain ⟨a, ha⟩ : ∃ a, fkAt L s = a := ⟨_, rfl⟩
  obtain ⟨b, hb⟩ : ∃ b, hasFk L s = b := ⟨_, rfl⟩
  rw [ha, hb] at H ⊢
  go_enter Tryz.func25, Tryz.ntmps25
  go_wp2_with (first | (go_at_call 56; refine H.out.mono ?_; rintro _ w2 ⟨rfl, hb2⟩))
  exact bodyPost_ret (v := .tuple #[.int .i64 a, .bool b]) (by simp [results, Tryz.results25, go_sem]) rfl ⟨rfl, hb2⟩

/-- A group's words, where it stands. -/
theorem fv_cells {w : World} {v : Value} {m : List Fv} (h : Rd w 5 v m.length (fkCells m)) (hf : ∀ x ∈ m, FvRd w x) : ∃ a cap, v = .slice a m.length cap ∧ m.length ≤ cap ∧ m.length ≤ maxLen ∧
    ∀ k (hk : k < m.length), ∃ b off ma mc pa pc, a = some ⟨b, off, none⟩ ∧ b < w.heap.size ∧ m[k].1 = .slice ma m[k].2.2.members.length mc ∧ m[k].2.1 = .slice pa m[k].2.2.points.length pc ∧
      w.cell? ⟨b, off + k * 5, none⟩ = some (.string (bs m[k].2.2.name)) ∧ w.cell? ⟨b, off + k * 5 + 1, none⟩ = some (.int .i64 m[k].2.2.gen) ∧
      w.cell? ⟨b, off + k * 5 + 2, none⟩ = some (.int .i64 m[k].2.2.parts) ∧ w.cell? ⟨b, off + k * 5 + 3, none⟩ = some m[k].1 ∧ w.cell? ⟨b, off + k * 5 + 4, none⟩ = some m[k].2.1 := by
  obtain ⟨a, cap, rfl, hcap⟩ := h.shape
  refine ⟨a, cap, rfl, hcap, h.maxlen, ?_⟩
  intro k hk
  obtain ⟨b, off, cap, e, _, _, hb, hc⟩ := h.at (by omega)
  simp only [Value.slice.injEq, true_and] at e
  obtain ⟨hi1, hi2⟩ := hf _ (List.getElem_mem hk)
  obtain ⟨ma, mc, e1, -⟩ := hi1.cells
  obtain ⟨pa, pc, e2, -⟩ := hi2.cells
  have hg : ∀ r u, (fkEl m[k])[r]? = some u → w.cell? ⟨b, off + (k * 5 + r), none⟩ = some u := fun r u hu => hc _ _ (fl_at fkEl_len m k hk r u hu)
  exact ⟨b, off, ma, mc, pa, pc, e.1, hb, e1, e2, hg 0 _ rfl, hg 1 _ rfl, hg 2 _ rfl, hg 3 _ rfl, hg 4 _ rfl⟩

/-- What flock.the answers. -/
def TheTo (w : World) (m : List Fv) (s : List UInt8) (e : Ending) (w' : World) : Prop :=
  Below w.heap.size w w' ∧ ((∃ (k : Nat) (hk : k < m.length) (ma : Option Addr) (mc : Nat) (pa : Option Addr) (pc : Nat), k = fkAt (m.map (·.2.2)) s ∧ m[k].2.2.name = s ∧ hasFk (m.map (·.2.2)) s = true ∧ m[k].1 = .slice ma m[k].2.2.members.length mc ∧ m[k].2.1 = .slice pa m[k].2.2.points.length pc ∧
      e = .returned (.tuple #[.agg #[.string (bs m[k].2.2.name), .int .i64 m[k].2.2.gen, .int .i64 m[k].2.2.parts, .slice ma m[k].2.2.members.length mc, .slice pa m[k].2.2.points.length pc], .bool true])) ∨
    (hasFk (m.map (·.2.2)) s = false ∧ e = .returned (.tuple #[.agg #[.string (bs s), .int .i64 0, .int .i64 0, .slice none 0 0, .slice none 0 0], .bool false])))

theorem hasFk_at {L : List Fk} (hr : FkUp L) {s : List UInt8} (h : hasFk L s = true) : ∃ hk : fkAt L s < L.length, (L[fkAt L s]'hk).name = s := by
  obtain ⟨h1, h2⟩ := up_split Fk.name (fun _ _ _ => txt_trans) hr s
  have hh := hasK_of Fk.name (s := s) txt_irrefl (fun _ _ _ => txt_trans) (posK_le Fk.name L s) hr h1 h2
  by_cases hk : fkAt L s < L.length
  · have := hh.1 hk
    unfold hasFk at h
    rw [this] at h
    exact ⟨hk, by simpa using h⟩
  · have hle : fkAt L s ≤ L.length := posK_le Fk.name L s
    have := hh.2 (Nat.le_antisymm hle (Nat.le_of_not_lt hk))
    unfold hasFk at h
    rw [this] at h
    cases h

/-- A box of five words is written over. -/
theorem set5 {w : World} {b : Nat} {T : TypeId} {x0 x1 x2 x3 x4 : Value} (h : w.heap[b]? = some (.cells #[x0, x1, x2, x3, x4] T (0, 0))) (y0 y1 y2 y3 y4 : Value) :
    (((((w.setCell ⟨b, 0, none⟩ y0).setCell ⟨b, 1, none⟩ y1).setCell ⟨b, 2, none⟩ y2).setCell ⟨b, 3, none⟩ y3).setCell ⟨b, 4, none⟩ y4).heap[b]? = some (.cells #[y0, y1, y2, y3, y4] T (0, 0)) ∧
    Upd (fun k => k = b) w (((((w.setCell ⟨b, 0, none⟩ y0).setCell ⟨b, 1, none⟩ y1).setCell ⟨b, 2, none⟩ y2).setCell ⟨b, 3, none⟩ y3).setCell ⟨b, 4, none⟩ y4) :=
  ⟨setCell_same (o := 4) (v := y4) (setCell_same (o := 3) (v := y3) (setCell_same (o := 2) (v := y2) (setCell_same (o := 1) (v := y1) (setCell_same (o := 0) (v := y0) h)))),
    ((((upd_set1 w b 0 y0).trans (upd_set1 _ b 1 y1)).trans (upd_set1 _ b 2 y2)).trans (upd_set1 _ b 3 y3)).trans (upd_set1 _ b 4 y4)⟩

set_option maxRecDepth 100000 in
theorem the_any {w : World} {v : Value} {m : List Fv} (h : Rd w 5 v m.length (fkCells m)) (hf : ∀ x ∈ m, FvRd w x) (hr : FkUp (m.map (·.2.2))) (hL : m.length ≤ 1000) (s : List UInt8) : Calls Tryz.prog 24 #[v, .string (bs s)] w (TheTo w m s) := by
  have hrd : FksRd w v (m.map (·.2.2)) := ⟨m, rfl, h, hf⟩
  have hfd := fun (o : Obj) => find_any (hrd.below (below_alloc w o)) hr (by simpa using hL) s
  obtain ⟨a, cap, rfl, -, hml, hC⟩ := fv_cells h hf
  obtain ⟨b, hb⟩ : ∃ b, hasFk (m.map (·.2.2)) s = b := ⟨_, rfl⟩
  rw [hb] at hfd
  have H := Lib.hid hfd
  clear hfd h hf hrd
  cases b with
  | false =>
    have HB := Lib.hid hb
    clear hC
    go_enter Tryz.func24, Tryz.ntmps24
    go_wp2_with (first | (go_at_call 25; refine (H.out _).mono ?_; rintro _ w2 ⟨rfl, hb2⟩; have hres := (hb2.block w.heap.size (by simp)).trans (heap_alloc_new w _); have hbw : Below w.heap.size w w2 := (below_alloc w _).trans (hb2.mono (by simp)); have r0 := cells_of hres 0 _ rfl; have r1 := cells_of hres 1 _ rfl; have r2 := cells_of hres 2 _ rfl; have r3 := cells_of hres 3 _ rfl; have r4 := cells_of hres 4 _ rfl; have f0 := frozen_of (j := 0) hres; have f1 := frozen_of (j := 1) hres; have f2 := frozen_of (j := 2) hres; have f3 := frozen_of (j := 3) hres; have f4 := frozen_of (j := 4) hres; have HR := Lib.hid hres; clear hres hb2))
    obtain ⟨hz, hu⟩ := set5 HR.out (.string (bs s)) (.int .i64 0) (.int .i64 0) (.slice none 0 0) (.slice none 0 0)
    have z0 := cells_of hz 0 _ rfl
    have z1 := cells_of hz 1 _ rfl
    have z2 := cells_of hz 2 _ rfl
    have z3 := cells_of hz 3 _ rfl
    have z4 := cells_of hz 4 _ rfl
    exact bodyPost_ret (v := .tuple #[.agg #[.string (bs s), .int .i64 0, .int .i64 0, .slice none 0 0, .slice none 0 0], .bool false]) (by simp [results, Tryz.results24, go_sem, z0, z1, z2, z3, z4]) rfl ⟨hbw.trans (hu.toBelow hbw.size (fun k e => by omega)), .inr ⟨HB.out, rfl⟩⟩
  | true =>
    obtain ⟨hk, hkn⟩ := hasFk_at hr hb
    obtain ⟨k, hk0⟩ : ∃ k, fkAt (m.map (·.2.2)) s = k := ⟨_, rfl⟩
    rw [hk0] at hk
    have hkm : k < m.length := by simpa using hk
    have hkn' : m[k].2.2.name = s := by
      have h := hkn
      simp only [hk0, List.getElem_map] at h
      exact h
    rw [hk0] at H
    obtain ⟨b, off, ma, mc, pa, pc, rfl, hblt, e1, e2, c0, c1, c2, c3, c4⟩ := hC k hkm
    rw [e1] at c3
    rw [e2] at c4
    have HC := Lib.hid (And.intro c0 (And.intro c1 (And.intro c2 (And.intro c3 c4))))
    have HB := Lib.hid (And.intro hk0 (And.intro hkn' (And.intro hb (And.intro e1 e2))))
    have i1 : (k : Int) < (m.length : Int) := by omega
    have i2 : (0 : Int) ≤ (k : Int) := by omega
    clear hC c0 c1 c2 c3 c4 hkn hkn' hk0 e1 e2 hb
    go_enter Tryz.func24, Tryz.ntmps24
    go_wp2_with (first | (go_at_call 25; refine (H.out _).mono ?_; rintro _ w2 ⟨rfl, hb2⟩; have hres := (hb2.block w.heap.size (by simp)).trans (heap_alloc_new w _); have hbw : Below w.heap.size w w2 := (below_alloc w _).trans (hb2.mono (by simp)); have r0 := cells_of hres 0 _ rfl; have r1 := cells_of hres 1 _ rfl; have r2 := cells_of hres 2 _ rfl; have r3 := cells_of hres 3 _ rfl; have r4 := cells_of hres 4 _ rfl; have f0 := frozen_of (j := 0) hres; have f1 := frozen_of (j := 1) hres; have f2 := frozen_of (j := 2) hres; have f3 := frozen_of (j := 3) hres; have f4 := frozen_of (j := 4) hres; have HR := Lib.hid hres; clear hres hb2; obtain ⟨c0, c1, c2, c3, c4⟩ := HC.out; have c0 := below_some hbw c0 hblt; have c1 := below_some hbw c1 hblt; have c2 := below_some hbw c2 hblt; have c3 := below_some hbw c3 hblt; have c4 := below_some hbw c4 hblt))
    obtain ⟨hz, hu⟩ := set5 HR.out (.string (bs m[k].2.2.name)) (.int .i64 m[k].2.2.gen) (.int .i64 m[k].2.2.parts) (.slice ma m[k].2.2.members.length mc) (.slice pa m[k].2.2.points.length pc)
    have z0 := cells_of hz 0 _ rfl
    have z1 := cells_of hz 1 _ rfl
    have z2 := cells_of hz 2 _ rfl
    have z3 := cells_of hz 3 _ rfl
    have z4 := cells_of hz 4 _ rfl
    obtain ⟨hk0, hkn', hb, e1, e2⟩ := HB.out
    exact bodyPost_ret (v := .tuple #[.agg #[.string (bs m[k].2.2.name), .int .i64 m[k].2.2.gen, .int .i64 m[k].2.2.parts, .slice ma m[k].2.2.members.length mc, .slice pa m[k].2.2.points.length pc], .bool true]) (by simp [results, Tryz.results24, go_sem, z0, z1, z2, z3, z4]) rfl ⟨hbw.trans (hu.toBelow hbw.size (fun k e => by omega)), .inl ⟨k, hkm, ma, mc, pa, pc, hk0.symm, hkn', hb, e1, e2, rfl⟩⟩
end Go.Proofs.YtdchjepahgecgaaGreatDoor
