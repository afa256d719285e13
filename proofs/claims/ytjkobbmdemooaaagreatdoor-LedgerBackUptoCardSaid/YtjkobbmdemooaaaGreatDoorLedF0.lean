/- Plain laws on rows and tables: what isRow, isTable say. -/
import Derived.Test.YtjkobbmdemooaaaGreatDoorLedR2
namespace Go.Proofs.YtjkobbmdemooaaaGreatDoor
open Go.RowKit

theorem isRowB_ok {l : List Slot} (h : isRowB l = true) : RowOk l := by
  simp only [isRowB, Bool.and_eq_true, decide_eq_true_eq] at h
  obtain ⟨⟨h1, h2⟩, h3⟩ := h
  refine ⟨by rintro rfl; simp at h2, h3, ?_⟩
  intro i hi
  have a := h1 i hi
  simp only [slotB, Bool.and_eq_true, decide_eq_true_eq] at a
  refine ⟨a.1.1.1.1, a.1.1.1.2, a.1.1.2, a.1.2, ?_⟩
  intro h'
  have b := h1 (i + 1) h'
  have e : preOf l (i + 1) = some l[i] := by simp [preOf, List.getElem?_eq_getElem hi]
  rw [e] at b
  simp only [slotB, Bool.and_eq_true, decide_eq_true_eq] at b
  exact b.2

theorem isRowB_of {l : List Slot} (h : RowOk l) : isRowB l = true := by
  obtain ⟨h1, h2, h3⟩ := h
  have hn : 0 < l.length := List.length_pos_iff.2 h1
  simp only [isRowB, Bool.and_eq_true, decide_eq_true_eq]
  refine ⟨⟨?_, hn⟩, h2⟩
  intro k hk
  obtain ⟨a1, a2, a3, a4, -⟩ := h3 k hk
  cases k with
  | zero => simp [slotB, preOf, a1, a2, a3, a4]
  | succ j =>
    have hj : j < l.length := by omega
    obtain ⟨-, -, -, -, b⟩ := h3 j hj
    have e : preOf l (j + 1) = some l[j] := by simp [preOf, List.getElem?_eq_getElem hj]
    rw [e]
    have := b hk
    simp only [slotB, a1, a2, a3, decide_eq_true a4, decide_eq_true this.1, decide_eq_true this.2, Bool.and_self]

theorem isTableB_ok {T : List (Int × List Slot)} (h : isTableB T = true) : (∀ k (hk : k < T.length), RowOk T[k].2 ∧ isNumB T[k].1 = true ∧ ∀ h' : k + 1 < T.length, T[k].1 < T[k + 1].1) ∧ T.length ≤ 64 := by
  simp only [isTableB, Bool.and_eq_true, decide_eq_true_eq] at h
  refine ⟨?_, h.2⟩
  intro k hk
  have a := h.1 k hk
  simp only [seenB, Bool.and_eq_true] at a
  refine ⟨isRowB_ok a.2, a.1.1, ?_⟩
  intro h'
  have b := h.1 (k + 1) h'
  have e : preT T (k + 1) = some T[k].1 := by simp [preT, List.getElem?_eq_getElem hk]
  rw [e] at b
  simp only [seenB, Bool.and_eq_true, decide_eq_true_eq] at b
  exact b.1.2

theorem isTableB_of {T : List (Int × List Slot)} (h : ∀ k (hk : k < T.length), RowOk T[k].2 ∧ isNumB T[k].1 = true ∧ ∀ h' : k + 1 < T.length, T[k].1 < T[k + 1].1) (hl : T.length ≤ 64) : isTableB T = true := by
  simp only [isTableB, Bool.and_eq_true, decide_eq_true_eq]
  refine ⟨?_, hl⟩
  intro k hk
  obtain ⟨a1, a2, -⟩ := h k hk
  cases k with
  | zero => simp [seenB, preT, a2, isRowB_of a1]
  | succ j =>
    have hj : j < T.length := by omega
    obtain ⟨-, -, b⟩ := h j hj
    have e : preT T (j + 1) = some T[j].1 := by simp [preT, List.getElem?_eq_getElem hj]
    rw [e]
    simp [seenB, a2, isRowB_of a1, b hk]

theorem lt_of_steps {T : List (Int × List Slot)} (h : ∀ k (_ : k < T.length) (h' : k + 1 < T.length), T[k].1 < T[k + 1].1) : ∀ j (hj : j < T.length) i (_ : i < j), (T[i]'(by omega)).1 < T[j].1 := by
  intro j
  induction j with
  | zero => intro _ i hi; omega
  | succ j ih =>
    intro hj i hi
    have h1 := h j (by omega) hj
    by_cases e : i = j
    · subst e; exact h1
    · have := ih (by omega) i (by omega); omega

theorem putL_new : ∀ {L : List (Int × List Slot)} {k : Int} {l : List Slot}, k ∉ L.map (·.1) → putL L k l = L ++ [(k, l)]
  | [], _, _, _ => rfl
  | p :: L, k, l, h => by
    have h1 : (p.1 == k) = false := by
      rw [beq_eq_false_iff_ne]; intro e; exact h (by simp [e])
    have h2 : k ∉ L.map (·.1) := fun hm => h (List.mem_cons_of_mem _ hm)
    simp [putL, h1, putL_new h2]

/-- A table's next row is put behind those that stand. -/
theorem putL_take {T : List (Int × List Slot)} (h : ∀ k (_ : k < T.length) (h' : k + 1 < T.length), T[k].1 < T[k + 1].1) (k : Nat) (hk : k < T.length) :
    putL (T.take k) T[k].1 T[k].2 = T.take (k + 1) := by
  rw [putL_new, List.take_succ_eq_append_getElem hk]
  intro hm
  obtain ⟨x, hx, e⟩ := List.mem_map.1 hm
  obtain ⟨i, hi, rfl⟩ := List.getElem_of_mem hx
  have hi' : i < k := by simp at hi; omega
  have := lt_of_steps h k hk i hi'
  simp at e
  omega
end Go.Proofs.YtjkobbmdemooaaaGreatDoor
