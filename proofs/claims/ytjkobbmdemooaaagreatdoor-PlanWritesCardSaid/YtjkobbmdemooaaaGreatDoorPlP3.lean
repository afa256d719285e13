/- Plan in plain words: a good plan stays good. -/
import Derived.Test.YtjkobbmdemooaaaGreatDoorPlP2
namespace Go.Proofs.YtjkobbmdemooaaaGreatDoor

theorem idx_at {l : List Int} {n : Int} (h : 0 ≤ idx l n) : ∃ i, ∃ hi : i < l.length, idx l n = (i : Int) ∧ l[i] = n := by
  unfold idx at h ⊢
  cases hf : l.findIdx? (· == n) with
  | none => rw [hf] at h; simp at h
  | some i =>
    rw [List.findIdx?_eq_some_iff_getElem] at hf
    obtain ⟨hi, h1, -⟩ := hf
    exact ⟨i, hi, rfl, by simpa using h1⟩

theorem idx_mem {l : List Int} {n : Int} : 0 ≤ idx l n ↔ n ∈ l := by
  have := idx_contains l n
  constructor
  · intro h
    rw [decide_eq_true h] at this
    simpa using this.symm
  · intro h
    have h2 : l.contains n = true := by simpa using h
    rw [h2] at this
    simpa using this

theorem erase_out {l : List Int} {n : Int} (hn : l.Nodup) (h : 0 ≤ idx l n) : n ∉ l.eraseIdx (idx l n).toNat ∧ (l.eraseIdx (idx l n).toNat).Sublist l ∧ (l.eraseIdx (idx l n).toNat).length = l.length - 1 ∧
    l.eraseIdx (idx l n).toNat = l.erase n := by
  obtain ⟨i, hi, e, e2⟩ := idx_at h
  rw [e]
  simp only [Int.toNat_natCast]
  refine ⟨?_, List.eraseIdx_sublist _ _, by rw [List.length_eraseIdx, if_pos hi], ?_⟩
  · intro hm
    rw [List.mem_eraseIdx_iff_getElem] at hm
    obtain ⟨j, hj, hne, e3⟩ := hm
    rw [← e2] at e3
    by_cases hji : j < i
    · exact List.pairwise_iff_getElem.1 (List.nodup_iff_pairwise_ne.1 hn) j i hj hi hji e3
    · exact List.pairwise_iff_getElem.1 (List.nodup_iff_pairwise_ne.1 hn) i j hi hj (by omega) e3.symm
  · have h1 := idx_mem.1 h
    have : l.idxOf n = i := by
      have h3 := List.Nodup.idxOf_getElem hn i hi
      rw [e2] at h3
      exact h3
    rw [List.erase_eq_eraseIdx_of_idxOf this]

theorem split_rising {L : List (Int × Int)} (hr : Rising L) (n : Int) : ∃ i, i ≤ L.length ∧ (∀ t (ht : t < L.length), t < i → L[t].1 < n) ∧ (∀ t (ht : t < L.length), i ≤ t → n ≤ L[t].1) := by
  induction L with
  | nil => exact ⟨0, by simp, fun t ht => by simp at ht, fun t ht => by simp at ht⟩
  | cons x L ih =>
    unfold Rising at hr ih
    rw [List.pairwise_cons] at hr
    by_cases hx : x.1 < n
    · obtain ⟨i, h1, h2, h3⟩ := ih hr.2
      refine ⟨i + 1, by simpa using h1, fun t ht hti => ?_, fun t ht hti => ?_⟩
      · cases t with
        | zero => exact hx
        | succ t => exact h2 t (by simpa using ht) (by omega)
      · cases t with
        | zero => omega
        | succ t => exact h3 t (by simpa using ht) (by omega)
    · refine ⟨0, by simp, fun t ht hti => by omega, fun t ht _ => ?_⟩
      cases t with
      | zero => simpa using hx
      | succ t =>
        have := hr.1 _ (List.getElem_mem (by simpa using ht : t < L.length))
        simp only [List.getElem_cons_succ]
        omega

theorem lifeAt_split {L : List (Int × Int)} (hr : Rising L) (n : Int) : lifeAt L n ≤ L.length ∧ (∀ t (ht : t < L.length), t < lifeAt L n → L[t].1 < n) ∧ (∀ t (ht : t < L.length), lifeAt L n ≤ t → n ≤ L[t].1) := by
  obtain ⟨i, h1, h2, h3⟩ := split_rising hr n
  rw [lifeAt_of h1 h2 h3]
  exact ⟨h1, h2, h3⟩

/-- A life that is put in stands between those of lesser and those of greater nodes. -/
theorem bootL_form {L : List (Int × Int)} (hr : Rising L) (x : Int × Int) : ∃ A B, bootL L x = A ++ x :: B ∧ (∀ y ∈ A, y.1 < x.1) ∧ (∀ y ∈ B, x.1 < y.1) ∧ Rising A ∧ Rising B ∧
    (L = A ++ B ∨ ∃ z, L = A ++ z :: B ∧ z.1 = x.1) := by
  obtain ⟨h1, h2, h3⟩ := lifeAt_split hr x.1
  obtain ⟨i, hi⟩ : ∃ i, lifeAt L x.1 = i := ⟨_, rfl⟩
  rw [hi] at h1 h2 h3
  have hA : ∀ y ∈ L.take i, y.1 < x.1 := by
    intro y hy
    obtain ⟨t, ht, rfl⟩ := List.mem_iff_getElem.1 hy
    rw [List.getElem_take]
    simp at ht
    exact h2 t (by omega) (by omega)
  have hRA : Rising (L.take i) := List.Pairwise.sublist (List.take_sublist _ _) hr
  cases hh : hasLife L x.1
  · have hne : ∀ y ∈ L, y.1 ≠ x.1 := by
      simp only [hasLife, List.any_eq_false, beq_iff_eq] at hh
      exact hh
    refine ⟨L.take i, L.drop i, by simp [bootL, hh, hi], hA, ?_, hRA, List.Pairwise.sublist (List.drop_sublist _ _) hr, .inl (by simp)⟩
    intro y hy
    obtain ⟨t, ht, rfl⟩ := List.mem_iff_getElem.1 hy
    rw [List.getElem_drop]
    simp at ht
    have a := h3 (i + t) (by omega) (by omega)
    have b := hne L[i + t] (List.getElem_mem _)
    omega
  · obtain ⟨hlt, e1, -⟩ := life_at hr hh
    have hlt' : i < L.length := by omega
    have e1' : L[i].1 = x.1 := by simp only [hi] at e1; exact e1
    refine ⟨L.take i, L.drop (i + 1), ?_, hA, ?_, hRA, List.Pairwise.sublist (List.drop_sublist _ _) hr, .inr ⟨L[i], ?_, e1'⟩⟩
    · simp only [bootL, hh, if_true, hi]
      rw [List.set_eq_take_append_cons_drop, if_pos hlt']
    · intro y hy
      obtain ⟨t, ht, rfl⟩ := List.mem_iff_getElem.1 hy
      rw [List.getElem_drop]
      simp at ht
      have := List.pairwise_iff_getElem.1 hr i (i + 1 + t) hlt' (by omega) (by omega)
      omega
    · rw [List.getElem_cons_drop, List.take_append_drop]

theorem bootL_rising {L : List (Int × Int)} (hr : Rising L) (x : Int × Int) : Rising (bootL L x) := by
  obtain ⟨A, B, e, hA, hB, hRA, hRB, -⟩ := bootL_form hr x
  rw [e]
  refine List.pairwise_append.2 ⟨hRA, List.pairwise_cons.2 ⟨hB, hRB⟩, fun a ha b hb => ?_⟩
  rcases List.mem_cons.1 hb with rfl | hb
  · exact hA a ha
  · exact Int.lt_trans (hA a ha) (hB b hb)

theorem bootL_mem {L : List (Int × Int)} (hr : Rising L) {x y : Int × Int} (h : y ∈ bootL L x) : y = x ∨ y ∈ L := by
  obtain ⟨A, B, e, -, -, -, -, h2⟩ := bootL_form hr x
  rw [e] at h
  simp only [List.mem_append, List.mem_cons] at h
  rcases h2 with h2 | ⟨z, h2, -⟩ <;> rw [h2] <;> simp only [List.mem_append, List.mem_cons] <;> rcases h with h | h | h <;> simp [h]

theorem lifeP_append (A B : List (Int × Int)) (n : Int) (h : ∀ y ∈ A, y.1 ≠ n) : lifeP (A ++ B) n = lifeP B n := by
  unfold lifeP
  rw [List.find?_append]
  have : A.find? (fun x => x.1 == n) = none := by
    rw [List.find?_eq_none]
    intro y hy
    simpa using h y hy
  rw [this]
  rfl

theorem lifeP_cons (x : Int × Int) (B : List (Int × Int)) (n : Int) : lifeP (x :: B) n = if x.1 = n then x.2 else lifeP B n := by
  unfold lifeP
  rw [List.find?_cons]
  by_cases h : x.1 = n
  · simp [h]
  · have : (x.1 == n) = false := by simpa using h
    simp [this, h]

theorem lifeP_app2 (A B : List (Int × Int)) (n : Int) : lifeP (A ++ B) n = if (∃ y ∈ A, y.1 = n) then lifeP A n else lifeP B n := by
  split
  · rename_i h
    obtain ⟨y, hy, e⟩ := h
    unfold lifeP
    rw [List.find?_append]
    cases hf : A.find? (fun x => x.1 == n) with
    | none =>
      rw [List.find?_eq_none] at hf
      have := hf y hy
      simp [e] at this
    | some z => rfl
  · rename_i h
    exact lifeP_append A B n (fun y hy e => h ⟨y, hy, e⟩)

theorem lifeP_boot {L : List (Int × Int)} (hr : Rising L) (x : Int × Int) (n : Int) : lifeP (bootL L x) n = if n = x.1 then x.2 else lifeP L n := by
  obtain ⟨A, B, e, hA, hB, hRA, hRB, h2⟩ := bootL_form hr x
  rw [e]
  by_cases hn : n = x.1
  · subst hn
    rw [lifeP_append _ _ _ (fun y hy => by have := hA y hy; omega), lifeP_cons, if_pos rfl, if_pos rfl]
  · rw [if_neg hn, lifeP_app2, lifeP_cons]
    have hx : ¬ x.1 = n := fun h => hn h.symm
    simp only [hx, if_false]
    rcases h2 with h2 | ⟨z, h2, e2⟩
    · rw [h2, lifeP_app2]
    · rw [h2, lifeP_app2, lifeP_cons]
      have hz : ¬ z.1 = n := fun h => hn (by omega)
      simp only [hz, if_false]

theorem incr_place {y : Pt} {n : Int} (h : isPlaceB y n = true) (h2 : y.epoch + 1 ≤ 1073741824) : isPlaceB (incr y) n = true := by
  rw [isPlaceB_iff] at h ⊢
  obtain ⟨a, b, c, d⟩ := h
  exact ⟨a, b, ⟨by simp only [incr]; omega, h2⟩, d⟩

theorem dead_place {y : Pt} {n N : Int} (h : isPlaceB y N = true) : isPlaceB (deadX n y) N = true := by
  rw [isPlaceB_iff] at h
  obtain ⟨a, b, c, d, e, f⟩ := h
  unfold deadX
  split
  · rw [isPlaceB_iff]
    refine ⟨a, b, c, d, ⟨by simp, by simp only; omega⟩, ?_⟩
    intro hm
    have := a 0 hm
    omega
  · split
    · rename_i h1
      obtain ⟨q1, q2, q3, q4⟩ := erase_out b h1.1
      rw [isPlaceB_iff]
      refine ⟨fun m hm => a m (q2.subset hm), List.Pairwise.sublist q2 b, c, by simp only; omega, e, fun hm => f (q2.subset hm)⟩
    · rw [isPlaceB_iff]; exact ⟨a, b, c, d, e, f⟩

theorem place_place {p n c : Nat} (h1 : 0 < c) (h2 : c ≤ n) : isPlaceB (placeP p n c) (n : Int) = true := by
  rw [isPlaceB_iff]
  have hn : 0 < n := by omega
  refine ⟨?_, ?_, ⟨by simp [placeP], by simp [placeP]⟩, by simpa [placeP, chainP_length] using h1, ⟨by simp [placeP], by simp [placeP]⟩, ?_⟩
  · intro m hm
    simp only [placeP, chainP, List.mem_map, List.mem_range] at hm
    obtain ⟨i, hi, rfl⟩ := hm
    have := Nat.mod_lt (p + i) hn
    omega
  · simp only [placeP, chainP]
    rw [List.nodup_iff_pairwise_ne, List.pairwise_map, List.pairwise_iff_getElem]
    intro i j hi hj hij
    simp at hi hj
    simp only [List.getElem_range]
    intro e
    have e : (p + i) % n = (p + j) % n := by omega
    have h3 : (j - i) % n = 0 := by
      have h4 := Nat.sub_mod_eq_zero_of_mod_eq e.symm
      have : p + j - (p + i) = j - i := by omega
      rw [this] at h4
      exact h4
    rw [Nat.mod_eq_of_lt (by omega)] at h3
    omega
  · intro hm
    simp only [placeP, chainP, List.mem_map, List.mem_range] at hm
    obtain ⟨i, hi, e⟩ := hm
    omega
end Go.Proofs.YtjkobbmdemooaaaGreatDoor
