/- Plan in plain words: what an event leaves of a plan. -/
import Derived.Test.YtjkobbmdemooaaaDoorPlP
namespace Go.Proofs.YtjkobbmdemooaaaDoor

def incr (y : Pt) : Pt := ⟨y.epoch + 1, y.chain, y.learner⟩

theorem atP_eq {P : List Pt} {i : Int} (h0 : 0 ≤ i) (h : i < (P.length : Int)) : ∃ j : Nat, i = (j : Int) ∧ ∃ hj : j < P.length, atP P i = P[j] := by
  obtain ⟨j, rfl⟩ := Int.eq_ofNat_of_zero_le h0
  have hj : j < P.length := by omega
  exact ⟨j, rfl, hj, atP_lt hj⟩

/-- The epochs of the places told of rise by one, and no others. -/
theorem bumpP_spec : ∀ (t : List Int) (P Q : List Pt), t.Nodup → (∀ i ∈ t, 0 ≤ i ∧ i < (P.length : Int)) → bumpP P t = some Q →
    Q.length = P.length ∧ (∀ k (h : k < P.length) (h' : k < Q.length), Q[k] = if (k : Int) ∈ t then incr P[k] else P[k]) ∧ (∀ k (h : k < P.length), (k : Int) ∈ t → P[k].epoch + 1 ≤ 1073741824) := by
  intro t
  induction t with
  | nil =>
    intro P Q _ _ h
    simp only [bumpP, Option.some.injEq] at h
    subst h
    exact ⟨rfl, fun k h h' => by simp, fun k h h' => by simp at h'⟩
  | cons i t ih =>
    intro P Q hn hv h
    obtain ⟨h0, h1⟩ := hv i (by simp)
    obtain ⟨j, rfl, hj, hat⟩ := atP_eq h0 h1
    rw [List.nodup_cons] at hn
    simp only [bumpP] at h
    by_cases hm : 1073741824 < (atP P (j : Int)).epoch + 1
    · rw [if_pos hm] at h; cases h
    rw [if_neg hm] at h
    obtain ⟨q1, q2, q3⟩ := ih _ Q hn.2 (fun i' hi' => by have := hv i' (by simp [hi']); simpa using this) h
    rw [hat] at hm
    refine ⟨by simpa using q1, fun k hk hk' => ?_, fun k hk hkt => ?_⟩
    · have := q2 k (by simpa using hk) hk'
      rw [this, List.getElem_set]
      by_cases he : j = k
      · subst he
        simp [hn.1, hat, incr]
      · have : ¬ (k : Int) = (j : Int) := by omega
        have e2 : ¬ (Int.toNat (j : Int) = k) := by simpa using he
        simp [this, he]
    · by_cases he : j = k
      · subst he; omega
      · have hkt' : (k : Int) ∈ t := by
          rcases List.mem_cons.1 hkt with h2 | h2
          · omega
          · exact h2
        have := q3 k (by simpa using hk) hkt'
        rw [List.getElem_set, if_neg (by simpa using he)] at this
        exact this

theorem mem_placesB {α : Type} {f : α → Bool} {l : List α} {k : Nat} (hk : k < l.length) : (k : Int) ∈ placesB f l ↔ f l[k] = true := by
  unfold placesB
  rw [List.mem_map]
  constructor
  · rintro ⟨i, hi, e⟩
    have e : i = k := by omega
    subst e
    have := (List.mem_filter.1 hi).2
    simpa [hk] using this
  · intro h
    exact ⟨k, List.mem_filter.2 ⟨by simpa using hk, by simp [hk, h]⟩, rfl⟩

theorem placesB_range {α : Type} {f : α → Bool} {l : List α} {i : Int} (h : i ∈ placesB f l) : 0 ≤ i ∧ i < (l.length : Int) := by
  unfold placesB at h
  obtain ⟨j, hj, rfl⟩ := List.mem_map.1 h
  have := (List.mem_filter.1 hj).1
  simp at this
  omega

theorem placesB_nodup {α : Type} (f : α → Bool) (l : List α) : (placesB f l).Nodup := by
  unfold placesB
  rw [List.nodup_iff_pairwise_ne, List.pairwise_map]
  refine (List.Pairwise.filter _ List.nodup_range).imp (fun h => ?_)
  omega

theorem placesB_nil {α : Type} {f : α → Bool} {l : List α} : placesB f l = [] ↔ ∀ x ∈ l, f x = false := by
  constructor
  · intro h x hx
    obtain ⟨k, hk, rfl⟩ := List.mem_iff_getElem.1 hx
    cases hf : f l[k]
    · rfl
    · have := (mem_placesB hk).2 hf
      rw [h] at this
      cases this
  · intro h
    refine List.eq_nil_iff_forall_not_mem.2 (fun i hi => ?_)
    obtain ⟨h0, h1⟩ := placesB_range hi
    obtain ⟨j, rfl⟩ := Int.eq_ofNat_of_zero_le h0
    have hj : j < l.length := by omega
    have := (mem_placesB hj).1 hi
    rw [h _ (List.getElem_mem hj)] at this
    cases this

/-- The places told of are places, each once. -/
theorem changeP_turned {p : Pl} {x : Event} (hx : 0 ≤ x.part) (hx2 : x.part < (p.parts.length : Int)) (h0 : (changeP p x).2.2 = 0) :
    (changeP p x).2.1.Nodup ∧ (∀ i ∈ (changeP p x).2.1, 0 ≤ i ∧ i < ((changeP p x).1.parts.length : Int)) := by
  unfold changeP at h0 ⊢
  split
  · rename_i h1
    rw [if_pos h1] at h0
    split
    · exact ⟨by simp, by simp⟩
    · exact ⟨placesB_nodup _ _, fun i hi => placesB_range hi⟩
  · split
    · split
      · exact ⟨by simp, by simp⟩
      · exact ⟨placesB_nodup _ _, fun i hi => by have := placesB_range hi; simpa using this⟩
    · split
      · split
        · exact ⟨by simp, fun i hi => by simp at hi; subst hi; simpa using ⟨hx, hx2⟩⟩
        · exact ⟨by simp, by simp⟩
      · split
        · split
          · exact ⟨by simp, by simp⟩
          · exact ⟨by simp, fun i hi => by simp at hi; subst hi; simpa using ⟨hx, hx2⟩⟩
        · split
          · exact ⟨by simp, by simp⟩
          · exact ⟨by simp, fun i hi => by simp at hi; subst hi; simp; omega⟩
end Go.Proofs.YtjkobbmdemooaaaDoor
