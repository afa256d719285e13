/- Plan in plain words: what Apply answers is a good plan; an event that is taken is refused the second time. -/
import Derived.Test.YtjkobbmdemooaaaDoorPlA0
namespace Go.Proofs.YtjkobbmdemooaaaDoor

theorem changeP_cases {p : Pl} {x : Event} (hc : canB p x = true) (h0 : (changeP p x).2.2 = 0) :
    (x.kind = 1 ∧ ¬ x.n ≤ lifeP p.lives x.node ∧ changeP p x = (⟨p.nodes, p.copies, p.parts, bootL p.lives (x.node, x.n)⟩, placesB (holdsB x.node) p.parts, 0)) ∨
    (x.kind = 2 ∧ placesB (deadB x.node) p.parts ≠ [] ∧ changeP p x = (⟨p.nodes, p.copies, p.parts.map (deadX x.node), p.lives⟩, placesB (deadB x.node) p.parts, 0)) ∨
    (x.kind = 3 ∧ ∃ (j : Nat) (hj : j < p.parts.length), x.part = (j : Int) ∧ p.parts[j].epoch = x.n ∧ p.parts[j].learner = x.node ∧ changeP p x = (⟨p.nodes, p.copies, p.parts.set j ⟨p.parts[j].epoch, p.parts[j].chain ++ [x.node], 0⟩, p.lives⟩, [x.part], 0)) ∨
    (x.kind = 5 ∧ ∃ (j : Nat) (hj : j < p.parts.length), x.part = (j : Int) ∧ lifeP p.lives x.node ≠ 0 ∧ wantP p x.node p.parts[j] = true ∧ changeP p x = (⟨p.nodes, p.copies, p.parts.set j ⟨p.parts[j].epoch, p.parts[j].chain, x.node⟩, p.lives⟩, [x.part], 0)) ∨
    (x.kind = 4 ∧ p.parts.length < 4 ∧ changeP p x = (⟨p.nodes, p.copies, p.parts ++ [placeP p.parts.length p.nodes.toNat p.copies.toNat], p.lives⟩, [(p.parts.length : Int)], 0)) := by
  obtain ⟨hg, he, hnd, hpt⟩ := canB_iff.1 hc
  obtain ⟨j, hj0, hj, hat⟩ := atP_eq (eventB_part he) hpt
  rcases eventB_kind he with h1 | h1 | h1 | h1 | h1
  · left
    by_cases h2 : x.n ≤ lifeP p.lives x.node
    · simp [changeP, h1, h2] at h0
    · exact ⟨h1, h2, by simp [changeP, h1, h2]⟩
  · right; left
    by_cases h2 : placesB (deadB x.node) p.parts = []
    · simp [changeP, h1, h2] at h0
    · exact ⟨h1, h2, by simp [changeP, h1, h2]⟩
  · right; right; left
    refine ⟨h1, j, hj, hj0, ?_⟩
    by_cases h2 : (atP p.parts x.part).epoch = x.n ∧ (atP p.parts x.part).learner = x.node
    · have h3 := h2
      rw [hat] at h3
      refine ⟨h3.1, h3.2, ?_⟩
      unfold changeP
      rw [if_neg (by omega), if_neg (by omega), if_pos h1, if_pos h2, hat]
      simp [hj0]
    · unfold changeP at h0
      rw [if_neg (by omega), if_neg (by omega), if_pos h1, if_neg h2] at h0
      simp at h0
  · right; right; right; right
    by_cases h2 : 4 ≤ p.parts.length
    · simp [changeP, h1, h2] at h0
    · exact ⟨h1, by omega, by simp [changeP, h1, h2]⟩
  · right; right; right; left
    refine ⟨h1, j, hj, hj0, ?_⟩
    by_cases h2 : lifeP p.lives x.node = 0 ∨ (wantsP p x.node).contains x.part = false
    · unfold changeP at h0
      rw [if_neg (by omega), if_neg (by omega), if_neg (by omega), if_pos h1, if_pos h2] at h0
      simp at h0
    · have h3 := h2
      simp only [not_or] at h3
      refine ⟨h3.1, ?_, ?_⟩
      · have h4 : (wantsP p x.node).contains x.part = true := by simpa using h3.2
        rw [hj0] at h4
        have h5 : (j : Int) ∈ placesB (wantP p x.node) p.parts := by simpa [wantsP] using h4
        exact (mem_placesB hj).1 h5
      · unfold changeP
        rw [if_neg (by omega), if_neg (by omega), if_neg (by omega), if_pos h1, if_neg h2, hat]
        simp [hj0]

theorem changeP_good {p : Pl} {x : Event} (hc : canB p x = true) (h0 : (changeP p x).2.2 = 0) : goodP (changeP p x).1 = true := by
  obtain ⟨hg, he, hnd, hpt⟩ := canB_iff.1 hc
  obtain ⟨g1, g2, g3, g4, g5, g6⟩ := goodP_iff.1 hg
  have hset : ∀ (j : Nat) (y : Pt), isPlaceB y p.nodes = true → goodP ⟨p.nodes, p.copies, p.parts.set j y, p.lives⟩ = true := by
    intro j y hy
    refine goodP_iff.2 ⟨g1, g2, by simpa using g3, fun z hz => ?_, g5, g6⟩
    rcases List.mem_or_eq_of_mem_set hz with h2 | rfl
    · exact g4 z h2
    · exact hy
  rcases changeP_cases hc h0 with ⟨k, -, e⟩ | ⟨k, -, e⟩ | ⟨k, j, hj, e0, e1, e2, e⟩ | ⟨k, j, hj, e0, e1, e2, e⟩ | ⟨k, hl, e⟩
  · rw [e]
    have he2 : (1 ≤ x.node ∧ x.node ≤ 5) ∧ 1 ≤ x.n ∧ x.n ≤ 1073741824 := by simp [eventB, k, inB_iff] at he; omega
    refine goodP_iff.2 ⟨g1, g2, g3, g4, fun y hy => ?_, bootL_rising g6 _⟩
    rcases bootL_mem g6 hy with rfl | h3
    · simp [lifeOk, inB_iff]; omega
    · exact g5 y h3
  · rw [e]
    refine goodP_iff.2 ⟨g1, g2, by simpa using g3, fun y hy => ?_, g5, g6⟩
    obtain ⟨z, hz, rfl⟩ := List.mem_map.1 hy
    exact dead_place (g4 z hz)
  · rw [e]
    have hy := g4 _ (List.getElem_mem hj)
    obtain ⟨a, b, c, d, f, g⟩ := isPlaceB_iff.1 hy
    have he2 : 1 ≤ x.node := by simp [eventB, k, inB_iff] at he; omega
    refine hset _ _ (isPlaceB_iff.2 ⟨?_, ?_, c, by simp, ⟨by simp, by simp only; omega⟩, ?_⟩)
    · intro n hn
      rcases List.mem_append.1 hn with h2 | h2
      · exact a n h2
      · simp at h2; omega
    · rw [List.nodup_append]
      refine ⟨b, by simp, ?_⟩
      intro n hn m hm
      simp at hm
      subst hm
      intro h
      subst h
      exact g (by rw [e2]; exact hn)
    · intro hm
      rcases List.mem_append.1 hm with h2 | h2
      · have := a 0 h2; omega
      · simp at h2; omega
  · rw [e]
    have hy := g4 _ (List.getElem_mem hj)
    obtain ⟨a, b, c, d, f, g⟩ := isPlaceB_iff.1 hy
    have hw := e2
    simp only [wantP, Bool.and_eq_true, inB_iff, decide_eq_true_eq, Bool.not_eq_true', List.contains_eq_mem, decide_eq_false_iff_not] at hw
    exact hset _ _ (isPlaceB_iff.2 ⟨a, b, c, d, ⟨by simp only; omega, hw.1.2⟩, hw.2.2.2⟩)
  · rw [e]
    refine goodP_iff.2 ⟨g1, g2, by simp only [List.length_append, List.length_cons, List.length_nil]; omega, fun y hy => ?_, g5, g6⟩
    rcases List.mem_append.1 hy with h2 | h2
    · exact g4 y h2
    · simp at h2
      subst h2
      have := place_place (p := p.parts.length) (n := p.nodes.toNat) (c := p.copies.toNat) (by omega) (by omega)
      rw [show ((p.nodes.toNat : Nat) : Int) = p.nodes by omega] at this
      exact this

/-- An event that is taken: the plan behind it, place by place. -/
theorem applyP_yes {p : Pl} {x : Event} {q : Pl} {t : List Int} (h : applyP p x = (q, t, 0)) : canB p x = true ∧ (changeP p x).2.2 = 0 ∧ t = (changeP p x).2.1 ∧ q.nodes = p.nodes ∧ q.copies = p.copies ∧ q.lives = (changeP p x).1.lives ∧
    q.parts.length = (changeP p x).1.parts.length ∧ (x.kind = 4 → q = (changeP p x).1) ∧
    (x.kind ≠ 4 → (∀ k (hk : k < (changeP p x).1.parts.length) (hk' : k < q.parts.length), q.parts[k] = if (k : Int) ∈ t then incr (changeP p x).1.parts[k] else (changeP p x).1.parts[k]) ∧ ∀ k (hk : k < (changeP p x).1.parts.length), (k : Int) ∈ t → (changeP p x).1.parts[k].epoch + 1 ≤ 1073741824) := by
  cases hc : canB p x
  · rw [applyP_arg hc] at h; simp at h
  have hnc : (changeP p x).1.nodes = p.nodes ∧ (changeP p x).1.copies = p.copies := by
    unfold changeP
    repeat' split
    all_goals exact ⟨rfl, rfl⟩
  by_cases h0 : (changeP p x).2.2 = 0
  · have hR : changeP p x = ((changeP p x).1, (changeP p x).2.1, 0) := by rw [← h0]
    obtain ⟨ht1, ht2⟩ := changeP_turned (eventB_part (canB_iff.1 hc).2.1) (canB_iff.1 hc).2.2.2 h0
    by_cases h4 : x.kind = 4
    · rw [applyP_create hc hR h4] at h
      simp only [Prod.mk.injEq, and_true] at h
      obtain ⟨rfl, rfl⟩ := h
      exact ⟨rfl, h0, rfl, hnc.1, hnc.2, rfl, rfl, fun _ => rfl, fun h => absurd h4 h⟩
    · cases hb : bumpP (changeP p x).1.parts (changeP p x).2.1 with
      | none => rw [applyP_many hc hR h4 hb] at h; simp at h
      | some Q =>
        rw [applyP_ok hc hR h4 hb] at h
        simp only [Prod.mk.injEq, and_true] at h
        obtain ⟨rfl, rfl⟩ := h
        obtain ⟨b1, b2, b3⟩ := bumpP_spec _ _ _ ht1 ht2 hb
        exact ⟨rfl, h0, rfl, hnc.1, hnc.2, rfl, b1, fun h => absurd h h4, fun _ => ⟨b2, b3⟩⟩
  · rw [applyP_err hc rfl h0] at h
    simp only [Prod.mk.injEq] at h
    exact absurd h.2.2 h0

theorem applyP_good {p : Pl} {x : Event} {q : Pl} {t : List Int} (h : applyP p x = (q, t, 0)) : goodP q = true := by
  obtain ⟨hc, h0, ht, hn, hcp, hl, hlen, h4, hpl⟩ := applyP_yes h
  have hg := changeP_good hc h0
  by_cases hk : x.kind = 4
  · rw [h4 hk]; exact hg
  · obtain ⟨g1, g2, g3, g4, g5, g6⟩ := goodP_iff.1 hg
    obtain ⟨hp1, hp2⟩ := hpl hk
    have hnc : (changeP p x).1.nodes = p.nodes ∧ (changeP p x).1.copies = p.copies := by
      unfold changeP
      repeat' split
      all_goals exact ⟨rfl, rfl⟩
    rw [hnc.1] at g1 g2 g4 g5
    rw [hnc.2] at g2
    refine goodP_iff.2 ⟨by rw [hn]; exact g1, by rw [hn, hcp]; exact g2, by rw [hlen]; exact g3, fun y hy => ?_, by rw [hn, hl]; exact g5, by rw [hl]; exact g6⟩
    obtain ⟨k, hk', rfl⟩ := List.mem_iff_getElem.1 hy
    have hk2 : k < (changeP p x).1.parts.length := by omega
    rw [hp1 k hk2 hk', hn]
    have := g4 _ (List.getElem_mem hk2)
    split
    · exact incr_place this (hp2 k hk2 (by assumption))
    · exact this

theorem dead_done {y : Pt} {n N : Int} (h : isPlaceB y N = true) (hn : 1 ≤ n) : deadB n (deadX n y) = false := by
  obtain ⟨a, b, c, d, e, f⟩ := isPlaceB_iff.1 h
  unfold deadX
  split
  · rename_i h1
    have : ¬ n ∈ y.chain := by rw [← h1]; exact f
    have h2 : ¬ 0 ≤ idx y.chain n := fun h => this (idx_mem.1 h)
    have h3 : ¬ (0 : Int) = n := by omega
    simp [deadB, h2, h3]
  · rename_i h1
    split
    · rename_i h2
      obtain ⟨q1, q2, q3, q4⟩ := erase_out b h2.1
      have h3 : ¬ 0 ≤ idx (y.chain.eraseIdx (idx y.chain n).toNat) n := fun h => q1 (idx_mem.1 h)
      simp [deadB, h1, h3]
    · rename_i h2
      unfold deadB
      by_cases h3 : 0 ≤ idx y.chain n
      · have h4 : ¬ 1 < y.chain.length := fun h => h2 ⟨h3, h⟩
        simp [h1, h4]
      · simp [h1, h3]

theorem dead_incr (n : Int) (y : Pt) : deadB n (incr y) = deadB n y := rfl

/-- An event that is taken and says how things are is refused the second time. -/
theorem applyP_again {p : Pl} {x : Event} {q : Pl} {t : List Int} (h : applyP p x = (q, t, 0)) (hk : x.kind ≠ 4) : (applyP q x).2.2 = 21 := by
  have hg := applyP_good h
  obtain ⟨hc, h0, ht, hn, hcp, hl, hlen, -, hpl⟩ := applyP_yes h
  obtain ⟨hp1, hp2⟩ := hpl hk
  obtain ⟨hgp, he, hnd, hpt⟩ := canB_iff.1 hc
  obtain ⟨g1, g2, g3, g4, g5, g6⟩ := goodP_iff.1 hgp
  have key : changeP q x = (q, [], 21) → (x.part < (q.parts.length : Int)) → (applyP q x).2.2 = 21 := by
    intro h1 h2
    have hcq : canB q x = true := canB_iff.2 ⟨hg, he, by omega, h2⟩
    rw [applyP_err hcq h1 (by decide)]
  rcases changeP_cases hc h0 with ⟨k, h1, e⟩ | ⟨k, h1, e⟩ | ⟨k, j, hj, e0, e1, e2, e⟩ | ⟨k, j, hj, e0, e1, e2, e⟩ | ⟨k, -, e⟩
  · refine key ?_ (by rw [hlen, e]; exact hpt)
    have : lifeP q.lives x.node = x.n := by rw [hl, e]; simp [lifeP_boot g6]
    simp [changeP, k, this]
  · refine key ?_ (by rw [hlen, e]; simpa using hpt)
    have hnil : placesB (deadB x.node) q.parts = [] := by
      rw [placesB_nil]
      intro y hy
      obtain ⟨i, hi, rfl⟩ := List.mem_iff_getElem.1 hy
      have hi2 : i < (changeP p x).1.parts.length := by omega
      rw [hp1 i hi2 hi]
      have hi3 : i < p.parts.length := by rw [e] at hi2; simpa using hi2
      have hd : (changeP p x).1.parts[i] = deadX x.node p.parts[i] := by simp [e]
      have hdone := dead_done (n := x.node) (g4 _ (List.getElem_mem hi3)) (by simp [eventB, k, inB_iff] at he; omega)
      split
      · rw [dead_incr, hd]; exact hdone
      · rw [hd]; exact hdone
    simp [changeP, k, hnil]
  · have hjq : j < q.parts.length := by rw [hlen, e]; simpa using hj
    refine key ?_ (by omega)
    have hj2 : j < (changeP p x).1.parts.length := by omega
    have hq := hp1 j hj2 hjq
    have htm : (j : Int) ∈ t := by rw [ht, e, e0]; simp
    rw [if_pos htm] at hq
    have hat : atP q.parts x.part = q.parts[j] := by rw [e0]; exact atP_lt hjq
    have hep : ¬ ((atP q.parts x.part).epoch = x.n ∧ (atP q.parts x.part).learner = x.node) := by
      rintro ⟨h3, -⟩
      rw [hat, hq] at h3
      simp only [incr, e, List.getElem_set_self] at h3
      omega
    simp [changeP, k, hep]
  · have hjq : j < q.parts.length := by rw [hlen, e]; simpa using hj
    refine key ?_ (by omega)
    have hj2 : j < (changeP p x).1.parts.length := by omega
    have hq := hp1 j hj2 hjq
    have htm : (j : Int) ∈ t := by rw [ht, e, e0]; simp
    rw [if_pos htm] at hq
    have hnode : 1 ≤ x.node := by simp [eventB, k, inB_iff] at he; omega
    have hno : (wantsP q x.node).contains x.part = false := by
      rw [e0]
      have : ¬ (j : Int) ∈ placesB (wantP q x.node) q.parts := by
        intro hm
        have h3 := (mem_placesB hjq).1 hm
        rw [hq] at h3
        simp [wantP, incr, e] at h3
        omega
      simpa [wantsP] using this
    have hno2 : ¬ x.part ∈ wantsP q x.node := by simpa using hno
    simp [changeP, k, hno2]
  · exact absurd k hk
end Go.Proofs.YtjkobbmdemooaaaDoor
