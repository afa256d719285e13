/- Plan in plain words: what one event does, place by place; what PlanSafe, PlanLeaves and PlanBrings ask of it. -/
import Derived.Test.YtcpaaleogmiamaaGreatDoorMh24
import Derived.Test.YtcpaaleogmiamaaGreatDoorMh26
namespace Go.Proofs.YtcpaaleogmiamaaGreatDoor

theorem applyP_no {p : Pl} {x : Event} (h : (applyP p x).2.2 ≠ 0) : (applyP p x).1 = .zero ∧ (applyP p x).2.1 = [] := by
  cases hc : canB p x
  · rw [applyP_arg hc]; exact ⟨rfl, rfl⟩
  by_cases h0 : (changeP p x).2.2 = 0
  · have hR : changeP p x = ((changeP p x).1, (changeP p x).2.1, 0) := by rw [← h0]
    by_cases h4 : x.kind = 4
    · rw [applyP_create hc hR h4] at h
      exact absurd rfl h
    · cases hb : bumpP (changeP p x).1.parts (changeP p x).2.1 with
      | none => rw [applyP_many hc hR h4 hb]; exact ⟨rfl, rfl⟩
      | some Q => rw [applyP_ok hc hR h4 hb] at h; exact absurd rfl h
  · rw [applyP_err hc rfl h0]; exact ⟨rfl, rfl⟩

theorem deadX_epoch (n : Int) (y : Pt) : (deadX n y).epoch = y.epoch := by
  unfold deadX
  split
  · rfl
  · split <;> rfl
theorem deadX_chain (n : Int) (y : Pt) : (deadX n y).chain.Sublist y.chain := by
  unfold deadX
  split
  · exact List.Sublist.refl _
  · split
    · exact List.eraseIdx_sublist _ _
    · exact List.Sublist.refl _
theorem deadX_same {n : Int} {y : Pt} (h : deadB n y = false) : deadX n y = y := by
  simp only [deadB, Bool.or_eq_false_iff, decide_eq_false_iff_not, Bool.and_eq_false_iff] at h
  unfold deadX
  rw [if_neg h.1, if_neg (by rintro ⟨a, b⟩; exact h.2.elim (fun h2 => h2 a) (fun h2 => h2 b))]

/-- What a place's chain may become. -/
def ChainTo (a b : Pt) : Prop := b.chain.Sublist a.chain ∨ b.chain = a.chain ++ [a.learner]

theorem applyP_step {p : Pl} {x : Event} {q : Pl} {t : List Int} (h : applyP p x = (q, t, 0)) : p.parts.length ≤ q.parts.length ∧ q.parts.length ≤ p.parts.length + 1 ∧
    ∀ k (hk : k < p.parts.length) (hk' : k < q.parts.length), (¬ (k : Int) ∈ t ∧ q.parts[k] = p.parts[k]) ∨ ((k : Int) ∈ t ∧ q.parts[k].epoch = p.parts[k].epoch + 1 ∧ ChainTo p.parts[k] q.parts[k]) := by
  obtain ⟨hc, h0, ht, hn, hcp, hl, hlen, h4, hpl⟩ := applyP_yes h
  have hsub : ∀ y : Pt, ChainTo y (incr y) := fun y => .inl (List.Sublist.refl _)
  rcases changeP_cases hc h0 with ⟨k, h1, e⟩ | ⟨k, h1, e⟩ | ⟨k, j, hj, e0, e1, e2, e⟩ | ⟨k, j, hj, e0, e1, e2, e⟩ | ⟨k, h1, e⟩
  · obtain ⟨hp1, -⟩ := hpl (by omega)
    rw [e] at hlen hp1
    simp only at hlen hp1
    refine ⟨by omega, by omega, fun i hi hi' => ?_⟩
    rw [hp1 i hi hi']
    by_cases hm : (i : Int) ∈ t
    · rw [if_pos hm]; exact .inr ⟨hm, rfl, hsub _⟩
    · rw [if_neg hm]; exact .inl ⟨hm, rfl⟩
  · obtain ⟨hp1, -⟩ := hpl (by omega)
    rw [e] at hlen hp1 ht
    simp only [List.length_map] at hlen hp1 ht
    refine ⟨by omega, by omega, fun i hi hi' => ?_⟩
    rw [hp1 i hi hi', List.getElem_map]
    by_cases hm : (i : Int) ∈ t
    · rw [if_pos hm]; exact .inr ⟨hm, by simp [incr, deadX_epoch], .inl (deadX_chain _ _)⟩
    · rw [if_neg hm]
      refine .inl ⟨hm, deadX_same ?_⟩
      rw [ht, mem_placesB hi] at hm
      simpa using hm
  · obtain ⟨hp1, -⟩ := hpl (by omega)
    rw [e] at hlen hp1 ht
    simp only [List.length_set] at hlen hp1 ht
    refine ⟨by omega, by omega, fun i hi hi' => ?_⟩
    rw [hp1 i hi hi']
    by_cases hij : j = i
    · subst hij
      have hm : (j : Int) ∈ t := by rw [ht, e0]; simp
      rw [if_pos hm]
      exact .inr ⟨hm, by simp [incr], .inr (by simp [incr, e2])⟩
    · have hm : ¬ (i : Int) ∈ t := by rw [ht, e0]; simp; omega
      rw [if_neg hm]
      exact .inl ⟨hm, by rw [List.getElem_set_ne hij]⟩
  · obtain ⟨hp1, -⟩ := hpl (by omega)
    rw [e] at hlen hp1 ht
    simp only [List.length_set] at hlen hp1 ht
    refine ⟨by omega, by omega, fun i hi hi' => ?_⟩
    rw [hp1 i hi hi']
    by_cases hij : j = i
    · subst hij
      have hm : (j : Int) ∈ t := by rw [ht, e0]; simp
      rw [if_pos hm]
      exact .inr ⟨hm, by simp [incr], .inl (by simp [incr])⟩
    · have hm : ¬ (i : Int) ∈ t := by rw [ht, e0]; simp; omega
      rw [if_neg hm]
      exact .inl ⟨hm, by rw [List.getElem_set_ne hij]⟩
  · have hq := h4 k
    rw [e] at hq ht
    simp only at hq ht
    subst hq
    simp only [List.length_append, List.length_cons, List.length_nil]
    refine ⟨by omega, by omega, fun i hi hi' => .inl ⟨?_, ?_⟩⟩
    · rw [ht]; simp; omega
    · rw [List.getElem_append_left hi]

theorem applyP_lives {p : Pl} {x : Event} {q : Pl} {t : List Int} (h : applyP p x = (q, t, 0)) (n : Int) : lifeP p.lives n ≤ lifeP q.lives n := by
  obtain ⟨hc, h0, ht, hn, hcp, hl, -⟩ := applyP_yes h
  rw [hl]
  have hr := (goodP_iff.1 (canB_iff.1 hc).1).2.2.2.2.2
  rcases changeP_cases hc h0 with ⟨k, h1, e⟩ | ⟨k, h1, e⟩ | ⟨k, j, hj, e0, e1, e2, e⟩ | ⟨k, j, hj, e0, e1, e2, e⟩ | ⟨k, h1, e⟩
  · rw [e]
    simp only
    rw [lifeP_boot hr]
    simp only
    split
    · subst_vars; omega
    · omega
  all_goals rw [e]; exact Int.le_refl _

/-- The epochs stay below a mark. -/
def EpLe (p : Pl) (N : Int) : Prop := ∀ y ∈ p.parts, y.epoch ≤ N

theorem applyP_ep {p : Pl} {x : Event} {q : Pl} {t : List Int} {N : Int} (h : applyP p x = (q, t, 0)) (hN : 1 ≤ N) (hp : EpLe p N) : EpLe q (N + 1) := by
  obtain ⟨l1, l2, hs⟩ := applyP_step h
  intro y hy
  obtain ⟨k, hk, rfl⟩ := List.mem_iff_getElem.1 hy
  by_cases hkp : k < p.parts.length
  · have := hp _ (List.getElem_mem hkp)
    rcases hs k hkp hk with ⟨-, e⟩ | ⟨-, e, -⟩
    · rw [e]; omega
    · omega
  · obtain ⟨hc, h0, ht, hn, hcp, hl, hlen, h4, hpl⟩ := applyP_yes h
    rcases changeP_cases hc h0 with ⟨k', h1, e⟩ | ⟨k', h1, e⟩ | ⟨k', j, hj, e0, e1, e2, e⟩ | ⟨k', j, hj, e0, e1, e2, e⟩ | ⟨k', h1, e⟩
    · rw [e] at hlen; simp only at hlen; omega
    · rw [e] at hlen; simp only [List.length_map] at hlen; omega
    · rw [e] at hlen; simp only [List.length_set] at hlen; omega
    · rw [e] at hlen; simp only [List.length_set] at hlen; omega
    · have hq := h4 k'
      rw [e] at hq
      subst hq
      simp only
      rw [List.getElem_append_right (by omega)]
      simp only [List.getElem_singleton]
      show (1 : Int) ≤ N + 1
      omega

theorem newP_ep (n p c : Nat) : EpLe (newP n p c) 1 := by
  intro y hy
  simp only [newP, List.mem_map] at hy
  obtain ⟨i, -, rfl⟩ := hy
  exact Int.le_refl _

theorem newP_good {n p c : Nat} (h : newOkB n p c = true) : goodP (newP n p c) = true := by
  simp [newOkB, inB_iff] at h
  refine goodP_iff.2 ⟨by simp only [newP]; omega, by simp only [newP]; omega, by simp [newP]; omega, ?_, by simp [newP], by simp [newP, Rising]⟩
  intro y hy
  simp only [newP, List.mem_map] at hy
  obtain ⟨i, -, rfl⟩ := hy
  exact place_place (by omega) (by omega)

theorem bumpP_some : ∀ (t : List Int) (P : List Pt), t.Nodup → (∀ i ∈ t, 0 ≤ i ∧ i < (P.length : Int)) → (∀ k (h : k < P.length), (k : Int) ∈ t → P[k].epoch + 1 ≤ 1073741824) → ∃ Q, bumpP P t = some Q := by
  intro t
  induction t with
  | nil => intro P _ _ _; exact ⟨P, rfl⟩
  | cons i t ih =>
    intro P hn hv he
    obtain ⟨h0, h1⟩ := hv i (by simp)
    obtain ⟨j, rfl, hj, hat⟩ := atP_eq h0 h1
    rw [List.nodup_cons] at hn
    simp only [bumpP]
    have hm := he j hj (by simp)
    rw [if_neg (by rw [hat]; omega)]
    refine ih _ hn.2 (fun i' hi' => by have := hv i' (by simp [hi']); simpa using this) (fun k hk hkt => ?_)
    have hjk : ¬ j = k := by rintro rfl; exact hn.1 hkt
    rw [List.getElem_set_ne (by simpa using hjk)]
    exact he k (by simpa using hk) (by simp [hkt])

theorem applyP_of_change {p : Pl} {x : Event} {q : Pl} {t : List Int} (hc : canB p x = true) (hR : changeP p x = (q, t, 0)) (hk : x.kind ≠ 4) (hep : EpLe q 1073741823) :
    ∃ Q, applyP p x = (⟨q.nodes, q.copies, Q, q.lives⟩, t, 0) ∧ Q.length = q.parts.length ∧ ∀ k (h : k < q.parts.length) (h' : k < Q.length), Q[k] = if (k : Int) ∈ t then incr q.parts[k] else q.parts[k] := by
  obtain ⟨ht1, ht2⟩ := changeP_turned (eventB_part (canB_iff.1 hc).2.1) (canB_iff.1 hc).2.2.2 (by rw [hR])
  rw [hR] at ht1 ht2
  obtain ⟨Q, hQ⟩ := bumpP_some t q.parts ht1 ht2 (fun k h _ => by have := hep _ (List.getElem_mem h); omega)
  obtain ⟨b1, b2, -⟩ := bumpP_spec _ _ _ ht1 ht2 hQ
  exact ⟨Q, applyP_ok hc hR hk hQ, b1, b2⟩

theorem set_ep {P : List Pt} {N : Int} (h : ∀ y ∈ P, y.epoch ≤ N) (j : Nat) (y : Pt) (hy : y.epoch ≤ N) : ∀ z ∈ P.set j y, z.epoch ≤ N := by
  intro z hz
  rcases List.mem_or_eq_of_mem_set hz with h2 | rfl
  · exact h z h2
  · exact hy

/-- What PlanLeaves asks of a place that a node has left. -/
def Left (n : Int) (a c : Pt) : Prop := ¬ (n ∈ c.chain ∧ 1 < c.chain.length) ∧ c.learner ≠ n ∧ c.chain = if n ∈ c.chain then a.chain else a.chain.filter (fun m => decide (m ≠ n))

theorem filter_out {l : List Int} {n : Int} (h : n ∉ l) : l.filter (fun m => decide (m ≠ n)) = l := by
  rw [List.filter_eq_self]
  intro m hm
  simp only [decide_eq_true_eq]
  rintro rfl
  exact h hm

theorem left_dead {n N : Int} {y : Pt} (h : isPlaceB y N = true) (hn : 1 ≤ n) : Left n y (deadX n y) := by
  obtain ⟨a, b, c, d, e, f⟩ := isPlaceB_iff.1 h
  unfold deadX
  split
  · rename_i h1
    have hno : n ∉ y.chain := by rw [← h1]; exact f
    refine ⟨fun h => hno h.1, by simp only; omega, ?_⟩
    simp only [if_neg hno]
    exact (filter_out hno).symm
  · rename_i h1
    split
    · rename_i h2
      obtain ⟨q1, q2, q3, q4⟩ := erase_out b h2.1
      refine ⟨fun h => q1 h.1, h1, ?_⟩
      simp only [if_neg q1]
      rw [q4, b.erase_eq_filter]
      congr 1
      funext m
      by_cases hm : m = n <;> simp [hm]
    · rename_i h2
      by_cases hm : n ∈ y.chain
      · refine ⟨fun h => h2 ⟨idx_mem.2 h.1, h.2⟩, h1, by rw [if_pos hm]⟩
      · refine ⟨fun h => hm h.1, h1, ?_⟩
        rw [if_neg hm]
        exact (filter_out hm).symm

theorem applyP_dead {p : Pl} {n : Int} (hg : goodP p = true) (hn : 1 ≤ n ∧ n ≤ p.nodes) (hep : EpLe p 1073741823) :
    (∃ q t, applyP p ⟨2, n, 0, 0⟩ = (q, t, 0) ∧ t ≠ [] ∧ q.parts.length = p.parts.length ∧ ∀ k (hk : k < p.parts.length) (hk' : k < q.parts.length), Left n p.parts[k] q.parts[k]) ∨
    ((applyP p ⟨2, n, 0, 0⟩).2.2 = 21 ∧ ∀ k (hk : k < p.parts.length), Left n p.parts[k] p.parts[k]) := by
  obtain ⟨g1, g2, g3, g4, g5, g6⟩ := goodP_iff.1 hg
  have hc : canB p ⟨2, n, 0, 0⟩ = true := by
    refine canB_iff.2 ⟨hg, ?_, by simp only; omega, by simp only; omega⟩
    simp [eventB, inB_iff]; omega
  by_cases h2 : placesB (deadB n) p.parts = []
  · right
    refine ⟨?_, fun k hk => ?_⟩
    · rw [applyP_err hc (q := p) (T := []) (e := 21) (by simp [changeP, h2]) (by decide)]
    · have h3 := left_dead (n := n) (g4 _ (List.getElem_mem hk)) hn.1
      rw [deadX_same (placesB_nil.1 h2 _ (List.getElem_mem hk))] at h3
      exact h3
  · left
    have hR : changeP p ⟨2, n, 0, 0⟩ = (⟨p.nodes, p.copies, p.parts.map (deadX n), p.lives⟩, placesB (deadB n) p.parts, 0) := by simp [changeP, h2]
    obtain ⟨Q, h3, h4, h5⟩ := applyP_of_change hc hR (by simp) (by
      intro y hy
      obtain ⟨z, hz, rfl⟩ := List.mem_map.1 hy
      rw [deadX_epoch]; exact hep z hz)
    refine ⟨_, _, h3, h2, by simpa using h4, fun k hk hk' => ?_⟩
    have h6 := h5 k (by simpa using hk) hk'
    have h7 := left_dead (n := n) (g4 _ (List.getElem_mem hk)) hn.1
    simp only [List.getElem_map] at h6
    simp only
    rw [h6]
    split
    · exact h7
    · exact h7

theorem placesB_count {α : Type} (f : α → Bool) (l : List α) : (placesB f l).length = l.countP f := by
  have : ∀ k, k ≤ l.length → (placesB f (l.take k)).length = (l.take k).countP f := by
    intro k
    induction k with
    | zero => intro _; simp [placesB]
    | succ k ih =>
      intro hk
      rw [placesB_succ f l k (by omega), List.length_append, ih (by omega), List.take_succ_eq_append_getElem (by omega), List.countP_append]
      congr 1
      cases hf : f l[k] <;> simp [hf]
  have h := this l.length (Nat.le_refl _)
  rw [List.take_length] at h
  exact h

theorem applyP_wake {p : Pl} {n : Int} (hg : goodP p = true) (hn : 1 ≤ n ∧ n ≤ p.nodes) (hep : EpLe p 1073741823) (hl : lifeP p.lives n = 0) :
    ∃ q t, applyP p ⟨1, n, 0, 1⟩ = (q, t, 0) ∧ q.nodes = p.nodes ∧ q.copies = p.copies ∧ lifeP q.lives n = 1 := by
  obtain ⟨g1, g2, g3, g4, g5, g6⟩ := goodP_iff.1 hg
  have hc : canB p ⟨1, n, 0, 1⟩ = true := by
    refine canB_iff.2 ⟨hg, ?_, by simp only; omega, by simp only; omega⟩
    simp [eventB, inB_iff]; omega
  have hR : changeP p ⟨1, n, 0, 1⟩ = (⟨p.nodes, p.copies, p.parts, bootL p.lives (n, 1)⟩, placesB (holdsB n) p.parts, 0) := by simp [changeP, hl]
  obtain ⟨Q, h3, -⟩ := applyP_of_change hc hR (by simp) hep
  exact ⟨_, _, h3, rfl, rfl, by simp [lifeP_boot g6]⟩

/-- A place that a node wants: it joins, a late word does nothing, and then it is its tail. -/
theorem bring {p : Pl} {n : Int} (hg : goodP p = true) (hn : 1 ≤ n ∧ n ≤ p.nodes) {N : Int} (hN : N ≤ 1073741821) (hep : EpLe p N) (hl : lifeP p.lives n ≠ 0) (k : Nat) (hk : k < p.parts.length) (hw : wantP p n p.parts[k] = true) :
    ∃ q t r s, applyP p ⟨5, n, k, 0⟩ = (q, t, 0) ∧ q.parts.length = p.parts.length ∧ (∀ h : k < q.parts.length, q.parts[k].learner = n) ∧ (applyP q ⟨3, n, k, p.parts[k].epoch⟩).2.2 = 21 ∧
      applyP q ⟨3, n, k, p.parts[k].epoch + 1⟩ = (r, s, 0) ∧ r.parts.length = p.parts.length ∧ (∀ h : k < r.parts.length, r.parts[k].chain = p.parts[k].chain ++ [n] ∧ r.parts[k].learner = 0) ∧ r.nodes = p.nodes ∧
      lifeP r.lives n ≠ 0 ∧ EpLe r (N + 2) ∧ (wantsP r n).length < (wantsP p n).length := by
  obtain ⟨g1, g2, g3, g4, g5, g6⟩ := goodP_iff.1 hg
  have hN1 : 1 ≤ N := by
    have h1 := (isPlaceB_iff.1 (g4 _ (List.getElem_mem hk))).2.2.1.1
    have := hep _ (List.getElem_mem hk)
    omega
  have hk4 : (k : Int) ≤ 3 := by omega
  have hat : atP p.parts (k : Int) = p.parts[k] := atP_lt hk
  have hc : canB p ⟨5, n, k, 0⟩ = true := by
    refine canB_iff.2 ⟨hg, ?_, by simp only; omega, by simp only; omega⟩
    simp [eventB, inB_iff]; omega
  have hmem : (wantsP p n).contains (k : Int) = true := by
    have : (k : Int) ∈ placesB (wantP p n) p.parts := (mem_placesB hk).2 hw
    simpa [wantsP] using this
  have hR : changeP p ⟨5, n, k, 0⟩ = (⟨p.nodes, p.copies, p.parts.set k ⟨p.parts[k].epoch, p.parts[k].chain, n⟩, p.lives⟩, [(k : Int)], 0) := by
    unfold changeP
    rw [if_neg (by simp), if_neg (by simp), if_neg (by simp), if_pos rfl, if_neg (by rintro (h | h); exact hl h; rw [hmem] at h; cases h)]
    simp [hat]
  have hepk := hep _ (List.getElem_mem hk)
  obtain ⟨Q, h3, h4, h5⟩ := applyP_of_change hc hR (by simp) (set_ep (fun y hy => by have := hep y hy; omega) _ _ (by simp only; omega))
  simp only [List.length_set] at h4 h5
  have hkQ : k < Q.length := by omega
  have eQk : Q[k] = ⟨p.parts[k].epoch + 1, p.parts[k].chain, n⟩ := by
    rw [h5 k hk hkQ]; simp [incr]
  have eQi : ∀ i (hi : i < p.parts.length) (hi' : i < Q.length), i ≠ k → Q[i] = p.parts[i] := by
    intro i hi hi' hne
    rw [h5 i hi hi']
    have : ¬ (i : Int) = (k : Int) := by omega
    simp [this, List.getElem_set_ne (Ne.symm hne)]
  obtain ⟨q, hq⟩ : ∃ q : Pl, q = ⟨p.nodes, p.copies, Q, p.lives⟩ := ⟨_, rfl⟩
  have h3' : applyP p ⟨5, n, k, 0⟩ = (q, [(k : Int)], 0) := by rw [h3, hq]
  have hgq := applyP_good h3'
  have hepq := applyP_ep h3' hN1 hep
  have hqp : q.parts = Q := by rw [hq]
  have hatq : atP q.parts (k : Int) = Q[k] := by rw [hqp]; exact atP_lt hkQ
  have hqn : q.nodes = p.nodes := by rw [hq]
  have hqc : q.copies = p.copies := by rw [hq]
  have hql : q.lives = p.lives := by rw [hq]
  have hcq : ∀ c : Int, 1 ≤ c → c ≤ 1073741824 → canB q ⟨3, n, k, c⟩ = true := by
    intro c c1 c2
    refine canB_iff.2 ⟨hgq, ?_, by rw [hqn]; exact hn.2, by rw [hqp]; simp only; omega⟩
    simp [eventB, inB_iff]; omega
  have hpos := (isPlaceB_iff.1 (g4 _ (List.getElem_mem hk))).2.2.1.1
  have hold : (applyP q ⟨3, n, k, p.parts[k].epoch⟩).2.2 = 21 := by
    have hne : ¬ (Q[k].epoch = p.parts[k].epoch ∧ Q[k].learner = n) := by rintro ⟨h, -⟩; rw [eQk] at h; simp only at h; omega
    rw [applyP_err (hcq _ hpos (by omega)) (q := q) (T := []) (e := 21) (by unfold changeP; rw [if_neg (by simp), if_neg (by simp), if_pos rfl, hatq, if_neg hne]) (by decide)]
  have hR2 : changeP q ⟨3, n, k, p.parts[k].epoch + 1⟩ = (⟨p.nodes, p.copies, Q.set k ⟨p.parts[k].epoch + 1, p.parts[k].chain ++ [n], 0⟩, p.lives⟩, [(k : Int)], 0) := by
    unfold changeP
    rw [if_neg (by simp), if_neg (by simp), if_pos rfl, hatq, if_pos (by rw [eQk]; exact ⟨rfl, rfl⟩), eQk, hqn, hqc, hql, hqp]
    simp
  have hepQ : ∀ y ∈ Q, y.epoch ≤ 1073741823 := by
    intro y hy
    have := hepq y (by rw [hqp]; exact hy)
    omega
  obtain ⟨R, h6, h7, h8⟩ := applyP_of_change (hcq _ (by omega) (by omega)) hR2 (by simp) (set_ep hepQ _ _ (by simp only; omega))
  simp only [List.length_set] at h7 h8
  have hkR : k < R.length := by omega
  have eRk : R[k] = ⟨p.parts[k].epoch + 2, p.parts[k].chain ++ [n], 0⟩ := by
    rw [h8 k hkQ hkR]; simp [incr]; omega
  have eRi : ∀ i (hi : i < p.parts.length) (hi' : i < R.length), i ≠ k → R[i] = p.parts[i] := by
    intro i hi hi' hne
    rw [h8 i (by omega) hi']
    have : ¬ (i : Int) = (k : Int) := by omega
    rw [if_neg (by simpa using this), List.getElem_set_ne (Ne.symm hne), eQi i hi (by omega) hne]
  have hRset : R = p.parts.set k ⟨p.parts[k].epoch + 2, p.parts[k].chain ++ [n], 0⟩ := by
    refine List.ext_getElem (by simp; omega) (fun i h1 h2 => ?_)
    by_cases hik : k = i
    · subst hik; rw [eRk]; simp
    · rw [List.getElem_set_ne hik, eRi i (by simpa using h2) h1 (Ne.symm hik)]
  refine ⟨q, _, _, _, h3', by rw [hqp]; omega, fun h => ?_, hold, h6, by simp only; omega, fun h => ?_, rfl, hl, ?_, ?_⟩
  · simp only [hqp]; rw [eQk]
  · simp only; rw [eRk]; exact ⟨rfl, rfl⟩
  · rw [show N + 2 = (N + 1) + 1 by omega]
    exact applyP_ep h6 (by omega) hepq
  · have hfw : ∀ y, wantP ⟨p.nodes, p.copies, R, p.lives⟩ n y = wantP p n y := fun y => rfl
    have hfw2 : wantP ⟨p.nodes, p.copies, R, p.lives⟩ n = wantP p n := funext hfw
    unfold wantsP
    rw [hfw2, placesB_count, placesB_count]
    simp only
    rw [hRset, List.countP_set hk]
    have hno : wantP p n ⟨p.parts[k].epoch + 2, p.parts[k].chain ++ [n], 0⟩ = false := by simp [wantP]
    have hpos : 0 < p.parts.countP (wantP p n) := List.countP_pos_iff.2 ⟨_, List.getElem_mem hk, hw⟩
    rw [hw, hno]
    simp
    omega
end Go.Proofs.YtcpaaleogmiamaaGreatDoor
