/- Plan in plain words: what Apply answers is a good plan; an event that is taken is refused the second time. -/
/- A master with what lies below it; the walk of helm.write. -/
/- Many cells of a block written one after another. -/
import Derived.Test.YtcpaaleogmiamaaGreatDoorMh23
import Derived.Test.YtcpaaleogmiamaaGreatDoorMh14
import Derived.Test.YtcpaaleogmiamaaGreatDoorMh15
import Derived.Test.YtcpaaleogmiamaaGreatDoorMh17
import Derived.Test.YtcpaaleogmiamaaGreatDoorMh5
import Derived.Deep.MidRow
namespace Go.Proofs.YtcpaaleogmiamaaGreatDoor

theorem changeP_cases {p : Pl} {x : Event} (hc : canB p x = true) (h0 : (changeP p x).2.2 = 0) :
    (x.kind = 1 ∧ ¬ x.n ≤ lifeP p.lives x.node ∧ changeP p x = (⟨p.nodes, p.copies, p.parts, bootL p.lives (x.node, x.n)⟩, placesB (holdsB x.node) p.parts, 0)) ∨
    (x.kind = 2 ∧ placesB (deadB x.node) p.parts ≠ [] ∧ changeP p x = (⟨p.nodes, p.copies, p.parts.map (deadX x.node), p.lives⟩, placesB (deadB x.node) p.parts, 0)) ∨
    (x.kind = 3 ∧ ∃ (j : Nat) (hj : j < p.parts.length), x.part = (j : Int) ∧ p.parts[j].epoch = x.n ∧ p.parts[j].learner = x.node ∧ changeP p x = (⟨p.nodes, p.copies, p.parts.set j ⟨p.parts[j].epoch, p.parts[j].chain ++ [x.node], 0⟩, p.lives⟩, [x.part], 0)) ∨
    (x.kind = 5 ∧ ∃ (j : Nat) (hj : j < p.parts.length), x.part = (j : Int) ∧ lifeP p.lives x.node ≠ 0 ∧ wantP p x.node p.parts[j] = true ∧ changeP p x = (⟨p.nodes, p.copies, p.parts.set j ⟨p.parts[j].epoch, p.parts[j].chain, x.node⟩, p.lives⟩, [x.part], 0)) ∨
    (x.kind = 4 ∧ p.parts.length < 4 ∧ changeP p x = (⟨p.nodes, p.copies, p.parts ++ [placeP p.parts.length p.nodes.toNat p.copies.toNat], p.lives⟩, [(p.parts.length : Int)], 0)) := by
  obtain ⟨hg, he, hnd, hpt⟩ := canB_iff.1 hc
  obtain ⟨j, hj0, hj, hat⟩ := atP_eq (eventB_part he) hpt
  rcases eventB_kind he with h1 | h1 | h1 | h1 | h1
  · left
    by_cases h2 : x.n ≤ lifeP p.lives x.node
    · simp [changeP, h1, h2] at h0
    · exact ⟨h1, h2, by simp [changeP, h1, h2]⟩
  · right; left
    by_cases h2 : placesB (deadB x.node) p.parts = []
    · simp [changeP, h1, h2] at h0
    · exact ⟨h1, h2, by simp [changeP, h1, h2]⟩
  · right; right; left
    refine ⟨h1, j, hj, hj0, ?_⟩
    by_cases h2 : (atP p.parts x.part).epoch = x.n ∧ (atP p.parts x.part).learner = x.node
    · have h3 := h2
      rw [hat] at h3
      refine ⟨h3.1, h3.2, ?_⟩
      unfold changeP
      rw [if_neg (by omega), if_neg (by omega), if_pos h1, if_pos h2, hat]
      simp [hj0]
    · unfold changeP at h0
      rw [if_neg (by omega), if_neg (by omega), if_pos h1, if_neg h2] at h0
      simp at h0
  · right; right; right; right
    by_cases h2 : 4 ≤ p.parts.length
    · simp [changeP, h1, h2] at h0
    · exact ⟨h1, by omega, by simp [changeP, h1, h2]⟩
  · right; right; right; left
    refine ⟨h1, j, hj, hj0, ?_⟩
    by_cases h2 : lifeP p.lives x.node = 0 ∨ (wantsP p x.node).contains x.part = false
    · unfold changeP at h0
      rw [if_neg (by omega), if_neg (by omega), if_neg (by omega), if_pos h1, if_pos h2] at h0
      simp at h0
    · have h3 := h2
      simp only [not_or] at h3
      refine ⟨h3.1, ?_, ?_⟩
      · have h4 : (wantsP p x.node).contains x.part = true := by simpa using h3.2
        rw [hj0] at h4
        have h5 : (j : Int) ∈ placesB (wantP p x.node) p.parts := by simpa [wantsP] using h4
        exact (mem_placesB hj).1 h5
      · unfold changeP
        rw [if_neg (by omega), if_neg (by omega), if_neg (by omega), if_pos h1, if_neg h2, hat]
        simp [hj0]

theorem changeP_good {p : Pl} {x : Event} (hc : canB p x = true) (h0 : (changeP p x).2.2 = 0) : goodP (changeP p x).1 = true := by
  obtain ⟨hg, he, hnd, hpt⟩ := canB_iff.1 hc
  obtain ⟨g1, g2, g3, g4, g5, g6⟩ := goodP_iff.1 hg
  have hset : ∀ (j : Nat) (y : Pt), isPlaceB y p.nodes = true → goodP ⟨p.nodes, p.copies, p.parts.set j y, p.lives⟩ = true := by
    intro j y hy
    refine goodP_iff.2 ⟨g1, g2, by simpa using g3, fun z hz => ?_, g5, g6⟩
    rcases List.mem_or_eq_of_mem_set hz with h2 | rfl
    · exact g4 z h2
    · exact hy
  rcases changeP_cases hc h0 with ⟨k, -, e⟩ | ⟨k, -, e⟩ | ⟨k, j, hj, e0, e1, e2, e⟩ | ⟨k, j, hj, e0, e1, e2, e⟩ | ⟨k, hl, e⟩
  · rw [e]
    have he2 : (1 ≤ x.node ∧ x.node ≤ 5) ∧ 1 ≤ x.n ∧ x.n ≤ 1073741824 := by simp [eventB, k, inB_iff] at he; omega
    refine goodP_iff.2 ⟨g1, g2, g3, g4, fun y hy => ?_, bootL_rising g6 _⟩
    rcases bootL_mem g6 hy with rfl | h3
    · simp [lifeOk, inB_iff]; omega
    · exact g5 y h3
  · rw [e]
    refine goodP_iff.2 ⟨g1, g2, by simpa using g3, fun y hy => ?_, g5, g6⟩
    obtain ⟨z, hz, rfl⟩ := List.mem_map.1 hy
    exact dead_place (g4 z hz)
  · rw [e]
    have hy := g4 _ (List.getElem_mem hj)
    obtain ⟨a, b, c, d, f, g⟩ := isPlaceB_iff.1 hy
    have he2 : 1 ≤ x.node := by simp [eventB, k, inB_iff] at he; omega
    refine hset _ _ (isPlaceB_iff.2 ⟨?_, ?_, c, by simp, ⟨by simp, by simp only; omega⟩, ?_⟩)
    · intro n hn
      rcases List.mem_append.1 hn with h2 | h2
      · exact a n h2
      · simp at h2; omega
    · rw [List.nodup_append]
      refine ⟨b, by simp, ?_⟩
      intro n hn m hm
      simp at hm
      subst hm
      intro h
      subst h
      exact g (by rw [e2]; exact hn)
    · intro hm
      rcases List.mem_append.1 hm with h2 | h2
      · have := a 0 h2; omega
      · simp at h2; omega
  · rw [e]
    have hy := g4 _ (List.getElem_mem hj)
    obtain ⟨a, b, c, d, f, g⟩ := isPlaceB_iff.1 hy
    have hw := e2
    simp only [wantP, Bool.and_eq_true, inB_iff, decide_eq_true_eq, Bool.not_eq_true', List.contains_eq_mem, decide_eq_false_iff_not] at hw
    exact hset _ _ (isPlaceB_iff.2 ⟨a, b, c, d, ⟨by simp only; omega, hw.1.2⟩, hw.2.2.2⟩)
  · rw [e]
    refine goodP_iff.2 ⟨g1, g2, by simp only [List.length_append, List.length_cons, List.length_nil]; omega, fun y hy => ?_, g5, g6⟩
    rcases List.mem_append.1 hy with h2 | h2
    · exact g4 y h2
    · simp at h2
      subst h2
      have := place_place (p := p.parts.length) (n := p.nodes.toNat) (c := p.copies.toNat) (by omega) (by omega)
      rw [show ((p.nodes.toNat : Nat) : Int) = p.nodes by omega] at this
      exact this

/-- An event that is taken: the plan behind it, place by place. -/
theorem applyP_yes {p : Pl} {x : Event} {q : Pl} {t : List Int} (h : applyP p x = (q, t, 0)) : canB p x = true ∧ (changeP p x).2.2 = 0 ∧ t = (changeP p x).2.1 ∧ q.nodes = p.nodes ∧ q.copies = p.copies ∧ q.lives = (changeP p x).1.lives ∧
    q.parts.length = (changeP p x).1.parts.length ∧ (x.kind = 4 → q = (changeP p x).1) ∧
    (x.kind ≠ 4 → (∀ k (hk : k < (changeP p x).1.parts.length) (hk' : k < q.parts.length), q.parts[k] = if (k : Int) ∈ t then incr (changeP p x).1.parts[k] else (changeP p x).1.parts[k]) ∧ ∀ k (hk : k < (changeP p x).1.parts.length), (k : Int) ∈ t → (changeP p x).1.parts[k].epoch + 1 ≤ 1073741824) := by
  cases hc : canB p x
  · rw [applyP_arg hc] at h; simp at h
  have hnc : (changeP p x).1.nodes = p.nodes ∧ (changeP p x).1.copies = p.copies := by
    unfold changeP
    repeat' split
    all_goals exact ⟨rfl, rfl⟩
  by_cases h0 : (changeP p x).2.2 = 0
  · have hR : changeP p x = ((changeP p x).1, (changeP p x).2.1, 0) := by rw [← h0]
    obtain ⟨ht1, ht2⟩ := changeP_turned (eventB_part (canB_iff.1 hc).2.1) (canB_iff.1 hc).2.2.2 h0
    by_cases h4 : x.kind = 4
    · rw [applyP_create hc hR h4] at h
      simp only [Prod.mk.injEq, and_true] at h
      obtain ⟨rfl, rfl⟩ := h
      exact ⟨rfl, h0, rfl, hnc.1, hnc.2, rfl, rfl, fun _ => rfl, fun h => absurd h4 h⟩
    · cases hb : bumpP (changeP p x).1.parts (changeP p x).2.1 with
      | none => rw [applyP_many hc hR h4 hb] at h; simp at h
      | some Q =>
        rw [applyP_ok hc hR h4 hb] at h
        simp only [Prod.mk.injEq, and_true] at h
        obtain ⟨rfl, rfl⟩ := h
        obtain ⟨b1, b2, b3⟩ := bumpP_spec _ _ _ ht1 ht2 hb
        exact ⟨rfl, h0, rfl, hnc.1, hnc.2, rfl, b1, fun h => absurd h h4, fun _ => ⟨b2, b3⟩⟩
  · rw [applyP_err hc rfl h0] at h
    simp only [Prod.mk.injEq] at h
    exact absurd h.2.2 h0

theorem applyP_good {p : Pl} {x : Event} {q : Pl} {t : List Int} (h : applyP p x = (q, t, 0)) : goodP q = true := by
  obtain ⟨hc, h0, ht, hn, hcp, hl, hlen, h4, hpl⟩ := applyP_yes h
  have hg := changeP_good hc h0
  by_cases hk : x.kind = 4
  · rw [h4 hk]; exact hg
  · obtain ⟨g1, g2, g3, g4, g5, g6⟩ := goodP_iff.1 hg
    obtain ⟨hp1, hp2⟩ := hpl hk
    have hnc : (changeP p x).1.nodes = p.nodes ∧ (changeP p x).1.copies = p.copies := by
      unfold changeP
      repeat' split
      all_goals exact ⟨rfl, rfl⟩
    rw [hnc.1] at g1 g2 g4 g5
    rw [hnc.2] at g2
    refine goodP_iff.2 ⟨by rw [hn]; exact g1, by rw [hn, hcp]; exact g2, by rw [hlen]; exact g3, fun y hy => ?_, by rw [hn, hl]; exact g5, by rw [hl]; exact g6⟩
    obtain ⟨k, hk', rfl⟩ := List.mem_iff_getElem.1 hy
    have hk2 : k < (changeP p x).1.parts.length := by omega
    rw [hp1 k hk2 hk', hn]
    have := g4 _ (List.getElem_mem hk2)
    split
    · exact incr_place this (hp2 k hk2 (by assumption))
    · exact this

theorem dead_done {y : Pt} {n N : Int} (h : isPlaceB y N = true) (hn : 1 ≤ n) : deadB n (deadX n y) = false := by
  obtain ⟨a, b, c, d, e, f⟩ := isPlaceB_iff.1 h
  unfold deadX
  split
  · rename_i h1
    have : ¬ n ∈ y.chain := by rw [← h1]; exact f
    have h2 : ¬ 0 ≤ idx y.chain n := fun h => this (idx_mem.1 h)
    have h3 : ¬ (0 : Int) = n := by omega
    simp [deadB, h2, h3]
  · rename_i h1
    split
    · rename_i h2
      obtain ⟨q1, q2, q3, q4⟩ := erase_out b h2.1
      have h3 : ¬ 0 ≤ idx (y.chain.eraseIdx (idx y.chain n).toNat) n := fun h => q1 (idx_mem.1 h)
      simp [deadB, h1, h3]
    · rename_i h2
      unfold deadB
      by_cases h3 : 0 ≤ idx y.chain n
      · have h4 : ¬ 1 < y.chain.length := fun h => h2 ⟨h3, h⟩
        simp [h1, h4]
      · simp [h1, h3]

theorem dead_incr (n : Int) (y : Pt) : deadB n (incr y) = deadB n y := rfl

/-- An event that is taken and says how things are is refused the second time. -/
theorem applyP_again {p : Pl} {x : Event} {q : Pl} {t : List Int} (h : applyP p x = (q, t, 0)) (hk : x.kind ≠ 4) : (applyP q x).2.2 = 21 := by
  have hg := applyP_good h
  obtain ⟨hc, h0, ht, hn, hcp, hl, hlen, -, hpl⟩ := applyP_yes h
  obtain ⟨hp1, hp2⟩ := hpl hk
  obtain ⟨hgp, he, hnd, hpt⟩ := canB_iff.1 hc
  obtain ⟨g1, g2, g3, g4, g5, g6⟩ := goodP_iff.1 hgp
  have key : changeP q x = (q, [], 21) → (x.part < (q.parts.length : Int)) → (applyP q x).2.2 = 21 := by
    intro h1 h2
    have hcq : canB q x = true := canB_iff.2 ⟨hg, he, by omega, h2⟩
    rw [applyP_err hcq h1 (by decide)]
  rcases changeP_cases hc h0 with ⟨k, h1, e⟩ | ⟨k, h1, e⟩ | ⟨k, j, hj, e0, e1, e2, e⟩ | ⟨k, j, hj, e0, e1, e2, e⟩ | ⟨k, -, e⟩
  · refine key ?_ (by rw [hlen, e]; exact hpt)
    have : lifeP q.lives x.node = x.n := by rw [hl, e]; simp [lifeP_boot g6]
    simp [changeP, k, this]
  · refine key ?_ (by rw [hlen, e]; simpa using hpt)
    have hnil : placesB (deadB x.node) q.parts = [] := by
      rw [placesB_nil]
      intro y hy
      obtain ⟨i, hi, rfl⟩ := List.mem_iff_getElem.1 hy
      have hi2 : i < (changeP p x).1.parts.length := by omega
      rw [hp1 i hi2 hi]
      have hi3 : i < p.parts.length := by rw [e] at hi2; simpa using hi2
      have hd : (changeP p x).1.parts[i] = deadX x.node p.parts[i] := by simp [e]
      have hdone := dead_done (n := x.node) (g4 _ (List.getElem_mem hi3)) (by simp [eventB, k, inB_iff] at he; omega)
      split
      · rw [dead_incr, hd]; exact hdone
      · rw [hd]; exact hdone
    simp [changeP, k, hnil]
  · have hjq : j < q.parts.length := by rw [hlen, e]; simpa using hj
    refine key ?_ (by omega)
    have hj2 : j < (changeP p x).1.parts.length := by omega
    have hq := hp1 j hj2 hjq
    have htm : (j : Int) ∈ t := by rw [ht, e, e0]; simp
    rw [if_pos htm] at hq
    have hat : atP q.parts x.part = q.parts[j] := by rw [e0]; exact atP_lt hjq
    have hep : ¬ ((atP q.parts x.part).epoch = x.n ∧ (atP q.parts x.part).learner = x.node) := by
      rintro ⟨h3, -⟩
      rw [hat, hq] at h3
      simp only [incr, e, List.getElem_set_self] at h3
      omega
    simp [changeP, k, hep]
  · have hjq : j < q.parts.length := by rw [hlen, e]; simpa using hj
    refine key ?_ (by omega)
    have hj2 : j < (changeP p x).1.parts.length := by omega
    have hq := hp1 j hj2 hjq
    have htm : (j : Int) ∈ t := by rw [ht, e, e0]; simp
    rw [if_pos htm] at hq
    have hnode : 1 ≤ x.node := by simp [eventB, k, inB_iff] at he; omega
    have hno : (wantsP q x.node).contains x.part = false := by
      rw [e0]
      have : ¬ (j : Int) ∈ placesB (wantP q x.node) q.parts := by
        intro hm
        have h3 := (mem_placesB hjq).1 hm
        rw [hq] at h3
        simp [wantP, incr, e] at h3
        omega
      simpa [wantsP] using this
    have hno2 : ¬ x.part ∈ wantsP q x.node := by simpa using hno
    simp [changeP, k, hno2]
  · exact absurd k hk
end Go.Proofs.YtcpaaleogmiamaaGreatDoor
namespace Go.Proofs.YtcpaaleogmiamaaGreatDoor
open Go.RowKit

/-- A master in memory, above a world that stands. -/
structure HmW (w0 w : World) (hb b mb q : Nat) (L : TpL) (t : Tp) (v : Value) (p : Pl) (M : List (Int × Int)) (life : Int) (dead : Bool) : Prop where
  hm : HmAt w hb b mb q L t v p M life dead
  base : Below w0.heap.size w0 w
  above : ∀ k, HmF hb b mb q L k → w0.heap.size ≤ k

theorem HmW.below {w0 w w' : World} {hb b mb q : Nat} {L : TpL} {t : Tp} {v : Value} {p : Pl} {M : List (Int × Int)} {life : Int} {dead : Bool} (h : HmW w0 w hb b mb q L t v p M life dead) (h' : Below w.heap.size w w') : HmW w0 w' hb b mb q L t v p M life dead :=
  ⟨h.hm.below h', h.base.trans (h'.mono h.base.size), h.above⟩
theorem HmW.env {w0 w : World} {hb b mb q : Nat} {L : TpL} {t : Tp} {v : Value} {p : Pl} {M : List (Int × Int)} {life : Int} {dead : Bool} (h : HmW w0 w hb b mb q L t v p M life dead) (hE : Env w0) : Env w := hE.below h.base
theorem HmW.step {w0 w w' : World} {hb b mb q : Nat} {L L' : TpL} {t t' : Tp} {v : Value} {p : Pl} {M : List (Int × Int)} {life : Int} {dead : Bool} (h : HmW w0 w hb b mb q L t v p M life dead) (ht : TpAt w' b mb L' t') (hu : Upd (TpF b mb L) w w') (hn : ∀ k ∈ tpBlocks L', k ∈ tpBlocks L ∨ w.heap.size ≤ k) : HmW w0 w' hb b mb q L' t' v p M life dead := by
  refine ⟨h.hm.step ht hu hn, h.base.trans (hu.toBelow h.base.size (fun k hk => h.above k (.inr (.inr hk)))), ?_⟩
  rintro k (e | e | e | e | hk)
  · exact h.above k (.inl e)
  · exact h.above k (.inr (.inl e))
  · exact h.above k (.inr (.inr (.inl e)))
  · exact h.above k (.inr (.inr (.inr (.inl e))))
  · rcases hn k hk with hk | hk
    · exact h.above k (.inr (.inr (.inr (.inr hk))))
    · exact Nat.le_trans h.base.size hk

theorem HmW.dead {w0 w : World} {hb b mb q : Nat} {L : TpL} {t : Tp} {v : Value} {p : Pl} {M : List (Int × Int)} {life : Int} {dead : Bool} (h : HmW w0 w hb b mb q L t v p M life dead) (d : Bool) : HmW w0 (w.setCell ⟨hb, 7, none⟩ (.bool d)) hb b mb q L t v p M life d := by
  obtain ⟨n1, n2, n3, n4, n5⟩ := h.hm.apart
  obtain ⟨pv, lv, e, hblk⟩ := h.hm.blk
  obtain ⟨es, cl, m1, m2, m3⟩ := h.hm.miss
  have hu := upd_set1 w hb 7 (.bool d)
  refine ⟨⟨⟨pv, lv, e, setCell_same (o := 7) hblk⟩, h.hm.tape.upd hu (fun k hk e => n1 (by rw [← e]; exact hk)), h.hm.plan.upd hu (fun k e => .inl e), ⟨es, cl, (hu.block _ n5 (fun e => n3 e.symm)).trans m1, m2, m3⟩, h.hm.ne⟩, h.base.trans (hu.toBelow h.base.size (fun k e => h.above k (.inl e))), h.above⟩

def planN : List UInt8 := [112, 108, 97, 110]
/-- A text comes behind the plan's file and is safe. -/
def wrT (t : Tp) (s : List UInt8) : Tp × Int := if (appT t planN s).2 = 0 then syncT (appT t planN s).1 planN else appT t planN s

def WroteTo (w0 w : World) (hb b mb q : Nat) (L : TpL) (v : Value) (p : Pl) (M : List (Int × Int)) (life : Int) (dead : Bool) (r : Tp × Int) (e : Ending) (w' : World) : Prop :=
  e = .returned (.int .i64 r.2) ∧ ∃ L', HmW w0 w' hb b mb q L' r.1 v p M life (dead || decide (r.2 = 10)) ∧ Upd (HmF hb b mb q L) w w' ∧ ∀ k ∈ tpBlocks L', k ∈ tpBlocks L ∨ w.heap.size ≤ k

theorem encE_len {x : Event} (hx : eventB x = true) : (encE x).length ≤ 100 := by
  obtain ⟨h1, h2, h3, h4⟩ := eventB_I64 hx
  have := encP_le h1
  have := encP_le h2
  have := encP_le h3
  have := encP_le h4
  simp only [encE, List.length_cons, List.length_append, List.length_nil]
  omega

set_option maxRecDepth 100000 in
set_option maxHeartbeats 2000000 in
theorem Hwrite_any {w0 w : World} {hb b mb q : Nat} {L : TpL} {t : Tp} {v : Value} {p : Pl} {M : List (Int × Int)} {life : Int} {dead : Bool} (hE : Env w0) (h : HmW w0 w hb b mb q L t v p M life dead) (x : Event) (hx : eventB x = true) :
    Calls Tryz.prog 76 #[.pointer (some ⟨hb, 0, none⟩), x.v] w (WroteTo w0 w hb b mb q L v p M life dead (wrT t (frameB (encE x)))) := by
  have hle := encE_len hx
  have hEn : ∀ W, Below w.heap.size w W → Calls Tryz.prog 136 #[x.v] W fun e w' => e = .returned (.tuple #[.string (bs (encE x)), .int .i64 0]) ∧ Below W.heap.size W w' := by
    intro W hb'
    refine (Encode_any x ((h.below hb').env hE)).mono ?_
    rintro e w' ⟨h1, h2⟩
    rw [if_pos hx] at h1
    exact ⟨h1, h2⟩
  have HEn := Lib.hid hEn
  have HPu := Lib.hid (fun W => FrPut_any (encE x) (by omega) W)
  have hfl : (frameB (encE x)).length ≤ 140737488355328 := by simp only [frameB, List.length_append, fourB_len]; omega
  obtain ⟨k1, k2, k3, k4⟩ := x
  simp only [Event.v] at *
  obtain ⟨s, hs⟩ : ∃ s, encE ⟨k1, k2, k3, k4⟩ = s := ⟨_, rfl⟩
  rw [hs] at hfl HEn HPu ⊢
  obtain ⟨f, hf⟩ : ∃ f, frameB s = f := ⟨_, rfl⟩
  rw [hf] at hfl HPu ⊢
  obtain ⟨t1, e1, h1⟩ : ∃ t1 e1, appT t planN f = (t1, e1) := ⟨_, _, rfl⟩
  obtain ⟨t2, e2, h2⟩ : ∃ t2 e2, syncT t1 planN = (t2, e2) := ⟨_, _, rfl⟩
  have hwr : wrT t f = if e1 = 0 then (t2, e2) else (t1, e1) := by unfold wrT; rw [h1]; simp only; rw [h2]
  have hA : ∀ W L0, TpAt W b mb L0 t → Calls Tryz.prog 44 #[.pointer (some ⟨b, 0, none⟩), .string (bs planN), .string (bs f)] W (TpTo W b mb L0 t1 (.int .i64 e1)) := by
    intro W L0 hat
    have := TAppend_any hat planN f hfl
    rw [h1] at this
    exact this
  have hS : ∀ W L0, TpAt W b mb L0 t1 → Calls Tryz.prog 94 #[.pointer (some ⟨b, 0, none⟩), .string (bs planN)] W (TpTo W b mb L0 t2 (.int .i64 e2)) := by
    intro W L0 hat
    have := TSync_any hat planN
    rw [h2] at this
    exact this
  have H := Lib.hid h
  have HA := Lib.hid hA
  have HS := Lib.hid hS
  clear hEn hx hle hs hf h h1 h2 hA hS hfl
  by_cases he : e1 = 0
  · rw [hwr, if_pos he]
    subst he
    clear hwr
    go_enter Tryz.func76, Tryz.ntmps76
    go_wp2_with fail
    refine (HEn.out _ (below_alloc _ _)).mono ?_
    rintro _ w1 ⟨rfl, hb1⟩
    have hbw1 := below_trans (below_alloc w _) hb1
    clear hb1
    go_wp2_with fail
    refine (HPu.out _).mono ?_
    rintro _ w2 ⟨rfl, hb2⟩
    have hbw2 := below_trans hbw1 hb2
    have h2 := H.out.below hbw2
    obtain ⟨pv, lv, -, c0, -⟩ := h2.hm.cells
    have H2 := Lib.hid h2
    clear hb2 hbw1 h2
    go_wp2_with fail
    refine (HA.out _ _ H2.out.hm.tape).mono ?_
    rintro _ w3 ⟨rfl, L3, ht3, hu3, hn3⟩
    have h3 := H2.out.step ht3 hu3 hn3
    have HU3 := Lib.hid (And.intro hu3 hn3)
    clear c0 ht3 hu3 hn3
    obtain ⟨pv, lv, -, c0, -⟩ := h3.hm.cells
    have H3 := Lib.hid h3
    clear h3
    go_wp2_with fail
    refine (HS.out _ _ H3.out.hm.tape).mono ?_
    rintro _ w4 ⟨rfl, L4, ht4, hu4, hn4⟩
    have h4 := H3.out.step ht4 hu4 hn4
    have HU4 := Lib.hid (And.intro hu4 hn4)
    clear c0 ht4 hu4 hn4
    obtain ⟨pv, lv, -, -, -, -, -, -, -, -, c7, fz⟩ := h4.hm.cells
    have H4 := Lib.hid h4
    clear h4
    have hfin : Upd (HmF hb b mb q L) w w4 ∧ ∀ k ∈ tpBlocks L4, k ∈ tpBlocks L ∨ w.heap.size ≤ k := by
      refine ⟨⟨?_, ?_, ?_, ?_, ?_⟩, ?_⟩
      · exact HU4.out.1.os.trans (HU3.out.1.os.trans hbw2.os)
      · exact HU4.out.1.tape.trans (HU3.out.1.tape.trans hbw2.tape)
      · exact HU4.out.1.output.trans (HU3.out.1.output.trans hbw2.output)
      · exact Nat.le_trans hbw2.size (Nat.le_trans HU3.out.1.size HU4.out.1.size)
      · intro k hk hf
        have k2 : k < w2.heap.size := Nat.lt_of_lt_of_le hk hbw2.size
        have k3 : k < w3.heap.size := Nat.lt_of_lt_of_le k2 HU3.out.1.size
        rw [HU4.out.1.block k k3 (fun e => ?_), HU3.out.1.block k k2 (fun e => hf (.inr (.inr e))), hbw2.block k hk]
        rcases e with e | e | e
        · exact hf (.inr (.inr (.inl e)))
        · exact hf (.inr (.inr (.inr (.inl e))))
        · rcases HU3.out.2 k e with e | e
          · exact hf (.inr (.inr (.inr (.inr e))))
          · omega
      · intro k hk
        have s2 := hbw2.size
        have s3 := HU3.out.1.size
        rcases HU4.out.2 k hk with e | e
        · rcases HU3.out.2 k e with e | e
          · exact .inl e
          · exact .inr (by omega)
        · exact .inr (by omega)
    have HF := Lib.hid hfin
    clear hfin hbw2
    cases dead with
    | true =>
      go_wp2
      go_ret
      refine ⟨rfl, L4, ?_, HF.out.1.trans ((upd_set1 w4 hb 7 (.bool true)).or (fun k e => .inl e)), HF.out.2⟩
      exact H4.out.dead true
    | false =>
      by_cases h10 : e2 = 10
      · subst h10
        go_wp2
        go_ret
        refine ⟨rfl, L4, ?_, HF.out.1.trans ((upd_set1 w4 hb 7 (.bool true)).or (fun k e => .inl e)), HF.out.2⟩
        exact H4.out.dead true
      · go_wp2
        go_ret
        refine ⟨rfl, L4, ?_, HF.out.1.trans ((upd_set1 w4 hb 7 (.bool (e2 == 10))).or (fun k e => .inl e)), HF.out.2⟩
        have hq : (e2 == 10) = false := by simpa using h10
        have h5 := H4.out.dead (e2 == 10)
        have hd : (false || decide (e2 = 10)) = (e2 == 10) := by rw [hq]; simp [h10]
        rw [hd]
        exact h5
  · rw [hwr, if_neg he]
    clear hwr
    go_enter Tryz.func76, Tryz.ntmps76
    go_wp2_with fail
    refine (HEn.out _ (below_alloc _ _)).mono ?_
    rintro _ w1 ⟨rfl, hb1⟩
    have hbw1 := below_trans (below_alloc w _) hb1
    clear hb1
    go_wp2_with fail
    refine (HPu.out _).mono ?_
    rintro _ w2 ⟨rfl, hb2⟩
    have hbw2 := below_trans hbw1 hb2
    have h2 := H.out.below hbw2
    obtain ⟨pv, lv, -, c0, -⟩ := h2.hm.cells
    have H2 := Lib.hid h2
    clear hb2 hbw1 h2
    go_wp2_with fail
    refine (HA.out _ _ H2.out.hm.tape).mono ?_
    rintro _ w4 ⟨rfl, L4, ht3, hu3, hn3⟩
    have h4 := H2.out.step ht3 hu3 hn3
    have HU3 := Lib.hid (And.intro hu3 hn3)
    clear c0 ht3 hu3 hn3
    obtain ⟨pv, lv, -, -, -, -, -, -, -, -, c7, fz⟩ := h4.hm.cells
    have H4 := Lib.hid h4
    clear h4
    have hfin : Upd (HmF hb b mb q L) w w4 ∧ ∀ k ∈ tpBlocks L4, k ∈ tpBlocks L ∨ w.heap.size ≤ k := by
      refine ⟨(Upd.of_below (F := HmF hb b mb q L) hbw2).trans (HU3.out.1.or (fun k hk => .inr (.inr hk))), ?_⟩
      intro k hk
      have s2 := hbw2.size
      rcases HU3.out.2 k hk with e | e
      · exact .inl e
      · exact .inr (by omega)
    have HF := Lib.hid hfin
    clear hfin hbw2
    cases dead with
    | true =>
      go_wp2
      go_ret
      refine ⟨rfl, L4, ?_, HF.out.1.trans ((upd_set1 w4 hb 7 (.bool true)).or (fun k e => .inl e)), HF.out.2⟩
      exact H4.out.dead true
    | false =>
      by_cases h10 : e1 = 10
      · subst h10
        go_wp2
        go_ret
        refine ⟨rfl, L4, ?_, HF.out.1.trans ((upd_set1 w4 hb 7 (.bool true)).or (fun k e => .inl e)), HF.out.2⟩
        exact H4.out.dead true
      · go_wp2
        go_ret
        refine ⟨rfl, L4, ?_, HF.out.1.trans ((upd_set1 w4 hb 7 (.bool (e1 == 10))).or (fun k e => .inl e)), HF.out.2⟩
        have hq : (e1 == 10) = false := by simpa using h10
        have h5 := H4.out.dead (e1 == 10)
        have hd : (false || decide (e1 = 10)) = (e1 == 10) := by rw [hq]; simp [h10]
        rw [hd]
        exact h5
end Go.Proofs.YtcpaaleogmiamaaGreatDoor
namespace Go.Proofs.YtcpaaleogmiamaaGreatDoor
open Go.RowKit

theorem setCells_upd (b : Nat) : ∀ (l : List Value) (w : World) (o : Nat), Upd (fun k => k = b) w (w.setCells b o l)
  | [], w, _ => Upd.refl _ w
  | v :: l, w, o => (upd_set1 w b o v).trans (setCells_upd b l _ _)

theorem setCells_blk (b : Nat) {T : TypeId} : ∀ (l : List Value) (w : World) (pre xs : List Value), xs.length = l.length → w.heap[b]? = some (.cells (pre ++ xs).toArray T (0, 0)) →
    (w.setCells b pre.length l).heap[b]? = some (.cells (pre ++ l).toArray T (0, 0))
  | [], w, pre, xs, hl, h => by
    have : xs = [] := List.eq_nil_of_length_eq_zero hl
    subst this
    exact h
  | v :: l, w, pre, xs, hl, h => by
    match xs, hl with
    | x :: xs, hl =>
      have h1 : (w.setCell ⟨b, pre.length, none⟩ v).heap[b]? = some (.cells (pre ++ v :: xs).toArray T (0, 0)) := by
        have := setCell_same (o := pre.length) (v := v) h
        rw [this]
        congr 2
        apply Array.ext'
        simp []
      have h2 := setCells_blk b l (w.setCell ⟨b, pre.length, none⟩ v) (pre ++ [v]) xs (by simpa using hl) (by simpa using h1)
      simpa [World.setCells] using h2
/-- A whole block is written. -/
theorem setCells_whole {w : World} {b : Nat} {T : TypeId} {xs : Array Value} (l : List Value) (h : w.heap[b]? = some (.cells xs T (0, 0))) (hl : xs.size = l.length) :
    (w.setCells b 0 l).heap[b]? = some (.cells l.toArray T (0, 0)) ∧ Upd (fun k => k = b) w (w.setCells b 0 l) :=
  ⟨by simpa using setCells_blk b l w [] xs.toList (by simpa using hl) (by simpa using h), setCells_upd b l w 0⟩
theorem there_of_blk {w : World} {b n : Nat} {T : TypeId} {xs : Array Value} (h : w.heap[b]? = some (.cells xs T (0, 0))) (hn : n ≤ xs.size) : w.there b 0 n := by
  intro j hj
  rw [Nat.zero_add]
  refine ⟨?_, frozen_of h⟩
  rw [cell_of_row w b j _ _ _ h, Array.getElem?_eq_getElem (show j < xs.size by omega)]
  rfl
theorem range_of_blk {w : World} {b : Nat} {T : TypeId} {l : List Value} (h : w.heap[b]? = some (.cells l.toArray T (0, 0))) : w.rangeAt b 0 l := by
  intro j v hv
  rw [Nat.zero_add]
  exact cells_of h j v (by simpa using hv)
end Go.Proofs.YtcpaaleogmiamaaGreatDoor
