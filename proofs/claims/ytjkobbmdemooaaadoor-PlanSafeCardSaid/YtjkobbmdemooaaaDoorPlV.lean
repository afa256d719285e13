/- Plan in plain words: the loops of PlanSafe and PlanLeaves over a place's chain. -/
import Derived.Test.YtjkobbmdemooaaaDoorPlQ
namespace Go.Proofs.YtjkobbmdemooaaaDoor

/-- How far the chain behind has been read when k of the chain ahead are read (PlanLeaves). -/
def leftAt (n : Int) (c l : List Int) : Nat := (if n ∈ c then l else l.filter (fun m => decide (m ≠ n))).length

theorem leftAt_nil (n : Int) (c : List Int) : leftAt n c [] = 0 := by
  unfold leftAt; split <;> rfl

theorem leftAt_step {n : Int} {l c : List Int} (h : c = if n ∈ c then l else l.filter (fun m => decide (m ≠ n))) (j : Nat) (hj : j < l.length) :
    (l[j] = n ∧ n ∉ c → leftAt n c (l.take (j + 1)) = leftAt n c (l.take j)) ∧
    (¬ (l[j] = n ∧ n ∉ c) → leftAt n c (l.take (j + 1)) = leftAt n c (l.take j) + 1 ∧ c[leftAt n c (l.take j)]? = some l[j]) := by
  have hsplit : l = l.take j ++ l[j] :: l.drop (j + 1) := by
    rw [← List.drop_eq_getElem_cons hj, List.take_append_drop]
  by_cases hm : n ∈ c
  · rw [if_pos hm] at h
    unfold leftAt
    simp only [hm, if_true, not_true, and_false, false_implies, not_false_eq_true, true_implies, true_and]
    have e1 : (l.take j).length = j := by simp; omega
    have e2 : (l.take (j + 1)).length = j + 1 := by simp; omega
    refine ⟨by rw [e1, e2], ?_⟩
    rw [e1]
    subst h
    simp [hj]
  · rw [if_neg hm] at h
    unfold leftAt
    simp only [hm, if_false, not_false_eq_true, and_true]
    rw [List.take_succ_eq_append_getElem hj, List.filter_append]
    refine ⟨fun h1 => ?_, fun h1 => ?_⟩
    · simp [h1]
    · have hd : decide (l[j] ≠ n) = true := by simpa using h1
      have hf : List.filter (fun m => decide (m ≠ n)) [l[j]] = [l[j]] := by simp [h1]
      have hc : c = (l.take j).filter (fun m => decide (m ≠ n)) ++ l[j] :: (l.drop (j + 1)).filter (fun m => decide (m ≠ n)) := by
        rw [h]
        conv => lhs; rw [hsplit]
        rw [List.filter_append, List.filter_cons_of_pos (by simpa using h1)]
      refine ⟨by rw [hf, List.length_append]; rfl, ?_⟩
      generalize (l.take j).filter (fun m => decide (m ≠ n)) = A at *
      generalize (l.drop (j + 1)).filter (fun m => decide (m ≠ n)) = B at *
      subst hc
      simp

theorem leftAt_all {n : Int} {l c : List Int} (h : c = if n ∈ c then l else l.filter (fun m => decide (m ≠ n))) : leftAt n c l = c.length := by
  unfold leftAt
  exact (congrArg List.length h).symm

/-- What is left to be read of both chains (PlanSafe): the chain behind is what is left of the chain ahead, thinned, and perhaps the learner. -/
def Thin (a b : List Int) (z : Int) : Prop := ∃ s : List Int, s.Sublist a ∧ (b = s ∨ b = s ++ [z])

theorem Thin.start {a b : Pt} (h : ChainTo a b) : Thin a.chain b.chain a.learner := by
  rcases h with h | h
  · exact ⟨_, h, .inl rfl⟩
  · exact ⟨_, List.Sublist.refl _, .inr h⟩

/-- The scan passes over a node that is not the next one. -/
theorem Thin.skip {x m z : Int} {a b : List Int} (h : Thin (x :: a) (m :: b) z) (hne : x ≠ m) : Thin a (m :: b) z := by
  obtain ⟨s, hs, he⟩ := h
  cases s with
  | nil => exact ⟨[], List.nil_sublist _, he⟩
  | cons y s =>
    have hy : y = m := by
      rcases he with he | he <;> simp at he <;> exact he.1.symm
    subst hy
    refine ⟨y :: s, ?_, he⟩
    rw [List.sublist_cons_iff] at hs
    rcases hs with hs | ⟨r, hr, -⟩
    · exact hs
    · simp at hr; exact absurd hr.1.symm hne

/-- The next node is met. -/
theorem Thin.met {m z : Int} {a b : List Int} (h : Thin (m :: a) (m :: b) z) : Thin a b z := by
  obtain ⟨s, hs, he⟩ := h
  cases s with
  | nil =>
    rcases he with he | he
    · simp at he
    · simp at he; exact ⟨[], List.nil_sublist _, .inl he.2⟩
  | cons y s =>
    have hs' : s.Sublist a := by
      rw [List.sublist_cons_iff] at hs
      rcases hs with hs | ⟨r, hr, hs⟩
      · exact (List.sublist_cons_self _ _).trans hs
      · simp at hr; rw [hr.2]; exact hs
    refine ⟨s, hs', ?_⟩
    rcases he with he | he <;> simp at he
    · exact .inl he.2
    · exact .inr he.2

/-- The chain ahead is read: the learner is left, alone. -/
theorem Thin.last {m z : Int} {b : List Int} (h : Thin [] (m :: b) z) : m = z ∧ b = [] := by
  obtain ⟨s, hs, he⟩ := h
  have : s = [] := by simpa using hs
  subst this
  rcases he with he | he
  · simp at he
  · simpa using he

theorem Thin.done (a : List Int) (z : Int) : Thin a [] z := ⟨[], List.nil_sublist _, .inl rfl⟩
end Go.Proofs.YtjkobbmdemooaaaDoor
