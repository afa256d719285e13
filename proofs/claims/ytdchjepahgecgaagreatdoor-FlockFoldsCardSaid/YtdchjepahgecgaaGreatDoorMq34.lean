/- What Apply keeps; the walk of flock.Fold. -/
import Derived.Test.YtdchjepahgecgaaGreatDoorMq33
namespace Go.Proofs.YtdchjepahgecgaaGreatDoor
open Go.RowKit

/-- Groups as the records tell them. -/
structure FkOk (y : Fk) : Prop where
  gen : I64 y.gen
  parts : 0 ≤ y.parts ∧ y.parts ≤ 4
  mem : goodB y.members = true
  pts : PtUp y.points
  pin : ∀ x ∈ y.points, 0 ≤ x.1 ∧ x.1 ≤ 3
structure FksOk (L : List Fk) : Prop where
  up : FkUp L
  len : L.length ≤ 4
  each : ∀ y ∈ L, FkOk y

/-- A rising row of numbers of 0 to 3 has at most four. -/
theorem up_short : ∀ (l : List (Int × Int)) (a : Int), PtUp l → (∀ x ∈ l, a ≤ x.1 ∧ x.1 ≤ 3) → (l.length : Int) ≤ 4 - a ∨ l = []
  | [], _, _, _ => .inr rfl
  | x :: l, a, hu, hb => by
    left
    have h1 := List.pairwise_cons.1 hu
    have hx := hb x (by simp)
    rcases up_short l (x.1 + 1) h1.2 (fun z hz => ⟨by have := h1.1 z hz; omega, (hb z (by simp [hz])).2⟩) with h | h
    · simp only [List.length_cons]; omega
    · subst h; simp; omega
theorem FkOk.few {y : Fk} (h : FkOk y) : y.points.length ≤ 4 := by
  rcases up_short y.points 0 h.pts h.pin with h1 | h1
  · omega
  · rw [h1]; simp
theorem FkOk.mems {y : Fk} (h : FkOk y) : y.members.length ≤ 4 ∧ StrsUp y.members ∧ ∀ m ∈ y.members, m.length ≤ 8 := by
  have h1 := h.mem
  simp only [goodB, Bool.and_eq_true, decide_eq_true_eq, List.all_eq_true] at h1
  refine ⟨h1.2.2, h1.2.1, fun m hm => ?_⟩
  have := h1.1 m hm
  simp only [nameB, Bool.and_eq_true, decide_eq_true_eq] at this
  exact this.2.1
theorem FksOk.small {L : List Fk} (h : FksOk L) : SmallL L :=
  ⟨by have := h.len; omega, fun x hx => by have := (h.each x hx).mems.1; omega, fun x hx => by have := (h.each x hx).few; omega⟩
theorem FksOk.nil : FksOk [] := ⟨List.Pairwise.nil, by simp, by simp⟩
theorem goodB_nil : goodB [] = true := rfl

structure WdOk (q : Wd) : Prop where
  turn : q.kind = 116 → goodB q.members = true ∧ 0 ≤ q.parts ∧ q.parts ≤ 4
  point : q.kind = 99 → 0 ≤ q.part ∧ q.part ≤ 3
  gen : I64 q.gen
theorem WdOk.zero : WdOk .zero := ⟨fun h => absurd h (by decide), fun h => absurd h (by decide), i64_zero⟩

theorem readP_ok (key val : List UInt8) (gone : Bool) : WdOk (readP key val gone).1 := by
  cases key with
  | nil => exact .zero
  | cons c g =>
    cases gone with
    | true => exact .zero
    | false =>
      simp only [readP, Bool.false_eq_true, if_false]
      split
      · rename_i hok
        simp only [Bool.and_eq_true] at hok
        have hk := hok.1
        unfold rdBody at hk ⊢
        split at hk
        · rename_i h1
          rw [if_pos h1]
          simp only [rdTurn, Bool.and_eq_true, decide_eq_true_eq] at hk ⊢
          exact ⟨fun _ => ⟨hk.2.1, hk.2.2.1, hk.2.2.2⟩, fun h => absurd (show (116 : UInt8) = 99 from h) (by decide), rdI_I64 _⟩
        · rename_i h1
          rw [if_neg h1]
          split at hk
          · rename_i h2
            rw [if_pos h2]
            cases g with
            | nil => exact .zero
            | cons d r =>
              simp only at hk ⊢
              split at hk
              · rename_i h3
                rw [if_pos h3]
                simp only [partDig, Bool.and_eq_true, decide_eq_true_eq] at h3
                refine ⟨fun h => absurd h (by simp [rdPoint]), fun _ => ?_, by simp only [rdPoint]; exact rdI_I64 _⟩
                simp only [rdPoint]
                omega
              · rename_i h3
                rw [if_neg h3]
                exact .zero
          · rename_i h2
            rw [if_neg h2]
            split at hk
            · rename_i h3
              rw [if_pos h3]
              exact ⟨fun h => absurd h (by simp [rdNo]), fun h => absurd h (by simp [rdNo]), i64_zero⟩
            · rename_i h3
              rw [if_neg h3]
              exact .zero
      · exact .zero

theorem up_set {L : List Fk} (h : FkUp L) {k : Nat} (hk : k < L.length) {z : Fk} (hz : z.name = L[k].name) : FkUp (L.set k z) := by
  have h1 : (L.map Fk.name).Pairwise (fun a b => a < b) := List.pairwise_map.2 h
  have h2 : (L.set k z).map Fk.name = L.map Fk.name := by
    rw [List.map_set, hz]
    refine List.ext_getElem (by simp) ?_
    intro i h3 h4
    rw [List.getElem_set]
    split
    · rename_i e; subst e; simp
    · rfl
  exact List.pairwise_map.1 (by rw [h2]; exact h1)

theorem up_ins {α κ : Type} [LT κ] [DecidableRel (fun a b : κ => a < b)] [DecidableEq κ] {key : α → κ} (tr : ∀ a b c : κ, a < b → b < c → a < c) (_irr : ∀ a : κ, ¬ a < a) (tri : ∀ a b : κ, ¬ a < b → ¬ b < a → a = b) {L : List α} (h : Up key L) {s : κ} (hno : hasK key L s = false) {z : α} (hz : key z = s) :
    Up key (L.take (posK key L s) ++ z :: L.drop (posK key L s)) := by
  obtain ⟨h1, h2⟩ := up_split key tr h s
  have hne : ∀ x ∈ L, key x ≠ s := by
    intro x hx e
    have : hasK key L s = true := by simp only [hasK, List.any_eq_true, decide_eq_true_eq]; exact ⟨x, hx, e⟩
    rw [hno] at this; cases this
  have ht : ∀ x ∈ L.take (posK key L s), key x < s := by
    intro x hx
    obtain ⟨t, ht, rfl⟩ := List.mem_iff_getElem.1 hx
    rw [List.getElem_take]
    simp at ht
    exact h1 t (by omega) (by omega)
  have hd : ∀ x ∈ L.drop (posK key L s), s < key x := by
    intro x hx
    obtain ⟨t, ht, rfl⟩ := List.mem_iff_getElem.1 hx
    rw [List.getElem_drop]
    simp at ht
    have h3 := h2 (posK key L s + t) (by omega) (by omega)
    refine Classical.byContradiction fun h4 => hne _ (List.getElem_mem (by omega)) (tri _ _ h3 h4)
  unfold Up
  rw [List.pairwise_append]
  refine ⟨List.Pairwise.sublist (List.take_sublist _ _) h, List.pairwise_cons.2 ⟨fun x hx => by rw [hz]; exact hd x hx, List.Pairwise.sublist (List.drop_sublist _ _) h⟩, ?_⟩
  intro a ha b hb
  rcases List.mem_cons.1 hb with rfl | hb
  · rw [hz]; exact ht a ha
  · exact tr _ _ _ (ht a ha) (hd b hb)

theorem pointed_ok {l : List (Int × Int)} (hu : PtUp l) (hb : ∀ x ∈ l, 0 ≤ x.1 ∧ x.1 ≤ 3) {p : Int × Int} (hp : 0 ≤ p.1 ∧ p.1 ≤ 3) : PtUp (pointedP l p) ∧ ∀ x ∈ pointedP l p, 0 ≤ x.1 ∧ x.1 ≤ 3 := by
  unfold pointedP
  split
  · rename_i hh
    obtain ⟨hk, hkp⟩ := hasPt_at hu hh
    constructor
    · have h1 : (l.map Prod.fst).Pairwise (fun a b => a < b) := List.pairwise_map.2 hu
      have h2 : (l.set (ptAt l p.1) p).map Prod.fst = l.map Prod.fst := by
        rw [List.map_set]
        exact List.ext_getElem (by simp) (fun i h3 h4 => by
          rw [List.getElem_set]
          split
          · rename_i e; subst e; simp [hkp]
          · rfl)
      exact List.pairwise_map.1 (by rw [h2]; exact h1)
    · intro x hx
      rcases List.mem_or_eq_of_mem_set hx with h | h
      · exact hb x h
      · rw [h]; exact hp
  · rename_i hh
    refine ⟨up_ins int_tr int_irr (fun a b h1 h2 => by omega) hu (by simpa using hh) rfl, ?_⟩
    intro x hx
    rcases List.mem_append.1 hx with h | h
    · exact hb x (List.mem_of_mem_take h)
    · rcases List.mem_cons.1 h with h | h
      · rw [h]; exact hp
      · exact hb x (List.mem_of_mem_drop h)

/-- Apply keeps the groups in order. -/
theorem applyW_ok {L : List Fk} (h : FksOk L) {q : Wd} (hq : WdOk q) : FksOk (applyW L q) := by
  unfold applyW
  split
  · rename_i ht
    simp only [turns, Bool.and_eq_true, decide_eq_true_eq] at ht
    obtain ⟨hk1, hk2⟩ := hq.turn ht.1
    split
    · rename_i hh
      obtain ⟨hk, hkn⟩ := hasFk_at h.up hh
      have hf : theF L q.group = L[fkAt L q.group]'hk := by simp only [theF, hh, if_true, List.getD, List.getElem?_eq_getElem hk, Option.getD_some]
      have hy := h.each _ (List.getElem_mem hk)
      refine ⟨up_set h.up hk (by rw [hf]), by simpa using h.len, ?_⟩
      intro x hx
      rcases List.mem_or_eq_of_mem_set hx with h1 | h1
      · exact h.each x h1
      · rw [h1, hf]; exact ⟨hq.gen, hk2, hk1, hy.pts, hy.pin⟩
    · rename_i hh
      have hlen : L.length < 4 := by
        have h2 := ht.2.2
        simp only [Bool.or_eq_true, decide_eq_true_eq] at h2
        rcases h2 with h2 | h2
        · exact absurd h2 hh
        · exact h2
      refine ⟨up_ins (fun _ _ _ => txt_trans) txt_irrefl (fun _ _ => txt_tri) h.up (by simpa using hh) rfl, by simp; omega, ?_⟩
      intro x hx
      rcases List.mem_append.1 hx with h1 | h1
      · exact h.each x (List.mem_of_mem_take h1)
      · rcases List.mem_cons.1 h1 with h1 | h1
        · rw [h1]; exact ⟨hq.gen, hk2, hk1, List.Pairwise.nil, by simp⟩
        · exact h.each x (List.mem_of_mem_drop h1)
  · split
    · rename_i hp
      simp only [points, Bool.and_eq_true, decide_eq_true_eq] at hp
      obtain ⟨hk, hkn⟩ := hasFk_at h.up hp.2.1
      have hf : theF L q.group = L[fkAt L q.group]'hk := by simp only [theF, hp.2.1, if_true, List.getD, List.getElem?_eq_getElem hk, Option.getD_some]
      have hy := h.each _ (List.getElem_mem hk)
      obtain ⟨p1, p2⟩ := pointed_ok (p := (q.part, q.off)) hy.pts hy.pin (hq.point hp.1)
      refine ⟨up_set h.up hk (by rw [hf]), by simpa using h.len, ?_⟩
      intro x hx
      rcases List.mem_or_eq_of_mem_set hx with h1 | h1
      · exact h.each x h1
      · rw [h1, hf]; exact ⟨hy.gen, hy.parts, hy.mem, p1, p2⟩
    · exact h
end Go.Proofs.YtdchjepahgecgaaGreatDoor
