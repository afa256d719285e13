/- The plain law behind LedgerExact: the ledger's table goes as the reference's. -/
import Derived.Test.YtcgjhifcocmdaaaLedTp
import Derived.Test.YtcgjhifcocmdaaaLedE6
namespace Go.Proofs.Ytcgjhifcocmdaaa
open Go.RowKit

theorem rowOf_nil {L : List (Int × List Slot)} {p : Int} (h : p ∉ L.map (·.1)) : rowOf L p = [] := by
  unfold rowOf
  rw [List.find?_eq_none.2]
  · rfl
  · intro x hx
    have : x.1 ≠ p := fun e => h (List.mem_map.2 ⟨x, hx, e⟩)
    simpa using this

theorem rowOf_mapKeys (f : Int → List Slot) : ∀ (ks : List Int) (p : Int), p ∈ ks → rowOf (ks.map fun k => (k, f k)) p = f p
  | k :: ks, p, h => by
    by_cases e : k = p
    · subst e; simp [rowOf]
    · have e2 : (k == p) = false := by simpa using e
      have hp : p ∈ ks := by
        rcases List.mem_cons.1 h with h | h
        · exact absurd h.symm e
        · exact h
      have ih := rowOf_mapKeys f ks p hp
      have : rowOf ((k :: ks).map fun k => (k, f k)) p = rowOf (ks.map fun k => (k, f k)) p := by
        simp [rowOf, e2]
      rw [this, ih]

theorem rowOf_tableS (L : List (Int × List Slot)) (p : Int) : rowOf (tableS L) p = rowOf L p := by
  by_cases h : p ∈ L.map (·.1)
  · exact rowOf_mapKeys (rowOf L) _ p (sortedKeys_mem.2 h)
  · rw [rowOf_nil h, rowOf_nil]
    intro h2
    simp only [tableS, List.map_map] at h2
    obtain ⟨k, hk, rfl⟩ := List.mem_map.1 h2
    exact h (sortedKeys_mem.1 hk)

theorem tableS_length (L : List (Int × List Slot)) : (tableS L).length = L.length := by simp [tableS, sortedKeys]

theorem tableS_rows {L : List (Int × List Slot)} (hok : ∀ x ∈ L, RowOk x.2 ∧ isNumB x.1 = true) : ∀ k (hk : k < (tableS L).length), RowOk (tableS L)[k].2 := by
  intro k hk
  have hk' : k < (sortedKeys L).length := by simpa [tableS] using hk
  have e1 : (tableS L)[k] = ((sortedKeys L)[k], rowOf L (sortedKeys L)[k]) := by simp [tableS]
  obtain ⟨x, hx, ex, er⟩ := rowOf_mem (sortedKeys_mem.1 (List.getElem_mem hk'))
  rw [e1, er]
  exact (hok x hx).1

theorem putL_map (f : Int → List Slot) (p : Int) (l : List Slot) : ∀ (ks : List Int), ks.Nodup → p ∈ ks → putL (ks.map fun k => (k, f k)) p l = ks.map fun k => (k, if p = k then l else f k)
  | k :: ks, hn, h => by
    obtain ⟨h1, h2⟩ := List.nodup_cons.1 hn
    by_cases e : k = p
    · subst e
      have : ks.map (fun q => (q, if k = q then l else f q)) = ks.map fun q => (q, f q) := by
        apply List.map_congr_left
        intro q hq
        have : ¬ k = q := fun e => h1 (e ▸ hq)
        simp [this]
      simp [putL, this]
    · have e2 : (k == p) = false := by simpa using e
      have e3 : ¬ p = k := fun h => e h.symm
      have hp : p ∈ ks := by
        rcases List.mem_cons.1 h with h | h
        · exact absurd h.symm e
        · exact h
      have ih := putL_map f p l ks h2 hp
      simp [putL, e2, e3, ih]

theorem sortedKeys_nodup {L : List (Int × List Slot)} (hn : (L.map (·.1)).Nodup) : (sortedKeys L).Nodup := (List.mergeSort_perm _ _).nodup_iff.2 hn

theorem tableS_put {L : List (Int × List Slot)} (hn : (L.map (·.1)).Nodup) {p : Int} (hp : p ∈ L.map (·.1)) (l : List Slot) : tableS (putL L p l) = putL (tableS L) p l := by
  have hk := (putL_keys L p l).1 hp
  have e : sortedKeys (putL L p l) = sortedKeys L := by unfold sortedKeys; rw [hk]
  unfold tableS
  rw [e, putL_map (rowOf L) p l _ (sortedKeys_nodup hn) (sortedKeys_mem.2 hp)]
  apply List.map_congr_left
  intro q _
  rw [rowOf_putL]

def insK : List Int → Int → List Int
  | [], p => [p]
  | x :: ks, p => if p < x then p :: x :: ks else x :: insK ks p

theorem insK_perm : ∀ (ks : List Int) (p : Int), (insK ks p).Perm (p :: ks)
  | [], p => List.Perm.refl _
  | x :: ks, p => by
    unfold insK
    split
    · exact List.Perm.refl _
    · exact ((insK_perm ks p).cons x).trans (List.Perm.swap _ _ _)

theorem insK_sorted : ∀ (ks : List Int) (p : Int), ks.Pairwise (· < ·) → p ∉ ks → (insK ks p).Pairwise (· < ·)
  | [], p, _, _ => by simp [insK]
  | x :: ks, p, h, hp => by
    obtain ⟨h1, h2⟩ := List.pairwise_cons.1 h
    unfold insK
    split
    · rename_i hlt
      refine List.pairwise_cons.2 ⟨?_, h⟩
      intro y hy
      rcases List.mem_cons.1 hy with rfl | hy
      · exact hlt
      · have := h1 y hy; omega
    · rename_i hlt
      refine List.pairwise_cons.2 ⟨?_, insK_sorted ks p h2 (fun h => hp (List.mem_cons_of_mem _ h))⟩
      intro y hy
      rcases List.mem_cons.1 ((insK_perm ks p).mem_iff.1 hy) with rfl | hy
      · have : ¬ y = x := fun e => hp (by simp [e])
        omega
      · exact h1 y hy

theorem sorted_eq {l l' : List Int} (h : l.Perm l') (h1 : l.Pairwise (· < ·)) (h2 : l'.Pairwise (· < ·)) : l = l' :=
  h.eq_of_pairwise (fun a b _ _ hab hba => by exfalso; omega) h1 h2

theorem insT_map (f : Int → List Slot) (p : Int) (l : List Slot) : ∀ (ks : List Int), p ∉ ks → insT (ks.map fun k => (k, f k)) p l = (insK ks p).map fun k => (k, if p = k then l else f k)
  | [], _ => by simp [insT, insK]
  | x :: ks, h => by
    have hx : ¬ p = x := fun e => h (by simp [e])
    have hk : p ∉ ks := fun h2 => h (List.mem_cons_of_mem _ h2)
    have hm : ks.map (fun k => (k, if p = k then l else f k)) = ks.map fun k => (k, f k) := by
      apply List.map_congr_left
      intro q hq
      have : ¬ p = q := fun e => hk (e ▸ hq)
      simp [this]
    have ih := insT_map f p l ks hk
    simp only [List.map_cons, insT, insK]
    split
    · simp [hx, hm]
    · simp [hx, ih]

theorem tableS_new {L : List (Int × List Slot)} (hn : (L.map (·.1)).Nodup) {p : Int} (hp : p ∉ L.map (·.1)) (l : List Slot) : tableS (putL L p l) = insT (tableS L) p l := by
  have hk := (putL_keys L p l).2 hp
  have hps : p ∉ sortedKeys L := fun h => hp (sortedKeys_mem.1 h)
  have hn2 := putL_nodup hn p l
  have e : sortedKeys (putL L p l) = insK (sortedKeys L) p := by
    refine sorted_eq ?_ (sortedKeys_lt hn2) (insK_sorted _ _ (sortedKeys_lt hn) hps)
    refine (List.mergeSort_perm _ _).trans ?_
    rw [hk]
    refine (List.perm_append_comm).trans ?_
    exact (((List.mergeSort_perm _ _).symm).cons p).trans (insK_perm _ _).symm
  unfold tableS
  rw [e, insT_map (rowOf L) p l _ hps]
  apply List.map_congr_left
  intro q _
  rw [rowOf_putL]

theorem rowOf_ne {L : List (Int × List Slot)} (hok : ∀ x ∈ L, RowOk x.2 ∧ isNumB x.1 = true) {p : Int} : rowOf L p ≠ [] ↔ p ∈ L.map (·.1) := by
  constructor
  · intro h
    apply Classical.byContradiction
    intro hp
    exact h (rowOf_nil hp)
  · intro hp
    obtain ⟨x, hx, _, er⟩ := rowOf_mem hp
    rw [er]
    exact (hok x hx).1.1

/-- The ledger's Add and the reference's: the same code; and where it is 0, the same table. -/
theorem add_same {L : List (Int × List Slot)} (hok : ∀ x ∈ L, RowOk x.2 ∧ isNumB x.1 = true) (hn : (L.map (·.1)).Nodup) (b : Batch) :
    (addT (tableS L) b).2 = (addS L b).2 ∧ ((addS L b).2 = 0 → (addT (tableS L) b).1 = tableS (addS L b).1) ∧ ((addS L b).2 ≠ 0 → (addS L b).1 = L) := by
  unfold addT addS
  rw [rowOf_tableS, tableS_length]
  by_cases hg : goodB b = true
  · rw [if_pos hg, if_pos hg]
    by_cases hc : (checkS (rowOf L b.prod) b.prod b.seq).2 = 0
    · rw [if_pos hc, if_pos hc]
      by_cases hr : rowOf L b.prod ≠ []
      · by_cases hl : b.base < lastFin (rowOf L b.prod)
        · rw [if_pos hr, if_pos hl, if_pos ⟨hr, hl⟩]; exact ⟨rfl, fun h => by simp at h, fun _ => rfl⟩
        · rw [if_pos hr, if_neg hl, if_neg (fun h => hl h.2), if_neg (fun h => hr h.1)]
          exact ⟨rfl, fun _ => (tableS_put hn ((rowOf_ne hok).1 hr) _).symm, fun h => absurd rfl h⟩
      · have hr' : rowOf L b.prod = [] := by simpa using hr
        by_cases h64 : 64 ≤ L.length
        · rw [if_neg hr, if_pos h64, if_neg (fun h => hr h.1), if_pos ⟨hr', h64⟩]; exact ⟨rfl, fun h => by simp at h, fun _ => rfl⟩
        · rw [if_neg hr, if_neg h64, if_neg (fun h => hr h.1), if_neg (fun h => h64 h.2)]
          refine ⟨rfl, fun _ => ?_, fun h => absurd rfl h⟩
          have hp : b.prod ∉ L.map (·.1) := fun h => hr ((rowOf_ne hok).2 h)
          rw [tableS_new hn hp, hr']
          rfl
    · rw [if_neg hc, if_neg hc]; exact ⟨rfl, fun h => absurd h hc, fun _ => rfl⟩
  · rw [if_neg hg, if_neg hg]; exact ⟨rfl, fun h => by simp at h, fun _ => rfl⟩

/-- A table that is sorted is its own. -/
theorem tableS_self {T : List (Int × List Slot)} (h : isTableB T = true) : tableS T = T := by
  obtain ⟨h1, -⟩ := isTableB_ok h
  have hs : (T.map (·.1)).Pairwise (· < ·) := by
    rw [List.pairwise_iff_getElem]
    intro i j hi hj hij
    simp only [List.length_map] at hi hj
    simp only [List.getElem_map]
    exact lt_of_steps (fun k hk h' => (h1 k hk).2.2 h') j hj i hij
  have hk : sortedKeys T = T.map (·.1) := by
    have hn : (T.map (·.1)).Nodup := hs.imp (fun h => by omega)
    exact sorted_eq (List.mergeSort_perm _ _) (sortedKeys_lt hn) hs
  unfold tableS
  rw [hk, List.map_map]
  apply List.ext_getElem
  · simp
  · intro i hi hi2
    simp only [List.getElem_map, Function.comp_apply]
    rw [rowOf_at hi2 (fun j hj hji => by have := lt_of_steps (fun k hk h' => (h1 k hk).2.2 h') i hi2 j hji; omega)]

theorem addS_length {L : List (Int × List Slot)} (b : Batch) : (addS L b).1.length ≤ L.length + 1 := by
  have hp : ∀ l, (putL L b.prod l).length ≤ L.length + 1 := by
    intro l
    by_cases h : b.prod ∈ L.map (·.1)
    · have := congrArg List.length ((putL_keys L b.prod l).1 h)
      simp at this; omega
    · have := congrArg List.length ((putL_keys L b.prod l).2 h)
      simp at this; omega
  unfold addS
  split
  · split
    · split
      · simp
      · split
        · simp
        · exact hp _
    · simp
  · simp
end Go.Proofs.Ytcgjhifcocmdaaa
