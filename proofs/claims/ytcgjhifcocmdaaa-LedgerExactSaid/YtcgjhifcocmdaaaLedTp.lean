/- The plain law behind LedgerTables: what a ledger's table says of batches that came in turn. -/
import Derived.Test.YtcgjhifcocmdaaaLedF
import Derived.Test.YtcgjhifcocmdaaaLedL0
namespace Go.Proofs.Ytcgjhifcocmdaaa
open Go.RowKit

theorem sortedKeys_mem {L : List (Int × List Slot)} {x : Int} : x ∈ sortedKeys L ↔ x ∈ L.map (·.1) := by
  unfold sortedKeys; exact List.mem_mergeSort

theorem sortedKeys_lt {L : List (Int × List Slot)} (hn : (L.map (·.1)).Nodup) : (sortedKeys L).Pairwise (· < ·) := by
  have h1 : (sortedKeys L).Pairwise (fun x y => decide (x ≤ y) = true) := by
    unfold sortedKeys
    exact List.pairwise_mergeSort (by intro a b c h1 h2; simp at *; omega) (by intro a b; simp; omega) _
  have h2 : (sortedKeys L).Nodup := by
    unfold sortedKeys
    exact (List.mergeSort_perm _ _).nodup_iff.2 hn
  have h3 := h1.and h2
  exact h3.imp (by intro a b ⟨h, hne⟩; simp at h; omega)

theorem rowOf_mem {L : List (Int × List Slot)} {p : Int} (h : p ∈ L.map (·.1)) : ∃ x ∈ L, x.1 = p ∧ rowOf L p = x.2 := by
  cases hf : L.find? (fun x => x.1 == p) with
  | none =>
    obtain ⟨x, hx, e⟩ := List.mem_map.1 h
    have := List.find?_eq_none.1 hf x hx
    simp [e] at this
  | some x =>
    refine ⟨x, List.mem_of_find?_eq_some hf, ?_, by simp [rowOf, hf]⟩
    have := List.find?_some hf
    simpa using this

structure RowSays (bs : Nat → List Int) (x : Int × List Slot) (p : Nat) : Prop where
  lt : p < 4
  key : x.1 = p
  ok : RowOk x.2
  len : x.2.length = min (bs p).length 5
  last : ∀ h : x.2.length - 1 < x.2.length, x.2[x.2.length - 1].seq + 1 = (bs p).length

theorem table_says {L : List (Int × List Slot)} {bs : Nat → List Int} {e : Int} (h : OnceInv L bs e) (hok : ∀ x ∈ L, RowOk x.2 ∧ isNumB x.1 = true) (hn : (L.map (·.1)).Nodup) :
    (∀ k (hk : k < (tableS L).length), (∃ p, RowSays bs (tableS L)[k] p) ∧ isNumB (tableS L)[k].1 = true ∧ ∀ h' : k + 1 < (tableS L).length, (tableS L)[k].1 < (tableS L)[k + 1].1) ∧ (tableS L).length ≤ 4 := by
  have hlen : (tableS L).length = (sortedKeys L).length := by simp [tableS]
  refine ⟨?_, ?_⟩
  · intro k hk
    have hk' : k < (sortedKeys L).length := by omega
    have e1 : (tableS L)[k] = ((sortedKeys L)[k], rowOf L (sortedKeys L)[k]) := by simp [tableS]
    obtain ⟨x, hx, ex, er⟩ := rowOf_mem (sortedKeys_mem.1 (List.getElem_mem hk'))
    obtain ⟨o1, o2⟩ := hok x hx
    have hkk := h.keys x hx
    obtain ⟨p, hp⟩ : ∃ p : Nat, x.1 = p := ⟨x.1.toNat, by omega⟩
    have hp4 : p < 4 := by omega
    have hrow : rowOf L (sortedKeys L)[k] = last5 (mkRow (bs p)) := by rw [← ex, hp]; exact h.rows p hp4
    refine ⟨⟨p, hp4, by rw [e1, ← ex, hp], by rw [e1, er]; exact o1, ?_, ?_⟩, by rw [e1, ← ex]; exact o2, ?_⟩
    · rw [e1]; show (rowOf L (sortedKeys L)[k]).length = _
      rw [hrow, last5_length, mkRow_length]
    · rw [e1]
      show ∀ h : (rowOf L (sortedKeys L)[k]).length - 1 < (rowOf L (sortedKeys L)[k]).length, _
      rw [hrow]
      intro hh
      have hl := last5_length (mkRow (bs p))
      rw [mkRow_length] at hl
      dsimp only
      rw [last5_get, mkRow_get _ _ (by rw [mkRow_length]; omega)]
      simp only [mkRow_length, hl]
      omega
    · intro h'
      have e2 : (tableS L)[k + 1] = ((sortedKeys L)[k + 1]'(by omega), rowOf L ((sortedKeys L)[k + 1]'(by omega))) := by simp [tableS]
      rw [e1, e2]
      exact List.pairwise_iff_getElem.1 (sortedKeys_lt hn) k (k + 1) hk' (by omega) (by omega)
  · have h1 := nodup_le 4 (L.map (·.1)) hn (by
      intro x hx
      obtain ⟨y, hy, rfl⟩ := List.mem_map.1 hx
      have := h.keys y hy
      exact ⟨this.1, by omega⟩)
    rw [hlen]; simpa [sortedKeys] using h1

theorem table_isTable {L : List (Int × List Slot)} {bs : Nat → List Int} {e : Int} (h : OnceInv L bs e) (hok : ∀ x ∈ L, RowOk x.2 ∧ isNumB x.1 = true) (hn : (L.map (·.1)).Nodup) : isTableB (tableS L) = true := by
  obtain ⟨h1, h2⟩ := table_says h hok hn
  refine isTableB_of (fun k hk => ?_) (by omega)
  obtain ⟨⟨p, hp⟩, a, b⟩ := h1 k hk
  exact ⟨hp.ok, a, b⟩
end Go.Proofs.Ytcgjhifcocmdaaa
