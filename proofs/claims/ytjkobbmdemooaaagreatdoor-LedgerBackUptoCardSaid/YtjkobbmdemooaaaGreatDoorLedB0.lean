/- LedgerBack: what a ledger's table says (plain law), and small walks. -/
import Derived.Test.YtjkobbmdemooaaaGreatDoorLedA
import Derived.Test.YtjkobbmdemooaaaGreatDoorLedO
import Derived.Test.YtjkobbmdemooaaaGreatDoorLedF
namespace Go.Proofs.YtjkobbmdemooaaaGreatDoor
open Go.RowKit

theorem sortedKeys_mem {L : List (Int × List Slot)} {x : Int} : x ∈ sortedKeys L ↔ x ∈ L.map (·.1) := by
  unfold sortedKeys; exact List.mem_mergeSort

theorem sortedKeys_lt {L : List (Int × List Slot)} (hn : (L.map (·.1)).Nodup) : (sortedKeys L).Pairwise (· < ·) := by
  have h1 : (sortedKeys L).Pairwise (fun x y => decide (x ≤ y) = true) := by
    unfold sortedKeys
    exact List.pairwise_mergeSort (by intro a b c h1 h2; simp at *; omega) (by intro a b; simp; omega) _
  have h2 : (sortedKeys L).Nodup := by
    unfold sortedKeys
    exact (List.mergeSort_perm _ _).nodup_iff.2 hn
  have h3 := h1.and h2
  exact h3.imp (by intro a b ⟨h, hne⟩; simp at h; omega)

theorem rowOf_mem {L : List (Int × List Slot)} {p : Int} (h : p ∈ L.map (·.1)) : ∃ x ∈ L, x.1 = p ∧ rowOf L p = x.2 := by
  cases hf : L.find? (fun x => x.1 == p) with
  | none =>
    obtain ⟨x, hx, e⟩ := List.mem_map.1 h
    have := List.find?_eq_none.1 hf x hx
    simp [e] at this
  | some x =>
    refine ⟨x, List.mem_of_find?_eq_some hf, ?_, by simp [rowOf, hf]⟩
    have := List.find?_some hf
    simpa using this

theorem rowOf_nil {L : List (Int × List Slot)} {p : Int} (h : p ∉ L.map (·.1)) : rowOf L p = [] := by
  unfold rowOf
  rw [List.find?_eq_none.2]
  · rfl
  · intro x hx
    have : x.1 ≠ p := fun e => h (List.mem_map.2 ⟨x, hx, e⟩)
    simpa using this

theorem rowOf_mapKeys (f : Int → List Slot) : ∀ (ks : List Int) (p : Int), p ∈ ks → rowOf (ks.map fun k => (k, f k)) p = f p
  | k :: ks, p, h => by
    by_cases e : k = p
    · subst e; simp [rowOf]
    · have e2 : (k == p) = false := by simpa using e
      have hp : p ∈ ks := by
        rcases List.mem_cons.1 h with h | h
        · exact absurd h.symm e
        · exact h
      have ih := rowOf_mapKeys f ks p hp
      have : rowOf ((k :: ks).map fun k => (k, f k)) p = rowOf (ks.map fun k => (k, f k)) p := by
        simp [rowOf, e2]
      rw [this, ih]

theorem rowOf_tableS (L : List (Int × List Slot)) (p : Int) : rowOf (tableS L) p = rowOf L p := by
  by_cases h : p ∈ L.map (·.1)
  · exact rowOf_mapKeys (rowOf L) _ p (sortedKeys_mem.2 h)
  · rw [rowOf_nil h, rowOf_nil]
    intro h2
    simp only [tableS, List.map_map] at h2
    obtain ⟨k, hk, rfl⟩ := List.mem_map.1 h2
    exact h (sortedKeys_mem.1 hk)

theorem tableS_rows {L : List (Int × List Slot)} (hok : ∀ x ∈ L, RowOk x.2 ∧ isNumB x.1 = true) : ∀ k (hk : k < (tableS L).length), RowOk (tableS L)[k].2 := by
  intro k hk
  have hk' : k < (sortedKeys L).length := by simpa [tableS] using hk
  have e1 : (tableS L)[k] = ((sortedKeys L)[k], rowOf L (sortedKeys L)[k]) := by simp [tableS]
  obtain ⟨x, hx, ex, er⟩ := rowOf_mem (sortedKeys_mem.1 (List.getElem_mem hk'))
  rw [e1, er]
  exact (hok x hx).1

theorem addS_mem {L : List (Int × List Slot)} {b : Batch} {x : Int × List Slot} (h : x ∈ (addS L b).1) : x.1 = b.prod ∨ x ∈ L := by
  unfold addS at h
  split at h
  · split at h
    · split at h
      · exact .inr h
      · split at h
        · exact .inr h
        · rcases putL_mem h with rfl | h
          · exact .inl rfl
          · exact .inr h
    · exact .inr h
  · exact .inr h

def Few (L : List (Int × List Slot)) : Prop := ∀ x ∈ L, 0 ≤ x.1 ∧ x.1 < 4

theorem Few.len {L : List (Int × List Slot)} (h : Few L) (hn : (L.map (·.1)).Nodup) : L.length ≤ 4 := by
  have := nodup_le 4 (L.map (·.1)) hn (by
    intro x hx
    obtain ⟨y, hy, rfl⟩ := List.mem_map.1 hx
    have := h y hy
    exact ⟨this.1, by omega⟩)
  simpa using this

theorem Few.add {L : List (Int × List Slot)} (h : Few L) {p : Nat} (hp : p < 4) (s b : Int) : Few (addS L (bat p s b)).1 := by
  intro x hx
  rcases addS_mem hx with e | hx
  · have : x.1 = (p : Int) := e
    omega
  · exact h x hx

def PairsAt (w : World) (v : Value) (l : List (Int × Int)) : Prop :=
  ∃ a cap, v = .slice a l.length cap ∧ l.length ≤ 9223372036854775807 ∧ ∀ i (h : i < l.length), ∃ b off, a = some ⟨b, off, none⟩ ∧ b < w.heap.size ∧
    w.cell? ⟨b, off + i * 2, none⟩ = some (.int .i64 l[i].1) ∧ w.cell? ⟨b, off + i * 2 + 1, none⟩ = some (.int .i64 l[i].2)

theorem u64mod (x : Int) (n : Nat) (h0 : 0 < n) (h1 : n ≤ 1000) : ∃ p : Nat, wrap64 ((IntKind.u64.wrap x).tmod n) = p ∧ p < n := by
  have h2 : 0 ≤ IntKind.u64.wrap x := by
    simp only [IntKind.wrap, IntKind.bits, IntKind.signed]; simp; omega
  have h3 : (IntKind.u64.wrap x).tmod n = (IntKind.u64.wrap x) % n := Int.tmod_eq_emod_of_nonneg h2
  have h4 : 0 ≤ (IntKind.u64.wrap x) % (n : Int) := Int.emod_nonneg _ (by omega)
  have h5 : (IntKind.u64.wrap x) % (n : Int) < n := Int.emod_lt_of_pos _ (by omega)
  rw [h3, IntWalk.wrap64_in _ (by omega)]
  exact ⟨((IntKind.u64.wrap x) % (n : Int)).toNat, by omega, by omega⟩

theorem batch_any3 (p s b : Int) (w wr : World) (h0 : Below wr.heap.size wr w) : Calls Tryz.prog 34 #[.int .i64 p, .int .i64 s, .int .i64 b] w fun e w' =>
    e = .returned (.agg #[.int .i64 b, .int .i64 1, .int .i64 p, .int .i64 s, .int .i64 0, .slice (some ⟨w.heap.size + 1, 0, none⟩) 1 1]) ∧
    Sl w' 113 4 (.slice (some ⟨w.heap.size + 1, 0, none⟩) 1 1) 1 (recCells [⟨b, ByteArray.empty, ByteArray.empty, false⟩]) ∧ Below w.heap.size w w' ∧ Below wr.heap.size wr w' :=
  (batch_any p s b w).mono fun e w' ⟨h1, h2, h3⟩ => ⟨h1, h2, h3, below_trans h0 h3⟩

theorem check_agg {w : World} {v : Value} {B : Nat} {L : List (Int × List Slot)} (h : LedAt w v B L) (p s : Int) :
    Calls Tryz.prog 37 #[v, .int .i64 p, .int .i64 s] w fun e w' =>
      e = .returned (.tuple #[.agg #[.int .i64 (checkS (rowOf L p) p s).1.seq, .int .i64 (checkS (rowOf L p) p s).1.base, .int .i64 (checkS (rowOf L p) p s).1.fin], .int .i64 (checkS (rowOf L p) p s).2]) ∧ Below w.heap.size w w' :=
  LedCheck_any h p s

def SlotIn (w : World) (b : Nat) (x0 x1 x2 : Int) : Prop :=
  b < w.heap.size ∧ w.cell? ⟨b, 0, none⟩ = some (.int .i64 x0) ∧ w.cell? ⟨b, 1, none⟩ = some (.int .i64 x1) ∧ w.cell? ⟨b, 2, none⟩ = some (.int .i64 x2)

theorem SlotIn.below {w w' : World} {b : Nat} {x0 x1 x2 : Int} (h : SlotIn w b x0 x1 x2) (hb : Below w.heap.size w w') : SlotIn w' b x0 x1 x2 :=
  ⟨by have := hb.size; have := h.1; omega, below_some hb h.2.1 h.1, below_some hb h.2.2.1 h.1, below_some hb h.2.2.2 h.1⟩

theorem SlotIn.of {w : World} {b : Nat} {x0 x1 x2 : Int} (h : w.heap[b]? = some (.cells #[.int .i64 x0, .int .i64 x1, .int .i64 x2] 69)) : SlotIn w b x0 x1 x2 :=
  ⟨(Array.getElem?_eq_some_iff.1 h).1, by rw [cell_of_row w _ _ _ _ _ h]; rfl, by rw [cell_of_row w _ _ _ _ _ h]; rfl, by rw [cell_of_row w _ _ _ _ _ h]; rfl⟩

/-- A ledger's table is a table. -/
theorem table_good {L : List (Int × List Slot)} (hok : ∀ x ∈ L, RowOk x.2 ∧ isNumB x.1 = true) (hn : (L.map (·.1)).Nodup) (hl : L.length ≤ 64) : isTableB (tableS L) = true := by
  have hlen : (tableS L).length = L.length := by simp [tableS, sortedKeys]
  have hkey : ∀ k (hk : k < (tableS L).length), ∃ hk' : k < (sortedKeys L).length, (tableS L)[k].1 = (sortedKeys L)[k] := by
    intro k hk
    have hk' : k < (sortedKeys L).length := by simpa [tableS] using hk
    exact ⟨hk', by simp [tableS]⟩
  refine isTableB_of (fun k hk => ?_) (by omega)
  obtain ⟨hk', e⟩ := hkey k hk
  refine ⟨tableS_rows hok k hk, ?_, fun h' => ?_⟩
  · obtain ⟨x, hx, ex, -⟩ := rowOf_mem (sortedKeys_mem.1 (List.getElem_mem hk'))
    rw [e, ← ex]
    exact (hok x hx).2
  · obtain ⟨hk2, e2⟩ := hkey (k + 1) h'
    rw [e, e2]
    exact List.pairwise_iff_getElem.1 (sortedKeys_lt hn) k (k + 1) hk' hk2 (by omega)

theorem check_nil (w : World) : Calls Tryz.prog 37 #[.pointer none, .int .i64 0, .int .i64 0] w fun e w' => e = .returned (.tuple #[.agg #[.int .i64 0, .int .i64 0, .int .i64 0], .int .i64 2]) ∧ Below w.heap.size w w' := by
  go_enter Tryz.func37, Tryz.ntmps37
  go_wp2
  refine wp_scope_goto 0 rfl ?_
  go_wp2
  simp only [jump_ret]
  exact bodyPost_ret (v := .tuple #[.agg #[.int .i64 0, .int .i64 0, .int .i64 0], .int .i64 2]) (by simp [results, Tryz.results37, go_sem]) rfl ⟨rfl, below_alloc _ _⟩

theorem add_nil (w : World) : Calls Tryz.prog 33 #[.pointer none, .agg #[.int .i64 0, .int .i64 0, .int .i64 0, .int .i64 0, .int .i64 0, .slice none 0 0]] w fun e w' => e = .returned (.int .i64 2) ∧ Below w.heap.size w w' := by
  go_enter Tryz.func33, Tryz.ntmps33
  go_wp2
  exact bodyPost_ret (v := .int .i64 2) (by simp [results, Tryz.results33, go_sem]) rfl ⟨rfl, below_alloc _ _⟩

theorem table_nil (w : World) : Calls Tryz.prog 35 #[.pointer none] w fun e w' => e = .returned (.slice none 0 0) ∧ Below w.heap.size w w' := by
  go_enter Tryz.func35, Tryz.ntmps35
  go_wp2
  exact bodyPost_ret (v := .slice none 0 0) (by simp [results, Tryz.results35, go_sem]) rfl ⟨rfl, Below.refl _ _⟩
end Go.Proofs.YtjkobbmdemooaaaGreatDoor
