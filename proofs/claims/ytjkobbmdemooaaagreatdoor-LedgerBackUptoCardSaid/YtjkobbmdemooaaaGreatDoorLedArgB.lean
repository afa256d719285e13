/- Arguments that are slices of pairs. -/
import Derived.Test.YtjkobbmdemooaaaGreatDoorLedArg0
import Derived.Test.YtjkobbmdemooaaaGreatDoorLedB0
namespace Go.Proofs.YtjkobbmdemooaaaGreatDoor
open Go.ChangeShapes Go.WideShapes Go.ChangeAt Go.RowKit

theorem und_Pairs : Tryz.prog.underlying 55 = some (.slice 64) := by kernel_rfl
theorem und_Pair : Tryz.prog.underlying 64 = some (.array 2 3) := by kernel_rfl
theorem cells_Pair : Tryz.prog.cellsOf 64 = 2 := by kernel_rfl

set_option maxRecDepth 100000 in
theorem pairs_of_trod {H : Type} {enc : TypeId × Value → H} {W : World} {v : Value} {d : DataW H} {ps : List MemPlace} {base : Nat}
    (hv : Value.okWide Tryz.prog W .any base 55 v) (h : DataW.Trod enc Tryz.prog W 0 (fun _ => true) true 55 v d ps) : ∃ l, PairsAt W v l := by
  obtain ⟨a0, len, cap, rfl⟩ := okWide_slice und_Pairs hv
  obtain ⟨fuel, hf⟩ := h
  rcases Deep.open_slice und_Pairs hf with ⟨hcs, hx⟩ | ⟨a, len', cap', m, n, D, Pl, hcs, _, hl, hm, hme, hx, hel⟩
  · simp [Value.cells] at hcs
    obtain ⟨rfl, rfl, rfl⟩ := hcs
    exact ⟨[], none, 0, rfl, by simp, fun i hi => by simp at hi⟩
  · simp [Value.cells] at hcs
    obtain ⟨rfl, rfl, rfl⟩ := hcs
    have hml : len ≤ m := by rw [hme]; simp; exact hl
    have each : ∀ i, i < len → ∃ z : Int × Int, W.cell? (a.add (i * 2)) = some (.int .i64 z.1) ∧ W.cell? (a.add (i * 2 + 1)) = some (.int .i64 z.2) := by
      intro i hi
      obtain ⟨cs', hc, ht⟩ := hel i (by omega)
      rw [cells_Pair] at hc
      obtain ⟨_, hlen, hcell⟩ := World.cells?_some hc
      obtain ⟨xs, m', _, _, _, hxl, hxs⟩ := DataW.trod_array und_Pair ht
      rw [cells_int] at hxs
      match cs', hlen with
      | [c0, c1], _ =>
        have h0 := hxs 0 (by omega)
        have h1 := hxs 1 (by omega)
        rw [List.getElem?_eq_getElem (by omega)] at h0 h1
        obtain ⟨n0, e0, _, _⟩ := DataW.trod_int und_int h0
        obtain ⟨n1, e1, _, _⟩ := DataW.trod_int und_int h1
        simp at e0 e1
        subst e0; subst e1
        refine ⟨(n0, n1), ?_, ?_⟩
        · have := hcell 0 (by omega); rw [Deep.add_add] at this; simpa using this
        · have := hcell 1 (by omega); rw [Deep.add_add] at this; simpa using this
    have each' : ∀ i, ∃ z : Int × Int, i < len → W.cell? (a.add (i * 2)) = some (.int .i64 z.1) ∧ W.cell? (a.add (i * 2 + 1)) = some (.int .i64 z.2) := by
      intro i
      by_cases hi : i < len
      · obtain ⟨z, hz⟩ := each i hi; exact ⟨z, fun _ => hz⟩
      · exact ⟨(0, 0), fun h => absurd h hi⟩
    let f : Nat → Int × Int := fun i => Classical.choose (each' i)
    have hf : ∀ i, i < len → W.cell? (a.add (i * 2)) = some (.int .i64 (f i).1) ∧ W.cell? (a.add (i * 2 + 1)) = some (.int .i64 (f i).2) := fun i hi => Classical.choose_spec (each' i) hi
    refine ⟨(List.range len).map f, some a, cap, by simp, by have : cap ≤ 9223372036854775807 := hm; simp; omega, ?_⟩
    intro i hi
    have hi' : i < len := by simpa using hi
    obtain ⟨h0, h1⟩ := hf i hi'
    have hb := World.block_lt_of_cell? W _ h0
    have hspot : a.spot = none := by
      cases hsp : a.spot with
      | none => rfl
      | some x =>
        exfalso
        have h00 := (hf 0 (by omega)).1
        have e : a.add (0 * 2) = a := by simp [Addr.add]
        rw [e] at h00
        unfold World.cell? at h00
        split at h00
        · simp [hsp] at h00
        · cases h00
    obtain ⟨b, off, sp⟩ := a
    dsimp only at hspot
    subst hspot
    rw [Addr.add_lit] at h0 h1
    have hb : b < W.heap.size := World.block_lt_of_cell? W _ h0
    refine ⟨b, off, rfl, hb, ?_, ?_⟩
    · simpa using h0
    · simpa [Nat.add_assoc] using h1
end Go.Proofs.YtjkobbmdemooaaaGreatDoor
