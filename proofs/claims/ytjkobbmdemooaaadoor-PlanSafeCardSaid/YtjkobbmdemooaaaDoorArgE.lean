/- Arguments of the Plan laws: three sizes, a slice of events. -/
import Derived.Test.YtjkobbmdemooaaaDoorArgG
import Derived.Test.YtjkobbmdemooaaaDoorPlBg
namespace Go.Proofs.YtjkobbmdemooaaaDoor
open Go.ChangeShapes Go.WideShapes Go.ChangeAt Go.RowKit

section
variable {H : Type} {enc : TypeId × Value → H} {W : World}

set_option maxRecDepth 100000 in
theorem sizes_of_trod {v : Value} {d : DataW H} {ps : List MemPlace} {base : Nat} (hv : Value.okWide Tryd.prog W .any base 22 v) (h : DataW.Trod enc Tryd.prog W 0 (fun _ => true) true 22 v d ps) :
    ∃ s0 s1 s2, v = .agg #[.int .i64 s0, .int .i64 s1, .int .i64 s2] := by
  simp only [Value.okWide, und_A3] at hv
  obtain ⟨cs, rfl, -⟩ := hv
  obtain ⟨fuel, hf⟩ := h
  obtain ⟨xs, m, rfl, -, hl, hxl, hx⟩ := DataW.trod_array und_A3 hf
  have hc : Tryd.prog.cellsOf 22 = 3 := by kernel_rfl
  rw [hc] at hl
  have hl' : cs.toList.length = 3 := by simpa [Value.cells] using hl
  simp only [Value.cells] at hx
  obtain ⟨l, hcl⟩ : ∃ l, cs.toList = l := ⟨_, rfl⟩
  rw [hcl] at hl' hx
  have hget : ∀ i (hi : i < 3), ∃ y, DataW.trod enc Tryd.prog W 0 (fun _ => true) true m 3 ((l.drop (i * 1)).take 1) = some y := by
    intro i hi
    have := hx i hi
    rw [cells_int] at this
    exact ⟨xs[i], by rw [this, List.getElem?_eq_getElem (by omega)]⟩
  match l, hl' with
  | [c0, c1, c2], _ =>
    obtain ⟨y0, e0⟩ := hget 0 (by decide)
    obtain ⟨y1, e1⟩ := hget 1 (by decide)
    obtain ⟨y2, e2⟩ := hget 2 (by decide)
    obtain ⟨z0, g0, _, _⟩ := DataW.trod_int und_int e0
    obtain ⟨z1, g1, _, _⟩ := DataW.trod_int und_int e1
    obtain ⟨z2, g2, _, _⟩ := DataW.trod_int und_int e2
    simp at g0 g1 g2
    subst g0; subst g1; subst g2
    refine ⟨z0, z1, z2, ?_⟩
    have : cs = #[.int .i64 z0, .int .i64 z1, .int .i64 z2] := Array.toList_inj.1 (by rw [hcl])
    rw [this]

set_option maxRecDepth 100000 in
theorem events_of_trod {v : Value} {d : DataW H} {ps : List MemPlace} {base : Nat} (hv : Value.okWide Tryd.prog W .any base 23 v) (h : DataW.Trod enc Tryd.prog W 0 (fun _ => true) true 23 v d ps) : ∃ E, EventsRd W v E := by
  obtain ⟨a, len, cap, rfl⟩ := okWide_slice und_Events hv
  obtain ⟨fuel, hf⟩ := h
  obtain ⟨v, l, h1, h2, -⟩ := rd_of_trod (α := Event) und_Events cells_Event (by decide) (fun x => [.int .i64 x.kind, .int .i64 x.node, .int .i64 x.part, .int .i64 x.n]) (fun _ => True) (fun _ => rfl) (by
    intro n cs x hl ht
    obtain ⟨y, hy⟩ := event_cells4 hl ht
    exact ⟨y, hy, trivial⟩) hf
  simp only [Value.cells, List.cons.injEq, and_true] at h1
  subst h1
  exact ⟨l, h2⟩
end
end Go.Proofs.YtjkobbmdemooaaaDoor
