/- Arguments of PlanExact: a plan, a config. -/
import Derived.Test.YtjkobbmdemooaaaGreatDoorPx8
import Derived.Test.YtjkobbmdemooaaaGreatDoorPx12
namespace Go.Proofs.YtjkobbmdemooaaaGreatDoor
open Go.ChangeShapes Go.WideShapes Go.ChangeAt Go.RowKit

theorem xund_Ints : Tryz.prog.underlying 32 = some (.slice 3) := by kernel_rfl


theorem fields_Part : fieldsOf Tryz.prog 74 = [(3, 0), (32, 1), (3, 2)] := by kernel_rfl
theorem fields_Life : fieldsOf Tryz.prog 81 = [(3, 0), (3, 1)] := by kernel_rfl
theorem fields_Plan : fieldsOf Tryz.prog 25 = [(3, 0), (3, 1), (22, 2), (23, 3)] := by kernel_rfl
theorem fields_Config : fieldsOf Tryz.prog 29 = [(3, 0), (3, 1), (3, 2), (3, 3), (3, 4), (3, 5), (3, 6), (3, 7)] := by kernel_rfl
theorem cells_Part : Tryz.prog.cellsOf 74 = 3 := by kernel_rfl
theorem cells_Life : Tryz.prog.cellsOf 81 = 2 := by kernel_rfl
theorem cells_Plan : Tryz.prog.cellsOf 25 = 4 := by kernel_rfl
theorem cells_Config : Tryz.prog.cellsOf 29 = 8 := by kernel_rfl
theorem cells_Ints : Tryz.prog.cellsOf 32 = 1 := by kernel_rfl
theorem cells_Parts : Tryz.prog.cellsOf 22 = 1 := by kernel_rfl
theorem cells_Lives : Tryz.prog.cellsOf 23 = 1 := by kernel_rfl
theorem isStruct_Plan : ∃ fs, Tryz.prog.underlying 25 = some (.struct fs) := ⟨_, Tryz.underlying25⟩
theorem isStruct_Config : ∃ fs, Tryz.prog.underlying 29 = some (.struct fs) := ⟨_, Tryz.underlying29⟩

section
variable {H : Type} {enc : TypeId × Value → H} {W : World}

theorem flat_one {l : List Int} : l.flatMap (fun x => [Value.int .i64 x]) = intCells l := by
  induction l with
  | nil => rfl
  | cons x l ih => rw [List.flatMap_cons, ih]; rfl

set_option maxRecDepth 100000 in
theorem ints_trod {fuel : Nat} {cs : List Value} {x : DataW H × List MemPlace} (h : DataW.trod enc Tryz.prog W 0 (fun _ => true) true fuel 32 cs = some x) : ∃ v l, cs = [v] ∧ IntsRd W v l := by
  obtain ⟨v, l, h1, h2, -⟩ := rd_of_trod (α := Int) xund_Ints cells_int (by decide) (fun x => [.int .i64 x]) (fun _ => True) (fun _ => rfl) (by
    intro n cs x hl ht
    match cs, hl with
    | [c0], _ =>
      obtain ⟨z0, g0, _, _⟩ := DataW.trod_int und_int ht
      simp at g0
      subst g0
      exact ⟨z0, rfl, trivial⟩) h
  rw [flat_one] at h2
  exact ⟨v, l, h1, h2⟩

set_option maxRecDepth 100000 in
theorem lives_trod {fuel : Nat} {cs : List Value} {x : DataW H × List MemPlace} (h : DataW.trod enc Tryz.prog W 0 (fun _ => true) true fuel 23 cs = some x) : ∃ v l, cs = [v] ∧ LivesRd W v l := by
  obtain ⟨v, l, h1, h2, -⟩ := rd_of_trod (α := Int × Int) und_Lives cells_Life (by decide) (fun x => [.int .i64 x.1, .int .i64 x.2]) (fun _ => True) (fun _ => rfl) (by
    intro n cs x hl ht
    obtain ⟨n', -, hx⟩ := trod_fields fields_Life (by decide) ht
    match cs, hl with
    | [c0, c1], _ =>
      obtain ⟨y0, e0⟩ := hx 0 _ rfl
      obtain ⟨y1, e1⟩ := hx 1 _ rfl
      simp only [cells_int] at e0 e1
      obtain ⟨z0, g0, _, _⟩ := DataW.trod_int und_int e0
      obtain ⟨z1, g1, _, _⟩ := DataW.trod_int und_int e1
      simp at g0 g1
      subst g0; subst g1
      exact ⟨(z0, z1), rfl, trivial⟩) h
  exact ⟨v, l, h1, h2⟩

set_option maxRecDepth 100000 in
theorem parts_trod {fuel : Nat} {cs : List Value} {x : DataW H × List MemPlace} (h : DataW.trod enc Tryz.prog W 0 (fun _ => true) true fuel 22 cs = some x) : ∃ v P, cs = [v] ∧ PartsRd W v P := by
  obtain ⟨v, m, h1, h2, h3⟩ := rd_of_trod (α := Value × Pt) und_Parts cells_Part (by decide) (fun x => [.int .i64 x.2.epoch, x.1, .int .i64 x.2.learner]) (fun x => IntsRd W x.1 x.2.chain) (fun _ => rfl) (by
    intro n cs x hl ht
    obtain ⟨n', -, hx⟩ := trod_fields fields_Part (by decide) ht
    match cs, hl with
    | [c0, c1, c2], _ =>
      obtain ⟨y0, e0⟩ := hx 0 _ rfl
      obtain ⟨y1, e1⟩ := hx 1 _ rfl
      obtain ⟨y2, e2⟩ := hx 2 _ rfl
      simp only [cells_int, cells_Ints] at e0 e1 e2
      obtain ⟨z0, g0, _, _⟩ := DataW.trod_int und_int e0
      obtain ⟨v1, l1, g1, hr⟩ := ints_trod e1
      obtain ⟨z2, g2, _, _⟩ := DataW.trod_int und_int e2
      simp at g0 g1 g2
      subst g0; subst g1; subst g2
      exact ⟨(c1, ⟨z0, l1, z2⟩), rfl, hr⟩) h
  exact ⟨v, m.map (·.2), h1, m, rfl, h2, h3⟩

set_option maxRecDepth 100000 in
theorem plan_of_trod {v : Value} {d : DataW H} {ps : List MemPlace} {base : Nat} (hv : Value.okWide Tryz.prog W .any base 25 v) (h : DataW.Trod enc Tryz.prog W 0 (fun _ => true) true 25 v d ps) : ∃ p, PlanRd W v p := by
  obtain ⟨fs, hfs⟩ := isStruct_Plan
  obtain ⟨cs, rfl, hsz⟩ := okWide_struct hfs hv
  obtain ⟨fuel, hf⟩ := h
  rw [cells_Plan] at hsz
  obtain ⟨n', -, hx⟩ := trod_fields fields_Plan (by decide) hf
  simp only [Value.cells] at hx
  obtain ⟨l, hcl⟩ : ∃ l, cs.toList = l := ⟨_, rfl⟩
  have hl : l.length = 4 := by rw [← hcl]; simpa [Value.cells] using hsz
  rw [hcl] at hx
  match l, hl with
  | [c0, c1, c2, c3], _ =>
    obtain ⟨y0, e0⟩ := hx 0 _ rfl
    obtain ⟨y1, e1⟩ := hx 1 _ rfl
    obtain ⟨y2, e2⟩ := hx 2 _ rfl
    obtain ⟨y3, e3⟩ := hx 3 _ rfl
    simp only [cells_int, cells_Parts, cells_Lives] at e0 e1 e2 e3
    obtain ⟨z0, g0, _, _⟩ := DataW.trod_int und_int e0
    obtain ⟨z1, g1, _, _⟩ := DataW.trod_int und_int e1
    obtain ⟨v2, P, g2, hp⟩ := parts_trod e2
    obtain ⟨v3, L, g3, hlv⟩ := lives_trod e3
    simp at g0 g1 g2 g3
    subst g0; subst g1; subst g2; subst g3
    refine ⟨⟨z0, z1, P, L⟩, c2, c3, ?_, hp, hlv⟩
    have : cs = #[.int .i64 z0, .int .i64 z1, c2, c3] := Array.toList_inj.1 (by rw [hcl])
    rw [this]

set_option maxRecDepth 100000 in
theorem config_of_trod {v : Value} {d : DataW H} {ps : List MemPlace} {base : Nat} (hv : Value.okWide Tryz.prog W .any base 29 v) (h : DataW.Trod enc Tryz.prog W 0 (fun _ => true) true 29 v d ps) : ∃ n k p c a b d e, v = cfgV n k p c a b d e := by
  obtain ⟨fs, hfs⟩ := isStruct_Config
  obtain ⟨cs, rfl, hsz⟩ := okWide_struct hfs hv
  obtain ⟨fuel, hf⟩ := h
  rw [cells_Config] at hsz
  obtain ⟨n', -, hx⟩ := trod_fields fields_Config (by decide) hf
  simp only [Value.cells] at hx
  obtain ⟨l, hcl⟩ : ∃ l, cs.toList = l := ⟨_, rfl⟩
  have hl : l.length = 8 := by rw [← hcl]; simpa [Value.cells] using hsz
  rw [hcl] at hx
  match l, hl with
  | [c0, c1, c2, c3, c4, c5, c6, c7], _ =>
    obtain ⟨y0, e0⟩ := hx 0 _ rfl
    obtain ⟨y1, e1⟩ := hx 1 _ rfl
    obtain ⟨y2, e2⟩ := hx 2 _ rfl
    obtain ⟨y3, e3⟩ := hx 3 _ rfl
    obtain ⟨y4, e4⟩ := hx 4 _ rfl
    obtain ⟨y5, e5⟩ := hx 5 _ rfl
    obtain ⟨y6, e6⟩ := hx 6 _ rfl
    obtain ⟨y7, e7⟩ := hx 7 _ rfl
    simp only [cells_int] at e0 e1 e2 e3 e4 e5 e6 e7
    obtain ⟨z0, g0, _, _⟩ := DataW.trod_int und_int e0
    obtain ⟨z1, g1, _, _⟩ := DataW.trod_int und_int e1
    obtain ⟨z2, g2, _, _⟩ := DataW.trod_int und_int e2
    obtain ⟨z3, g3, _, _⟩ := DataW.trod_int und_int e3
    obtain ⟨z4, g4, _, _⟩ := DataW.trod_int und_int e4
    obtain ⟨z5, g5, _, _⟩ := DataW.trod_int und_int e5
    obtain ⟨z6, g6, _, _⟩ := DataW.trod_int und_int e6
    obtain ⟨z7, g7, _, _⟩ := DataW.trod_int und_int e7
    simp at g0 g1 g2 g3 g4 g5 g6 g7
    subst g0; subst g1; subst g2; subst g3; subst g4; subst g5; subst g6; subst g7
    refine ⟨z0, z1, z2, z3, z4, z5, z6, z7, ?_⟩
    have : cs = #[.int .i64 z0, .int .i64 z1, .int .i64 z2, .int .i64 z3, .int .i64 z4, .int .i64 z5, .int .i64 z6, .int .i64 z7] := Array.toList_inj.1 (by rw [hcl])
    rw [this]
end
end Go.Proofs.YtjkobbmdemooaaaGreatDoor
