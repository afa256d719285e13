/- Arguments of PlanExact: a plan, a config. -/
/- Openers for a row of the strand laws' acts. (Printed by gen_args.py.) -/
/- What the row's list gives of the library's variables; a start for the witness. -/
/- What the row of StrandPower must say of the program, limb by limb. -/
import Derived.Test.YtcpaaleogmiamaaGreatDoorMp45
import Derived.Test.YtcpaaleogmiamaaGreatDoorMp46
import Derived.Test.YtcpaaleogmiamaaGreatDoorMp32
import Derived.Test.YtcpaaleogmiamaaGreatDoorMp3
import Derived.Test.YtcpaaleogmiamaaGreatDoorRows
import Derived.Lib.LaidTab
import Derived.LaidMore
import Derived.Lay
import Derived.Stop.LaidErr
import Derived.Test.YtcpaaleogmiamaaGreatDoorCards
import Derived.Test.YtcpaaleogmiamaaGreatDoorTie
import Derived.JoinedCond
namespace Go.Proofs.YtcpaaleogmiamaaGreatDoor
open Go.ChangeShapes Go.WideShapes Go.ChangeAt Go.RowKit

theorem xund_Ints : Tryz.prog.underlying 22 = some (.slice 3) := by kernel_rfl


theorem fields_Part : fieldsOf Tryz.prog 36 = [(3, 0), (22, 1), (3, 2)] := by kernel_rfl
theorem fields_Life : fieldsOf Tryz.prog 134 = [(3, 0), (3, 1)] := by kernel_rfl
theorem fields_Plan : fieldsOf Tryz.prog 52 = [(3, 0), (3, 1), (50, 2), (37, 3)] := by kernel_rfl
theorem fields_Config : fieldsOf Tryz.prog 25 = [(3, 0), (3, 1), (3, 2), (3, 3), (3, 4), (3, 5), (3, 6), (3, 7)] := by kernel_rfl
theorem cells_Part : Tryz.prog.cellsOf 36 = 3 := by kernel_rfl
theorem cells_Life : Tryz.prog.cellsOf 134 = 2 := by kernel_rfl
theorem cells_Plan : Tryz.prog.cellsOf 52 = 4 := by kernel_rfl
theorem cells_Config : Tryz.prog.cellsOf 25 = 8 := by kernel_rfl
theorem cells_Ints : Tryz.prog.cellsOf 22 = 1 := by kernel_rfl
theorem cells_Parts : Tryz.prog.cellsOf 50 = 1 := by kernel_rfl
theorem cells_Lives : Tryz.prog.cellsOf 37 = 1 := by kernel_rfl
theorem isStruct_Plan : ∃ fs, Tryz.prog.underlying 52 = some (.struct fs) := ⟨_, Tryz.underlying52⟩
theorem isStruct_Config : ∃ fs, Tryz.prog.underlying 25 = some (.struct fs) := ⟨_, Tryz.underlying25⟩

section
variable {H : Type} {enc : TypeId × Value → H} {W : World}

theorem flat_one {l : List Int} : l.flatMap (fun x => [Value.int .i64 x]) = intCells l := by
  induction l with
  | nil => rfl
  | cons x l ih => rw [List.flatMap_cons, ih]; rfl

set_option maxRecDepth 100000 in
theorem ints_trod {fuel : Nat} {cs : List Value} {x : DataW H × List MemPlace} (h : DataW.trod enc Tryz.prog W 0 (fun _ => true) true fuel 22 cs = some x) : ∃ v l, cs = [v] ∧ IntsRd W v l := by
  obtain ⟨v, l, h1, h2, -⟩ := rd_of_trod (α := Int) xund_Ints cells_int (by decide) (fun x => [.int .i64 x]) (fun _ => True) (fun _ => rfl) (by
    intro n cs x hl ht
    match cs, hl with
    | [c0], _ =>
      obtain ⟨z0, g0, _, _⟩ := DataW.trod_int und_int ht
      simp at g0
      subst g0
      exact ⟨z0, rfl, trivial⟩) h
  rw [flat_one] at h2
  exact ⟨v, l, h1, h2⟩

set_option maxRecDepth 100000 in
theorem lives_trod {fuel : Nat} {cs : List Value} {x : DataW H × List MemPlace} (h : DataW.trod enc Tryz.prog W 0 (fun _ => true) true fuel 37 cs = some x) : ∃ v l, cs = [v] ∧ LivesRd W v l := by
  obtain ⟨v, l, h1, h2, -⟩ := rd_of_trod (α := Int × Int) und_Lives cells_Life (by decide) (fun x => [.int .i64 x.1, .int .i64 x.2]) (fun _ => True) (fun _ => rfl) (by
    intro n cs x hl ht
    obtain ⟨n', -, hx⟩ := trod_fields fields_Life (by decide) ht
    match cs, hl with
    | [c0, c1], _ =>
      obtain ⟨y0, e0⟩ := hx 0 _ rfl
      obtain ⟨y1, e1⟩ := hx 1 _ rfl
      simp only [cells_int] at e0 e1
      obtain ⟨z0, g0, _, _⟩ := DataW.trod_int und_int e0
      obtain ⟨z1, g1, _, _⟩ := DataW.trod_int und_int e1
      simp at g0 g1
      subst g0; subst g1
      exact ⟨(z0, z1), rfl, trivial⟩) h
  exact ⟨v, l, h1, h2⟩

set_option maxRecDepth 100000 in
theorem parts_trod {fuel : Nat} {cs : List Value} {x : DataW H × List MemPlace} (h : DataW.trod enc Tryz.prog W 0 (fun _ => true) true fuel 50 cs = some x) : ∃ v P, cs = [v] ∧ PartsRd W v P := by
  obtain ⟨v, m, h1, h2, h3⟩ := rd_of_trod (α := Value × Pt) und_Parts cells_Part (by decide) (fun x => [.int .i64 x.2.epoch, x.1, .int .i64 x.2.learner]) (fun x => IntsRd W x.1 x.2.chain) (fun _ => rfl) (by
    intro n cs x hl ht
    obtain ⟨n', -, hx⟩ := trod_fields fields_Part (by decide) ht
    match cs, hl with
    | [c0, c1, c2], _ =>
      obtain ⟨y0, e0⟩ := hx 0 _ rfl
      obtain ⟨y1, e1⟩ := hx 1 _ rfl
      obtain ⟨y2, e2⟩ := hx 2 _ rfl
      simp only [cells_int, cells_Ints] at e0 e1 e2
      obtain ⟨z0, g0, _, _⟩ := DataW.trod_int und_int e0
      obtain ⟨v1, l1, g1, hr⟩ := ints_trod e1
      obtain ⟨z2, g2, _, _⟩ := DataW.trod_int und_int e2
      simp at g0 g1 g2
      subst g0; subst g1; subst g2
      exact ⟨(c1, ⟨z0, l1, z2⟩), rfl, hr⟩) h
  exact ⟨v, m.map (·.2), h1, m, rfl, h2, h3⟩

set_option maxRecDepth 100000 in
theorem plan_of_trod {v : Value} {d : DataW H} {ps : List MemPlace} {base : Nat} (hv : Value.okWide Tryz.prog W .any base 52 v) (h : DataW.Trod enc Tryz.prog W 0 (fun _ => true) true 52 v d ps) : ∃ p, PlanRd W v p := by
  obtain ⟨fs, hfs⟩ := isStruct_Plan
  obtain ⟨cs, rfl, hsz⟩ := okWide_struct hfs hv
  obtain ⟨fuel, hf⟩ := h
  rw [cells_Plan] at hsz
  obtain ⟨n', -, hx⟩ := trod_fields fields_Plan (by decide) hf
  simp only [Value.cells] at hx
  obtain ⟨l, hcl⟩ : ∃ l, cs.toList = l := ⟨_, rfl⟩
  have hl : l.length = 4 := by rw [← hcl]; simpa [Value.cells] using hsz
  rw [hcl] at hx
  match l, hl with
  | [c0, c1, c2, c3], _ =>
    obtain ⟨y0, e0⟩ := hx 0 _ rfl
    obtain ⟨y1, e1⟩ := hx 1 _ rfl
    obtain ⟨y2, e2⟩ := hx 2 _ rfl
    obtain ⟨y3, e3⟩ := hx 3 _ rfl
    simp only [cells_int, cells_Parts, cells_Lives] at e0 e1 e2 e3
    obtain ⟨z0, g0, _, _⟩ := DataW.trod_int und_int e0
    obtain ⟨z1, g1, _, _⟩ := DataW.trod_int und_int e1
    obtain ⟨v2, P, g2, hp⟩ := parts_trod e2
    obtain ⟨v3, L, g3, hlv⟩ := lives_trod e3
    simp at g0 g1 g2 g3
    subst g0; subst g1; subst g2; subst g3
    refine ⟨⟨z0, z1, P, L⟩, c2, c3, ?_, hp, hlv⟩
    have : cs = #[.int .i64 z0, .int .i64 z1, c2, c3] := Array.toList_inj.1 (by rw [hcl])
    rw [this]

set_option maxRecDepth 100000 in
theorem config_of_trod {v : Value} {d : DataW H} {ps : List MemPlace} {base : Nat} (hv : Value.okWide Tryz.prog W .any base 25 v) (h : DataW.Trod enc Tryz.prog W 0 (fun _ => true) true 25 v d ps) : ∃ n k p c a b d e, v = cfgV n k p c a b d e := by
  obtain ⟨fs, hfs⟩ := isStruct_Config
  obtain ⟨cs, rfl, hsz⟩ := okWide_struct hfs hv
  obtain ⟨fuel, hf⟩ := h
  rw [cells_Config] at hsz
  obtain ⟨n', -, hx⟩ := trod_fields fields_Config (by decide) hf
  simp only [Value.cells] at hx
  obtain ⟨l, hcl⟩ : ∃ l, cs.toList = l := ⟨_, rfl⟩
  have hl : l.length = 8 := by rw [← hcl]; simpa [Value.cells] using hsz
  rw [hcl] at hx
  match l, hl with
  | [c0, c1, c2, c3, c4, c5, c6, c7], _ =>
    obtain ⟨y0, e0⟩ := hx 0 _ rfl
    obtain ⟨y1, e1⟩ := hx 1 _ rfl
    obtain ⟨y2, e2⟩ := hx 2 _ rfl
    obtain ⟨y3, e3⟩ := hx 3 _ rfl
    obtain ⟨y4, e4⟩ := hx 4 _ rfl
    obtain ⟨y5, e5⟩ := hx 5 _ rfl
    obtain ⟨y6, e6⟩ := hx 6 _ rfl
    obtain ⟨y7, e7⟩ := hx 7 _ rfl
    simp only [cells_int] at e0 e1 e2 e3 e4 e5 e6 e7
    obtain ⟨z0, g0, _, _⟩ := DataW.trod_int und_int e0
    obtain ⟨z1, g1, _, _⟩ := DataW.trod_int und_int e1
    obtain ⟨z2, g2, _, _⟩ := DataW.trod_int und_int e2
    obtain ⟨z3, g3, _, _⟩ := DataW.trod_int und_int e3
    obtain ⟨z4, g4, _, _⟩ := DataW.trod_int und_int e4
    obtain ⟨z5, g5, _, _⟩ := DataW.trod_int und_int e5
    obtain ⟨z6, g6, _, _⟩ := DataW.trod_int und_int e6
    obtain ⟨z7, g7, _, _⟩ := DataW.trod_int und_int e7
    simp at g0 g1 g2 g3 g4 g5 g6 g7
    subst g0; subst g1; subst g2; subst g3; subst g4; subst g5; subst g6; subst g7
    refine ⟨z0, z1, z2, z3, z4, z5, z6, z7, ?_⟩
    have : cs = #[.int .i64 z0, .int .i64 z1, .int .i64 z2, .int .i64 z3, .int .i64 z4, .int .i64 z5, .int .i64 z6, .int .i64 z7] := Array.toList_inj.1 (by rw [hcl])
    rw [this]
end
end Go.Proofs.YtcpaaleogmiamaaGreatDoor
namespace Go.Proofs.YtcpaaleogmiamaaGreatDoor
open Go.ChangeShapes Go.WideShapes Go.ChangeAt Go.RowKit

theorem s7_int : Tryz.prog.underlying 3 = some (.int .i64) := by kernel_rfl
theorem s7_bool : Tryz.prog.underlying 4 = some .bool := by kernel_rfl
theorem s7_string : Tryz.prog.underlying 9 = some .string := by kernel_rfl
theorem s7_Ints : Tryz.prog.underlying 22 = some (.slice 3) := by kernel_rfl
theorem s7_Recs : Tryz.prog.underlying 38 = some (.slice 84) := by kernel_rfl
theorem s7_Acts : Tryz.prog.underlying 72 = some (.slice 78) := by kernel_rfl
theorem c7_int : Tryz.prog.cellsOf 3 = 1 := by kernel_rfl
theorem c7_bool : Tryz.prog.cellsOf 4 = 1 := by kernel_rfl
theorem c7_string : Tryz.prog.cellsOf 9 = 1 := by kernel_rfl
theorem c7_Ints : Tryz.prog.cellsOf 22 = 1 := by kernel_rfl
theorem c7_Recs : Tryz.prog.cellsOf 38 = 1 := by kernel_rfl
theorem c7_Rec : Tryz.prog.cellsOf 84 = 4 := by kernel_rfl
theorem c7_Batch : Tryz.prog.cellsOf 40 = 6 := by kernel_rfl
theorem c7_Act : Tryz.prog.cellsOf 78 = 12 := by kernel_rfl
theorem f7_Rec : fieldsOf Tryz.prog 84 = [(3, 0), (9, 1), (9, 2), (4, 3)] := by kernel_rfl
theorem f7_Batch : fieldsOf Tryz.prog 40 = [(3, 0), (3, 1), (3, 2), (3, 3), (3, 4), (38, 5)] := by kernel_rfl
theorem f7_Act : fieldsOf Tryz.prog 78 = [(3, 0), (40, 1), (4, 7), (3, 8), (22, 9), (22, 10), (9, 11)] := by kernel_rfl

section
variable {H : Type} {enc : TypeId × Value → H} {W : World}

theorem uncons7 {n : Nat} {cs : List Value} (h : cs.length = n + 1) : ∃ c r, cs = c :: r ∧ r.length = n := by
  cases cs with
  | nil => simp at h
  | cons c r => exact ⟨c, r, rfl, by simpa using h⟩

theorem rec_cells7 {n : Nat} {cs : List Value} {x : DataW H × List MemPlace} (hl : cs.length = 4) (ht : DataW.trod enc Tryz.prog W 0 (fun _ => true) true n 84 cs = some x) : ∃ r : Rec, cs = r.cells := by
  obtain ⟨n', -, hx⟩ := trod_fields f7_Rec (by decide) ht
  have hl0 := hl
  obtain ⟨c0, r0, e, hl1⟩ := uncons7 (n := 3) hl0
  subst e
  obtain ⟨c1, r1, e, hl2⟩ := uncons7 (n := 2) hl1
  subst e
  obtain ⟨c2, r2, e, hl3⟩ := uncons7 (n := 1) hl2
  subst e
  obtain ⟨c3, r3, e, hl4⟩ := uncons7 (n := 0) hl3
  subst e
  obtain rfl := List.length_eq_zero_iff.1 hl4
  obtain ⟨y0, e0⟩ := hx 0 _ rfl
  obtain ⟨y1, e1⟩ := hx 1 _ rfl
  obtain ⟨y2, e2⟩ := hx 2 _ rfl
  obtain ⟨y3, e3⟩ := hx 3 _ rfl
  simp only [c7_int, c7_string, c7_bool] at e0 e1 e2 e3
  obtain ⟨z0, g0, _, _⟩ := DataW.trod_int s7_int e0
  obtain ⟨z1, g1, -⟩ := DataW.trod_string s7_string e1
  obtain ⟨z2, g2, -⟩ := DataW.trod_string s7_string e2
  obtain ⟨z3, g3, -⟩ := DataW.trod_bool s7_bool e3
  simp at g0 g1 g2 g3
  subst g0; subst g1; subst g2; subst g3
  exact ⟨⟨z0, z1, z2, z3⟩, rfl⟩
theorem recs_trod7 {fuel : Nat} {cs : List Value} {x : DataW H × List MemPlace} (h : DataW.trod enc Tryz.prog W 0 (fun _ => true) true fuel 38 cs = some x) : ∃ v l, cs = [v] ∧ RcsRd W v l := by
  obtain ⟨v, l, h1, h2, -⟩ := rd_of_trod (α := Rec) s7_Recs c7_Rec (by decide) Rec.cells (fun _ => True) (fun _ => rfl) (by
    intro n cs x hl ht
    obtain ⟨y, hy⟩ := rec_cells7 hl ht
    exact ⟨y, hy, trivial⟩) h
  exact ⟨v, l, h1, h2⟩
theorem batch_cells7 {n : Nat} {cs : List Value} {x : DataW H × List MemPlace} (hl : cs.length = 6) (ht : DataW.trod enc Tryz.prog W 0 (fun _ => true) true n 40 cs = some x) :
    ∃ (b : Batch) (v : Value), cs = [.int .i64 b.base, .int .i64 b.count, .int .i64 b.prod, .int .i64 b.seq, .int .i64 b.time, v] ∧ RcsRd W v b.recs := by
  obtain ⟨n', -, hx⟩ := trod_fields f7_Batch (by decide) ht
  have hl0 := hl
  obtain ⟨c0, r0, e, hl1⟩ := uncons7 (n := 5) hl0
  subst e
  obtain ⟨c1, r1, e, hl2⟩ := uncons7 (n := 4) hl1
  subst e
  obtain ⟨c2, r2, e, hl3⟩ := uncons7 (n := 3) hl2
  subst e
  obtain ⟨c3, r3, e, hl4⟩ := uncons7 (n := 2) hl3
  subst e
  obtain ⟨c4, r4, e, hl5⟩ := uncons7 (n := 1) hl4
  subst e
  obtain ⟨c5, r5, e, hl6⟩ := uncons7 (n := 0) hl5
  subst e
  obtain rfl := List.length_eq_zero_iff.1 hl6
  obtain ⟨y0, e0⟩ := hx 0 _ rfl
  obtain ⟨y1, e1⟩ := hx 1 _ rfl
  obtain ⟨y2, e2⟩ := hx 2 _ rfl
  obtain ⟨y3, e3⟩ := hx 3 _ rfl
  obtain ⟨y4, e4⟩ := hx 4 _ rfl
  obtain ⟨y5, e5⟩ := hx 5 _ rfl
  simp only [c7_int, c7_Recs] at e0 e1 e2 e3 e4 e5
  obtain ⟨z0, g0, _, _⟩ := DataW.trod_int s7_int e0
  obtain ⟨z1, g1, _, _⟩ := DataW.trod_int s7_int e1
  obtain ⟨z2, g2, _, _⟩ := DataW.trod_int s7_int e2
  obtain ⟨z3, g3, _, _⟩ := DataW.trod_int s7_int e3
  obtain ⟨z4, g4, _, _⟩ := DataW.trod_int s7_int e4
  obtain ⟨v, l, g5, hr⟩ := recs_trod7 e5
  simp at g0 g1 g2 g3 g4 g5
  subst g0; subst g1; subst g2; subst g3; subst g4; subst g5
  exact ⟨⟨z0, z1, z2, z3, z4, l⟩, _, rfl, hr⟩

set_option maxRecDepth 100000 in
theorem act_cells7 {n : Nat} {cs : List Value} {x : DataW H × List MemPlace} (hl : cs.length = 12) (ht : DataW.trod enc Tryz.prog W 0 (fun _ => true) true n 78 cs = some x) : ∃ y : SActV × SAct, cs = saEl y ∧ ActRd W y := by
  obtain ⟨n', -, hx⟩ := trod_fields f7_Act (by decide) ht
  have hl0 := hl
  obtain ⟨c0, r0, e, hl1⟩ := uncons7 (n := 11) hl0
  subst e
  obtain ⟨c1, r1, e, hl2⟩ := uncons7 (n := 10) hl1
  subst e
  obtain ⟨c2, r2, e, hl3⟩ := uncons7 (n := 9) hl2
  subst e
  obtain ⟨c3, r3, e, hl4⟩ := uncons7 (n := 8) hl3
  subst e
  obtain ⟨c4, r4, e, hl5⟩ := uncons7 (n := 7) hl4
  subst e
  obtain ⟨c5, r5, e, hl6⟩ := uncons7 (n := 6) hl5
  subst e
  obtain ⟨c6, r6, e, hl7⟩ := uncons7 (n := 5) hl6
  subst e
  obtain ⟨c7, r7, e, hl8⟩ := uncons7 (n := 4) hl7
  subst e
  obtain ⟨c8, r8, e, hl9⟩ := uncons7 (n := 3) hl8
  subst e
  obtain ⟨c9, r9, e, hl10⟩ := uncons7 (n := 2) hl9
  subst e
  obtain ⟨c10, r10, e, hl11⟩ := uncons7 (n := 1) hl10
  subst e
  obtain ⟨c11, r11, e, hl12⟩ := uncons7 (n := 0) hl11
  subst e
  obtain rfl := List.length_eq_zero_iff.1 hl12
  obtain ⟨y0, e0⟩ := hx 0 _ rfl
  obtain ⟨y1, e1⟩ := hx 1 _ rfl
  obtain ⟨y2, e2⟩ := hx 2 _ rfl
  obtain ⟨y3, e3⟩ := hx 3 _ rfl
  obtain ⟨y4, e4⟩ := hx 4 _ rfl
  obtain ⟨y5, e5⟩ := hx 5 _ rfl
  obtain ⟨y6, e6⟩ := hx 6 _ rfl
  simp only [c7_int, c7_Batch, c7_bool, c7_Ints, c7_string] at e0 e1 e2 e3 e4 e5 e6
  obtain ⟨z0, g0, _, _⟩ := DataW.trod_int s7_int e0
  obtain ⟨b, rv, g1, hr⟩ := batch_cells7 (by rfl) e1
  obtain ⟨z2, g2, -⟩ := DataW.trod_bool s7_bool e2
  obtain ⟨z3, g3, _, _⟩ := DataW.trod_int s7_int e3
  obtain ⟨lv, ll, g4, ha4⟩ := ints_trod e4
  obtain ⟨fv, lf, g5, ha5⟩ := ints_trod e5
  obtain ⟨z6, g6, -⟩ := DataW.trod_string s7_string e6
  simp at g0 g1 g2 g3 g4 g5 g6
  obtain ⟨q0, q1, q2, q3, q4, q5⟩ := g1
  subst g0; subst q0; subst q1; subst q2; subst q3; subst q4; subst q5; subst g2; subst g3; subst g4; subst g5; subst g6
  exact ⟨(⟨_, _, _⟩, ⟨z0, b, z2, z3, ll, lf, z6⟩), rfl, hr, ha4, ha5⟩

set_option maxRecDepth 100000 in
theorem acts7_of_trod {v : Value} {d : DataW H} {ps : List MemPlace} {base : Nat} (hv : Value.okWide Tryz.prog W .any base 72 v) (h : DataW.Trod enc Tryz.prog W 0 (fun _ => true) true 72 v d ps) : ∃ A, SActsRd W v A := by
  obtain ⟨fuel, hf⟩ := h
  obtain ⟨v', l, h1, h2, h3⟩ := rd_of_trod (α := SActV × SAct) s7_Acts c7_Act (by decide) saEl (fun y => ActRd W y) (fun _ => rfl) (by
    intro n cs x hl ht
    exact act_cells7 hl ht) hf
  obtain ⟨a, n, c, rfl⟩ := okWide_slice s7_Acts hv
  simp only [Value.cells, List.cons.injEq, and_true] at h1
  subst h1
  exact ⟨l.map (·.2), l, rfl, h2, h3⟩
set_option maxRecDepth 100000 in
theorem ints7_of_trod {v : Value} {d : DataW H} {ps : List MemPlace} {base : Nat} (hv : Value.okWide Tryz.prog W .any base 22 v) (h : DataW.Trod enc Tryz.prog W 0 (fun _ => true) true 22 v d ps) : ∃ l, IntsRd W v l := by
  obtain ⟨fuel, hf⟩ := h
  obtain ⟨v', l, h1, h2⟩ := ints_trod hf
  obtain ⟨a, n, c, rfl⟩ := okWide_slice s7_Ints hv
  simp only [Value.cells, List.cons.injEq, and_true] at h1
  subst h1
  exact ⟨l, h2⟩
set_option maxRecDepth 100000 in
theorem int7_of_trod {v : Value} {d : DataW H} {ps : List MemPlace} {base : Nat} (hv : Value.okWide Tryz.prog W .any base 3 v) (h : DataW.Trod enc Tryz.prog W 0 (fun _ => true) true 3 v d ps) : ∃ z, v = .int .i64 z := by
  obtain ⟨fuel, hf⟩ := h
  obtain ⟨z, g, _, _⟩ := DataW.trod_int s7_int hf
  cases v with
  | int k n =>
    simp [Value.cells] at g
    exact ⟨z, by rw [g.1, g.2]⟩
  | agg cs =>
    exfalso
    unfold Value.okWide at hv
    rw [s7_int] at hv
    exact hv
  | _ => simp [Value.cells] at g
end
end Go.Proofs.YtcpaaleogmiamaaGreatDoor
namespace Go.Proofs.YtcpaaleogmiamaaGreatDoor
open Go.RowKit

theorem gRange : Tryz.prog.globalNamed "strconv.ErrRange" = some (Tryz.laysAtoi_ren.g 16) := by kernel_rfl
theorem gSyntax : Tryz.prog.globalNamed "strconv.ErrSyntax" = some (Tryz.laysAtoi_ren.g 15) := by kernel_rfl
theorem gRangeType : (Tryz.prog.globals[Tryz.laysAtoi_ren.g 16]?).map (·.type) = some 214 := by kernel_rfl
theorem gSyntaxType : (Tryz.prog.globals[Tryz.laysAtoi_ren.g 15]?).map (·.type) = some 214 := by kernel_rfl
theorem cellsErrStr : Tryz.prog.cellsOf 339 = 1 := by kernel_rfl
theorem cellsStr : Tryz.prog.cellsOf 9 = 1 := by kernel_rfl
theorem star : "*" ++ "errors.errorString" = "*errors.errorString" := by decide
theorem rowErr (u : TypeId) (h : Tryz.prog.typeName? 3 u = some "*errors.errorString") : u = 337 :=
  typeName_ptr_named (nm := "errors.errorString") (by rw [star]; kernel_rfl) (by kernel_rfl) (by decide) u (by rw [star]; exact h)
theorem gTab : Tryz.prog.globalNamed "internal/strconv.uint64pow10" = some 0 := by kernel_rfl
theorem gTabType : (Tryz.prog.globals[0]?).map (·.type) = some 319 := by kernel_rfl
theorem cellsTab : Tryz.prog.cellsOf 319 = 20 := by kernel_rfl
theorem cellsU64 : Tryz.prog.cellsOf 249 = 1 := by kernel_rfl
theorem tabEq : (Rows.laid_internal_strconv_uint64pow10 : DataW Unit) = Lib.tabData .u64 Lib.pow10Tab := by kernel_rfl

abbrev stLaid := Rows.strandPowerRow.laid
theorem env_of_laid {W : World} (h : laidMetH Tryz.prog stLaid W) : Env W := by
  have h : laidMet Tryz.prog Rows.strandPowerRow.laid W := h
  have h2 := h.tail.tail
  have h3 := h2.tail.tail
  have h4 := h3.tail
  refine ⟨?_, ?_, ?_⟩
  · change laidMet Tryz.prog ((_, Rows.laid_internal_strconv_uint64pow10) :: _) W at h2
    rw [tabEq] at h2
    exact Lib.tabIs_of_head gTab gTabType Tryz.underlying319 Tryz.underlying249 cellsU64 cellsTab h2
  · obtain ⟨a0, s0, hv0, -, -, -⟩ := laid_sentinel h4 gSyntax gSyntaxType Tryz.underlying214 rowErr Tryz.underlying337 Tryz.underlying339 rfl rfl Tryz.underlying9 cellsErrStr cellsStr
    exact ⟨_, (by have h0 := World.var?_cell gSyntax hv0 0; simpa using h0), .inr ⟨_, _, rfl⟩⟩
  · obtain ⟨a0, s0, hv0, -, -, -⟩ := laid_sentinel h3 gRange gRangeType Tryz.underlying214 rowErr Tryz.underlying337 Tryz.underlying339 rfl rfl Tryz.underlying9 cellsErrStr cellsStr
    exact ⟨_, (by have h0 := World.var?_cell gRange hv0 0; simpa using h0), .inr ⟨_, _, rfl⟩⟩

theorem laid_met (os : Os) (args : Array Value) : laidMetH Tryz.prog stLaid ((World.laidAll Tryz.prog os stLaid).forCall (fun _ _ => 0) ⟨#[], args, []⟩).memory := by
  rw [MakeChecks.laidMetH_plain _ _ _ (by kernel_rfl)]
  exact laidMet_laidAll _ (by kernel_rfl) (by kernel_rfl)
end Go.Proofs.YtcpaaleogmiamaaGreatDoor
namespace Go.Proofs.YtcpaaleogmiamaaGreatDoor

set_option maxRecDepth 100000 in
set_option maxHeartbeats 16000000 in
theorem hp_closed : joinedFacts Tryz.pinned.checked.prog 6 Tryz.f6 (OpenSpec.ofChange Rows.strandPowerSpec).bare Rows.strandPowerRow = true := by
  unfold joinedFacts
  refine (Bool.and_eq_true _ _).mpr ⟨?_, by decide +kernel⟩
  iterate 30 (refine (Bool.and_eq_true _ _).mpr ⟨?_, by decide +kernel⟩)
  all_goals decide +kernel
end Go.Proofs.YtcpaaleogmiamaaGreatDoor
