/- Arguments that are structs, or slices of structs. -/
/- Arguments of PlanExact: a plan, a config. -/
import Derived.Test.YtcpaaleogmiamaaGreatDoorRows
import Derived.Test.YtcpaaleogmiamaaGreatDoorMh5
import Derived.ProofKit
import Derived.OpenShut
import Derived.Deep.Slices
import Derived.Test.YtcpaaleogmiamaaGreatDoorMh26
namespace Go.Proofs.YtcpaaleogmiamaaGreatDoor
open Go.ChangeShapes Go.WideShapes Go.ChangeAt Go.RowKit

theorem Tryz.own : ownKnob Tryz.prog.godebug = none := by kernel_rfl
theorem Tryz.laidOut : laidOutB Tryz.prog = true := by kernel_rfl
theorem cells_int : Tryz.prog.cellsOf 3 = 1 := by kernel_rfl

def fieldsOf (P : Program) (t : TypeId) : List (TypeId × Nat) := match P.underlying t with | some (.struct fs) => fs.toList.map (fun f => (f.type, f.offset)) | _ => []

section
variable {H : Type} {enc : TypeId × Value → H} {P : Program} {W : World}

theorem trod_fields {t : TypeId} {l : List (TypeId × Nat)} (hl : fieldsOf P t = l) (hne : l ≠ []) {fuel : Nat} {cs : List Value} {x : DataW H × List MemPlace}
    (h : DataW.trod enc P W 0 (fun _ => true) true fuel t cs = some x) :
    ∃ n, cs.length = P.cellsOf t ∧ ∀ (i : Nat) (p : TypeId × Nat), l[i]? = some p → ∃ y, DataW.trod enc P W 0 (fun _ => true) true n p.1 ((cs.drop p.2).take (P.cellsOf p.1)) = some y := by
  unfold fieldsOf at hl
  split at hl
  · rename_i fs hfs
    subst hl
    obtain ⟨xs, n, _, _, hlen, hxl, hx⟩ := DataW.trod_struct hfs h
    refine ⟨n, hlen, ?_⟩
    intro i p hp
    rw [List.getElem?_map] at hp
    obtain ⟨f, hf, rfl⟩ := Option.map_eq_some_iff.1 hp
    have hf' : fs[i]? = some f := by simpa using hf
    have hi : i < xs.length := by rw [hxl]; exact (Array.getElem?_eq_some_iff.1 hf').1
    exact ⟨xs[i], by rw [hx i f hf', List.getElem?_eq_getElem hi]⟩
  · exact absurd hl.symm hne

theorem flat_get {α : Type} {f : α → List Value} {sz : Nat} (hz : 0 < sz) (hf : ∀ y, (f y).length = sz) : ∀ (l : List α) (j : Nat), (l.flatMap f)[j]? = (l[j / sz]?).bind fun y => (f y)[j % sz]?
  | [], j => by simp
  | x :: l, j => by
    rw [List.flatMap_cons, List.getElem?_append]
    by_cases h : j < sz
    · rw [hf, if_pos h, Nat.div_eq_of_lt h, Nat.mod_eq_of_lt h]; rfl
    · obtain ⟨k, rfl⟩ : ∃ k, j = k + sz := ⟨j - sz, by omega⟩
      rw [hf, if_neg h, Nat.add_sub_cancel, flat_get hz hf l k, Nat.add_div_right _ hz, Nat.add_mod_right]
      rfl

theorem flat_len {α : Type} {f : α → List Value} {sz : Nat} (hf : ∀ y, (f y).length = sz) : ∀ (l : List α), (l.flatMap f).length = l.length * sz
  | [] => by simp
  | x :: l => by rw [List.flatMap_cons, List.length_append, hf, flat_len hf l, List.length_cons, Nat.add_mul]; omega

theorem rd_of_trod {t e : TypeId} {sz : Nat} (ht : P.underlying t = some (.slice e)) (hsz : P.cellsOf e = sz) (hz : 0 < sz) {α : Type} (f : α → List Value) (Q : α → Prop) (hf : ∀ y, (f y).length = sz)
    (helem : ∀ n cs x, cs.length = sz → DataW.trod enc P W 0 (fun _ => true) true n e cs = some x → ∃ y, cs = f y ∧ Q y)
    {fuel : Nat} {cs : List Value} {x : DataW H × List MemPlace} (h : DataW.trod enc P W 0 (fun _ => true) true fuel t cs = some x) :
    ∃ (v : Value) (l : List α), cs = [v] ∧ Rd W sz v l.length (l.flatMap f) ∧ ∀ y ∈ l, Q y := by
  rcases Deep.open_slice ht h with ⟨rfl, _⟩ | ⟨a, len, cap, m, n, D, Pl, rfl, _, hl, hm, hme, _, hel⟩
  · exact ⟨_, [], rfl, ⟨by simp, .inl ⟨rfl, rfl⟩⟩, by simp⟩
  · have hml : len ≤ m := by rw [hme]; simp; exact hl
    rw [hsz] at hel
    have key : ∀ k, k ≤ len → ∃ l : List α, l.length = k ∧ (∀ y ∈ l, Q y) ∧ ∀ i (hi : i < l.length), ∀ r u, (f l[i])[r]? = some u → W.cell? (a.add (i * sz + r)) = some u := by
      intro k
      induction k with
      | zero => intro _; exact ⟨[], rfl, by simp, fun i hi => absurd hi (Nat.not_lt_zero i)⟩
      | succ k ih =>
        intro hk
        obtain ⟨l, h1, h2, h3⟩ := ih (by omega)
        obtain ⟨cs', hc, htr⟩ := hel k (by omega)
        obtain ⟨_, hlen, hcell⟩ := World.cells?_some hc
        obtain ⟨y, rfl, hq⟩ := helem _ _ _ hlen htr
        refine ⟨l ++ [y], by simp [h1], ?_, ?_⟩
        · intro z hz
          rcases List.mem_append.1 hz with hz | hz
          · exact h2 z hz
          · rw [List.mem_singleton.1 hz]; exact hq
        · intro i hi r u hu
          by_cases hil : i < l.length
          · rw [List.getElem_append_left hil] at hu
            exact h3 i hil r u hu
          · have hik : i = l.length := by simp at hi; omega
            subst hik
            rw [List.getElem_append_right (Nat.le_refl _)] at hu
            simp only [Nat.sub_self, List.getElem_cons_zero] at hu
            obtain ⟨hr, hu'⟩ := List.getElem?_eq_some_iff.1 hu
            have hr' : r < sz := by rw [hf] at hr; exact hr
            have := hcell r hr'
            rw [Deep.add_add] at this
            rw [h1, this]
            exact hu
    obtain ⟨l, h1, h2, h3⟩ := key len (Nat.le_refl _)
    refine ⟨_, l, rfl, ⟨flat_len hf l, .inr ⟨a, cap, by rw [h1], by rw [h1]; exact hl, hm, ?_⟩⟩, h2⟩
    intro j u hj
    rw [flat_get hz hf] at hj
    obtain ⟨y, hy, hu⟩ := Option.bind_eq_some_iff.1 hj
    obtain ⟨hi, rfl⟩ := List.getElem?_eq_some_iff.1 hy
    have := h3 _ hi _ _ hu
    rwa [Nat.mul_comm, Nat.div_add_mod] at this
end

theorem fields_Event : fieldsOf Tryz.prog 58 = [(3, 0), (3, 1), (3, 2), (3, 3)] := by kernel_rfl
theorem cells_Event : Tryz.prog.cellsOf 58 = 4 := by kernel_rfl
theorem isStruct_Event : ∃ fs, Tryz.prog.underlying 58 = some (.struct fs) := ⟨_, Tryz.underlying58⟩

section
variable {H : Type} {enc : TypeId × Value → H} {W : World}

set_option maxRecDepth 100000 in
theorem event_cells4 {n : Nat} {cs : List Value} {x : DataW H × List MemPlace} (hl : cs.length = 4) (ht : DataW.trod enc Tryz.prog W 0 (fun _ => true) true n 58 cs = some x) : ∃ y : Event, cs = [.int .i64 y.kind, .int .i64 y.node, .int .i64 y.part, .int .i64 y.n] := by
  obtain ⟨n', -, hx⟩ := trod_fields fields_Event (by decide) ht
  match cs, hl with
  | [c0, c1, c2, c3], _ =>
    obtain ⟨y0, e0⟩ := hx 0 _ rfl
    obtain ⟨y1, e1⟩ := hx 1 _ rfl
    obtain ⟨y2, e2⟩ := hx 2 _ rfl
    obtain ⟨y3, e3⟩ := hx 3 _ rfl
    simp only [cells_int] at e0 e1 e2 e3
    obtain ⟨z0, g0, _, _⟩ := DataW.trod_int und_int e0
    obtain ⟨z1, g1, _, _⟩ := DataW.trod_int und_int e1
    obtain ⟨z2, g2, _, _⟩ := DataW.trod_int und_int e2
    obtain ⟨z3, g3, _, _⟩ := DataW.trod_int und_int e3
    simp at g0 g1 g2 g3
    subst g0; subst g1; subst g2; subst g3
    exact ⟨⟨z0, z1, z2, z3⟩, rfl⟩

set_option maxRecDepth 100000 in
theorem event_of_trod {v : Value} {d : DataW H} {ps : List MemPlace} {base : Nat} (hv : Value.okWide Tryz.prog W .any base 58 v) (h : DataW.Trod enc Tryz.prog W 0 (fun _ => true) true 58 v d ps) : ∃ y : Event, v = y.v := by
  obtain ⟨fs, hfs⟩ := isStruct_Event
  obtain ⟨cs, rfl, hsz⟩ := okWide_struct hfs hv
  obtain ⟨fuel, hf⟩ := h
  rw [cells_Event] at hsz
  obtain ⟨y, hy⟩ := event_cells4 (by simpa [Value.cells] using hsz) hf
  refine ⟨y, ?_⟩
  have : cs = #[.int .i64 y.kind, .int .i64 y.node, .int .i64 y.part, .int .i64 y.n] := by
    apply Array.toList_inj.1
    simpa [Value.cells] using hy
  rw [this]
  rfl
end
end Go.Proofs.YtcpaaleogmiamaaGreatDoor
namespace Go.Proofs.YtcpaaleogmiamaaGreatDoor
open Go.ChangeShapes Go.WideShapes Go.ChangeAt Go.RowKit

theorem xund_Ints : Tryz.prog.underlying 22 = some (.slice 3) := by kernel_rfl


theorem fields_Part : fieldsOf Tryz.prog 36 = [(3, 0), (22, 1), (3, 2)] := by kernel_rfl
theorem fields_Life : fieldsOf Tryz.prog 134 = [(3, 0), (3, 1)] := by kernel_rfl
theorem fields_Plan : fieldsOf Tryz.prog 52 = [(3, 0), (3, 1), (50, 2), (37, 3)] := by kernel_rfl
theorem fields_Config : fieldsOf Tryz.prog 25 = [(3, 0), (3, 1), (3, 2), (3, 3), (3, 4), (3, 5), (3, 6), (3, 7)] := by kernel_rfl
theorem cells_Part : Tryz.prog.cellsOf 36 = 3 := by kernel_rfl
theorem cells_Life : Tryz.prog.cellsOf 134 = 2 := by kernel_rfl
theorem cells_Plan : Tryz.prog.cellsOf 52 = 4 := by kernel_rfl
theorem cells_Config : Tryz.prog.cellsOf 25 = 8 := by kernel_rfl
theorem cells_Ints : Tryz.prog.cellsOf 22 = 1 := by kernel_rfl
theorem cells_Parts : Tryz.prog.cellsOf 50 = 1 := by kernel_rfl
theorem cells_Lives : Tryz.prog.cellsOf 37 = 1 := by kernel_rfl
theorem isStruct_Plan : ∃ fs, Tryz.prog.underlying 52 = some (.struct fs) := ⟨_, Tryz.underlying52⟩
theorem isStruct_Config : ∃ fs, Tryz.prog.underlying 25 = some (.struct fs) := ⟨_, Tryz.underlying25⟩

section
variable {H : Type} {enc : TypeId × Value → H} {W : World}

theorem flat_one {l : List Int} : l.flatMap (fun x => [Value.int .i64 x]) = intCells l := by
  induction l with
  | nil => rfl
  | cons x l ih => rw [List.flatMap_cons, ih]; rfl

set_option maxRecDepth 100000 in
theorem ints_trod {fuel : Nat} {cs : List Value} {x : DataW H × List MemPlace} (h : DataW.trod enc Tryz.prog W 0 (fun _ => true) true fuel 22 cs = some x) : ∃ v l, cs = [v] ∧ IntsRd W v l := by
  obtain ⟨v, l, h1, h2, -⟩ := rd_of_trod (α := Int) xund_Ints cells_int (by decide) (fun x => [.int .i64 x]) (fun _ => True) (fun _ => rfl) (by
    intro n cs x hl ht
    match cs, hl with
    | [c0], _ =>
      obtain ⟨z0, g0, _, _⟩ := DataW.trod_int und_int ht
      simp at g0
      subst g0
      exact ⟨z0, rfl, trivial⟩) h
  rw [flat_one] at h2
  exact ⟨v, l, h1, h2⟩

set_option maxRecDepth 100000 in
theorem lives_trod {fuel : Nat} {cs : List Value} {x : DataW H × List MemPlace} (h : DataW.trod enc Tryz.prog W 0 (fun _ => true) true fuel 37 cs = some x) : ∃ v l, cs = [v] ∧ LivesRd W v l := by
  obtain ⟨v, l, h1, h2, -⟩ := rd_of_trod (α := Int × Int) und_Lives cells_Life (by decide) (fun x => [.int .i64 x.1, .int .i64 x.2]) (fun _ => True) (fun _ => rfl) (by
    intro n cs x hl ht
    obtain ⟨n', -, hx⟩ := trod_fields fields_Life (by decide) ht
    match cs, hl with
    | [c0, c1], _ =>
      obtain ⟨y0, e0⟩ := hx 0 _ rfl
      obtain ⟨y1, e1⟩ := hx 1 _ rfl
      simp only [cells_int] at e0 e1
      obtain ⟨z0, g0, _, _⟩ := DataW.trod_int und_int e0
      obtain ⟨z1, g1, _, _⟩ := DataW.trod_int und_int e1
      simp at g0 g1
      subst g0; subst g1
      exact ⟨(z0, z1), rfl, trivial⟩) h
  exact ⟨v, l, h1, h2⟩

set_option maxRecDepth 100000 in
theorem parts_trod {fuel : Nat} {cs : List Value} {x : DataW H × List MemPlace} (h : DataW.trod enc Tryz.prog W 0 (fun _ => true) true fuel 50 cs = some x) : ∃ v P, cs = [v] ∧ PartsRd W v P := by
  obtain ⟨v, m, h1, h2, h3⟩ := rd_of_trod (α := Value × Pt) und_Parts cells_Part (by decide) (fun x => [.int .i64 x.2.epoch, x.1, .int .i64 x.2.learner]) (fun x => IntsRd W x.1 x.2.chain) (fun _ => rfl) (by
    intro n cs x hl ht
    obtain ⟨n', -, hx⟩ := trod_fields fields_Part (by decide) ht
    match cs, hl with
    | [c0, c1, c2], _ =>
      obtain ⟨y0, e0⟩ := hx 0 _ rfl
      obtain ⟨y1, e1⟩ := hx 1 _ rfl
      obtain ⟨y2, e2⟩ := hx 2 _ rfl
      simp only [cells_int, cells_Ints] at e0 e1 e2
      obtain ⟨z0, g0, _, _⟩ := DataW.trod_int und_int e0
      obtain ⟨v1, l1, g1, hr⟩ := ints_trod e1
      obtain ⟨z2, g2, _, _⟩ := DataW.trod_int und_int e2
      simp at g0 g1 g2
      subst g0; subst g1; subst g2
      exact ⟨(c1, ⟨z0, l1, z2⟩), rfl, hr⟩) h
  exact ⟨v, m.map (·.2), h1, m, rfl, h2, h3⟩

set_option maxRecDepth 100000 in
theorem plan_of_trod {v : Value} {d : DataW H} {ps : List MemPlace} {base : Nat} (hv : Value.okWide Tryz.prog W .any base 52 v) (h : DataW.Trod enc Tryz.prog W 0 (fun _ => true) true 52 v d ps) : ∃ p, PlanRd W v p := by
  obtain ⟨fs, hfs⟩ := isStruct_Plan
  obtain ⟨cs, rfl, hsz⟩ := okWide_struct hfs hv
  obtain ⟨fuel, hf⟩ := h
  rw [cells_Plan] at hsz
  obtain ⟨n', -, hx⟩ := trod_fields fields_Plan (by decide) hf
  simp only [Value.cells] at hx
  obtain ⟨l, hcl⟩ : ∃ l, cs.toList = l := ⟨_, rfl⟩
  have hl : l.length = 4 := by rw [← hcl]; simpa [Value.cells] using hsz
  rw [hcl] at hx
  match l, hl with
  | [c0, c1, c2, c3], _ =>
    obtain ⟨y0, e0⟩ := hx 0 _ rfl
    obtain ⟨y1, e1⟩ := hx 1 _ rfl
    obtain ⟨y2, e2⟩ := hx 2 _ rfl
    obtain ⟨y3, e3⟩ := hx 3 _ rfl
    simp only [cells_int, cells_Parts, cells_Lives] at e0 e1 e2 e3
    obtain ⟨z0, g0, _, _⟩ := DataW.trod_int und_int e0
    obtain ⟨z1, g1, _, _⟩ := DataW.trod_int und_int e1
    obtain ⟨v2, P, g2, hp⟩ := parts_trod e2
    obtain ⟨v3, L, g3, hlv⟩ := lives_trod e3
    simp at g0 g1 g2 g3
    subst g0; subst g1; subst g2; subst g3
    refine ⟨⟨z0, z1, P, L⟩, c2, c3, ?_, hp, hlv⟩
    have : cs = #[.int .i64 z0, .int .i64 z1, c2, c3] := Array.toList_inj.1 (by rw [hcl])
    rw [this]

set_option maxRecDepth 100000 in
theorem config_of_trod {v : Value} {d : DataW H} {ps : List MemPlace} {base : Nat} (hv : Value.okWide Tryz.prog W .any base 25 v) (h : DataW.Trod enc Tryz.prog W 0 (fun _ => true) true 25 v d ps) : ∃ n k p c a b d e, v = cfgV n k p c a b d e := by
  obtain ⟨fs, hfs⟩ := isStruct_Config
  obtain ⟨cs, rfl, hsz⟩ := okWide_struct hfs hv
  obtain ⟨fuel, hf⟩ := h
  rw [cells_Config] at hsz
  obtain ⟨n', -, hx⟩ := trod_fields fields_Config (by decide) hf
  simp only [Value.cells] at hx
  obtain ⟨l, hcl⟩ : ∃ l, cs.toList = l := ⟨_, rfl⟩
  have hl : l.length = 8 := by rw [← hcl]; simpa [Value.cells] using hsz
  rw [hcl] at hx
  match l, hl with
  | [c0, c1, c2, c3, c4, c5, c6, c7], _ =>
    obtain ⟨y0, e0⟩ := hx 0 _ rfl
    obtain ⟨y1, e1⟩ := hx 1 _ rfl
    obtain ⟨y2, e2⟩ := hx 2 _ rfl
    obtain ⟨y3, e3⟩ := hx 3 _ rfl
    obtain ⟨y4, e4⟩ := hx 4 _ rfl
    obtain ⟨y5, e5⟩ := hx 5 _ rfl
    obtain ⟨y6, e6⟩ := hx 6 _ rfl
    obtain ⟨y7, e7⟩ := hx 7 _ rfl
    simp only [cells_int] at e0 e1 e2 e3 e4 e5 e6 e7
    obtain ⟨z0, g0, _, _⟩ := DataW.trod_int und_int e0
    obtain ⟨z1, g1, _, _⟩ := DataW.trod_int und_int e1
    obtain ⟨z2, g2, _, _⟩ := DataW.trod_int und_int e2
    obtain ⟨z3, g3, _, _⟩ := DataW.trod_int und_int e3
    obtain ⟨z4, g4, _, _⟩ := DataW.trod_int und_int e4
    obtain ⟨z5, g5, _, _⟩ := DataW.trod_int und_int e5
    obtain ⟨z6, g6, _, _⟩ := DataW.trod_int und_int e6
    obtain ⟨z7, g7, _, _⟩ := DataW.trod_int und_int e7
    simp at g0 g1 g2 g3 g4 g5 g6 g7
    subst g0; subst g1; subst g2; subst g3; subst g4; subst g5; subst g6; subst g7
    refine ⟨z0, z1, z2, z3, z4, z5, z6, z7, ?_⟩
    have : cs = #[.int .i64 z0, .int .i64 z1, .int .i64 z2, .int .i64 z3, .int .i64 z4, .int .i64 z5, .int .i64 z6, .int .i64 z7] := Array.toList_inj.1 (by rw [hcl])
    rw [this]
end
end Go.Proofs.YtcpaaleogmiamaaGreatDoor
