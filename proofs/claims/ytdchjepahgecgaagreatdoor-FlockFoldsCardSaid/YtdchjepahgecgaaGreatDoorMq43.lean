/- Arguments of the Flock laws: requests, records, slices of them. -/
/- What the row's list gives of the library's variables; a start for the witness. -/
import Derived.Test.YtdchjepahgecgaaGreatDoorRows
import Derived.Test.YtdchjepahgecgaaGreatDoorMq42
import Derived.ProofKit
import Derived.OpenShut
import Derived.Deep.Slices
import Derived.Test.YtdchjepahgecgaaGreatDoorMq4
import Derived.Lib.LaidTab
import Derived.LaidMore
import Derived.Lay
import Derived.Stop.LaidErr
namespace Go.Proofs.YtdchjepahgecgaaGreatDoor
open Go.ChangeShapes Go.WideShapes Go.ChangeAt Go.RowKit

theorem Tryz.own : ownKnob Tryz.prog.godebug = none := by kernel_rfl
theorem Tryz.laidOut : laidOutB Tryz.prog = true := by kernel_rfl
theorem cells_int : Tryz.prog.cellsOf 3 = 1 := by kernel_rfl

def fieldsOf (P : Program) (t : TypeId) : List (TypeId × Nat) := match P.underlying t with | some (.struct fs) => fs.toList.map (fun f => (f.type, f.offset)) | _ => []

section
variable {H : Type} {enc : TypeId × Value → H} {P : Program} {W : World}

theorem trod_fields {t : TypeId} {l : List (TypeId × Nat)} (hl : fieldsOf P t = l) (hne : l ≠ []) {fuel : Nat} {cs : List Value} {x : DataW H × List MemPlace}
    (h : DataW.trod enc P W 0 (fun _ => true) true fuel t cs = some x) :
    ∃ n, cs.length = P.cellsOf t ∧ ∀ (i : Nat) (p : TypeId × Nat), l[i]? = some p → ∃ y, DataW.trod enc P W 0 (fun _ => true) true n p.1 ((cs.drop p.2).take (P.cellsOf p.1)) = some y := by
  unfold fieldsOf at hl
  split at hl
  · rename_i fs hfs
    subst hl
    obtain ⟨xs, n, _, _, hlen, hxl, hx⟩ := DataW.trod_struct hfs h
    refine ⟨n, hlen, ?_⟩
    intro i p hp
    rw [List.getElem?_map] at hp
    obtain ⟨f, hf, rfl⟩ := Option.map_eq_some_iff.1 hp
    have hf' : fs[i]? = some f := by simpa using hf
    have hi : i < xs.length := by rw [hxl]; exact (Array.getElem?_eq_some_iff.1 hf').1
    exact ⟨xs[i], by rw [hx i f hf', List.getElem?_eq_getElem hi]⟩
  · exact absurd hl.symm hne

theorem flat_get {α : Type} {f : α → List Value} {sz : Nat} (hz : 0 < sz) (hf : ∀ y, (f y).length = sz) : ∀ (l : List α) (j : Nat), (l.flatMap f)[j]? = (l[j / sz]?).bind fun y => (f y)[j % sz]?
  | [], j => by simp
  | x :: l, j => by
    rw [List.flatMap_cons, List.getElem?_append]
    by_cases h : j < sz
    · rw [hf, if_pos h, Nat.div_eq_of_lt h, Nat.mod_eq_of_lt h]; rfl
    · obtain ⟨k, rfl⟩ : ∃ k, j = k + sz := ⟨j - sz, by omega⟩
      rw [hf, if_neg h, Nat.add_sub_cancel, flat_get hz hf l k, Nat.add_div_right _ hz, Nat.add_mod_right]
      rfl

theorem flat_len {α : Type} {f : α → List Value} {sz : Nat} (hf : ∀ y, (f y).length = sz) : ∀ (l : List α), (l.flatMap f).length = l.length * sz
  | [] => by simp
  | x :: l => by rw [List.flatMap_cons, List.length_append, hf, flat_len hf l, List.length_cons, Nat.add_mul]; omega

theorem rd_of_trod {t e : TypeId} {sz : Nat} (ht : P.underlying t = some (.slice e)) (hsz : P.cellsOf e = sz) (hz : 0 < sz) {α : Type} (f : α → List Value) (Q : α → Prop) (hf : ∀ y, (f y).length = sz)
    (helem : ∀ n cs x, cs.length = sz → DataW.trod enc P W 0 (fun _ => true) true n e cs = some x → ∃ y, cs = f y ∧ Q y)
    {fuel : Nat} {cs : List Value} {x : DataW H × List MemPlace} (h : DataW.trod enc P W 0 (fun _ => true) true fuel t cs = some x) :
    ∃ (v : Value) (l : List α), cs = [v] ∧ Rd W sz v l.length (l.flatMap f) ∧ ∀ y ∈ l, Q y := by
  rcases Deep.open_slice ht h with ⟨rfl, _⟩ | ⟨a, len, cap, m, n, D, Pl, rfl, _, hl, hm, hme, _, hel⟩
  · exact ⟨_, [], rfl, ⟨by simp, .inl ⟨rfl, rfl⟩⟩, by simp⟩
  · have hml : len ≤ m := by rw [hme]; simp; exact hl
    rw [hsz] at hel
    have key : ∀ k, k ≤ len → ∃ l : List α, l.length = k ∧ (∀ y ∈ l, Q y) ∧ ∀ i (hi : i < l.length), ∀ r u, (f l[i])[r]? = some u → W.cell? (a.add (i * sz + r)) = some u := by
      intro k
      induction k with
      | zero => intro _; exact ⟨[], rfl, by simp, fun i hi => absurd hi (Nat.not_lt_zero i)⟩
      | succ k ih =>
        intro hk
        obtain ⟨l, h1, h2, h3⟩ := ih (by omega)
        obtain ⟨cs', hc, htr⟩ := hel k (by omega)
        obtain ⟨_, hlen, hcell⟩ := World.cells?_some hc
        obtain ⟨y, rfl, hq⟩ := helem _ _ _ hlen htr
        refine ⟨l ++ [y], by simp [h1], ?_, ?_⟩
        · intro z hz
          rcases List.mem_append.1 hz with hz | hz
          · exact h2 z hz
          · rw [List.mem_singleton.1 hz]; exact hq
        · intro i hi r u hu
          by_cases hil : i < l.length
          · rw [List.getElem_append_left hil] at hu
            exact h3 i hil r u hu
          · have hik : i = l.length := by simp at hi; omega
            subst hik
            rw [List.getElem_append_right (Nat.le_refl _)] at hu
            simp only [Nat.sub_self, List.getElem_cons_zero] at hu
            obtain ⟨hr, hu'⟩ := List.getElem?_eq_some_iff.1 hu
            have hr' : r < sz := by rw [hf] at hr; exact hr
            have := hcell r hr'
            rw [Deep.add_add] at this
            rw [h1, this]
            exact hu
    obtain ⟨l, h1, h2, h3⟩ := key len (Nat.le_refl _)
    refine ⟨_, l, rfl, ⟨flat_len hf l, .inr ⟨a, cap, by rw [h1], by rw [h1]; exact hl, hm, ?_⟩⟩, h2⟩
    intro j u hj
    rw [flat_get hz hf] at hj
    obtain ⟨y, hy, hu⟩ := Option.bind_eq_some_iff.1 hj
    obtain ⟨hi, rfl⟩ := List.getElem?_eq_some_iff.1 hy
    have := h3 _ hi _ _ hu
    rwa [Nat.mul_comm, Nat.div_add_mod] at this
end

theorem r_int : Tryz.prog.underlying 3 = some (.int .i64) := by kernel_rfl
theorem r_str : Tryz.prog.underlying 9 = some .string := by kernel_rfl
theorem r_bool : Tryz.prog.underlying 4 = some .bool := by kernel_rfl
theorem r_Recs : Tryz.prog.underlying 22 = some (.slice 28) := by kernel_rfl
theorem r_Reqs : Tryz.prog.underlying 31 = some (.slice 34) := by kernel_rfl
theorem fields_Rec : fieldsOf Tryz.prog 28 = [(3, 0), (9, 1), (9, 2), (4, 3)] := by kernel_rfl
theorem fields_Req : fieldsOf Tryz.prog 34 = [(3, 0), (3, 1), (3, 2), (3, 3), (3, 4), (3, 5), (3, 6), (3, 7), (9, 8), (9, 9), (22, 10)] := by kernel_rfl
theorem cells_Rec : Tryz.prog.cellsOf 28 = 4 := by kernel_rfl
theorem cells_Req : Tryz.prog.cellsOf 34 = 11 := by kernel_rfl
theorem cells_Recs : Tryz.prog.cellsOf 22 = 1 := by kernel_rfl
theorem cells_string : Tryz.prog.cellsOf 9 = 1 := by kernel_rfl
theorem cells_bool : Tryz.prog.cellsOf 4 = 1 := by kernel_rfl
theorem isStruct_Rec : ∃ fs, Tryz.prog.underlying 28 = some (.struct fs) := ⟨_, Tryz.underlying28⟩
theorem isStruct_Req : ∃ fs, Tryz.prog.underlying 34 = some (.struct fs) := ⟨_, Tryz.underlying34⟩

section
variable {H : Type} {enc : TypeId × Value → H} {W : World}

set_option maxRecDepth 100000 in
theorem rec_cells {n : Nat} {cs : List Value} {x : DataW H × List MemPlace} (hl : cs.length = 4) (ht : DataW.trod enc Tryz.prog W 0 (fun _ => true) true n 28 cs = some x) : ∃ y : Rc, cs = rcEl y := by
  obtain ⟨n', -, hx⟩ := trod_fields fields_Rec (by decide) ht
  match cs, hl with
  | [c0, c1, c2, c3], _ =>
    obtain ⟨y0, e0⟩ := hx 0 _ rfl
    obtain ⟨y1, e1⟩ := hx 1 _ rfl
    obtain ⟨y2, e2⟩ := hx 2 _ rfl
    obtain ⟨y3, e3⟩ := hx 3 _ rfl
    simp only [cells_int, cells_string, cells_bool] at e0 e1 e2 e3
    obtain ⟨z0, g0, _, _⟩ := DataW.trod_int r_int e0
    obtain ⟨z1, g1, _, _⟩ := DataW.trod_string r_str e1
    obtain ⟨z2, g2, _, _⟩ := DataW.trod_string r_str e2
    obtain ⟨z3, g3, _⟩ := DataW.trod_bool r_bool e3
    simp at g0 g1 g2 g3
    subst g0; subst g1; subst g2; subst g3
    exact ⟨⟨z0, z1.data.toList, z2.data.toList, z3⟩, by simp only [rcEl, bs_of]⟩

set_option maxRecDepth 100000 in
theorem recs_trod {fuel : Nat} {cs : List Value} {x : DataW H × List MemPlace} (h : DataW.trod enc Tryz.prog W 0 (fun _ => true) true fuel 22 cs = some x) : ∃ v l, cs = [v] ∧ RcsRd W v l := by
  obtain ⟨v, l, h1, h2, -⟩ := rd_of_trod (α := Rc) r_Recs cells_Rec (by decide) rcEl (fun _ => True) rcEl_len (by
    intro n cs x hl ht
    obtain ⟨y, hy⟩ := rec_cells hl ht
    exact ⟨y, hy, trivial⟩) h
  exact ⟨v, l, h1, h2⟩

set_option maxRecDepth 100000 in
theorem req_cells {n : Nat} {cs : List Value} {x : DataW H × List MemPlace} (hl : cs.length = 11) (ht : DataW.trod enc Tryz.prog W 0 (fun _ => true) true n 34 cs = some x) : ∃ y : Rq, cs = rqEl y := by
  obtain ⟨n', -, hx⟩ := trod_fields fields_Req (by decide) ht
  match cs, hl with
  | [c0, c1, c2, c3, c4, c5, c6, c7, c8, c9, c10], _ =>
    obtain ⟨y0, e0⟩ := hx 0 _ rfl
    obtain ⟨y1, e1⟩ := hx 1 _ rfl
    obtain ⟨y2, e2⟩ := hx 2 _ rfl
    obtain ⟨y3, e3⟩ := hx 3 _ rfl
    obtain ⟨y4, e4⟩ := hx 4 _ rfl
    obtain ⟨y5, e5⟩ := hx 5 _ rfl
    obtain ⟨y6, e6⟩ := hx 6 _ rfl
    obtain ⟨y7, e7⟩ := hx 7 _ rfl
    obtain ⟨y8, e8⟩ := hx 8 _ rfl
    obtain ⟨y9, e9⟩ := hx 9 _ rfl
    obtain ⟨y10, e10⟩ := hx 10 _ rfl
    simp only [cells_int, cells_string, cells_Recs] at e0 e1 e2 e3 e4 e5 e6 e7 e8 e9 e10
    obtain ⟨z0, g0, _, _⟩ := DataW.trod_int r_int e0
    obtain ⟨z1, g1, _, _⟩ := DataW.trod_int r_int e1
    obtain ⟨z2, g2, _, _⟩ := DataW.trod_int r_int e2
    obtain ⟨z3, g3, _, _⟩ := DataW.trod_int r_int e3
    obtain ⟨z4, g4, _, _⟩ := DataW.trod_int r_int e4
    obtain ⟨z5, g5, _, _⟩ := DataW.trod_int r_int e5
    obtain ⟨z6, g6, _, _⟩ := DataW.trod_int r_int e6
    obtain ⟨z7, g7, _, _⟩ := DataW.trod_int r_int e7
    obtain ⟨z8, g8, _, _⟩ := DataW.trod_string r_str e8
    obtain ⟨z9, g9, _, _⟩ := DataW.trod_string r_str e9
    obtain ⟨v10, l10, g10, h10⟩ := recs_trod e10
    obtain ⟨a10, cp10, rfl, -⟩ := h10.cells
    simp at g0 g1 g2 g3 g4 g5 g6 g7 g8 g9 g10
    subst g0; subst g1; subst g2; subst g3; subst g4; subst g5; subst g6; subst g7; subst g8; subst g9; subst g10
    exact ⟨⟨z0, z1, z2, z3, z4, z5, z6, z7, z8.data.toList, z9.data.toList, a10, l10.length, cp10⟩, by simp only [rqEl, bs_of]⟩

set_option maxRecDepth 100000 in
theorem reqs_of_trod {v : Value} {d : DataW H} {ps : List MemPlace} {base : Nat} (hv : Value.okWide Tryz.prog W .any base 31 v) (h : DataW.Trod enc Tryz.prog W 0 (fun _ => true) true 31 v d ps) : ∃ l, ReqsRd W v l := by
  obtain ⟨a, len, cap, rfl⟩ := okWide_slice r_Reqs hv
  obtain ⟨fuel, hf⟩ := h
  obtain ⟨v, l, h1, h2, -⟩ := rd_of_trod (α := Rq) r_Reqs cells_Req (by decide) rqEl (fun _ => True) rqEl_len (by
    intro n cs x hl ht
    obtain ⟨y, hy⟩ := req_cells hl ht
    exact ⟨y, hy, trivial⟩) hf
  simp only [Value.cells, List.cons.injEq, and_true] at h1
  subst h1
  exact ⟨l, h2⟩

set_option maxRecDepth 100000 in
theorem recs_of_trod {v : Value} {d : DataW H} {ps : List MemPlace} {base : Nat} (hv : Value.okWide Tryz.prog W .any base 22 v) (h : DataW.Trod enc Tryz.prog W 0 (fun _ => true) true 22 v d ps) : ∃ l, RcsRd W v l := by
  obtain ⟨a, len, cap, rfl⟩ := okWide_slice r_Recs hv
  obtain ⟨fuel, hf⟩ := h
  obtain ⟨v, l, h1, h2⟩ := recs_trod hf
  simp only [Value.cells, List.cons.injEq, and_true] at h1
  subst h1
  exact ⟨l, h2⟩

set_option maxRecDepth 100000 in
theorem req_of_trod {v : Value} {d : DataW H} {ps : List MemPlace} {base : Nat} (hv : Value.okWide Tryz.prog W .any base 34 v) (h : DataW.Trod enc Tryz.prog W 0 (fun _ => true) true 34 v d ps) : ∃ y : Rq, v = y.v := by
  obtain ⟨fs, hfs⟩ := isStruct_Req
  obtain ⟨cs, rfl, hsz⟩ := okWide_struct hfs hv
  obtain ⟨fuel, hf⟩ := h
  rw [cells_Req] at hsz
  obtain ⟨y, hy⟩ := req_cells (by simpa [Value.cells] using hsz) hf
  refine ⟨y, ?_⟩
  have : cs = (rqEl y).toArray := Array.toList_inj.1 (by simpa [Value.cells] using hy)
  rw [this]
  rfl

set_option maxRecDepth 100000 in
theorem rec_of_trod {v : Value} {d : DataW H} {ps : List MemPlace} {base : Nat} (hv : Value.okWide Tryz.prog W .any base 28 v) (h : DataW.Trod enc Tryz.prog W 0 (fun _ => true) true 28 v d ps) : ∃ y : Rc, v = y.v := by
  obtain ⟨fs, hfs⟩ := isStruct_Rec
  obtain ⟨cs, rfl, hsz⟩ := okWide_struct hfs hv
  obtain ⟨fuel, hf⟩ := h
  rw [cells_Rec] at hsz
  obtain ⟨y, hy⟩ := rec_cells (by simpa [Value.cells] using hsz) hf
  refine ⟨y, ?_⟩
  have : cs = (rcEl y).toArray := Array.toList_inj.1 (by simpa [Value.cells] using hy)
  rw [this]
  rfl
end
end Go.Proofs.YtdchjepahgecgaaGreatDoor
namespace Go.Proofs.YtdchjepahgecgaaGreatDoor
open Go.RowKit

theorem gRange : Tryz.prog.globalNamed "strconv.ErrRange" = some (Tryz.laysAtoi_ren.g 16) := by kernel_rfl
theorem gSyntax : Tryz.prog.globalNamed "strconv.ErrSyntax" = some (Tryz.laysAtoi_ren.g 15) := by kernel_rfl
theorem gRangeType : (Tryz.prog.globals[Tryz.laysAtoi_ren.g 16]?).map (·.type) = some 120 := by kernel_rfl
theorem gSyntaxType : (Tryz.prog.globals[Tryz.laysAtoi_ren.g 15]?).map (·.type) = some 120 := by kernel_rfl
theorem cellsErrStr : Tryz.prog.cellsOf 185 = 1 := by kernel_rfl
theorem cellsStr : Tryz.prog.cellsOf 9 = 1 := by kernel_rfl
theorem star : "*" ++ "errors.errorString" = "*errors.errorString" := by decide
theorem rowErr (u : TypeId) (h : Tryz.prog.typeName? 3 u = some "*errors.errorString") : u = 183 :=
  typeName_ptr_named (nm := "errors.errorString") (by rw [star]; kernel_rfl) (by kernel_rfl) (by decide) u (by rw [star]; exact h)
theorem gTab : Tryz.prog.globalNamed "internal/strconv.uint64pow10" = some 3 := by kernel_rfl
theorem gTabType : (Tryz.prog.globals[3]?).map (·.type) = some 173 := by kernel_rfl
theorem cellsTab : Tryz.prog.cellsOf 173 = 20 := by kernel_rfl
theorem cellsU64 : Tryz.prog.cellsOf 126 = 1 := by kernel_rfl
theorem tabEq : (Rows.laid_internal_strconv_uint64pow10 : DataW Unit) = Lib.tabData .u64 Lib.pow10Tab := by kernel_rfl

abbrev flLaid := Rows.flockTurnsRow.laid
theorem env_of_laid {W : World} (h : laidMetH Tryz.prog flLaid W) : Env W := by
  have h : laidMet Tryz.prog Rows.flockTurnsRow.laid W := h
  have h2 := h.tail.tail
  have h3 := h2.tail.tail
  have h4 := h3.tail
  refine ⟨?_, ?_, ?_⟩
  · change laidMet Tryz.prog ((_, Rows.laid_internal_strconv_uint64pow10) :: _) W at h2
    rw [tabEq] at h2
    exact Lib.tabIs_of_head gTab gTabType Tryz.underlying173 Tryz.underlying126 cellsU64 cellsTab h2
  · obtain ⟨a0, s0, hv0, -, -, -⟩ := laid_sentinel h4 gSyntax gSyntaxType Tryz.underlying120 rowErr Tryz.underlying183 Tryz.underlying185 rfl rfl Tryz.underlying9 cellsErrStr cellsStr
    exact ⟨_, (by have h0 := World.var?_cell gSyntax hv0 0; simpa using h0), .inr ⟨_, _, rfl⟩⟩
  · obtain ⟨a0, s0, hv0, -, -, -⟩ := laid_sentinel h3 gRange gRangeType Tryz.underlying120 rowErr Tryz.underlying183 Tryz.underlying185 rfl rfl Tryz.underlying9 cellsErrStr cellsStr
    exact ⟨_, (by have h0 := World.var?_cell gRange hv0 0; simpa using h0), .inr ⟨_, _, rfl⟩⟩

theorem laid_met (os : Os) (args : Array Value) : laidMetH Tryz.prog flLaid ((World.laidAll Tryz.prog os flLaid).forCall (fun _ _ => 0) ⟨#[], args, []⟩).memory := by
  rw [MakeChecks.laidMetH_plain _ _ _ (by kernel_rfl)]
  exact laidMet_laidAll _ (by kernel_rfl) (by kernel_rfl)
end Go.Proofs.YtdchjepahgecgaaGreatDoor
