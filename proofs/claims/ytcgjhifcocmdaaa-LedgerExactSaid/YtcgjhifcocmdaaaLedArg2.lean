/- The arguments of LedgerExact: tables and batches that came in, read cell by cell. -/
import Derived.Test.YtcgjhifcocmdaaaLedArg
namespace Go.Proofs.Ytcgjhifcocmdaaa
open Go.ChangeShapes Go.WideShapes Go.ChangeAt Go.RowKit

def fieldsOf (P : Program) (t : TypeId) : List (TypeId × Nat) := match P.underlying t with | some (.struct fs) => fs.toList.map (fun f => (f.type, f.offset)) | _ => []

section
variable {H : Type} {enc : TypeId × Value → H} {P : Program} {W : World}

theorem trod_fields {t : TypeId} {l : List (TypeId × Nat)} (hl : fieldsOf P t = l) (hne : l ≠ []) {fuel : Nat} {cs : List Value} {x : DataW H × List MemPlace}
    (h : DataW.trod enc P W 0 (fun _ => true) true fuel t cs = some x) :
    ∃ n, cs.length = P.cellsOf t ∧ ∀ (i : Nat) (p : TypeId × Nat), l[i]? = some p → ∃ y, DataW.trod enc P W 0 (fun _ => true) true n p.1 ((cs.drop p.2).take (P.cellsOf p.1)) = some y := by
  unfold fieldsOf at hl
  split at hl
  · rename_i fs hfs
    subst hl
    obtain ⟨xs, n, _, _, hlen, hxl, hx⟩ := DataW.trod_struct hfs h
    refine ⟨n, hlen, ?_⟩
    intro i p hp
    rw [List.getElem?_map] at hp
    obtain ⟨f, hf, rfl⟩ := Option.map_eq_some_iff.1 hp
    have hf' : fs[i]? = some f := by simpa using hf
    have hi : i < xs.length := by rw [hxl]; exact (Array.getElem?_eq_some_iff.1 hf').1
    exact ⟨xs[i], by rw [hx i f hf', List.getElem?_eq_getElem hi]⟩
  · exact absurd hl.symm hne

theorem flat_get {α : Type} {f : α → List Value} {sz : Nat} (hz : 0 < sz) (hf : ∀ y, (f y).length = sz) : ∀ (l : List α) (j : Nat), (l.flatMap f)[j]? = (l[j / sz]?).bind fun y => (f y)[j % sz]?
  | [], j => by simp
  | x :: l, j => by
    rw [List.flatMap_cons, List.getElem?_append]
    by_cases h : j < sz
    · rw [hf, if_pos h, Nat.div_eq_of_lt h, Nat.mod_eq_of_lt h]; rfl
    · obtain ⟨k, rfl⟩ : ∃ k, j = k + sz := ⟨j - sz, by omega⟩
      rw [hf, if_neg h, Nat.add_sub_cancel, flat_get hz hf l k, Nat.add_div_right _ hz, Nat.add_mod_right]
      rfl

theorem flat_len {α : Type} {f : α → List Value} {sz : Nat} (hf : ∀ y, (f y).length = sz) : ∀ (l : List α), (l.flatMap f).length = l.length * sz
  | [] => by simp
  | x :: l => by rw [List.flatMap_cons, List.length_append, hf, flat_len hf l, List.length_cons, Nat.add_mul]; omega

theorem rd_of_trod {t e : TypeId} {sz : Nat} (ht : P.underlying t = some (.slice e)) (hsz : P.cellsOf e = sz) (hz : 0 < sz) {α : Type} (f : α → List Value) (Q : α → Prop) (hf : ∀ y, (f y).length = sz)
    (helem : ∀ n cs x, cs.length = sz → DataW.trod enc P W 0 (fun _ => true) true n e cs = some x → ∃ y, cs = f y ∧ Q y)
    {fuel : Nat} {cs : List Value} {x : DataW H × List MemPlace} (h : DataW.trod enc P W 0 (fun _ => true) true fuel t cs = some x) :
    ∃ (v : Value) (l : List α), cs = [v] ∧ Rd W sz v l.length (l.flatMap f) ∧ ∀ y ∈ l, Q y := by
  rcases Deep.open_slice ht h with ⟨rfl, _⟩ | ⟨a, len, cap, m, n, D, Pl, rfl, _, hl, hm, hme, _, hel⟩
  · exact ⟨_, [], rfl, ⟨by simp, .inl ⟨rfl, rfl⟩⟩, by simp⟩
  · have hml : len ≤ m := by rw [hme]; simp; exact hl
    rw [hsz] at hel
    have key : ∀ k, k ≤ len → ∃ l : List α, l.length = k ∧ (∀ y ∈ l, Q y) ∧ ∀ i (hi : i < l.length), ∀ r u, (f l[i])[r]? = some u → W.cell? (a.add (i * sz + r)) = some u := by
      intro k
      induction k with
      | zero => intro _; exact ⟨[], rfl, by simp, fun i hi => absurd hi (Nat.not_lt_zero i)⟩
      | succ k ih =>
        intro hk
        obtain ⟨l, h1, h2, h3⟩ := ih (by omega)
        obtain ⟨cs', hc, htr⟩ := hel k (by omega)
        obtain ⟨_, hlen, hcell⟩ := World.cells?_some hc
        obtain ⟨y, rfl, hq⟩ := helem _ _ _ hlen htr
        refine ⟨l ++ [y], by simp [h1], ?_, ?_⟩
        · intro z hz
          rcases List.mem_append.1 hz with hz | hz
          · exact h2 z hz
          · rw [List.mem_singleton.1 hz]; exact hq
        · intro i hi r u hu
          by_cases hil : i < l.length
          · rw [List.getElem_append_left hil] at hu
            exact h3 i hil r u hu
          · have hik : i = l.length := by simp at hi; omega
            subst hik
            rw [List.getElem_append_right (Nat.le_refl _)] at hu
            simp only [Nat.sub_self, List.getElem_cons_zero] at hu
            obtain ⟨hr, hu'⟩ := List.getElem?_eq_some_iff.1 hu
            have hr' : r < sz := by rw [hf] at hr; exact hr
            have := hcell r hr'
            rw [Deep.add_add] at this
            rw [h1, this]
            exact hu
    obtain ⟨l, h1, h2, h3⟩ := key len (Nat.le_refl _)
    refine ⟨_, l, rfl, ⟨flat_len hf l, .inr ⟨a, cap, by rw [h1], by rw [h1]; exact hl, hm, ?_⟩⟩, h2⟩
    intro j u hj
    rw [flat_get hz hf] at hj
    obtain ⟨y, hy, hu⟩ := Option.bind_eq_some_iff.1 hj
    obtain ⟨hi, rfl⟩ := List.getElem?_eq_some_iff.1 hy
    have := h3 _ hi _ _ hu
    rwa [Nat.mul_comm, Nat.div_add_mod] at this
end

theorem fields_Slot : fieldsOf Try.prog 32 = [(3, 0), (3, 1), (3, 2)] := by kernel_rfl
theorem fields_Seen : fieldsOf Try.prog 59 = [(3, 0), (57, 1)] := by kernel_rfl
theorem cells_Slot : Try.prog.cellsOf 32 = 3 := by kernel_rfl
theorem cells_Slots : Try.prog.cellsOf 57 = 1 := by kernel_rfl
theorem cells_Seen : Try.prog.cellsOf 59 = 2 := by kernel_rfl

section
variable {H : Type} {enc : TypeId × Value → H} {W : World}

theorem slots_trod {fuel : Nat} {cs : List Value} {x : DataW H × List MemPlace} (h : DataW.trod enc Try.prog W 0 (fun _ => true) true fuel 57 cs = some x) :
    ∃ v l, cs = [v] ∧ SlotsRd W v l := by
  obtain ⟨v, l, h1, h2, -⟩ := rd_of_trod und_Slots cells_Slot (by decide) Slot.cells (fun _ => True) (fun _ => rfl) (by
    intro n cs x hl ht
    obtain ⟨n', -, hx⟩ := trod_fields fields_Slot (by decide) ht
    match cs, hl with
    | [c0, c1, c2], _ =>
      obtain ⟨y0, e0⟩ := hx 0 _ rfl
      obtain ⟨y1, e1⟩ := hx 1 _ rfl
      obtain ⟨y2, e2⟩ := hx 2 _ rfl
      simp only [cells_int] at e0 e1 e2
      obtain ⟨z0, g0, _, _⟩ := DataW.trod_int und_int e0
      obtain ⟨z1, g1, _, _⟩ := DataW.trod_int und_int e1
      obtain ⟨z2, g2, _, _⟩ := DataW.trod_int und_int e2
      simp at g0 g1 g2
      subst g0; subst g1; subst g2
      exact ⟨⟨z0, z1, z2⟩, rfl, trivial⟩) h
  exact ⟨v, l, h1, h2⟩

theorem seens_trod {fuel : Nat} {cs : List Value} {x : DataW H × List MemPlace} (h : DataW.trod enc Try.prog W 0 (fun _ => true) true fuel 43 cs = some x) :
    ∃ v T, cs = [v] ∧ SeensRd W v T := by
  obtain ⟨v, l, h1, h2, h3⟩ := rd_of_trod (α := Int × Value × List Slot) und_Seens cells_Seen (by decide) (fun y => [.int .i64 y.1, y.2.1]) (fun y => SlotsRd W y.2.1 y.2.2) (fun _ => rfl) (by
    intro n cs x hl ht
    obtain ⟨n', -, hx⟩ := trod_fields fields_Seen (by decide) ht
    match cs, hl with
    | [c0, c1], _ =>
      obtain ⟨y0, e0⟩ := hx 0 _ rfl
      obtain ⟨y1, e1⟩ := hx 1 _ rfl
      simp only [cells_int, cells_Slots] at e0 e1
      obtain ⟨z0, g0, _, _⟩ := DataW.trod_int und_int e0
      obtain ⟨v1, l1, g1, hr⟩ := slots_trod e1
      simp at g0 g1
      subst g0; subst g1
      exact ⟨(z0, c1, l1), rfl, hr⟩) h
  refine ⟨v, l.map (fun y => (y.1, y.2.2)), h1, l.map (fun y => (y.1, y.2.1)), ?_, ?_⟩
  · have e : seenCells (l.map fun y => (y.1, y.2.1)) = l.flatMap (fun y => [.int .i64 y.1, y.2.1]) := by
      simp only [seenCells, List.flatMap_map]
    rw [e, List.length_map]; exact h2
  · clear h2 h1
    induction l with
    | nil => trivial
    | cons y l ih => exact ⟨rfl, h3 y (by simp), ih (fun z hz => h3 z (by simp [hz]))⟩

theorem und_string : Try.prog.underlying 9 = some .string := by kernel_rfl
theorem und_bool : Try.prog.underlying 4 = some .bool := by kernel_rfl
theorem und_Recs : Try.prog.underlying 37 = some (.slice 50) := by kernel_rfl
theorem und_Batches : Try.prog.underlying 44 = some (.slice 39) := by kernel_rfl
theorem fields_Rec : fieldsOf Try.prog 50 = [(3, 0), (9, 1), (9, 2), (4, 3)] := by kernel_rfl
theorem fields_Batch : fieldsOf Try.prog 39 = [(3, 0), (3, 1), (3, 2), (3, 3), (3, 4), (37, 5)] := by kernel_rfl
theorem cells_Rec : Try.prog.cellsOf 50 = 4 := by kernel_rfl
theorem cells_Batch : Try.prog.cellsOf 39 = 6 := by kernel_rfl
theorem cells_Recs : Try.prog.cellsOf 37 = 1 := by kernel_rfl
theorem cells_string : Try.prog.cellsOf 9 = 1 := by kernel_rfl
theorem cells_bool : Try.prog.cellsOf 4 = 1 := by kernel_rfl

theorem recs_trod {fuel : Nat} {cs : List Value} {x : DataW H × List MemPlace} (h : DataW.trod enc Try.prog W 0 (fun _ => true) true fuel 37 cs = some x) :
    ∃ v l, cs = [v] ∧ Rd W 4 v l.length (recCells l) := by
  obtain ⟨v, l, h1, h2, -⟩ := rd_of_trod und_Recs cells_Rec (by decide) Rec.cells (fun _ => True) (fun _ => rfl) (by
    intro n cs x hl ht
    obtain ⟨n', -, hx⟩ := trod_fields fields_Rec (by decide) ht
    match cs, hl with
    | [c0, c1, c2, c3], _ =>
      obtain ⟨y0, e0⟩ := hx 0 _ rfl
      obtain ⟨y1, e1⟩ := hx 1 _ rfl
      obtain ⟨y2, e2⟩ := hx 2 _ rfl
      obtain ⟨y3, e3⟩ := hx 3 _ rfl
      simp only [cells_int, cells_string, cells_bool] at e0 e1 e2 e3
      obtain ⟨z0, g0, _, _⟩ := DataW.trod_int und_int e0
      obtain ⟨z1, g1, _, _⟩ := DataW.trod_string und_string e1
      obtain ⟨z2, g2, _, _⟩ := DataW.trod_string und_string e2
      obtain ⟨z3, g3, _⟩ := DataW.trod_bool und_bool e3
      simp at g0 g1 g2 g3
      subst g0; subst g1; subst g2; subst g3
      exact ⟨⟨z0, z1, z2, z3⟩, rfl, trivial⟩) h
  exact ⟨v, l, h1, h2⟩

def Batch.cells (b : Batch) (rv : Value) : List Value := [.int .i64 b.base, .int .i64 b.count, .int .i64 b.prod, .int .i64 b.seq, .int .i64 b.time, rv]

/-- v is a slice that reads the batches l. -/
def BatchesRd (w : World) (v : Value) (l : List Batch) : Prop :=
  ∃ m : List (Batch × Value), l = m.map (·.1) ∧ Rd w 6 v m.length (m.flatMap fun y => y.1.cells y.2) ∧ ∀ y ∈ m, Rd w 4 y.2 y.1.recs.length (recCells y.1.recs)

theorem batches_trod {fuel : Nat} {cs : List Value} {x : DataW H × List MemPlace} (h : DataW.trod enc Try.prog W 0 (fun _ => true) true fuel 44 cs = some x) :
    ∃ v l, cs = [v] ∧ BatchesRd W v l := by
  obtain ⟨v, l, h1, h2, h3⟩ := rd_of_trod (α := Batch × Value) und_Batches cells_Batch (by decide) (fun y => y.1.cells y.2) (fun y => Rd W 4 y.2 y.1.recs.length (recCells y.1.recs)) (fun _ => rfl) (by
    intro n cs x hl ht
    obtain ⟨n', -, hx⟩ := trod_fields fields_Batch (by decide) ht
    match cs, hl with
    | [c0, c1, c2, c3, c4, c5], _ =>
      obtain ⟨y0, e0⟩ := hx 0 _ rfl
      obtain ⟨y1, e1⟩ := hx 1 _ rfl
      obtain ⟨y2, e2⟩ := hx 2 _ rfl
      obtain ⟨y3, e3⟩ := hx 3 _ rfl
      obtain ⟨y4, e4⟩ := hx 4 _ rfl
      obtain ⟨y5, e5⟩ := hx 5 _ rfl
      simp only [cells_int, cells_Recs] at e0 e1 e2 e3 e4 e5
      obtain ⟨z0, g0, _, _⟩ := DataW.trod_int und_int e0
      obtain ⟨z1, g1, _, _⟩ := DataW.trod_int und_int e1
      obtain ⟨z2, g2, _, _⟩ := DataW.trod_int und_int e2
      obtain ⟨z3, g3, _, _⟩ := DataW.trod_int und_int e3
      obtain ⟨z4, g4, _, _⟩ := DataW.trod_int und_int e4
      obtain ⟨v5, l5, g5, hr⟩ := recs_trod e5
      simp at g0 g1 g2 g3 g4 g5
      subst g0; subst g1; subst g2; subst g3; subst g4; subst g5
      exact ⟨(⟨z0, z1, z2, z3, z4, l5⟩, c5), rfl, hr⟩) h
  exact ⟨v, l.map (·.1), h1, l, rfl, h2, h3⟩

theorem BatchesRd.upd {w w' : World} {F : Nat → Prop} {v : Value} {l : List Batch} (h : BatchesRd w v l) (hu : Upd F w w')
    (hF : ∀ k cur T fz, w.heap[k]? = some (.cells cur T fz) → ¬ F k) : BatchesRd w' v l := by
  obtain ⟨m, h1, h2, h3⟩ := h
  exact ⟨m, h1, h2.upd hu hF, fun y hy => (h3 y hy).upd hu hF⟩

theorem BatchesRd.below {w w' : World} {v : Value} {l : List Batch} (h : BatchesRd w v l) (hu : Below w.heap.size w w') : BatchesRd w' v l :=
  h.upd (F := fun _ => False) (.of_below hu) (fun _ _ _ _ _ h => h)

theorem BatchesRd.cells {w : World} {v : Value} {l : List Batch} (h : BatchesRd w v l) : ∃ a cap, v = .slice a l.length cap ∧ l.length ≤ maxLen ∧
    ∀ k (_ : k < l.length), ∃ b off ra rc, a = some ⟨b, off, none⟩ ∧ b < w.heap.size ∧ w.cell? ⟨b, off + k * 6, none⟩ = some (.int .i64 l[k].base) ∧ w.cell? ⟨b, off + k * 6 + 1, none⟩ = some (.int .i64 l[k].count) ∧
      w.cell? ⟨b, off + k * 6 + 2, none⟩ = some (.int .i64 l[k].prod) ∧ w.cell? ⟨b, off + k * 6 + 3, none⟩ = some (.int .i64 l[k].seq) ∧ w.cell? ⟨b, off + k * 6 + 4, none⟩ = some (.int .i64 l[k].time) ∧
      w.cell? ⟨b, off + k * 6 + 5, none⟩ = some (.slice ra l[k].recs.length rc) ∧ Rd w 4 (.slice ra l[k].recs.length rc) l[k].recs.length (recCells l[k].recs) := by
  obtain ⟨m, rfl, hs, hr⟩ := h
  obtain ⟨a, cap, rfl, _⟩ := hs.shape
  refine ⟨a, cap, by rw [List.length_map], by rw [List.length_map]; exact hs.maxlen, ?_⟩
  intro k hk
  have hk' : k < m.length := by simpa using hk
  obtain ⟨b, off, cap, e, _, _, hb, hc⟩ := hs.at (by omega)
  simp only [Value.slice.injEq, true_and] at e
  have hcell : ∀ r u, r < 6 → (m[k].1.cells m[k].2)[r]? = some u → w.cell? ⟨b, off + k * 6 + r, none⟩ = some u := by
    intro r u hr6 hu
    have := hc (k * 6 + r) u (by
      rw [flat_get (f := fun y : Batch × Value => y.1.cells y.2) (sz := 6) (by decide) (fun _ => rfl), (by omega : (k * 6 + r) / 6 = k), (by omega : (k * 6 + r) % 6 = r), List.getElem?_eq_getElem hk']
      exact hu)
    rwa [← Nat.add_assoc] at this
  have hrr := hr m[k] (List.getElem_mem hk')
  obtain ⟨ra, rc, e2, _⟩ := hrr.shape
  have e3 : (m.map (·.1))[k] = m[k].1 := by simp
  rw [e3]
  refine ⟨b, off, ra, rc, e.1, hb, hcell 0 _ (by decide) rfl, hcell 1 _ (by decide) rfl, hcell 2 _ (by decide) rfl, hcell 3 _ (by decide) rfl, hcell 4 _ (by decide) rfl, ?_, by rw [← e2]; exact hrr⟩
  rw [← e2]
  exact hcell 5 _ (by decide) rfl
end
end Go.Proofs.Ytcgjhifcocmdaaa
