/- Rows of elements of one size; numbers, pairs, texts in memory. -/
import Derived.Test.YtdchjepahgecgaaGreatDoorMq1
import Derived.Test.YtdchjepahgecgaaGreatDoorMq5
namespace Go.Proofs.YtdchjepahgecgaaGreatDoor
open Go.RowKit

theorem fl_get {α : Type} {f : α → List Value} {sz : Nat} (hz : 0 < sz) (hf : ∀ y, (f y).length = sz) : ∀ (l : List α) (j : Nat), (l.flatMap f)[j]? = (l[j / sz]?).bind fun y => (f y)[j % sz]?
  | [], j => by simp
  | x :: l, j => by
    rw [List.flatMap_cons, List.getElem?_append]
    by_cases h : j < sz
    · rw [hf, if_pos h, Nat.div_eq_of_lt h, Nat.mod_eq_of_lt h]; rfl
    · obtain ⟨k, rfl⟩ : ∃ k, j = k + sz := ⟨j - sz, by omega⟩
      rw [hf, if_neg h, Nat.add_sub_cancel, fl_get hz hf l k, Nat.add_div_right _ hz, Nat.add_mod_right]
      rfl

theorem fl_len {α : Type} {f : α → List Value} {sz : Nat} (hf : ∀ y, (f y).length = sz) : ∀ (l : List α), (l.flatMap f).length = l.length * sz
  | [] => by simp
  | x :: l => by rw [List.flatMap_cons, List.length_append, hf, fl_len hf l, List.length_cons, Nat.add_mul]; omega

theorem fl_at {α : Type} {f : α → List Value} {sz : Nat} (hf : ∀ y, (f y).length = sz) (l : List α) (i : Nat) (hi : i < l.length) (r : Nat) (u : Value) (hr : (f l[i])[r]? = some u) : (l.flatMap f)[i * sz + r]? = some u := by
  have hrs : r < sz := by rw [← hf l[i]]; exact (List.getElem?_eq_some_iff.1 hr).1
  have hz : 0 < sz := by omega
  rw [fl_get hz hf, show (i * sz + r) / sz = i by rw [Nat.mul_comm, Nat.mul_add_div hz, Nat.div_eq_of_lt hrs, Nat.add_zero], show (i * sz + r) % sz = r by rw [Nat.mul_comm, Nat.mul_add_mod, Nat.mod_eq_of_lt hrs], List.getElem?_eq_getElem hi]
  exact hr

theorem fl_set {α : Type} {f : α → List Value} {sz : Nat} (hf : ∀ y, (f y).length = sz) : ∀ (l : List α) (k : Nat) (hk : k < l.length) (r : Nat) (_ : r < sz) (u : Value) (y : α), f y = (f l[k]).set r u → (l.flatMap f).set (k * sz + r) u = (l.set k y).flatMap f
  | [], k, hk, _, _, _, _, _ => absurd hk (Nat.not_lt_zero k)
  | x :: l, 0, _, r, hr, u, y, he => by
    simp only [List.getElem_cons_zero] at he
    rw [List.set_cons_zero, List.flatMap_cons, List.flatMap_cons, Nat.zero_mul, Nat.zero_add, List.set_append_left _ _ (by rw [hf]; exact hr), he]
  | x :: l, k + 1, hk, r, hr, u, y, he => by
    have hk' : k < l.length := by simpa using hk
    have e : (k + 1) * sz + r = sz + (k * sz + r) := by rw [Nat.add_mul]; omega
    rw [List.set_cons_succ, List.flatMap_cons, List.flatMap_cons, e, List.set_append_right _ _ (by rw [hf]; omega), hf, Nat.add_sub_cancel_left, fl_set hf l k hk' r hr u y (by simpa using he)]

theorem Upd.toBelow {F : Nat → Prop} {N : Nat} {w w' : World} (h : Upd F w w') (hN : N ≤ w.heap.size) (hF : ∀ k, F k → N ≤ k) : Below N w w' :=
  ⟨h.os, h.tape, h.output, h.size, fun k hk => h.block k (by omega) (fun hf => by have := hF k hf; omega)⟩
theorem Upd.thenBelow {F : Nat → Prop} {a b c : World} (h : Upd F a b) (hb : Below a.heap.size b c) : Upd F a c :=
  ⟨hb.os.trans h.os, hb.tape.trans h.tape, hb.output.trans h.output, Nat.le_trans h.size hb.size, fun k hk hf => (hb.block k hk).trans (h.block k hk hf)⟩
theorem upd_set1 (w : World) (b o : Nat) (x : Value) : Upd (fun k => k = b) w (w.setCell ⟨b, o, none⟩ x) := upd_setCell (F := fun k => k = b) (Upd.refl _ w) rfl x
theorem heap_new2 (w : World) (a b c : Obj) : (((w.alloc a).alloc b).alloc c).heap[w.heap.size + 2]? = some c := by
  have := heap_new1 (w.alloc a) b c
  rw [World.size_alloc] at this
  exact this
theorem cells_of {w : World} {b : Nat} {cs : Array Value} {T : TypeId} {fz : Nat × Nat} (h : w.heap[b]? = some (.cells cs T fz)) : ∀ j v, cs[j]? = some v → w.cell? ⟨b, j, none⟩ = some v := by
  intro j v hv
  rw [cell_of_row w b j _ _ _ h]; exact hv
theorem frozen_of {w : World} {b j : Nat} {cs : Array Value} {T : TypeId} (h : w.heap[b]? = some (.cells cs T (0, 0))) : w.frozen? ⟨b, j, none⟩ = false := by
  simp [World.frozen?, h]

/-! numbers -/
def intCells (l : List Int) : List Value := l.map (.int .i64 ·)
theorem intCells_length (l : List Int) : (intCells l).length = l.length * 1 := by simp [intCells]
theorem intCells_get (l : List Int) (i : Nat) (h : i < l.length) : (intCells l)[i]? = some (.int .i64 l[i]) := by simp [intCells, h]
def IntsRd (w : World) (v : Value) (l : List Int) : Prop := Rd w 1 v l.length (intCells l)
theorem IntsRd.below {w w' : World} {v : Value} {l : List Int} (h : IntsRd w v l) (hb : Below w.heap.size w w') : IntsRd w' v l := Rd.below h hb
theorem IntsRd.nil (w : World) : IntsRd w (.slice none 0 0) [] := ⟨rfl, .inl ⟨rfl, rfl⟩⟩
theorem IntsRd.of_owns {w : World} {N e : Nat} {v : Value} {l : List Int} (h : w.ownsRow N e 1 v l.length (intCells l)) : IntsRd w v l := (Sl.of_owns h).rd
theorem IntsRd.cells {w : World} {v : Value} {l : List Int} (h : IntsRd w v l) : ∃ a cap, v = .slice a l.length cap ∧ l.length ≤ cap ∧ l.length ≤ maxLen ∧
    ∀ k (_ : k < l.length), ∃ b off, a = some ⟨b, off, none⟩ ∧ b < w.heap.size ∧ w.cell? ⟨b, off + k, none⟩ = some (.int .i64 l[k]) := by
  obtain ⟨a, cap, rfl, hc⟩ := Rd.shape h
  refine ⟨a, cap, rfl, hc, Rd.maxlen h, ?_⟩
  intro k hk
  obtain ⟨b, off, cap, e, _, _, hb, hc⟩ := Rd.at h (by omega)
  simp only [Value.slice.injEq, true_and] at e
  exact ⟨b, off, e.1, hb, hc _ _ (intCells_get l k hk)⟩

/-! pairs of numbers -/
def ptEl (x : Int × Int) : List Value := [.int .i64 x.1, .int .i64 x.2]
theorem ptEl_len (x : Int × Int) : (ptEl x).length = 2 := rfl
def ptCells (l : List (Int × Int)) : List Value := l.flatMap ptEl
theorem ptCells_length (l : List (Int × Int)) : (ptCells l).length = l.length * 2 := fl_len ptEl_len l
theorem ptCells_get (l : List (Int × Int)) (i : Nat) (h : i < l.length) : (ptCells l)[i * 2]? = some (.int .i64 l[i].1) ∧ (ptCells l)[i * 2 + 1]? = some (.int .i64 l[i].2) :=
  ⟨fl_at ptEl_len l i h 0 _ rfl, fl_at ptEl_len l i h 1 _ rfl⟩
def PtsRd (w : World) (v : Value) (l : List (Int × Int)) : Prop := Rd w 2 v l.length (ptCells l)
theorem PtsRd.below {w w' : World} {v : Value} {l : List (Int × Int)} (h : PtsRd w v l) (hb : Below w.heap.size w w') : PtsRd w' v l := Rd.below h hb
theorem PtsRd.of_owns {w : World} {N e : Nat} {v : Value} {l : List (Int × Int)} (h : w.ownsRow N e 2 v l.length (ptCells l)) : PtsRd w v l := (Sl.of_owns h).rd
theorem PtsRd.nil (w : World) : PtsRd w (.slice none 0 0) [] := ⟨rfl, .inl ⟨rfl, rfl⟩⟩
theorem PtsRd.cells {w : World} {v : Value} {l : List (Int × Int)} (h : PtsRd w v l) : ∃ a cap, v = .slice a l.length cap ∧ l.length ≤ cap ∧ l.length ≤ maxLen ∧
    ∀ k (_ : k < l.length), ∃ b off, a = some ⟨b, off, none⟩ ∧ b < w.heap.size ∧ w.cell? ⟨b, off + k * 2, none⟩ = some (.int .i64 l[k].1) ∧ w.cell? ⟨b, off + k * 2 + 1, none⟩ = some (.int .i64 l[k].2) := by
  obtain ⟨a, cap, rfl, hc⟩ := Rd.shape h
  refine ⟨a, cap, rfl, hc, Rd.maxlen h, ?_⟩
  intro k hk
  obtain ⟨b, off, cap, e, _, _, hb, hc⟩ := Rd.at h (by omega)
  simp only [Value.slice.injEq, true_and] at e
  have := ptCells_get l k hk
  exact ⟨b, off, e.1, hb, hc _ _ this.1, hc (k * 2 + 1) _ this.2⟩

/-! texts -/
def strCells (l : List (List UInt8)) : List Value := l.map (fun x => Value.string (bs x))
theorem strCells_length (l : List (List UInt8)) : (strCells l).length = l.length * 1 := by simp [strCells]
theorem strCells_get (l : List (List UInt8)) (i : Nat) (h : i < l.length) : (strCells l)[i]? = some (.string (bs l[i])) := by simp [strCells, h]
theorem Strs.below {w w' : World} {v : Value} {l : List (List UInt8)} (h : Strs w v l) (hb : Below w.heap.size w w') : Strs w' v l := Rd.below h hb
theorem Strs.of_owns {w : World} {N e : Nat} {v : Value} {l : List (List UInt8)} (h : w.ownsRow N e 1 v l.length (strCells l)) : Strs w v l := (Sl.of_owns h).rd
theorem Strs.nil (w : World) : Strs w (.slice none 0 0) [] := ⟨rfl, .inl ⟨rfl, rfl⟩⟩
theorem Strs.cells {w : World} {v : Value} {l : List (List UInt8)} (h : Strs w v l) : ∃ a cap, v = .slice a l.length cap ∧ l.length ≤ cap ∧ l.length ≤ maxLen ∧
    ∀ k (_ : k < l.length), ∃ b off, a = some ⟨b, off, none⟩ ∧ b < w.heap.size ∧ w.cell? ⟨b, off + k, none⟩ = some (.string (bs l[k])) := by
  obtain ⟨a, cap, rfl, hc⟩ := Rd.shape h
  refine ⟨a, cap, rfl, hc, Rd.maxlen h, ?_⟩
  intro k hk
  obtain ⟨b, off, cap, e, _, _, hb, hc⟩ := Rd.at h (by omega)
  simp only [Value.slice.injEq, true_and] at e
  exact ⟨b, off, e.1, hb, hc _ _ (strCells_get l k hk)⟩
end Go.Proofs.YtdchjepahgecgaaGreatDoor
