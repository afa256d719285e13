/- Groups as plain data; what a list of groups is in memory. -/
import Derived.Test.YtdchjepahgecgaaGreatDoorMq6
namespace Go.Proofs.YtdchjepahgecgaaGreatDoor
open Go.RowKit

/-- A group. -/
structure Fk where
  name : List UInt8
  gen : Int
  parts : Int
  members : List (List UInt8)
  points : List (Int × Int)
  deriving DecidableEq

/-- A group with the values of its members and of its points. -/
abbrev Fv := Value × Value × Fk
def fkEl (x : Fv) : List Value := [.string (bs x.2.2.name), .int .i64 x.2.2.gen, .int .i64 x.2.2.parts, x.1, x.2.1]
theorem fkEl_len (x : Fv) : (fkEl x).length = 5 := rfl
def fkCells (m : List Fv) : List Value := m.flatMap fkEl
theorem fkCells_length (m : List Fv) : (fkCells m).length = m.length * 5 := fl_len fkEl_len m

/-- What stands behind the values. -/
def FvRd (w : World) (x : Fv) : Prop := Strs w x.1 x.2.2.members ∧ PtsRd w x.2.1 x.2.2.points
theorem FvRd.below {w w' : World} {x : Fv} (h : FvRd w x) (hb : Below w.heap.size w w') : FvRd w' x := ⟨h.1.below hb, h.2.below hb⟩

def FksRd (w : World) (v : Value) (L : List Fk) : Prop := ∃ m : List Fv, m.map (·.2.2) = L ∧ Rd w 5 v m.length (fkCells m) ∧ ∀ x ∈ m, FvRd w x
theorem FksRd.below {w w' : World} {v : Value} {L : List Fk} (h : FksRd w v L) (hb : Below w.heap.size w w') : FksRd w' v L := by
  obtain ⟨m, h1, h2, h3⟩ := h
  exact ⟨m, h1, h2.below hb, fun x hx => (h3 x hx).below hb⟩
theorem FksRd.nil (w : World) : FksRd w (.slice none 0 0) [] := ⟨[], rfl, ⟨rfl, .inl ⟨rfl, rfl⟩⟩, by simp⟩

/-- One group's words. -/
abbrev fkV (y : Fk) (ma : Option Addr) (mc : Nat) (pa : Option Addr) (pc : Nat) : Value := .agg #[.string (bs y.name), .int .i64 y.gen, .int .i64 y.parts, .slice ma y.members.length mc, .slice pa y.points.length pc]
def FkRd (w : World) (v : Value) (y : Fk) : Prop := ∃ mv pv, v = .agg #[.string (bs y.name), .int .i64 y.gen, .int .i64 y.parts, mv, pv] ∧ Strs w mv y.members ∧ PtsRd w pv y.points
theorem FkRd.below {w w' : World} {v : Value} {y : Fk} (h : FkRd w v y) (hb : Below w.heap.size w w') : FkRd w' v y := by
  obtain ⟨mv, pv, e, h1, h2⟩ := h
  exact ⟨mv, pv, e, h1.below hb, h2.below hb⟩
theorem FkRd.shape {w : World} {v : Value} {y : Fk} (h : FkRd w v y) : ∃ (ma : Option Addr) (mc : Nat) (pa : Option Addr) (pc : Nat), v = .agg #[.string (bs y.name), .int .i64 y.gen, .int .i64 y.parts, .slice ma y.members.length mc, .slice pa y.points.length pc] ∧
    Strs w (.slice ma y.members.length mc) y.members ∧ PtsRd w (.slice pa y.points.length pc) y.points := by
  obtain ⟨mv, pv, rfl, h1, h2⟩ := h
  obtain ⟨ma, mc, rfl, -⟩ := h1.cells
  obtain ⟨pa, pc, rfl, -⟩ := h2.cells
  exact ⟨ma, mc, pa, pc, rfl, h1, h2⟩

theorem FksRd.cells {w : World} {v : Value} {L : List Fk} (h : FksRd w v L) : ∃ a cap, v = .slice a L.length cap ∧ L.length ≤ cap ∧ L.length ≤ maxLen ∧
    ∀ k (_ : k < L.length), ∃ b off ma mc pa pc, a = some ⟨b, off, none⟩ ∧ b < w.heap.size ∧ w.cell? ⟨b, off + k * 5, none⟩ = some (.string (bs L[k].name)) ∧ w.cell? ⟨b, off + k * 5 + 1, none⟩ = some (.int .i64 L[k].gen) ∧
      w.cell? ⟨b, off + k * 5 + 2, none⟩ = some (.int .i64 L[k].parts) ∧ w.cell? ⟨b, off + k * 5 + 3, none⟩ = some (.slice ma L[k].members.length mc) ∧ w.cell? ⟨b, off + k * 5 + 4, none⟩ = some (.slice pa L[k].points.length pc) ∧
      Strs w (.slice ma L[k].members.length mc) L[k].members ∧ PtsRd w (.slice pa L[k].points.length pc) L[k].points := by
  obtain ⟨m, rfl, hs, hr⟩ := h
  obtain ⟨a, cap, rfl, hcap⟩ := hs.shape
  refine ⟨a, cap, by simp, by simpa using hcap, by simpa using hs.maxlen, ?_⟩
  intro k hk
  have hk' : k < m.length := by simpa using hk
  obtain ⟨b, off, cap, e, _, _, hb, hc⟩ := hs.at (by omega)
  simp only [Value.slice.injEq, true_and] at e
  obtain ⟨hi1, hi2⟩ := hr _ (List.getElem_mem hk')
  obtain ⟨ma, mc, e1, -⟩ := hi1.cells
  obtain ⟨pa, pc, e2, -⟩ := hi2.cells
  have ek : (m.map (·.2.2))[k] = m[k].2.2 := by simp
  rw [ek]
  have hg : ∀ r u, (fkEl m[k])[r]? = some u → w.cell? ⟨b, off + (k * 5 + r), none⟩ = some u := fun r u hu => hc _ _ (fl_at fkEl_len m k hk' r u hu)
  refine ⟨b, off, ma, mc, pa, pc, e.1, hb, hg 0 _ rfl, hg 1 _ rfl, hg 2 _ rfl, ?_, ?_, by rw [← e1]; exact hi1, by rw [← e2]; exact hi2⟩
  · rw [← e1]; exact hg 3 _ rfl
  · rw [← e2]; exact hg 4 _ rfl

theorem und_int : Tryz.prog.underlying 3 = some (.int .i64) := by kernel_rfl
theorem und_Ints : Tryz.prog.underlying 37 = some (.slice 3) := by kernel_rfl
theorem und_Strings : Tryz.prog.underlying 41 = some (.slice 9) := by kernel_rfl
theorem und_Points : Tryz.prog.underlying 42 = some (.slice 58) := by kernel_rfl
theorem und_Flocks : Tryz.prog.underlying 25 = some (.slice 44) := by kernel_rfl
theorem info_Int : (Tryz.prog.info? 3).map (fun i => (i.zero, i.size, i.bytes)) = some (some (.int .i64 0), 1, 8) := by kernel_rfl
theorem info_Str : (Tryz.prog.info? 9).map (fun i => (i.zero, i.size, i.bytes)) = some (some (.string ⟨#[]⟩), 1, 16) := by kernel_rfl
theorem info_Point : (Tryz.prog.info? 58).map (fun i => (i.zero, i.size, i.bytes)) = some (some (.agg #[.int .i64 0, .int .i64 0]), 2, 16) := by kernel_rfl
theorem info_Flock : (Tryz.prog.info? 44).map (fun i => (i.zero, i.size, i.bytes)) = some (some (.agg #[.string ⟨#[]⟩, .int .i64 0, .int .i64 0, .slice none 0 0, .slice none 0 0]), 5, 80) := by kernel_rfl

/-- A row of groups that the call owns; the members and points of the first k too, the points' rows each apart from the others. -/
structure OwnG (w : World) (N : Nat) (v : Value) (m : List Fv) (k : Nat) : Prop where
  own : w.ownsRow N 44 5 v m.length (fkCells m)
  mem : ∀ i (hi : i < m.length), i < k → w.ownsRow N 9 1 m[i].1 m[i].2.2.members.length (strCells m[i].2.2.members)
  pts : ∀ i (hi : i < m.length), i < k → w.ownsRow N 58 2 m[i].2.1 m[i].2.2.points.length (ptCells m[i].2.2.points)
  apart : ∀ i j (hi : i < m.length) (hj : j < m.length), i < k → j < k → i ≠ j → ∀ g, m[i].2.1.ownBlock = some g → m[j].2.1.ownBlock ≠ some g
abbrev OwnF (w : World) (N : Nat) (v : Value) (m : List Fv) : Prop := OwnG w N v m m.length

theorem OwnG.mono {w : World} {N N' : Nat} {v : Value} {m : List Fv} {k : Nat} (h : OwnG w N v m k) (hn : N' ≤ N) : OwnG w N' v m k :=
  ⟨owns_mono h.own hn, fun i hi hk => owns_mono (h.mem i hi hk) hn, fun i hi hk => owns_mono (h.pts i hi hk) hn, h.apart⟩

theorem OwnG.upd {w w' : World} {F : Nat → Prop} {N : Nat} {v : Value} {m : List Fv} {k : Nat} (h : OwnG w N v m k) (hu : Upd F w w') (h1 : ∀ g, v.ownBlock = some g → ¬ F g)
    (h2 : ∀ i (hi : i < m.length), i < k → (∀ g, m[i].1.ownBlock = some g → ¬ F g) ∧ ∀ g, m[i].2.1.ownBlock = some g → ¬ F g) : OwnG w' N v m k :=
  ⟨owns_upd h.own hu h1, fun i hi hk => owns_upd (h.mem i hi hk) hu (h2 i hi hk).1, fun i hi hk => owns_upd (h.pts i hi hk) hu (h2 i hi hk).2, h.apart⟩

theorem OwnG.below {w w' : World} {N : Nat} {v : Value} {m : List Fv} {k : Nat} (h : OwnG w N v m k) (hb : Below w.heap.size w w') : OwnG w' N v m k :=
  h.upd (F := fun _ => False) (.of_below hb) (fun _ _ h => h) (fun _ _ _ => ⟨fun _ _ h => h, fun _ _ h => h⟩)

theorem OwnG.low {w w' : World} {F : Nat → Prop} {N : Nat} {v : Value} {m : List Fv} {k : Nat} (h : OwnG w N v m k) (hu : Upd F w w') (hF : ∀ k, F k → k < N) : OwnG w' N v m k :=
  h.upd hu (fun g hg hf => by have := (owns_lt h.own g hg).1; have := hF g hf; omega)
    (fun i hi hk => ⟨fun g hg hf => by have := (owns_lt (h.mem i hi hk) g hg).1; have := hF g hf; omega, fun g hg hf => by have := (owns_lt (h.pts i hi hk) g hg).1; have := hF g hf; omega⟩)

theorem OwnG.rd {w : World} {N : Nat} {v : Value} {m : List Fv} (h : OwnF w N v m) : FksRd w v (m.map (·.2.2)) :=
  ⟨m, rfl, (Sl.of_owns h.own).rd, fun x hx => by obtain ⟨i, hi, rfl⟩ := List.mem_iff_getElem.1 hx; exact ⟨Strs.of_owns (h.mem i hi hi), PtsRd.of_owns (h.pts i hi hi)⟩⟩

/-- A word of a group is written; what stands behind the words is the call's own. -/
theorem OwnG.set {w : World} {N g n cap : Nat} {m : List Fv} {k k' : Nat} (h : OwnG w N (.slice (some ⟨g, 0, none⟩) n cap) m k) (hn : n = m.length) (j : Nat) (hj : j < m.length) (r : Nat) (hr : r < 5) (u : Value) (y : Fv) (he : fkEl y = (fkEl m[j]).set r u)
    (hk' : ∀ i, i < k' → i < k ∨ i = j) (hm : w.ownsRow N 9 1 y.1 y.2.2.members.length (strCells y.2.2.members)) (hp : w.ownsRow N 58 2 y.2.1 y.2.2.points.length (ptCells y.2.2.points))
    (ha : ∀ i (hi : i < m.length), i < k → i ≠ j → ∀ g, m[i].2.1.ownBlock = some g → y.2.1.ownBlock ≠ some g) :
    OwnG (w.setCell ⟨g, j * 5 + r, none⟩ u) N (.slice (some ⟨g, 0, none⟩) n cap) (m.set j y) k' := by
  subst hn
  have hs := upd_set1 w g (j * 5 + r) u
  refine ⟨?_, ?_, ?_, ?_⟩
  · have := (h.own.stored (j * 5 + r) u).1
    unfold fkCells at this
    rw [fl_set fkEl_len m j hj r hr u y he] at this
    simpa [fkCells] using this
  · intro i hi hik
    simp only [List.getElem_set]
    by_cases he : j = i
    · subst he
      simp only [if_true]
      exact owns_upd hm hs (fun g' hg e => owns_types hm h.own (by decide) g' hg (by rw [e]; rfl))
    · simp only [if_neg he]
      have hi' : i < m.length := by simpa using hi
      have hc' := h.mem i hi' ((hk' i hik).resolve_right (fun e => he e.symm))
      exact owns_upd hc' hs (fun g' hg e => owns_types hc' h.own (by decide) g' hg (by rw [e]; rfl))
  · intro i hi hik
    simp only [List.getElem_set]
    by_cases he : j = i
    · subst he
      simp only [if_true]
      exact owns_upd hp hs (fun g' hg e => owns_types hp h.own (by decide) g' hg (by rw [e]; rfl))
    · simp only [if_neg he]
      have hi' : i < m.length := by simpa using hi
      have hc' := h.pts i hi' ((hk' i hik).resolve_right (fun e => he e.symm))
      exact owns_upd hc' hs (fun g' hg e => owns_types hc' h.own (by decide) g' hg (by rw [e]; rfl))
  · intro i i' hi hi' hik hik' hne g' hg
    simp only [List.getElem_set] at hg ⊢
    have hi2 : i < m.length := by simpa using hi
    have hi2' : i' < m.length := by simpa using hi'
    by_cases he : j = i
    · subst he
      simp only [if_true] at hg
      rw [if_neg hne]
      intro e
      exact ha i' hi2' ((hk' i' hik').resolve_right (fun e => hne e.symm)) (fun e => hne e.symm) g' e hg
    · simp only [if_neg he] at hg
      by_cases he' : j = i'
      · subst he'
        simp only [if_true]
        exact ha i hi2 ((hk' i hik).resolve_right (fun e => he e.symm)) (fun e => he e.symm) g' hg
      · simp only [if_neg he']
        exact h.apart i i' hi2 hi2' ((hk' i hik).resolve_right (fun e => he e.symm)) ((hk' i' hik').resolve_right (fun e => he' e.symm)) hne g' hg
end Go.Proofs.YtdchjepahgecgaaGreatDoor
