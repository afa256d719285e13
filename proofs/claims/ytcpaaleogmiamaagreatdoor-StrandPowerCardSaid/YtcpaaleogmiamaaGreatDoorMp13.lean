/- A strand in memory. -/
/- The walks of strand's small functions: last, end, End, Start, fresh, did, ready. -/
import Derived.Test.YtcpaaleogmiamaaGreatDoorMp12
import Derived.Test.YtcpaaleogmiamaaGreatDoorMp9
import Derived.BigQuiet
import Derived.Deep.RegionHeld3
import Derived.Deep.DeepCutAuto
namespace Go.Proofs.YtcpaaleogmiamaaGreatDoor
open Go.RowKit

/-! ### What holds in whatever world agrees on S -/
def InS (w : World) (S : Nat → Prop) (P : World → Prop) : Prop := ∀ (F : Nat → Prop) (W : World), (∀ k, S k → ¬ F k) → Upd F w W → P W
section
variable {w w' : World} {S T F : Nat → Prop} {P Q : World → Prop}
theorem InS.here (h : InS w S P) : P w := h (fun _ => False) w (fun _ _ h => h) (Upd.refl _ _)
theorem InS.grow (h : InS w S P) (hS : ∀ k, S k → k < w.heap.size → T k) : InS w T P := fun F W hF hu =>
  h (fun k => F k ∧ k < w.heap.size) W (fun k hk hf => hF k (hS k hk hf.2) hf.1) ⟨hu.os, hu.tape, hu.output, hu.size, fun k hk hn => hu.block k hk (fun hf => hn ⟨hf, hk⟩)⟩
theorem InS.upd (h : InS w S P) (hu : Upd F w w') (hF : ∀ k, S k → k < w.heap.size → ¬ F k) : InS w' S P := fun G W hG hu2 =>
  h (fun k => (F k ∧ k < w.heap.size) ∨ G k) W (fun k hk h => h.elim (fun hf => hF k hk hf.2 hf.1) (hG k hk)) ((hu.mono (fun _ hk h => .inl ⟨h, hk⟩)).trans (hu2.mono (fun _ _ h => .inr h)))
theorem InS.below (h : InS w S P) (hb : Below w.heap.size w w') : InS w' S P := h.upd (F := fun _ => False) (.of_below hb) (fun _ _ _ h => h)
theorem InS.imp (h : InS w S P) (hpq : ∀ W, P W → Q W) : InS w S Q := fun F W hF hu => hpq W (h F W hF hu)
theorem InS.and (h : InS w S P) (k : InS w S Q) : InS w S (fun W => P W ∧ Q W) := fun F W hF hu => ⟨h F W hF hu, k F W hF hu⟩
theorem InS.all {α : Type} {R : α → World → Prop} (h : ∀ x, InS w S (R x)) : InS w S (fun W => ∀ x, R x W) := fun F W hF hu x => h x F W hF hu
end

theorem Rd.inS {w : World} {sz : Nat} {v : Value} {n : Nat} {xs : List Value} (h : Rd w sz v n xs) {S : Nat → Prop} (hS : ∀ a m c, v = .slice (some a) m c → S a.block) : InS w S (fun W => Rd W sz v n xs) := by
  intro F W hF hu
  refine ⟨h.1, ?_⟩
  rcases h.2 with h2 | ⟨a, cap, h1, h2, h3, h4⟩
  · exact .inl h2
  · refine .inr ⟨a, cap, h1, h2, h3, fun j u hu2 => ?_⟩
    have hc := h4 j u hu2
    have hsp := cell_spot hc
    obtain ⟨ab, ao, asp⟩ := a
    have hb := hS _ _ _ h1
    have e : (⟨ab, ao, asp⟩ : Addr).add j = ⟨ab, ao + j, none⟩ := by
      by_cases hj : j = 0
      · subst hj
        simp only [Addr.add, if_true] at hsp ⊢
        subst hsp
        rfl
      · simp [Addr.add, hj]
    rw [e] at hc ⊢
    exact upd_some hu hc (hF _ hb)

/-! ### Records and batches -/
def RcsRd (w : World) (v : Value) (l : List Rec) : Prop := Rd w 4 v l.length (recCells l)
def bCells (m : List (Value × Batch)) : List Value := m.flatMap fun x => [.int .i64 x.2.base, .int .i64 x.2.count, .int .i64 x.2.prod, .int .i64 x.2.seq, .int .i64 x.2.time, x.1]
theorem bCells_length (m : List (Value × Batch)) : (bCells m).length = m.length * 6 := by
  induction m with
  | nil => rfl
  | cons x l ih => simp only [bCells, List.flatMap_cons, List.length_append] at ih ⊢; rw [ih]; simp; omega
theorem bCells_get (l : List (Value × Batch)) (i : Nat) (h : i < l.length) :
    (bCells l)[i * 6]? = some (.int .i64 l[i].2.base) ∧ (bCells l)[i * 6 + 1]? = some (.int .i64 l[i].2.count) ∧ (bCells l)[i * 6 + 2]? = some (.int .i64 l[i].2.prod) ∧ (bCells l)[i * 6 + 3]? = some (.int .i64 l[i].2.seq) ∧
      (bCells l)[i * 6 + 4]? = some (.int .i64 l[i].2.time) ∧ (bCells l)[i * 6 + 5]? = some l[i].1 := by
  induction l generalizing i with
  | nil => simp at h
  | cons x l ih =>
    have e : bCells (x :: l) = .int .i64 x.2.base :: .int .i64 x.2.count :: .int .i64 x.2.prod :: .int .i64 x.2.seq :: .int .i64 x.2.time :: x.1 :: bCells l := rfl
    rw [e]
    cases i with
    | zero => simp
    | succ i =>
      have := ih i (by simpa using h)
      have e1 : (i + 1) * 6 = i * 6 + 6 := by omega
      simpa [e1] using this
def BsRd (w : World) (v : Value) (l : List Batch) : Prop := ∃ m : List (Value × Batch), m.map (·.2) = l ∧ Rd w 6 v m.length (bCells m) ∧ ∀ x ∈ m, RcsRd w x.1 x.2.recs
theorem BsRd.below {w w' : World} {v : Value} {l : List Batch} (h : BsRd w v l) (hb : Below w.heap.size w w') : BsRd w' v l := by
  obtain ⟨m, h1, h2, h3⟩ := h
  exact ⟨m, h1, h2.below hb, fun x hx => Rd.below (h3 x hx) hb⟩
theorem RcsRd.below {w w' : World} {v : Value} {l : List Rec} (h : RcsRd w v l) (hb : Below w.heap.size w w') : RcsRd w' v l := Rd.below h hb
theorem BsRd.nil (w : World) : BsRd w (.slice none 0 0) [] := ⟨[], rfl, ⟨rfl, .inl ⟨rfl, rfl⟩⟩, by simp⟩
theorem RcsRd.nil (w : World) : RcsRd w (.slice none 0 0) [] := ⟨rfl, .inl ⟨rfl, rfl⟩⟩
theorem RcsRd.cells {w : World} {v : Value} {l : List Rec} (h : RcsRd w v l) : ∃ a cap, v = .slice a l.length cap ∧ l.length ≤ cap ∧ l.length ≤ maxLen ∧
    ∀ k (_ : k < l.length), ∃ b off, a = some ⟨b, off, none⟩ ∧ b < w.heap.size ∧ w.cell? ⟨b, off + k * 4, none⟩ = some (.int .i64 l[k].off) ∧ w.cell? ⟨b, off + k * 4 + 1, none⟩ = some (.string l[k].key) ∧
      w.cell? ⟨b, off + k * 4 + 2, none⟩ = some (.string l[k].val) ∧ w.cell? ⟨b, off + k * 4 + 3, none⟩ = some (.bool l[k].gone) := by
  obtain ⟨a, cap, rfl, hc⟩ := Rd.shape h
  refine ⟨a, cap, rfl, hc, Rd.maxlen h, ?_⟩
  intro k hk
  obtain ⟨b, off, cap, e, _, _, hb, hc⟩ := Rd.at h (by omega)
  simp only [Value.slice.injEq, true_and] at e
  obtain ⟨h0, h1, h2, h3⟩ := recCells_get l k hk
  exact ⟨b, off, e.1, hb, hc _ _ h0, hc (k * 4 + 1) _ h1, hc (k * 4 + 2) _ h2, hc (k * 4 + 3) _ h3⟩
theorem BsRd.cells {w : World} {v : Value} {l : List Batch} (h : BsRd w v l) : ∃ a cap, v = .slice a l.length cap ∧ l.length ≤ cap ∧ l.length ≤ maxLen ∧
    ∀ k (_ : k < l.length), ∃ b off ra rc, a = some ⟨b, off, none⟩ ∧ b < w.heap.size ∧ w.cell? ⟨b, off + k * 6, none⟩ = some (.int .i64 l[k].base) ∧ w.cell? ⟨b, off + k * 6 + 1, none⟩ = some (.int .i64 l[k].count) ∧
      w.cell? ⟨b, off + k * 6 + 2, none⟩ = some (.int .i64 l[k].prod) ∧ w.cell? ⟨b, off + k * 6 + 3, none⟩ = some (.int .i64 l[k].seq) ∧ w.cell? ⟨b, off + k * 6 + 4, none⟩ = some (.int .i64 l[k].time) ∧
      w.cell? ⟨b, off + k * 6 + 5, none⟩ = some (.slice ra l[k].recs.length rc) ∧ RcsRd w (.slice ra l[k].recs.length rc) l[k].recs := by
  obtain ⟨m, rfl, hs, hr⟩ := h
  obtain ⟨a, cap, rfl, hcap⟩ := hs.shape
  refine ⟨a, cap, by simp, by simpa using hcap, by simpa using hs.maxlen, ?_⟩
  intro k hk
  have hk' : k < m.length := by simpa using hk
  obtain ⟨b, off, cap, e, _, _, hb, hc⟩ := hs.at (by omega)
  simp only [Value.slice.injEq, true_and] at e
  obtain ⟨h0, h1, h2, h3, h4, h5⟩ := bCells_get m k hk'
  have hi := hr _ (List.getElem_mem hk')
  obtain ⟨ra, rc, e2, _⟩ := Rd.shape hi
  have ek : (m.map (·.2))[k] = m[k].2 := by simp
  rw [ek]
  refine ⟨b, off, ra, rc, e.1, hb, hc _ _ h0, hc (k * 6 + 1) _ h1, hc (k * 6 + 2) _ h2, hc (k * 6 + 3) _ h3, hc (k * 6 + 4) _ h4, ?_, by rw [← e2]; exact hi⟩
  have := hc (k * 6 + 5) _ h5
  rw [e2] at this; exact this

/-- Batches whose words all lie in S. -/
def BsIn (w : World) (S : Nat → Prop) (v : Value) (l : List Batch) : Prop := ∃ m : List (Value × Batch), m.map (·.2) = l ∧ InS w S (fun W => Rd W 6 v m.length (bCells m)) ∧ ∀ x ∈ m, InS w S (fun W => RcsRd W x.1 x.2.recs)
section
variable {w w' : World} {S T F : Nat → Prop} {v : Value} {l : List Batch}
theorem BsIn.inS (h : BsIn w S v l) : InS w S (fun W => BsRd W v l) := by
  obtain ⟨m, h1, h2, h3⟩ := h
  exact fun F W hF hu => ⟨m, h1, h2 F W hF hu, fun x hx => h3 x hx F W hF hu⟩
theorem BsIn.here (h : BsIn w S v l) : BsRd w v l := h.inS.here
theorem BsIn.grow (h : BsIn w S v l) (hS : ∀ k, S k → k < w.heap.size → T k) : BsIn w T v l := by
  obtain ⟨m, h1, h2, h3⟩ := h
  exact ⟨m, h1, h2.grow hS, fun x hx => (h3 x hx).grow hS⟩
theorem BsIn.upd (h : BsIn w S v l) (hu : Upd F w w') (hF : ∀ k, S k → k < w.heap.size → ¬ F k) : BsIn w' S v l := by
  obtain ⟨m, h1, h2, h3⟩ := h
  exact ⟨m, h1, h2.upd hu hF, fun x hx => (h3 x hx).upd hu hF⟩
theorem BsIn.below (h : BsIn w S v l) (hb : Below w.heap.size w w') : BsIn w' S v l := h.upd (F := fun _ => False) (.of_below hb) (fun _ _ _ h => h)
theorem BsIn.nil (w : World) (S : Nat → Prop) : BsIn w S (.slice none 0 0) [] := ⟨[], rfl, fun _ _ _ _ => ⟨rfl, .inl ⟨rfl, rfl⟩⟩, by simp⟩
end

/-! ### Segments -/
def sgCells (m : List (Value × Sg)) : List Value := m.flatMap fun x => [.int .i64 x.2.base, x.1, .int .i64 ((sgB x.2.list).length : Int)]
theorem sgCells_length (m : List (Value × Sg)) : (sgCells m).length = m.length * 3 := by
  induction m with
  | nil => rfl
  | cons x l ih => simp only [sgCells, List.flatMap_cons, List.length_append] at ih ⊢; rw [ih]; simp; omega
theorem sgCells_get (l : List (Value × Sg)) (i : Nat) (h : i < l.length) :
    (sgCells l)[i * 3]? = some (.int .i64 l[i].2.base) ∧ (sgCells l)[i * 3 + 1]? = some l[i].1 ∧ (sgCells l)[i * 3 + 2]? = some (.int .i64 ((sgB l[i].2.list).length : Int)) := by
  induction l generalizing i with
  | nil => simp at h
  | cons x l ih =>
    have e : sgCells (x :: l) = .int .i64 x.2.base :: x.1 :: .int .i64 ((sgB x.2.list).length : Int) :: sgCells l := rfl
    rw [e]
    cases i with
    | zero => simp
    | succ i =>
      have := ih i (by simpa using h)
      have e1 : (i + 1) * 3 = i * 3 + 3 := by omega
      simpa [e1] using this

/-- A strand. -/
structure St where
  pre : List UInt8
  size : Int
  segs : List Sg
  life : Int
  dead : Bool

/-- What a strand is, whatever is asked of it. -/
structure StOk (x : St) : Prop where
  pre : 1 ≤ x.pre.length ∧ x.pre.length ≤ 16
  size : 1 ≤ x.size ∧ x.size ≤ 1048576
  segs : ∀ g ∈ x.segs, 0 ≤ g.base ∧ g.base ≤ 1099511627776 ∧ Chained g.base g.list

/-- A strand in memory: its block is sb, its tape's tb; gv is the row of its segments, whose lists lie in D. -/
structure StIn (w : World) (S : Nat → Prop) (sb tb : Nat) (x : St) (gv : Value) (m : List (Value × Sg)) (D : Nat → Prop) : Prop where
  blk : w.heap[sb]? = some (.cells #[.pointer (some ⟨tb, 0, none⟩), .string (bs x.pre), .int .i64 x.size, gv, .int .i64 x.life, .bool x.dead] 161 (0, 0))
  segs : m.map (·.2) = x.segs
  row : w.ownsRow 0 158 3 gv m.length (sgCells m)
  lists : ∀ y ∈ m, BsIn w D y.1 y.2.list
  apart : ∀ k, D k → S k ∧ k ≠ sb ∧ gv.ownBlock ≠ some k
  own : S sb
  ownG : ∀ g, gv.ownBlock = some g → S g
  lt : ∀ k, S k → k < w.heap.size
def StAt (w : World) (S : Nat → Prop) (sb tb : Nat) (x : St) : Prop := ∃ gv m D, StIn w S sb tb x gv m D

theorem owns_kind3 {w : World} {N e size : Nat} {v : Value} {n : Nat} {xs : List Value} (h : w.ownsRow N e size v n xs) : ∀ g, v.ownBlock = some g → ∃ cur, w.heap[g]? = some (.cells cur e (0, 0)) := by
  intro g hg
  obtain ⟨h0, h | ⟨b, cap, cur, h1, h2, h3, -⟩⟩ := h
  · obtain ⟨rfl, -⟩ := h; cases hg
  · rw [h1] at hg
    simp only [Value.ownBlock, Option.some.injEq] at hg
    subst hg
    exact ⟨cur, h3⟩

section
variable {w w' : World} {S F : Nat → Prop} {sb tb : Nat} {x : St} {gv : Value} {m : List (Value × Sg)} {D : Nat → Prop}
theorem StIn.ne (h : StIn w S sb tb x gv m D) : gv.ownBlock ≠ some sb := by
  intro hg
  obtain ⟨cur, hc⟩ := owns_kind3 h.row sb hg
  rw [h.blk] at hc
  simp at hc
theorem StIn.upd (h : StIn w S sb tb x gv m D) (hu : Upd F w w') (hF : ∀ k, S k → ¬ F k) : StIn w' S sb tb x gv m D :=
  ⟨(hu.block _ (h.lt _ h.own) (hF _ h.own)).trans h.blk, h.segs, owns_upd h.row hu (fun g hg => hF g (h.ownG g hg)), fun y hy => (h.lists y hy).upd hu (fun k hk _ => hF k (h.apart k hk).1), h.apart, h.own, h.ownG, fun k hk => Nat.lt_of_lt_of_le (h.lt k hk) hu.size⟩
theorem StIn.below (h : StIn w S sb tb x gv m D) (hb : Below w.heap.size w w') : StIn w' S sb tb x gv m D := h.upd (F := fun _ => False) (.of_below hb) (fun _ _ h => h)
theorem StAt.upd (h : StAt w S sb tb x) (hu : Upd F w w') (hF : ∀ k, S k → ¬ F k) : StAt w' S sb tb x := by
  obtain ⟨gv, m, D, h⟩ := h
  exact ⟨gv, m, D, h.upd hu hF⟩
theorem StAt.below (h : StAt w S sb tb x) (hb : Below w.heap.size w w') : StAt w' S sb tb x := h.upd (F := fun _ => False) (.of_below hb) (fun _ _ h => h)
theorem StAt.lt (h : StAt w S sb tb x) : ∀ k, S k → k < w.heap.size := by
  obtain ⟨gv, m, D, h⟩ := h
  exact h.lt
theorem StAt.own (h : StAt w S sb tb x) : S sb := by
  obtain ⟨gv, m, D, h⟩ := h
  exact h.own
theorem StIn.cells (h : StIn w S sb tb x gv m D) : w.cell? ⟨sb, 0, none⟩ = some (.pointer (some ⟨tb, 0, none⟩)) ∧ w.cell? ⟨sb, 1, none⟩ = some (.string (bs x.pre)) ∧ w.cell? ⟨sb, 2, none⟩ = some (.int .i64 x.size) ∧ w.cell? ⟨sb, 3, none⟩ = some gv ∧ w.cell? ⟨sb, 4, none⟩ = some (.int .i64 x.life) ∧ w.cell? ⟨sb, 5, none⟩ = some (.bool x.dead) ∧
    ∀ i, w.frozen? ⟨sb, i, none⟩ = false :=
  ⟨cells_of h.blk 0 _ rfl, cells_of h.blk 1 _ rfl, cells_of h.blk 2 _ rfl, cells_of h.blk 3 _ rfl, cells_of h.blk 4 _ rfl, cells_of h.blk 5 _ rfl, fun _ => frozen_of h.blk⟩
theorem StIn.len (h : StIn w S sb tb x gv m D) : m.length = x.segs.length := by rw [← h.segs, List.length_map]
theorem StIn.segk {b n cap : Nat} (h : StIn w S sb tb x (.slice (some ⟨b, 0, none⟩) n cap) m D) (k : Nat) (hk : k < m.length) : w.cell? ⟨b, k * 3, none⟩ = some (.int .i64 m[k].2.base) ∧ w.cell? ⟨b, k * 3 + 1, none⟩ = some m[k].1 ∧ w.cell? ⟨b, k * 3 + 2, none⟩ = some (.int .i64 ((sgB m[k].2.list).length : Int)) ∧ (∀ i, w.frozen? ⟨b, i, none⟩ = false) ∧ b < w.heap.size := by
  rcases h.row.2 with ⟨-, h2⟩ | ⟨g, cap', cur, h1, h2, h3, h4, h5, h6, h7⟩
  · omega
  · simp only [Value.slice.injEq, Option.some.injEq, Addr.mk.injEq, and_true, true_and] at h1
    obtain ⟨rfl, rfl, rfl⟩ := h1
    obtain ⟨q0, q1, q2⟩ := sgCells_get m k hk
    have cl : ∀ j u, (sgCells m)[j]? = some u → w.cell? ⟨b, j, none⟩ = some u := by
      intro j u hu
      rw [cell_of_row w b j _ _ _ h3]
      rw [← h7] at hu
      rw [List.getElem?_take] at hu
      split at hu
      · rw [← Array.getElem?_toList]; exact hu
      · cases hu
    exact ⟨cl _ _ q0, cl _ _ q1, cl _ _ q2, fun _ => frozen_of h3, (Array.getElem?_eq_some_iff.1 h3).1⟩
/-- The row of the segments and a segment's cells. -/
theorem StIn.seg (h : StIn w S sb tb x gv m D) : ∃ a cap, gv = .slice a x.segs.length cap ∧ x.segs.length ≤ maxLen ∧
    ∀ k (_ : k < x.segs.length), ∃ b la lc, a = some ⟨b, 0, none⟩ ∧ b < w.heap.size ∧ b ≠ sb ∧ gv.ownBlock = some b ∧ w.cell? ⟨b, k * 3, none⟩ = some (.int .i64 x.segs[k].base) ∧ w.cell? ⟨b, k * 3 + 1, none⟩ = some (.slice la x.segs[k].list.length lc) ∧
      w.cell? ⟨b, k * 3 + 2, none⟩ = some (.int .i64 ((sgB x.segs[k].list).length : Int)) ∧ BsIn w D (.slice la x.segs[k].list.length lc) x.segs[k].list ∧ ∀ i, w.frozen? ⟨b, i, none⟩ = false := by
  have hs := Sl.of_owns h.row
  obtain ⟨a, cap, e, hcap⟩ := hs.shape
  have hml := hs.maxlen
  rw [h.len] at e hml
  refine ⟨a, cap, e, hml, ?_⟩
  intro k hk
  have hk' : k < m.length := by rw [h.len]; exact hk
  obtain ⟨hx, h2⟩ := h.row
  rcases h2 with ⟨-, h2⟩ | ⟨g, cap', cur, h1, h2, h3, h4, h5, h6, h7⟩
  · omega
  · rw [e] at h1
    simp only [Value.slice.injEq] at h1
    obtain ⟨rfl, -, rfl⟩ := h1
    have hgb : gv.ownBlock = some g := by rw [e]; rfl
    have hne : g ≠ sb := fun e2 => h.ne (by rw [hgb, e2])
    obtain ⟨q0, q1, q2⟩ := sgCells_get m k hk'
    have cl : ∀ j u, (sgCells m)[j]? = some u → w.cell? ⟨g, j, none⟩ = some u := by
      intro j u hu
      rw [cell_of_row w g j _ _ _ h3]
      rw [← h7] at hu
      rw [List.getElem?_take] at hu
      split at hu
      · rw [← Array.getElem?_toList]; exact hu
      · cases hu
    have hi := h.lists _ (List.getElem_mem hk')
    obtain ⟨ra, rc, e2, -⟩ := BsRd.cells hi.here
    have ek : x.segs[k] = m[k].2 := by simp only [← h.segs, List.getElem_map]
    rw [ek]
    refine ⟨g, ra, rc, rfl, (Array.getElem?_eq_some_iff.1 h3).1, hne, hgb, cl _ _ q0, ?_, cl _ _ q2, by rw [← e2]; exact hi, fun _ => frozen_of h3⟩
    have := cl _ _ q1
    rw [e2] at this
    exact this
end
end Go.Proofs.YtcpaaleogmiamaaGreatDoor
namespace Go.Proofs.YtcpaaleogmiamaaGreatDoor
open Go.RowKit

theorem endL_last : ∀ (l : List Batch) (n : Int) (k : Nat) (hk : l.length = k + 1), endL n l = (l[k]'(by omega)).base + (l[k]'(by omega)).count
  | [b], n, 0, _ => rfl
  | [], _, _, hk => by simp at hk
  | [b], n, k + 1, hk => by simp at hk
  | b :: c :: l, n, 0, hk => by simp at hk
  | b :: c :: l, n, k + 1, hk => by
    rw [endL]
    exact endL_last (c :: l) _ k (by simpa using hk)
theorem Chained.end {l : List Batch} {n : Int} (h : Chained n l) (hn : 0 ≤ n ∧ n ≤ 1099511627776) : 0 ≤ endL n l ∧ endL n l ≤ 1099511627776 := by
  cases hk : l.length with
  | zero =>
    rw [List.length_eq_zero_iff.1 hk]; exact hn
  | succ k =>
    rw [endL_last l n k hk]
    have := (goodB_iff _).1 (h.good l[k] (List.getElem_mem _))
    have a := this.base
    have b := this.count
    have c := this.fin
    omega
def endS (s : List Sg) : Int := match s.getLast? with
  | none => 0
  | some g => endL g.base g.list
def startS (s : List Sg) : Int := match s with
  | [] => 0
  | g :: _ => g.base
theorem startS_zero : ∀ (s : List Sg) (h : 0 < s.length), startS s = s[0].base
  | _ :: _, _ => rfl
theorem endS_last (s : List Sg) (k : Nat) (hk : s.length = k + 1) : endS s = endL (s[k]'(by omega)).base (s[k]'(by omega)).list := by
  have e : s.getLast? = some (s[k]'(by omega)) := by
    rw [List.getLast?_eq_getElem?, ← List.getElem?_eq_getElem (by omega)]
    congr 1
    omega
  unfold endS
  rw [e]

set_option maxRecDepth 100000 in
theorem Stlast_none {w : World} {S : Nat → Prop} {sb tb : Nat} {x : St} {gv : Value} {m : List (Value × Sg)} {D : Nat → Prop} (h : StIn w S sb tb x gv m D) (h0 : x.segs.length = 0) :
    Calls Tryz.prog 84 #[.pointer (some ⟨sb, 0, none⟩)] w fun e w' => e = .returned (.pointer none) ∧ w' = w := by
  obtain ⟨c0, c1, c2, c3, c4, c5, cf⟩ := h.cells
  obtain ⟨a, cap, rfl, -⟩ := h.seg
  rw [h0] at c3
  clear h
  go_enter Tryz.func84, Tryz.ntmps84
  go_wp2
  go_ret
  exact ⟨rfl, rfl⟩
theorem Stlast_nil (w : World) : Calls Tryz.prog 84 #[.pointer none] w fun e w' => e = .returned (.pointer none) ∧ w' = w := by
  go_enter Tryz.func84, Tryz.ntmps84
  go_wp2
  go_ret
  exact ⟨rfl, rfl⟩
set_option maxRecDepth 100000 in
theorem Stlast_some {w : World} {S : Nat → Prop} {sb tb : Nat} {x : St} {gv : Value} {m : List (Value × Sg)} {D : Nat → Prop} (h : StIn w S sb tb x gv m D) {n : Nat} (hn : x.segs.length = n + 1) :
    Calls Tryz.prog 84 #[.pointer (some ⟨sb, 0, none⟩)] w fun e w' => ∃ b, gv.ownBlock = some b ∧ e = .returned (.pointer (some ⟨b, n * 3, none⟩)) ∧ Below w.heap.size w w' := by
  obtain ⟨c0, c1, c2, c3, c4, c5, cf⟩ := h.cells
  obtain ⟨a, cap, rfl, hml, hs⟩ := h.seg
  obtain ⟨b, -, -, rfl, hb, -, hgb, -⟩ := hs n (by omega)
  rw [hn] at c3
  obtain ⟨k, hk⟩ : ∃ k, n + 1 = k := ⟨_, rfl⟩
  rw [hk] at c3
  have hkl : k ≤ 9223372036854775807 := by unfold maxLen at hml; omega
  have k0 : (k : Int) ≠ 0 := by omega
  have k1 : ((k : Int) == 0) = false := by simpa using k0
  have k2 : wrap64 ((k : Int) - 1) = (n : Int) := by rw [IntWalk.wrap64_in _ (by omega)]; omega
  have k3 : (0 : Int) ≤ (n : Int) := by omega
  have k4 : (n : Int) < (k : Int) := by omega
  have k5 : k - 1 = n := by omega
  have K5 := Lib.hid k5
  clear hs hml h hn hk k5
  go_enter Tryz.func84, Tryz.ntmps84
  go_wp2
  go_quiet (fail)
  go_wp2
  go_ret
  exact ⟨b, hgb, by simp [K5.out], below_drewN (Below.refl _ _) _⟩

theorem sgend_any {w : World} {lv : Value} {l : List Batch} (h : BsRd w lv l) (base : Int) (y : Int) (hc : Chained base l) :
    Calls Tryz.prog 85 #[.agg #[.int .i64 base, lv, .int .i64 y]] w fun e w' => e = .returned (.int .i64 (endL base l)) ∧ Below w.heap.size w w' := by
  obtain ⟨a, cap, rfl, -, hml, hs⟩ := h.cells
  cases hk : l.length with
  | zero =>
    have : l = [] := List.length_eq_zero_iff.1 hk
    subst this
    clear hs hml hk
    go_enter Tryz.func85, Tryz.ntmps85
    go_wp2
    go_ret
    exact ⟨rfl, below_alloc _ _⟩
  | succ n =>
    have hel := endL_last l base n hk
    obtain ⟨b, off, ra, rc, rfl, hb, x0, x1, x2, x3, x4, x5, -⟩ := hs n (by omega)
    have hg := (goodB_iff _).1 (hc.good l[n] (List.getElem_mem _))
    have g1 := hg.base
    have g2 := hg.count
    have g3 := hg.fin
    generalize l[n] = bt at hel x0 x1 x2 x3 x4 x5 hg g1 g2 g3
    obtain ⟨lb, lc, lp, ls, lt, lr⟩ := bt
    simp only at hel x0 x1 x2 x3 x4 x5 g1 g2 g3
    rw [hel]
    obtain ⟨k, hkk⟩ : ∃ k, n + 1 = k := ⟨_, rfl⟩
    rw [hkk]
    have hkl : k ≤ 9223372036854775807 := by unfold maxLen at hml; omega
    have k0 : (k : Int) ≠ 0 := by omega
    have k1 : ((k : Int) == 0) = false := by simpa using k0
    have k2 : wrap64 ((k : Int) - 1) = (n : Int) := by rw [IntWalk.wrap64_in _ (by omega)]; omega
    have k3 : (0 : Int) ≤ (n : Int) := by omega
    have k4 : (n : Int) < (k : Int) := by omega
    have k5 : wrap64 (lb + lc) = lb + lc := IntWalk.wrap64_in _ (by omega)
    have bl : ∀ {o : Nat} {u : Value}, w.cell? ⟨b, o, none⟩ = some u → ∀ O : Obj, (w.alloc O).cell? ⟨b, o, none⟩ = some u := fun hu O => below_some (below_alloc w O) hu hb
    clear hs hml hk hel hg g1 g2 g3 hc hkk hkl
    go_enter Tryz.func85, Tryz.ntmps85
    go_wp2
    go_ret
    exact ⟨ret_i k5, below_alloc2 _ _ _⟩

/-- Where a strand ends. -/
theorem StEnd_any {w : World} {S : Nat → Prop} {sb tb : Nat} {x : St} (h : StAt w S sb tb x) (hk : StOk x) : Calls Tryz.prog 32 #[.pointer (some ⟨sb, 0, none⟩)] w fun e w' => e = .returned (.int .i64 (endS x.segs)) ∧ Below w.heap.size w w' := by
  obtain ⟨gv, m, D, h⟩ := h
  cases hn : x.segs.length with
  | zero =>
    have e : endS x.segs = 0 := by rw [List.length_eq_zero_iff.1 hn]; rfl
    have HL := Lib.hid (Stlast_none h hn)
    rw [e]
    clear h e hn
    go_enter Tryz.func32, Tryz.ntmps32
    go_wp2_with (first | (go_at_call 84; refine HL.out.mono ?_; rintro _ w1 ⟨rfl, rfl⟩))
    go_ret
    exact ⟨rfl, Below.refl _ _⟩
  | succ n =>
    rw [endS_last _ n hn]
    obtain ⟨a, cap, hgv, hml, hs⟩ := h.seg
    obtain ⟨b, la, lc, ha, hb, -, hgb, x0, x1, x2, hi, -⟩ := hs n (by omega)
    have hg := hk.segs x.segs[n] (List.getElem_mem _)
    have hl := Stlast_some h hn
    have he := fun W (hW : Below w.heap.size w W) => sgend_any (hi.here.below hW) x.segs[n].base ((sgB x.segs[n].list).length : Int) hg.2.2
    obtain ⟨g, hgg⟩ : ∃ g, x.segs[n] = g := ⟨_, rfl⟩
    rw [hgg] at x0 x1 x2 he ⊢
    have HL := Lib.hid hl
    have HE := Lib.hid he
    have HX := Lib.hid (And.intro x0 (And.intro x1 x2))
    have HB := Lib.hid hgb
    clear hs hml hl he x0 x1 x2 hi hgg hg hgv ha hk h hn hgb
    go_enter Tryz.func32, Tryz.ntmps32
    go_wp2_with fail
    refine HL.out.mono ?_
    rintro _ w1 ⟨b', hb', rfl, hb1⟩
    obtain rfl : b = b' := by rw [HB.out] at hb'; exact Option.some.inj hb'
    have x0 := below_some hb1 HX.out.1 hb
    have x1 := below_some hb1 HX.out.2.1 hb
    have x2 := below_some hb1 HX.out.2.2 hb
    have HB1 := Lib.hid hb1
    clear hb' hb1
    go_wp2_with (first | (go_at_call 85; refine (HE.out _ HB1.out).mono ?_; rintro _ w2 ⟨rfl, hb2⟩))
    go_ret
    exact ⟨rfl, below_trans HB1.out hb2⟩
theorem StEnd_nil (w : World) : Calls Tryz.prog 32 #[.pointer none] w fun e w' => e = .returned (.int .i64 0) ∧ w' = w := by
  have HL := Lib.hid (Stlast_nil w)
  go_enter Tryz.func32, Tryz.ntmps32
  go_wp2_with (first | (go_at_call 84; refine HL.out.mono ?_; rintro _ w1 ⟨rfl, rfl⟩))
  go_ret
  exact ⟨rfl, rfl⟩

theorem StStart_any {w : World} {S : Nat → Prop} {sb tb : Nat} {x : St} (h : StAt w S sb tb x) : Calls Tryz.prog 54 #[.pointer (some ⟨sb, 0, none⟩)] w fun e w' => e = .returned (.int .i64 (startS x.segs)) ∧ w' = w := by
  obtain ⟨gv, m, D, h⟩ := h
  obtain ⟨c0, c1, c2, c3, c4, c5, cf⟩ := h.cells
  obtain ⟨a, cap, rfl, hml, hs⟩ := h.seg
  cases hn : x.segs.length with
  | zero =>
    have e : startS x.segs = 0 := by rw [List.length_eq_zero_iff.1 hn]; rfl
    rw [e]
    rw [hn] at c3
    clear h e hn hs hml cf
    go_enter Tryz.func54, Tryz.ntmps54
    go_wp2
    go_ret
    exact ⟨rfl, rfl⟩
  | succ n =>
    obtain ⟨b, la, lc, rfl, hb, -, hgb, x0, x1, x2, hi, -⟩ := hs 0 (by omega)
    have e : startS x.segs = (x.segs[0]'(by omega)).base := startS_zero _ (by omega)
    rw [e]
    obtain ⟨g, hgg⟩ : ∃ g, (x.segs[0]'(by omega)).base = g := ⟨_, rfl⟩
    simp only [Nat.zero_mul, hgg] at x0 ⊢
    rw [hn] at c3
    obtain ⟨k, hk⟩ : ∃ k, n + 1 = k := ⟨_, rfl⟩
    rw [hk] at c3
    have k0 : (k : Int) ≠ 0 := by omega
    have k1 : ((k : Int) == 0) = false := by simpa using k0
    have k4 : (0 : Int) < (k : Int) := by omega
    clear h e hs hml cf x1 x2 hi hgb hgg hn hk
    go_enter Tryz.func54, Tryz.ntmps54
    go_wp2
    go_ret
    exact ⟨rfl, rfl⟩

theorem Stfresh_any {w : World} {S : Nat → Prop} {sb tb : Nat} {x : St} (h : StAt w S sb tb x) (hk : StOk x) : Calls Tryz.prog 96 #[.pointer (some ⟨sb, 0, none⟩)] w fun e w' => e = .returned (.string (bs (x.pre ++ 46 :: [110, 101, 119]))) ∧ w' = w := by
  obtain ⟨gv, m, D, h⟩ := h
  obtain ⟨c0, c1, c2, c3, c4, c5, cf⟩ := h.cells
  have hsz : (bs x.pre).size = x.pre.length := bs_size _
  have := hk.pre
  have k1 : ¬ 9223372036854775807 < (bs x.pre).size + 4 := by omega
  clear h
  go_enter Tryz.func96, Tryz.ntmps96
  go_wp2
  go_ret
  refine ⟨?_, rfl⟩
  rw [show (⟨#[46, 110, 101, 119]⟩ : ByteArray) = bs [46, 110, 101, 119] from rfl, bs_append]
  rfl

/-- The dead flag is written. -/
theorem StIn.dead {w : World} {S : Nat → Prop} {sb tb : Nat} {x : St} {gv : Value} {m : List (Value × Sg)} {D : Nat → Prop} (h : StIn w S sb tb x gv m D) (d : Bool) : StIn (w.setCell ⟨sb, 5, none⟩ (.bool d)) S sb tb { x with dead := d } gv m D := by
  have hu := upd_set1 w sb 5 (.bool d)
  refine ⟨setCell_same (o := 5) (v := .bool d) h.blk, h.segs, owns_upd h.row hu (fun g hg e => h.ne (by rw [hg, e])), fun y hy => (h.lists y hy).upd hu (fun k hk _ e => (h.apart k hk).2.1 e), h.apart, h.own, h.ownG, fun k hk => by simpa using h.lt k hk⟩
theorem Stdid_in {w : World} {S : Nat → Prop} {sb tb : Nat} {x : St} {gv : Value} {m : List (Value × Sg)} {D : Nat → Prop} (h : StIn w S sb tb x gv m D) (e0 : Int) : Calls Tryz.prog 90 #[.pointer (some ⟨sb, 0, none⟩), .int .i64 e0] w fun e w' => e = .returned (.int .i64 e0) ∧ StIn w' S sb tb { x with dead := x.dead || decide (e0 = 10) } gv m D ∧ Upd (fun k => k = sb) w w' := by
  obtain ⟨c0, c1, c2, c3, c4, c5, cf⟩ := h.cells
  have f5 := cf 5
  obtain ⟨d, hd⟩ : ∃ d, (x.dead || decide (e0 = 10)) = d := ⟨_, rfl⟩
  have hst : ∀ d, StIn (w.setCell ⟨sb, 5, none⟩ (.bool d)) S sb tb { x with dead := d } gv m D ∧ Upd (fun k => k = sb) w (w.setCell ⟨sb, 5, none⟩ (.bool d)) := fun d => ⟨h.dead d, upd_set1 _ _ _ _⟩
  have HS := Lib.hid hst
  have HD := Lib.hid hd
  rw [hd]
  obtain ⟨xd, hxd⟩ : ∃ xd, x.dead = xd := ⟨_, rfl⟩
  rw [hxd] at HD c5
  clear h hst cf hxd hd
  cases xd with
  | true =>
    have HD2 := Lib.hid (show d = true by have := HD.out; simpa using this.symm)
    clear HD
    go_enter Tryz.func90, Tryz.ntmps90
    go_wp2
    go_ret
    rw [HD2.out]
    exact ⟨rfl, HS.out true⟩
  | false =>
    by_cases he : e0 = 10
    · have HD2 := Lib.hid (show d = true by have := HD.out; simpa [he] using this.symm)
      subst he
      clear HD
      go_enter Tryz.func90, Tryz.ntmps90
      go_wp2
      go_ret
      rw [HD2.out]
      exact ⟨rfl, HS.out true⟩
    · have HD2 := Lib.hid (show d = false by have := HD.out; simpa [he] using this.symm)
      have hne : (e0 == 10) = false := by simpa using he
      clear HD he
      go_enter Tryz.func90, Tryz.ntmps90
      go_wp2
      go_ret
      rw [HD2.out]
      exact ⟨rfl, HS.out false⟩

theorem Stdid_any {w : World} {S : Nat → Prop} {sb tb : Nat} {x : St} (h : StAt w S sb tb x) (e0 : Int) : Calls Tryz.prog 90 #[.pointer (some ⟨sb, 0, none⟩), .int .i64 e0] w fun e w' => e = .returned (.int .i64 e0) ∧ StAt w' S sb tb { x with dead := x.dead || decide (e0 = 10) } ∧ Upd (fun k => k = sb) w w' := by
  obtain ⟨gv, m, D, h⟩ := h
  exact (Stdid_in h e0).mono (fun e w' h => ⟨h.1, ⟨gv, m, D, h.2.1⟩, h.2.2⟩)

def stReadyB (t : Tp) (x : St) : Bool := x.dead || (t.down || decide (t.life ≠ x.life))
set_option maxRecDepth 100000 in
theorem Stready_any {w : World} {S : Nat → Prop} {sb tb mb : Nat} {L : TpL} {t : Tp} {x : St} (h : StAt w S sb tb x) (ht : TpAt w tb mb L t) :
    Calls Tryz.prog 86 #[.pointer (some ⟨sb, 0, none⟩)] w fun e w' => e = .returned (.int .i64 (if stReadyB t x = true then 10 else 0)) ∧ Below w.heap.size w w' := by
  obtain ⟨gv, m, D, h⟩ := h
  obtain ⟨c0, c1, c2, c3, c4, c5, cf⟩ := h.cells
  have HD := Lib.hid (fun j => TDown_any (ht.below (below_drewN (Below.refl _ _) j)))
  have HL := Lib.hid (fun j => TLife_any (ht.below (below_drewN (Below.refl _ _) j)))
  clear h ht
  obtain ⟨tl, htl⟩ : ∃ tl, t.life = tl := ⟨_, rfl⟩
  obtain ⟨td, htd⟩ : ∃ td, t.down = td := ⟨_, rfl⟩
  obtain ⟨dead, hdd⟩ : ∃ d, x.dead = d := ⟨_, rfl⟩
  obtain ⟨life, hll⟩ : ∃ l, x.life = l := ⟨_, rfl⟩
  rw [htl] at HL
  rw [htd] at HD
  rw [hdd] at c5
  rw [hll] at c4
  have hr : (if stReadyB t x = true then (10 : Int) else 0) = if (dead || (td || decide (tl ≠ life))) = true then 10 else 0 := by rw [stReadyB, htl, htd, hdd, hll]
  obtain ⟨r, hr0⟩ : ∃ r, (if stReadyB t x = true then (10 : Int) else 0) = r := ⟨_, rfl⟩
  rw [hr0] at hr ⊢
  have HR := Lib.hid hr
  clear hr hr0 htl htd hdd hll cf
  cases dead with
  | true =>
    go_enter Tryz.func86, Tryz.ntmps86
    go_wp2
    go_quiet (fail)
    go_wp2
    go_ret
    exact ⟨by rw [HR.out]; simp, below_drewN (Below.refl _ _) _⟩
  | false =>
    cases td with
    | true =>
      go_enter Tryz.func86, Tryz.ntmps86
      go_wp2
      go_quiet ((go_at_call 62; with_reducible exact Calls.quiet_of_same (HD.out _)))
      go_wp2
      go_ret
      exact ⟨by rw [HR.out]; simp, below_drewN (Below.refl _ _) _⟩
    | false =>
      by_cases e : tl = life
      · subst e
        go_enter Tryz.func86, Tryz.ntmps86
        go_wp2
        go_quiet (first | (go_at_call 62; with_reducible exact Calls.quiet_of_same (HD.out _)) | (go_at_call 63; with_reducible exact Calls.quiet_of_same (HL.out _)))
        go_wp2
        go_ret
        exact ⟨by rw [HR.out]; simp, below_drewN (Below.refl _ _) _⟩
      · have e2 : (tl == life) = false := by simpa using e
        go_enter Tryz.func86, Tryz.ntmps86
        go_wp2
        go_quiet (first | (go_at_call 62; with_reducible exact Calls.quiet_of_same (HD.out _)) | (go_at_call 63; with_reducible exact Calls.quiet_of_same (HL.out _)))
        go_wp2
        go_ret
        exact ⟨by rw [HR.out]; simp [e], below_drewN (Below.refl _ _) _⟩
theorem Stready_nil (w : World) : Calls Tryz.prog 86 #[.pointer none] w fun e w' => e = .returned (.int .i64 2) ∧ w' = w := by
  go_enter Tryz.func86, Tryz.ntmps86
  go_wp2
  go_ret
  exact ⟨rfl, rfl⟩
end Go.Proofs.YtcpaaleogmiamaaGreatDoor
