/- A plan in a block of its own, above a mark. -/
import Derived.Test.YtjkobbmdemooaaaGreatDoorPx12
import Derived.Test.YtjkobbmdemooaaaGreatDoorPx32
namespace Go.Proofs.YtjkobbmdemooaaaGreatDoor
open Go.RowKit

def PlanAt (w : World) (N Y : Nat) (q : Pl) : Prop := N ≤ Y ∧ Y < w.heap.size ∧ ∃ (pa la : Option Addr) (pc lc : Nat),
  w.heap[Y]? = some (.cells #[.int .i64 q.nodes, .int .i64 q.copies, .slice pa q.parts.length pc, .slice la q.lives.length lc] 25 (0, 0)) ∧ PlanFrom w N (planV q pa pc la lc) q

theorem PlanFrom.shape {w : World} {N : Nat} {a b c d : Value} {q : Pl} (h : PlanFrom w N (.agg #[a, b, c, d]) q) : ∃ (pa la : Option Addr) (pc lc : Nat), a = .int .i64 q.nodes ∧ b = .int .i64 q.copies ∧ c = .slice pa q.parts.length pc ∧ d = .slice la q.lives.length lc := by
  obtain ⟨pv, lv, e, hp, hl⟩ := h.rd
  obtain ⟨pa, pc, rfl, -⟩ := hp.cells
  obtain ⟨la, lc, rfl, -⟩ := hl.cells
  simp only [Value.agg.injEq, Array.mk.injEq, List.cons.injEq, and_true] at e
  obtain ⟨rfl, rfl, rfl, rfl⟩ := e
  exact ⟨pa, la, pc, lc, rfl, rfl, rfl, rfl⟩

theorem PlanFrom.split {w : World} {N : Nat} {v : Value} {q : Pl} (h : PlanFrom w N v q) : ∃ (pa la : Option Addr) (pc lc l j : Nat) (n k : Int), v = .agg #[.int .i64 n, .int .i64 k, .slice pa l pc, .slice la j lc] := by
  obtain ⟨pv, lv, rfl, hp, hl⟩ := h.rd
  obtain ⟨pa, pc, rfl, -⟩ := hp.cells
  obtain ⟨la, lc, rfl, -⟩ := hl.cells
  exact ⟨pa, la, pc, lc, _, _, _, _, rfl⟩

theorem PlanAt.upd {w w' : World} {F : Nat → Prop} {N Y : Nat} {q : Pl} (h : PlanAt w N Y q) (hu : Upd F w w') (hF : ∀ k, F k → k < N) : PlanAt w' N Y q := by
  obtain ⟨h1, h2, pa, la, pc, lc, h3, h4⟩ := h
  exact ⟨h1, by have := hu.size; omega, pa, la, pc, lc, (hu.block Y h2 (fun hf => by have := hF Y hf; omega)).trans h3, h4.upd hu hF⟩

theorem PlanAt.below {w w' : World} {N Y : Nat} {q : Pl} (h : PlanAt w N Y q) (hb : Below w.heap.size w w') : PlanAt w' N Y q :=
  h.upd (F := fun _ => False) (Upd.of_below hb) (fun _ h => h.elim)

theorem PlanAt.mono {w : World} {N N' Y : Nat} {q : Pl} (h : PlanAt w N Y q) (hn : N' ≤ N) : PlanAt w N' Y q := by
  obtain ⟨h1, h2, pa, la, pc, lc, h3, h4⟩ := h
  exact ⟨by omega, h2, pa, la, pc, lc, h3, h4.mono hn⟩

/-- The block is made behind the call. -/
theorem PlanAt.new {w : World} {N : Nat} {a b c d : Value} {q : Pl} (h : PlanFrom w N (.agg #[a, b, c, d]) q) (hN : N ≤ w.heap.size) : PlanAt (w.alloc (.cells #[a, b, c, d] 25)) N w.heap.size q := by
  obtain ⟨pa, la, pc, lc, rfl, rfl, rfl, rfl⟩ := h.shape
  exact ⟨hN, by simp, pa, la, pc, lc, heap_alloc_new _ _, h.below (below_alloc _ _)⟩

/-- The block is made ahead of the call, and written behind it. -/
theorem PlanAt.put {w : World} {M N Y : Nat} {a b c d z0 z1 z2 z3 : Value} {q : Pl} (h : PlanFrom w M (.agg #[a, b, c, d]) q) (hz : w.heap[Y]? = some (.cells #[z0, z1, z2, z3] 25 (0, 0))) (hN : N ≤ Y) (hM : Y < M) :
    PlanAt ((((w.setCell ⟨Y, 0, none⟩ a).setCell ⟨Y, 1, none⟩ b).setCell ⟨Y, 2, none⟩ c).setCell ⟨Y, 3, none⟩ d) N Y q := by
  obtain ⟨pa, la, pc, lc, rfl, rfl, rfl, rfl⟩ := h.shape
  have hlt := (Array.getElem?_eq_some_iff.1 hz).1
  have hu := upd_set4 w Y (.int .i64 q.nodes) (.int .i64 q.copies) (.slice pa q.parts.length pc) (.slice la q.lives.length lc)
  refine ⟨hN, by have := hu.size; omega, pa, la, pc, lc, setCell_same (setCell_same (setCell_same (setCell_same hz))), (h.upd hu (fun k e => by omega)).mono (by omega)⟩

/-- What stands in its block. -/
theorem PlanAt.cells {w : World} {N Y : Nat} {q : Pl} (h : PlanAt w N Y q) : ∃ (pa la : Option Addr) (pc lc : Nat), w.cell? ⟨Y, 0, none⟩ = some (.int .i64 q.nodes) ∧ w.cell? ⟨Y, 1, none⟩ = some (.int .i64 q.copies) ∧ w.cell? ⟨Y, 2, none⟩ = some (.slice pa q.parts.length pc) ∧
    w.cell? ⟨Y, 3, none⟩ = some (.slice la q.lives.length lc) ∧ PlanFrom w N (planV q pa pc la lc) q := by
  obtain ⟨h1, h2, pa, la, pc, lc, h3, h4⟩ := h
  exact ⟨pa, la, pc, lc, cells_of h3 0 _ rfl, cells_of h3 1 _ rfl, cells_of h3 2 _ rfl, cells_of h3 3 _ rfl, h4⟩

/-- The plan of one block is written into another below the mark. -/
theorem PlanAt.copy {w : World} {N N' X Y : Nat} {q : Pl} {z0 z1 z2 z3 a b c d : Value} (h : PlanAt w N Y q) (hX : X < N) (hN : N' ≤ X) (hz : w.heap[X]? = some (.cells #[z0, z1, z2, z3] 25 (0, 0)))
    (ha : w.cell? ⟨Y, 0, none⟩ = some a) (hb : w.cell? ⟨Y, 1, none⟩ = some b) (hc : w.cell? ⟨Y, 2, none⟩ = some c) (hd : w.cell? ⟨Y, 3, none⟩ = some d) :
    PlanAt ((((w.setCell ⟨X, 0, none⟩ a).setCell ⟨X, 1, none⟩ b).setCell ⟨X, 2, none⟩ c).setCell ⟨X, 3, none⟩ d) N' X q := by
  obtain ⟨pa, la, pc, lc, e0, e1, e2, e3, hf⟩ := h.cells
  rw [e0, Option.some.injEq] at ha
  rw [e1, Option.some.injEq] at hb
  rw [e2, Option.some.injEq] at hc
  rw [e3, Option.some.injEq] at hd
  subst ha hb hc hd
  exact PlanAt.put hf hz hN hX

/-- A plan in a block of its own, its words wherever. -/
def PlanIn (w : World) (Y : Nat) (q : Pl) : Prop := Y < w.heap.size ∧ ∃ (pa la : Option Addr) (pc lc : Nat),
  w.heap[Y]? = some (.cells #[.int .i64 q.nodes, .int .i64 q.copies, .slice pa q.parts.length pc, .slice la q.lives.length lc] 25 (0, 0)) ∧ PlanRd w (planV q pa pc la lc) q

theorem PlanAt.toIn {w : World} {N Y : Nat} {q : Pl} (h : PlanAt w N Y q) : PlanIn w Y q := by
  obtain ⟨h1, h2, pa, la, pc, lc, h3, h4⟩ := h
  exact ⟨h2, pa, la, pc, lc, h3, h4.rd⟩

theorem PlanIn.below {w w' : World} {Y : Nat} {q : Pl} (h : PlanIn w Y q) (hb : Below w.heap.size w w') : PlanIn w' Y q := by
  obtain ⟨h2, pa, la, pc, lc, h3, h4⟩ := h
  exact ⟨by have := hb.size; omega, pa, la, pc, lc, (hb.block Y h2).trans h3, h4.below hb⟩

/-- What stands in its block, in every world behind this one; where its places are. -/
theorem PlanIn.cells {w : World} {Y : Nat} {q : Pl} (h : PlanIn w Y q) : ∃ (pa la : Option Addr) (pc lc : Nat), (∀ W, Below w.heap.size w W → W.cell? ⟨Y, 0, none⟩ = some (.int .i64 q.nodes) ∧ W.cell? ⟨Y, 1, none⟩ = some (.int .i64 q.copies) ∧ W.cell? ⟨Y, 2, none⟩ = some (.slice pa q.parts.length pc) ∧
    W.cell? ⟨Y, 3, none⟩ = some (.slice la q.lives.length lc) ∧ PlanRd W (.agg #[.int .i64 q.nodes, .int .i64 q.copies, .slice pa q.parts.length pc, .slice la q.lives.length lc]) q) ∧
    ∀ k (_ : k < q.parts.length), ∃ b off ca cc, pa = some ⟨b, off, none⟩ ∧ ∀ W, Below w.heap.size w W → W.cell? ⟨b, off + k * 3, none⟩ = some (.int .i64 q.parts[k].epoch) ∧
      W.cell? ⟨b, off + k * 3 + 1, none⟩ = some (.slice ca q.parts[k].chain.length cc) ∧ W.cell? ⟨b, off + k * 3 + 2, none⟩ = some (.int .i64 q.parts[k].learner) ∧ IntsRd W (.slice ca q.parts[k].chain.length cc) q.parts[k].chain := by
  obtain ⟨h2, pa, la, pc, lc, h3, h4⟩ := h
  refine ⟨pa, la, pc, lc, fun W hW => ?_, fun k hkl => ?_⟩
  · have hk := (hW.block Y h2).trans h3
    exact ⟨cells_of hk 0 _ rfl, cells_of hk 1 _ rfl, cells_of hk 2 _ rfl, cells_of hk 3 _ rfl, h4.below hW⟩
  · obtain ⟨pv, lv, e, hp, hl⟩ := h4
    simp only [planV, Value.agg.injEq, Array.mk.injEq, List.cons.injEq, true_and, and_true] at e
    obtain ⟨rfl, rfl⟩ := e
    obtain ⟨a, cap, e2, -, -, hC⟩ := hp.cells
    simp only [Value.slice.injEq, true_and] at e2
    obtain ⟨rfl, rfl⟩ := e2
    obtain ⟨b, off, ca, cc, e3, hb, g0, g1, g2, hr⟩ := hC k hkl
    exact ⟨b, off, ca, cc, e3, fun W hW => ⟨below_some hW g0 hb, below_some hW g1 hb, below_some hW g2 hb, hr.below hW⟩⟩

theorem IntsRd.at {w : World} {a : Option Addr} {n cap : Nat} {l : List Int} (h : IntsRd w (.slice a n cap) l) : ∀ k (_ : k < l.length), ∃ b off, a = some ⟨b, off, none⟩ ∧ ∀ W, Below w.heap.size w W → W.cell? ⟨b, off + k, none⟩ = some (.int .i64 l[k]) := by
  obtain ⟨a', c', e, -, -, hC⟩ := h.cells
  simp only [Value.slice.injEq] at e
  obtain ⟨rfl, -, rfl⟩ := e
  intro k hk
  obtain ⟨b, off, e, hb, hc⟩ := hC k hk
  exact ⟨b, off, e, fun W hW => below_some hW hc hb⟩

/-- The two ways of a region that calls and keeps the plan: its block is made behind the call .. -/
theorem cutA {wr w5 : World} {a b c d : Value} {q : Pl} (h : PlanFrom w5 wr.drew.heap.size (.agg #[a, b, c, d]) q) (hb : Below wr.drew.heap.size wr.drew w5) :
    PlanAt (w5.alloc (.cells #[a, b, c, d] 25)) wr.heap.size w5.heap.size q ∧ Below wr.heap.size wr (w5.alloc (.cells #[a, b, c, d] 25)) := by
  have hs : wr.heap.size ≤ w5.heap.size := hb.size
  have hb' : Below wr.heap.size wr w5 := (Below.refl wr.heap.size wr).drew.trans hb
  exact ⟨PlanAt.new h hs, hb'.alloc hs _⟩

/-- .. or ahead of it. -/
theorem cutB {wr w5 : World} {a b c d z0 z1 z2 z3 : Value} {q : Pl} (h : PlanFrom w5 (wr.alloc (.cells #[z0, z1, z2, z3] 25)).drew.heap.size (.agg #[a, b, c, d]) q)
    (hb : Below (wr.alloc (.cells #[z0, z1, z2, z3] 25)).drew.heap.size (wr.alloc (.cells #[z0, z1, z2, z3] 25)).drew w5) :
    PlanAt ((((w5.setCell ⟨wr.heap.size, 0, none⟩ a).setCell ⟨wr.heap.size, 1, none⟩ b).setCell ⟨wr.heap.size, 2, none⟩ c).setCell ⟨wr.heap.size, 3, none⟩ d) wr.heap.size wr.heap.size q ∧
      Below wr.heap.size wr ((((w5.setCell ⟨wr.heap.size, 0, none⟩ a).setCell ⟨wr.heap.size, 1, none⟩ b).setCell ⟨wr.heap.size, 2, none⟩ c).setCell ⟨wr.heap.size, 3, none⟩ d) := by
  have hz : w5.heap[wr.heap.size]? = some (.cells #[z0, z1, z2, z3] 25 (0, 0)) := (hb.block wr.heap.size (by simp)).trans (heap_alloc_new wr _)
  have hsz : (wr.alloc (.cells #[z0, z1, z2, z3] 25)).drew.heap.size = wr.heap.size + 1 := by simp
  have hlt := (Array.getElem?_eq_some_iff.1 hz).1
  rw [hsz] at h
  refine ⟨PlanAt.put h hz (Nat.le_refl _) (by omega), ?_⟩
  have h1 : Below wr.heap.size wr (wr.alloc (.cells #[z0, z1, z2, z3] 25)).drew := ((Below.refl wr.heap.size wr).alloc (Nat.le_refl _) _).drew
  exact (h1.trans (hb.mono (by omega))).trans ((upd_set4 w5 wr.heap.size a b c d).toBelow (by omega) (fun k e => by omega))

/-- Apply's contract, its plan written out. -/
theorem Apply_out {w : World} {v : Value} {p : Pl} (h : PlanRd w v p) (x : Event) : Calls Tryz.prog 9 #[v, .agg #[.int .i64 x.kind, .int .i64 x.node, .int .i64 x.part, .int .i64 x.n]] w fun e w' =>
    ∃ (pa la ta : Option Addr) (pc lc tc l j m : Nat) (n k : Int), e = .returned (.tuple #[.agg #[.int .i64 n, .int .i64 k, .slice pa l pc, .slice la j lc], .slice ta m tc, .int .i64 (applyP p x).2.2]) ∧
      PlanFrom w' w.heap.size (.agg #[.int .i64 n, .int .i64 k, .slice pa l pc, .slice la j lc]) (applyP p x).1 ∧ TurnRd w' (.slice ta m tc) (applyP p x).2.1 ∧ m = (applyP p x).2.1.length ∧ Below w.heap.size w w' := by
  refine (Apply_any h x).mono ?_
  rintro e w' ⟨v, tv, rfl, h1, h2, h3⟩
  obtain ⟨pa, la, pc, lc, l, j, n, k, rfl⟩ := h1.split
  obtain ⟨ta, tc, rfl, -⟩ := h2.rd.cells
  exact ⟨pa, la, ta, pc, lc, tc, l, j, _, n, k, rfl, h1, h2, rfl, h3⟩

theorem Apply_to {w : World} {v : Value} {p : Pl} (h : PlanRd w v p) (a b c d : Int) {q : Pl} {t : List Int} {e0 : Int} (hR : applyP p ⟨a, b, c, d⟩ = (q, t, e0)) : Calls Tryz.prog 9 #[v, .agg #[.int .i64 a, .int .i64 b, .int .i64 c, .int .i64 d]] w fun e w' =>
    ∃ (pa la ta : Option Addr) (pc lc tc l j : Nat) (n k : Int), e = .returned (.tuple #[.agg #[.int .i64 n, .int .i64 k, .slice pa l pc, .slice la j lc], .slice ta t.length tc, .int .i64 e0]) ∧
      PlanFrom w' w.heap.size (.agg #[.int .i64 n, .int .i64 k, .slice pa l pc, .slice la j lc]) q ∧ Below w.heap.size w w' := by
  refine (Apply_out h ⟨a, b, c, d⟩).mono ?_
  rw [hR]
  rintro e w' ⟨pa, la, ta, pc, lc, tc, l, j, m, n, k, rfl, h1, -, rfl, h3⟩
  exact ⟨pa, la, ta, pc, lc, tc, l, j, n, k, rfl, h1, h3⟩
end Go.Proofs.YtjkobbmdemooaaaGreatDoor
